/- The reader: a value, the walk. -/
/- Merged by a program of ours: R3 R4 R5 R6 R7. -/
import Derived.Test.YthfopcdammlmfaaGreatDoorD2
import Derived.Test.YthfopcdammlmfaaGreatDoorA9
set_option maxRecDepth 10000
set_option linter.all false
set_option linter.unusedSimpArgs false
set_option linter.unusedVariables false
/- The reader: plain values. -/
namespace Go.Proofs.YthfopcdammlmfaaGreatDoor
open Go.Tm
def strOf (b : List Nat) : ByteArray := ⟨(b.map UInt8.ofNat).toArray⟩
def plainV (tag nr : Nat) (ws : List Nat) : Vl × Bool :=
  if 0 < nr then (zeroV, false) else if tag = 1 then (.mk 1 0 .empty [] [], decide (ws.length = 0))
  else if (tag = 2 ∨ tag = 3) ∧ ws.length = 1 then (.mk tag (IntKind.i64.wrap ((ws.getD 0 0 : Nat) : Int)) .empty [] [], true)
  else if tag = 4 then (match upk ws with | none => (.mk 4 0 .empty [] [], false) | some b => (.mk 4 0 (strOf b) [] [], true))
  else (zeroV, false)
def flat (V : Vl) : Value := .agg #[.int .i64 V.k, .int .i64 V.n, .string V.s, .slice none 0 0, .slice none 0 0]
variable {E : Env} (hE : EOk E)
include hE
theorem plain_at {h : Heap} (hW : WF E h) {G : Mem} (hG : Frz E G h) {tag nr : Nat} {ws : List Nat} (hl8 : ws.length ≤ 8192) (hl : ∀ y, y ∈ ws → y < 18446744073709551616) {ra : Option Addr} {rc : Nat} {sv : Value} (hs : Sl E G 1 ws.length (u64s ws) sv) :
    CallsTo E 132 [.agg #[.int .i64 tag, .slice ra nr rc, sv]] h fun v h' => v = .tuple #[flat (plainV tag nr ws).1, .bool (plainV tag nr ws).2] ∧ Keep h h' ∧ WF E h' := by
  obtain ⟨sa, sc, rfl, hc1, hc2⟩ := hs.slice
  refine en hE Tryz.func132 rfl rfl Tryz.ntmps132 rfl (by decide +kernel) (rs := [.cell 2 25, .tmp 3]) rfl ?_
  simp only [push_cast, seval, hE.P, zz, hW.nb, hW.nb0]
  have w0 : WF E ((h.push (.cells [.int .i64 tag, .slice ra nr rc, .slice sa ws.length sc] 127 true)).push (.cells [.int .i64 0, .int .i64 0, .string .empty, .slice none 0 0, .slice none 0 0] 25 true)) := (hW.push _).push _
  have k0 : Keep h ((h.push (.cells [.int .i64 tag, .slice ra nr rc, .slice sa ws.length sc] 127 true)).push (.cells [.int .i64 0, .int .i64 0, .string .empty, .slice none 0 0, .slice none 0 0] 25 true)) := ((Keep.refl h).push hW).push (hW.push _)
  have g0 : ((h.push (.cells [.int .i64 tag, .slice ra nr rc, .slice sa ws.length sc] 127 true)).push (.cells [.int .i64 0, .int .i64 0, .string .empty, .slice none 0 0, .slice none 0 0] 25 true)).get h.next = some (.cells [.int .i64 tag, .slice ra nr rc, .slice sa ws.length sc] 127 true) := by
    rw [get_push, if_neg (by simp), get_push, if_pos rfl]
  have g1 : ((h.push (.cells [.int .i64 tag, .slice ra nr rc, .slice sa ws.length sc] 127 true)).push (.cells [.int .i64 0, .int .i64 0, .string .empty, .slice none 0 0, .slice none 0 0] 25 true)).get (h.next + 1) = some (.cells [.int .i64 0, .int .i64 0, .string .empty, .slice none 0 0, .slice none 0 0] 25 true) := by
    rw [get_push, if_pos (by simp)]
  have nb1 : (h.next + 1 < E.base) = False := by have := hW.base; simp; omega
  generalize hH0 : (h.push (.cells [.int .i64 tag, .slice ra nr rc, .slice sa ws.length sc] 127 true)).push (.cells [.int .i64 0, .int .i64 0, .string .empty, .slice none 0 0, .slice none 0 0] 25 true) = H0 at *
  have kp : ∀ o, Keep h (H0.put (h.next + 1) o) := fun o => k0.putNew hW (by omega)
  unfold plainV
  refine kif_split (fun hb => ?_) (fun hb => ?_)
  · have h1 : 0 < nr := by have := of_decide_eq_true hb; omega
    simp only [if_pos h1]
    simp only [push_cast, seval, hE.P, zz, g0, g1, hW.nb0, nb1]
    exact ⟨rfl, kp _, w0.put g1⟩
  · have h1 : ¬ 0 < nr := by have := of_decide_eq_false hb; omega
    simp only [if_neg h1]
    simp only [push_cast, seval, hE.P, zz, g0, g1, hW.nb0, nb1]
    refine kif_split (fun hb => ?_) (fun hb => ?_)
    · have h2 : tag = 1 := by simp at hb; omega
      simp only [if_pos h2]
      simp only [push_cast, seval, hE.P, zz, g0, g1, hW.nb0, nb1]
      refine ⟨?_, kp _, w0.put g1⟩
      have : (((ws.length : Nat) : Int) == 0) = decide (ws.length = 0) := by rw [Bool.eq_iff_iff]; simp
      rw [this]; rfl
    · have h2 : tag ≠ 1 := by simp at hb; omega
      simp only [if_neg h2]
      simp only [push_cast, seval, hE.P, zz, g0, g1, hW.nb0, nb1]
      refine kguard_cut (fun tm h' => fget tm 23 = .bool (decide ((tag = 2 ∨ tag = 3) ∧ ws.length = 1)) ∧ fget tm 1 = .pointer (some ⟨h.next, 0, none⟩) ∧ fget tm 2 = .pointer (some ⟨h.next + 1, 0, none⟩) ∧ h' = H0) ?_ ?_
      rotate_left
      · have c2 : ((tag : Int) == 2) = decide (tag = 2) := by rw [Bool.eq_iff_iff]; simp; omega
        have c3 : ((tag : Int) == 3) = decide (tag = 3) := by rw [Bool.eq_iff_iff]; simp; omega
        have c4 : ((ws.length : Int) == 1) = decide (ws.length = 1) := by rw [Bool.eq_iff_iff]; simp; omega
        rw [c2]
        by_cases d2 : tag = 2 <;> by_cases d3 : tag = 3 <;> by_cases d4 : ws.length = 1 <;> (try omega) <;> simp only [push_cast, seval, hE.P, zz, g0, hW.nb0, c2, c3, c4, d2, d3, d4]
      · rintro tm h' ⟨f23, f1, f2, rfl⟩
        simp only [push_cast, seval, hE.P, zz, f23]
        refine kif_split (fun hb => ?_) (fun hb => ?_)
        · have h3 := of_decide_eq_true hb
          simp only [if_pos h3]
          simp only [push_cast, seval, hE.P, zz, f1, f2, g0, g1, hW.nb0, nb1]
          refine wdraw_pairs [] (by rw [hE.P]; decide +kernel) (by rw [hE.P]; decide +kernel) (by rw [hE.P]; decide +kernel) ?_
          simp only [push_cast, seval, hE.P, zz, f1, f2, g0, g1, hW.nb0, nb1]
          have hp1 : 0 < ws.length := by omega
          obtain ⟨a1, c1, hsl, hsp, hac⟩ := hs.elem (hG.keep k0) hp1
          injection hsl with e1 e2 e3; subst e1
          rw [u64s_at hp1, Nat.zero_mul, Nat.add_zero] at hac
          rw [ia50 hsp (by omega) (by omega), kpure_some]
          have hwd : ws.getD 0 0 = ws[0] := by simp [List.getD_eq_getElem?_getD, hp1]
          rw [hwd]
          simp only [push_cast, seval, hE.P, zz, f1, f2, g0, g1, hW.nb0, nb1, ↓hac]
          refine ⟨fun p hp => (by cases hp), ?_⟩
          exact ⟨rfl, kp _, w0.put g1⟩
        · have h3 := of_decide_eq_false hb
          simp only [if_neg h3]
          simp only [push_cast, seval, hE.P, zz, f1, f2, g0, g1, hW.nb0, nb1]
          refine kif_split (fun hb => ?_) (fun hb => ?_)
          · have h4 : tag = 4 := by simp at hb; omega
            simp only [if_pos h4]
            simp only [push_cast, seval, hE.P, zz, f1, f2, g0, g1, hW.nb0, nb1]
            refine (unpackedT_at hE w0 (hG.keep k0) hl8 hl hs).mono ?_
            rintro v h2 ⟨hv, k2, w2⟩
            have g1' := k2.get _ _ g1
            have kp2 : ∀ o, Keep h (h2.put (h.next + 1) o) := fun o => (k0.trans k2).putNew hW (by omega)
            cases hu : upk ws with
            | none =>
              rw [hu] at hv
              simp only at hv
              subst hv
              simp only [push_cast, seval, hE.P, zz, f1, f2, g0, g1', hW.nb0, nb1]
              exact ⟨rfl, kp2 _, w2.put g1'⟩
            | some b =>
              rw [hu] at hv
              simp only at hv
              subst hv
              simp only [push_cast, seval, hE.P, zz, f1, f2, g0, g1', hW.nb0, nb1]
              exact ⟨rfl, kp2 _, w2.put g1'⟩
          · have h4 : tag ≠ 4 := by simp at hb; omega
            simp only [if_neg h4]
            simp only [push_cast, seval, hE.P, zz, f1, f2, g0, g1, hW.nb0, nb1]
            exact ⟨rfl, kp _, w0.put g1⟩
end Go.Proofs.YthfopcdammlmfaaGreatDoor
/- The reader: a name. -/
namespace Go.Proofs.YthfopcdammlmfaaGreatDoor
open Go.Tm
def plainO (o : Ob) : Vl × Bool := plainV o.tag o.refs (o.ws.drop o.refs)
def nameO : Option Ob → ByteArray × Int
  | none => (.empty, 6)
  | some o => if (plainO o).2 = true ∧ (plainO o).1.k = 4 then ((plainO o).1.s, 0) else (.empty, 4)
variable {E : Env} (hE : EOk E)
include hE
theorem name_at {h : Heap} {L : HL} {W nS : Nat} {R : List Nat} {O : List Ob} (H : IsO E h L W nS R O) (hW : WF E h) {rb : Nat} {left : Value} (hr : h.get rb = some (.cells [.pointer (some ⟨L.ph, 0, none⟩), left] 125 true)) {x : Nat} (hx : x < 18446744073709551616) :
    CallsTo E 80 [.pointer (some ⟨rb, 0, none⟩), .int .u64 x] h fun v h' => v = .tuple #[.string (nameO (obj O x)).1, .int .i64 (nameO (obj O x)).2] ∧ Keep h h' ∧ WF E h' := by
  refine en hE Tryz.func80 rfl rfl Tryz.ntmps80 rfl (by decide +kernel) (rs := [.tmp 4, .tmp 5]) rfl ?_
  simp only [push_cast, seval, hE.P, zz]
  refine (object_at hE H hW hr hx).mono ?_
  rintro v h1 ⟨hv1, hv2, k1, w1⟩
  cases ho : obj O x with
  | none =>
    have hv := hv1 ho
    subst hv
    simp only [push_cast, seval, hE.P, zz, w1.nb, w1.nb0]
    exact ⟨rfl, k1.push w1, w1.push _⟩
  | some o =>
    obtain ⟨rv, sv, hv, hown1, hown2⟩ := hv2 o ho
    subst hv
    obtain ⟨S, HS', w', e1, e2, e3⟩ := H
    obtain ⟨_, hoi, _, _⟩ := objOf_some ho
    have hsm := w'.small HS'.ok hoi
    have hrf := w'.refs _ _ hoi
    have hws : ∀ y, y ∈ o.ws.drop o.refs → y < 18446744073709551616 := fun y hy => by
      obtain ⟨k, hk, rfl⟩ := List.mem_iff_getElem.1 (List.mem_of_mem_drop hy)
      rw [← w'.ws _ _ hoi k _ (List.getElem?_eq_getElem hk)]
      exact HS'.ok.w _
    obtain ⟨ra, rc, rfl, _⟩ := Own.slice hown1
    obtain ⟨G2, hsl2, hfz2, _⟩ := own_sl w1 hown2
    obtain ⟨sa, sc, rfl, _⟩ := Own.slice hown2
    have hdl : (o.ws.drop o.refs).length = o.ws.length - o.refs := List.length_drop
    have k2 := k1.push (o := .cells [.int .i64 o.tag, .slice ra o.refs rc, .slice sa (o.ws.length - o.refs) sc] 127 true) w1
    have w2 := w1.push (.cells [.int .i64 o.tag, .slice ra o.refs rc, .slice sa (o.ws.length - o.refs) sc] 127 true)
    have kk := (Keep.refl h1).push (o := .cells [.int .i64 o.tag, .slice ra o.refs rc, .slice sa (o.ws.length - o.refs) sc] 127 true) w1
    simp only [push_cast, seval, hE.P, zz, w1.nb, w1.nb0]
    refine (plain_at hE w2 (hfz2.keep kk) (tag := o.tag) (nr := o.refs) (ws := o.ws.drop o.refs) (by omega) hws (by rw [hdl]; exact hsl2)).mono ?_
    rintro v h3 ⟨rfl, k3, w3⟩
    have hP : plainV o.tag o.refs (o.ws.drop o.refs) = plainO o := rfl
    rw [hP]
    unfold flat nameO
    obtain ⟨P, hPd⟩ : ∃ P, P = plainO o := ⟨_, rfl⟩
    rw [← hPd]
    obtain ⟨V, ok⟩ := P
    simp only
    have k4 := (k2.trans k3).push (o := .cells [.int .i64 V.k, .int .i64 V.n, .string V.s, .slice none 0 0, .slice none 0 0] 25 true) w3
    have w4 := w3.push (.cells [.int .i64 V.k, .int .i64 V.n, .string V.s, .slice none 0 0, .slice none 0 0] 25 true)
    cases ok with
    | false =>
      simp only [push_cast, seval, hE.P, zz, w3.nb, w3.nb0]
      rw [← hPd, if_neg (by simp)]
      exact ⟨rfl, k4, w4⟩
    | true =>
      by_cases h4 : V.k = 4
      · have g4 : (V.k != 4) = false := by simp [h4]
        simp only [push_cast, seval, hE.P, zz, w3.nb, w3.nb0, g4]
        rw [← hPd, if_pos ⟨rfl, h4⟩]
        exact ⟨rfl, k4, w4⟩
      · have g4 : (V.k != 4) = true := bne_iff_ne.mpr h4
        simp only [push_cast, seval, hE.P, zz, w3.nb, w3.nb0, g4]
        rw [← hPd, if_neg (fun hh => h4 hh.2)]
        exact ⟨rfl, k4, w4⟩
end Go.Proofs.YthfopcdammlmfaaGreatDoor
/- THE READER'S PLAIN LAW: what reading does, step by step; what a good value's objects are read as. No program in sight. -/
namespace Go.Proofs.YthfopcdammlmfaaGreatDoor
open Go.Tm
structure Fm where
  tag : Nat
  refs : List Nat
  name : ByteArray
  l : List Vl
  f : List (ByteArray × Vl)
inductive Pt where
  | obj (x : Nat)
  | done (v : Vl)
  | next
def Fm.val (t : Fm) : Vl := .mk t.tag 0 .empty t.l t.f
def Fm.add (t : Fm) (v : Vl) : Fm := if t.tag = 5 then { t with l := t.l ++ [v] } else { t with f := t.f ++ [(t.name, v)] }
def rstep (O : List Ob) (left : Nat) (st : List Fm) : Pt → (Vl × Int) ⊕ (Nat × List Fm × Pt)
  | .obj x =>
    if left = 0 ∨ 8 < st.length then .inl (zeroV, 4) else
    match obj O x with
    | none => .inl (zeroV, 6)
    | some o =>
      if o.tag = 5 ∨ o.tag = 6 then
        if o.refs < o.ws.length ∨ 64 < o.refs ∨ (o.tag = 6 ∧ o.refs % 2 = 1) then .inl (zeroV, 4)
        else .inr (left - 1, ⟨o.tag, o.ws.take o.refs, .empty, [], []⟩ :: st, .next)
      else if (plainO o).2 = true then .inr (left - 1, st, .done (plainO o).1) else .inl (zeroV, 4)
  | .done v =>
    match st with
    | [] => .inl (v, 0)
    | t :: st => .inr (left, t.add v :: st, .next)
  | .next =>
    match st with
    | [] => .inl (zeroV, 4)
    | t :: st =>
      match t.refs with
      | [] => .inr (left, st, .done t.val)
      | x :: r =>
        if t.tag = 6 then
          if (nameO (obj O x)).2 ≠ 0 then .inl (zeroV, (nameO (obj O x)).2)
          else match r with
            | [] => .inl (zeroV, 4)
            | y :: r => .inr (left, { t with name := (nameO (obj O x)).1, refs := r } :: st, .obj y)
        else .inr (left, { t with refs := r } :: st, .obj x)
inductive Rd (O : List Ob) : Nat → List Fm → Pt → Vl × Int → Prop
  | fin {left : Nat} {st : List Fm} {p : Pt} {r : Vl × Int} (h : rstep O left st p = .inl r) : Rd O left st p r
  | go {left left' : Nat} {st st' : List Fm} {p p' : Pt} {r : Vl × Int} (h : rstep O left st p = .inr (left', st', p')) (H : Rd O left' st' p' r) : Rd O left st p r
theorem Rd.det {O : List Ob} {left : Nat} {st : List Fm} {p : Pt} {r r' : Vl × Int} (h : Rd O left st p r) (h' : Rd O left st p r') : r = r' := by
  induction h with
  | fin e =>
    cases h' with
    | fin e' => rw [e] at e'; injection e'
    | go e' H => rw [e] at e'; cases e'
  | go e H ih =>
    cases h' with
    | fin e' => rw [e] at e'; cases e'
    | go e' H' =>
      rw [e] at e'
      injection e' with e'
      injection e' with e1 e2
      injection e2 with e2 e3
      subst e1; subst e2; subst e3
      exact ih H'
theorem obj_h (O : List Ob) (j : Nat) : obj O (hOf j) = O[j]? := by
  unfold obj hOf
  rw [if_pos (by omega)]
  have : 4294967297 + j - 4294967297 = j := by omega
  rw [this]
theorem strOf_pack (s : ByteArray) : strOf (s.data.toList.map (·.toNat)) = s := by
  unfold strOf
  rw [List.map_map]
  have : (UInt8.ofNat ∘ fun x : UInt8 => x.toNat) = id := by funext x; simp
  rw [this, List.map_id, Array.toArray_toList]
theorem nameO_text (nm : ByteArray) : nameO (some ⟨4, 0, packW nm⟩) = (nm, 0) := by
  unfold nameO plainO plainV
  simp only [List.drop_zero, upk_pack, strOf_pack, Nat.lt_irrefl, if_false]
  simp [Vl.k, Vl.s]
def numsV (v : Vl) : Bool := decide (-9223372036854775808 ≤ v.n) && decide (v.n ≤ 9223372036854775807)
theorem wrap_u64N {n : Int} (h1 : -9223372036854775808 ≤ n) (h2 : n ≤ 9223372036854775807) : IntKind.i64.wrap ((u64N n : Nat) : Int) = n := by
  rw [← u64N_cast]
  unfold IntKind.wrap
  simp only [IntKind.signed, IntKind.bits]
  simp
  omega
theorem empty_of {s : ByteArray} (h : s.data.toList = []) : s = .empty := by
  cases s with | mk d =>
  cases d with | mk l =>
  simp at h; subst h; rfl
theorem formed_0 {V : Vl} (h : formedV V = true) : (V.k ≠ 2 → V.k ≠ 3 → V.n = 0) ∧ (V.k ≠ 4 → V.s = .empty) := by
  unfold formedV at h
  simp only [Bool.and_eq_true, Bool.not_eq_true', Bool.or_eq_false_iff, Bool.and_eq_false_iff] at h
  obtain ⟨⟨⟨h1, h2, h3⟩, h4⟩, h5⟩ := h
  constructor
  · intro a b
    have a' : (V.k != 2) = true := by simpa using a
    have b' : (V.k != 3) = true := by simpa using b
    rcases h2 with (h | h) | h
    · rw [a'] at h; cases h
    · rw [b'] at h; cases h
    · simpa using h
  · intro a
    have a' : (V.k != 4) = true := by simpa using a
    rcases h3 with h | h
    · rw [a'] at h; cases h
    · exact empty_of (by simpa using h)
theorem maxL_le {l : List Int} {x : Int} (h : x ∈ l) : x ≤ maxL l := by
  induction l with
  | nil => simp at h
  | cons y l ih =>
    simp only [List.mem_cons] at h
    unfold maxL
    rcases h with rfl | h
    · omega
    · have := ih h; omega
def There (O : List Ob) (b : Nat) (B : List Ob) : Prop := ∀ i o, B[i]? = some o → O[b + i]? = some o
theorem There.left {O : List Ob} {b : Nat} {A B : List Ob} (h : There O b (A ++ B)) : There O b A := fun i o hi => h i o (by
  rw [List.getElem?_append_left (by have := (List.getElem?_eq_some_iff.1 hi).1; omega)]; exact hi)
theorem There.right {O : List Ob} {b : Nat} {A B : List Ob} (h : There O b (A ++ B)) : There O (b + A.length) B := fun i o hi => by
  have := h (A.length + i) o (by rw [List.getElem?_append_right (by omega)]; simpa using hi)
  rwa [← Nat.add_assoc] at this
theorem There.app {O : List Ob} {b : Nat} {B C : List Ob} (h : There O b B) : There (O ++ C) b B := fun i o hi => by
  have := h i o hi
  rw [List.getElem?_append_left (by have := (List.getElem?_eq_some_iff.1 this).1; omega)]; exact this
theorem There.self (O B : List Ob) : There (O ++ B) O.length B := fun i o hi => by
  rw [List.getElem?_append_right (by omega)]; simpa using hi
def ReadsOk (O : List Ob) (V : Vl) : Prop := ∀ (b left : Nat) (st : List Fm) (r : Vl × Int), There O b (obs b V) → V.sz ≤ left → (st.length : Int) + depthV V ≤ 8 → Rd O (left - V.sz) st (.done V) r → Rd O left st (.obj (hOf (b + (obs b V).length - 1))) r
theorem rd_list {O : List Ob} (nm : ByteArray) (df : List (ByteArray × Vl)) (st : List Fm) (r : Vl × Int) : ∀ (l : List Vl), (∀ x, x ∈ l → ReadsOk O x ∧ (st.length : Int) + 1 + depthV x ≤ 8) → ∀ (b left : Nat) (dl : List Vl), There O b (obsL b l).1 → szL l ≤ left →
    Rd O (left - szL l) (⟨5, [], nm, dl ++ l, df⟩ :: st) .next r → Rd O left (⟨5, (obsL b l).2, nm, dl, df⟩ :: st) .next r
  | [], hx, b, left, dl, hT, hl, H => by
    simpa [obsL, szL] using H
  | v :: l, hx, b, left, dl, hT, hl, H => by
    obtain ⟨h1, h2⟩ := hx v (by simp)
    unfold obsL at hT ⊢
    unfold szL at hl H
    simp only at hT ⊢
    refine .go (left' := left) (st' := ⟨5, (obsL (b + (obs b v).length) l).2, nm, dl, df⟩ :: st) (p' := .obj (hOf (b + (obs b v).length - 1))) (by simp [rstep]) ?_
    refine h1 b left _ r hT.left (by omega) (by simp only [List.length_cons]; omega) ?_
    refine .go (left' := left - v.sz) (st' := ⟨5, (obsL (b + (obs b v).length) l).2, nm, dl ++ [v], df⟩ :: st) (p' := .next) (by simp [rstep, Fm.add]) ?_
    refine rd_list nm df st r l (fun x hxl => hx x (by simp [hxl])) _ _ _ hT.right (by omega) ?_
    rw [List.append_assoc]
    have e : left - v.sz - szL l = left - (v.sz + szL l) := by omega
    rw [e]; exact H
theorem rd_fields {O : List Ob} (dl : List Vl) (st : List Fm) (r : Vl × Int) : ∀ (f : List (ByteArray × Vl)), (∀ x, x ∈ f → ReadsOk O x.2 ∧ (st.length : Int) + 1 + depthV x.2 ≤ 8) → ∀ (b left : Nat) (nm : ByteArray) (df : List (ByteArray × Vl)), There O b (obsF b f).1 → szF f ≤ left →
    (∀ nm', Rd O (left - szF f) (⟨6, [], nm', dl, df ++ f⟩ :: st) .next r) → Rd O left (⟨6, (obsF b f).2, nm, dl, df⟩ :: st) .next r
  | [], hx, b, left, nm, df, hT, hl, H => by
    simpa [obsF, szF] using H nm
  | (a, v) :: f, hx, b, left, nm, df, hT, hl, H => by
    obtain ⟨h1, h2⟩ := hx (a, v) (by simp)
    unfold obsF at hT ⊢
    unfold szF at hl H
    simp only at hT ⊢ h1 h2
    have hT0 := hT 0 ⟨4, 0, packW a⟩ (by simp)
    have hT1 : There O (b + 1) (obs (b + 1) v ++ (obsF (b + 1 + (obs (b + 1) v).length) f).1) := fun i o hi => by
      have := hT (i + 1) o (by simpa using hi)
      rw [Nat.add_assoc, Nat.add_comm 1 i]; exact this
    have hnm : nameO (obj O (hOf b)) = (a, 0) := by
      rw [obj_h, show O[b]? = _ from hT0]; exact nameO_text a
    refine .go (left' := left) (st' := ⟨6, (obsF (b + 1 + (obs (b + 1) v).length) f).2, a, dl, df⟩ :: st) (p' := .obj (hOf (b + 1 + (obs (b + 1) v).length - 1))) (by simp [rstep, hnm]) ?_
    refine h1 (b + 1) left _ r hT1.left (by omega) (by simp only [List.length_cons]; omega) ?_
    refine .go (left' := left - v.sz) (st' := ⟨6, (obsF (b + 1 + (obs (b + 1) v).length) f).2, a, dl, df ++ [(a, v)]⟩ :: st) (p' := .next) (by simp [rstep, Fm.add]) ?_
    refine rd_fields dl st r f (fun x hxl => hx x (by simp [hxl])) _ _ _ _ hT1.right (by omega) (fun nm' => ?_)
    rw [List.append_assoc]
    have e : left - v.sz - szF f = left - (v.sz + szF f) := by omega
    rw [e]; exact H nm'
theorem rd_val {O : List Ob} : ∀ (n : Nat) (V : Vl), V.sz ≤ n → allV formedV V = true → allV fewV V = true → allV numsV V = true → ReadsOk O V := by
  intro n
  induction n with
  | zero => intro V hn; have := sz_eq V; omega
  | succ n ih =>
    intro V hn hF hW hN b left st r hT hl hd H
    rw [allV_eq, Bool.and_eq_true, List.all_eq_true] at hF hW hN
    obtain ⟨fl, ff, k1, k6⟩ := formed_l hF.1
    obtain ⟨fn, fs⟩ := formed_0 hF.1
    have hw1 := hW.1
    simp only [fewV, Bool.and_eq_true, decide_eq_true_eq] at hw1
    obtain ⟨⟨hll, hfl⟩, _⟩ := hw1
    have hn1 := hN.1
    simp only [numsV, Bool.and_eq_true, decide_eq_true_eq] at hn1
    have hz := sz_eq V
    have hp := obs_pos b V
    have hst : ¬ (left = 0 ∨ 8 < st.length) := by
      have : 0 ≤ depthV V := (depthV_bd V.sz V (Nat.le_refl _)).1
      omega
    by_cases e5 : V.k = 5
    · have e6 : V.k ≠ 6 := by omega
      have hob : obs b V = (obsL b V.l).1 ++ [⟨5, (obsL b V.l).2.length, (obsL b V.l).2⟩] := by
        rw [obs_eq, if_neg (by omega), if_neg (by omega), if_neg (by omega), if_pos e5]
      rw [hob] at hT
      have hlast := hT.right 0 _ rfl
      have hobj : obj O (hOf (b + (obs b V).length - 1)) = some ⟨5, (obsL b V.l).2.length, (obsL b V.l).2⟩ := by
        rw [obj_h, hob, List.length_append, List.length_cons, List.length_nil]
        exact hlast
      have hparts : V.parts = V.l := by simp [Vl.parts, e5]
      have hd2 : ∀ x, x ∈ V.l → (st.length : Int) + 1 + depthV x ≤ 8 := by
        intro x hx
        rw [depthV_eq, if_pos (.inl e5), hparts] at hd
        have := maxL_le (List.mem_map.2 ⟨x, hx, rfl⟩ : depthV x ∈ V.l.map depthV)
        omega
      have hlen := obsL_len V.l b
      refine .go (left' := left - 1) (st' := ⟨5, (obsL b V.l).2, .empty, [], []⟩ :: st) (p' := .next) (by
        simp only [rstep]
        rw [if_neg hst, hobj]
        simp only [true_or, if_true]
        rw [if_neg (by omega), List.take_length]) ?_
      have hv : V = .mk 5 0 .empty V.l [] := by
        have a := fn (by omega) (by omega); have c := fs (by omega); have d := ff e6
        cases V; simp only [Vl.k, Vl.n, Vl.s, Vl.l, Vl.f] at *; simp [*]
      have hvf : V.f = [] := ff e6
      rw [hvf] at hz
      simp only [szF, Nat.add_zero] at hz
      refine rd_list .empty [] st r V.l (fun x hx => ⟨ih x (by have := l_sz hx; omega) (hF.2 x (by rw [hparts]; exact hx)) (hW.2 x (by rw [hparts]; exact hx)) (hN.2 x (by rw [hparts]; exact hx)), hd2 x hx⟩) b (left - 1) [] hT.left (by omega) ?_
      refine .go (left' := left - 1 - szL V.l) (st' := st) (p' := .done V) (by
        refine congrArg (fun z => Sum.inr (left - 1 - szL V.l, st, Pt.done z)) ?_
        exact hv.symm) ?_
      have e : left - 1 - szL V.l = left - V.sz := by omega
      rw [e]; exact H
    · by_cases e6 : V.k = 6
      · have hob : obs b V = (obsF b V.f).1 ++ [⟨6, (obsF b V.f).2.length, (obsF b V.f).2⟩] := by
          rw [obs_eq, if_neg (by omega), if_neg (by omega), if_neg (by omega), if_neg (by omega), if_pos e6]
        rw [hob] at hT
        have hlast := hT.right 0 _ rfl
        have hobj : obj O (hOf (b + (obs b V).length - 1)) = some ⟨6, (obsF b V.f).2.length, (obsF b V.f).2⟩ := by
          rw [obj_h, hob, List.length_append, List.length_cons, List.length_nil]
          exact hlast
        have hparts : V.parts = V.f.map (·.2) := by simp [Vl.parts, e6]
        have hd2 : ∀ x, x ∈ V.f → (st.length : Int) + 1 + depthV x.2 ≤ 8 := by
          intro x hx
          rw [depthV_eq, if_pos (.inr e6), hparts, List.map_map] at hd
          have := maxL_le (List.mem_map.2 ⟨x, hx, rfl⟩ : (depthV ∘ fun x => x.2) x ∈ V.f.map (depthV ∘ fun x => x.2))
          replace this : depthV x.2 ≤ maxL (V.f.map (depthV ∘ fun x => x.2)) := this
          omega
        have hlen := obsF_len V.f b
        refine .go (left' := left - 1) (st' := ⟨6, (obsF b V.f).2, .empty, [], []⟩ :: st) (p' := .next) (by
          simp only [rstep]
          rw [if_neg hst, hobj]
          simp only [or_true, if_true]
          rw [if_neg (by omega), List.take_length]) ?_
        have hv : V = .mk 6 0 .empty [] V.f := by
          have a := fn (by omega) (by omega); have c := fs (by omega); have d := fl e5
          cases V; simp only [Vl.k, Vl.n, Vl.s, Vl.l, Vl.f] at *; simp [*]
        have hvl : V.l = [] := fl e5
        rw [hvl] at hz
        simp only [szL, Nat.add_zero] at hz
        have hmem : ∀ x, x ∈ V.f → x.2 ∈ V.parts := fun x hx => by rw [hparts]; exact List.mem_map.2 ⟨x, hx, rfl⟩
        refine rd_fields [] st r V.f (fun x hx => ⟨ih x.2 (by have := f_sz hx; omega) (hF.2 _ (hmem x hx)) (hW.2 _ (hmem x hx)) (hN.2 _ (hmem x hx)), hd2 x hx⟩) b (left - 1) .empty [] hT.left (by omega) (fun nm' => ?_)
        refine .go (left' := left - 1 - szF V.f) (st' := st) (p' := .done V) (by
          refine congrArg (fun z => Sum.inr (left - 1 - szF V.f, st, Pt.done z)) ?_
          exact hv.symm) ?_
        have e : left - 1 - szF V.f = left - V.sz := by omega
        rw [e]; exact H
      · have hvl : V.l = [] := fl e5
        have hvf : V.f = [] := ff e6
        rw [hvl, hvf] at hz
        simp only [szL, szF, Nat.add_zero] at hz
        rw [hz] at H
        have key : ∀ o, obs b V = [o] → o.tag ≠ 5 → o.tag ≠ 6 → plainO o = (V, true) → Rd O left st (.obj (hOf (b + (obs b V).length - 1))) r := by
          intro o ho t5 t6 hpo
          have hobj : obj O (hOf (b + (obs b V).length - 1)) = some o := by
            rw [obj_h, ho]
            have := hT 0 o (by rw [ho]; rfl)
            simpa using this
          refine .go (left' := left - 1) (st' := st) (p' := .done V) (by
            simp only [rstep]
            rw [if_neg hst, hobj]
            simp only
            rw [if_neg (by omega), hpo]; rfl) H
        by_cases e2 : V.k = 2
        · refine key ⟨2, 0, [u64N V.n]⟩ (by rw [obs_eq, if_pos e2]) (fun e => by cases e) (fun e => by cases e) ?_
          have c := fs (by omega)
          show plainV 2 0 [u64N V.n] = _
          unfold plainV
          rw [if_neg (by decide), if_neg (by decide), if_pos ⟨.inl rfl, rfl⟩, List.getD_cons_zero, wrap_u64N hn1.1 hn1.2]
          cases V; simp only [Vl.k, Vl.n, Vl.s, Vl.l, Vl.f] at *; simp [*]
        · by_cases e3 : V.k = 3
          · refine key ⟨3, 0, [u64N V.n]⟩ (by rw [obs_eq, if_neg e2, if_pos e3]) (fun e => by cases e) (fun e => by cases e) ?_
            have c := fs (by omega)
            show plainV 3 0 [u64N V.n] = _
            unfold plainV
            rw [if_neg (by decide), if_neg (by decide), if_pos ⟨.inr rfl, rfl⟩, List.getD_cons_zero, wrap_u64N hn1.1 hn1.2]
            cases V; simp only [Vl.k, Vl.n, Vl.s, Vl.l, Vl.f] at *; simp [*]
          · have a := fn e2 e3
            by_cases e4 : V.k = 4
            · refine key ⟨4, 0, packW V.s⟩ (by rw [obs_eq, if_neg e2, if_neg e3, if_pos e4]) (fun e => by cases e) (fun e => by cases e) ?_
              show plainV 4 0 (packW V.s) = _
              unfold plainV
              rw [if_neg (by decide), if_neg (by decide), if_neg (by omega), if_pos rfl, upk_pack]
              simp only [strOf_pack]
              cases V; simp only [Vl.k, Vl.n, Vl.s, Vl.l, Vl.f] at *; simp [*]
            · have e1 : V.k = 1 := by omega
              have c := fs e4
              refine key ⟨1, 0, []⟩ (by rw [obs_eq, if_neg e2, if_neg e3, if_neg e4, if_neg e5, if_neg e6]) (fun e => by cases e) (fun e => by cases e) ?_
              show plainV 1 0 [] = _
              unfold plainV
              rw [if_neg (by decide), if_pos rfl]
              cases V; simp only [Vl.k, Vl.n, Vl.s, Vl.l, Vl.f] at *; simp [*]
end Go.Proofs.YthfopcdammlmfaaGreatDoor
/- THE READER's STATES: what holds of them, plain. No program in sight. -/
namespace Go.Proofs.YthfopcdammlmfaaGreatDoor
open Go.Tm
def OkO (O : List Ob) : Prop := ∀ o, o ∈ O → o.tag < 256 ∧ o.refs ≤ o.ws.length ∧ o.ws.length < 8192 ∧ ∀ y, y ∈ o.ws → y < 18446744073709551616
theorem IsO.okO {E : Env} {h : Heap} {L : HL} {W nS : Nat} {R : List Nat} {O : List Ob} (H : IsO E h L W nS R O) : OkO O := by
  obtain ⟨S, HS', w', e1, e2, e3⟩ := H
  intro o ho
  obtain ⟨i, hi, rfl⟩ := List.mem_iff_getElem.1 ho
  have hoi : O[i]? = some O[i] := List.getElem?_eq_getElem hi
  have hsm := w'.small HS'.ok hoi
  have hrf := w'.refs _ _ hoi
  refine ⟨hsm.1, hrf, hsm.2.2, fun y hy => ?_⟩
  obtain ⟨k, hk, rfl⟩ := List.mem_iff_getElem.1 hy
  rw [← w'.ws _ _ hoi k _ (List.getElem?_eq_getElem hk)]
  exact HS'.ok.w _
theorem obj_mem {O : List Ob} {x : Nat} {o : Ob} (h : obj O x = some o) : o ∈ O := List.mem_of_getElem? (objOf_some h).2.1
def Fm.n (t : Fm) : Nat := t.l.length + t.f.length + t.refs.length
def Fm.ok (m : Nat) (t : Fm) : Prop := (t.tag = 5 ∨ t.tag = 6) ∧ (t.tag = 6 → t.refs.length % 2 = 0) ∧ (∀ y, y ∈ t.refs → y < 18446744073709551616) ∧ t.name.size ≤ 70000 ∧ t.n ≤ m
def OkSt (st : List Fm) : Pt → Prop
  | .obj x => (∀ t, t ∈ st → t.ok 63) ∧ x < 18446744073709551616 ∧ st.length ≤ 9
  | .done v => (∀ t, t ∈ st → t.ok 63) ∧ st.length ≤ 9
  | .next => (∃ t s, st = t :: s ∧ t.ok 64 ∧ ∀ t, t ∈ s → t.ok 63) ∧ st.length ≤ 9
theorem upk_len {l b : List Nat} (h : upk l = some b) : b.length ≤ 8 * l.length := by
  unfold upk at h
  split at h
  · cases h
  · rename_i n ws
    split at h
    · rename_i hc
      injection h with h; subst h
      have h1 := hc.1
      simp only [List.length_take, List.length_cons]
      omega
    · cases h
theorem name_small {O : List Ob} (hO : OkO O) (x : Nat) : (nameO (obj O x)).1.size ≤ 70000 := by
  cases ho : obj O x with
  | none => simp [nameO]
  | some o =>
    obtain ⟨h1, h2, h3, h4⟩ := hO o (obj_mem ho)
    simp only [nameO]
    split
    · unfold plainO plainV
      split
      · simp [zeroV, Vl.s]
      · split
        · simp [Vl.s]
        · split
          · simp [Vl.s]
          · split
            · split
              · simp [Vl.s]
              · rename_i b hb
                have := upk_len hb
                simp only [Vl.s, strOf, ByteArray.size, List.size_toArray, List.length_map]
                simp only [List.length_drop] at this
                omega
            · simp [zeroV, Vl.s]
    · simp
theorem OkSt.step {O : List Ob} (hO : OkO O) {left left' : Nat} {st st' : List Fm} {p p' : Pt} (h : rstep O left st p = .inr (left', st', p')) (H : OkSt st p) : OkSt st' p' := by
  cases p with
  | obj x =>
    obtain ⟨h1, h2, h3⟩ := H
    simp only [rstep] at h
    split at h
    · cases h
    · rename_i hc
      split at h
      · cases h
      · rename_i o ho
        obtain ⟨o1, o2, o3, o4⟩ := hO o (obj_mem ho)
        split at h
        · rename_i ht
          split at h
          · cases h
          · rename_i hb
            injection h with h; injection h with e1 h; injection h with e2 e3
            subst e1; subst e2; subst e3
            refine ⟨⟨_, st, rfl, ⟨ht, ?_, ?_, by simp, ?_⟩, h1⟩, by simp; omega⟩
            · simp only [List.length_take]; intro e; omega
            · intro y hy; exact o4 y (List.mem_of_mem_take hy)
            · simp only [Fm.n, List.length_nil, List.length_take]; omega
        · split at h
          · injection h with h; injection h with e1 h; injection h with e2 e3
            subst e1; subst e2; subst e3
            exact ⟨h1, h3⟩
          · cases h
  | done v =>
    obtain ⟨h1, h2⟩ := H
    cases st with
    | nil => simp only [rstep] at h; cases h
    | cons t st =>
      simp only [rstep] at h
      injection h with h; injection h with e1 h; injection h with e2 e3
      subst e1; subst e2; subst e3
      obtain ⟨a1, a2, a3, a4, a5⟩ := h1 t (by simp)
      refine ⟨⟨_, st, rfl, ?_, fun u hu => h1 u (by simp [hu])⟩, by simpa using h2⟩
      unfold Fm.add
      split
      · refine ⟨a1, a2, a3, a4, ?_⟩
        simp only [Fm.n, List.length_append, List.length_cons, List.length_nil] at a5 ⊢; omega
      · refine ⟨a1, a2, a3, a4, ?_⟩
        simp only [Fm.n, List.length_append, List.length_cons, List.length_nil] at a5 ⊢; omega
  | next =>
    obtain ⟨⟨t, s, rfl, ⟨a1, a2, a3, a4, a5⟩, h2⟩, h3⟩ := H
    simp only [rstep] at h
    split at h
    · injection h with h; injection h with e1 h; injection h with e2 e3
      subst e1; subst e2; subst e3
      refine ⟨h2, ?_⟩
      simp at h3; omega
    · rename_i x r hr
      split at h
      · rename_i ht
        split at h
        · cases h
        · split at h
          · cases h
          · rename_i y r'
            injection h with h; injection h with e1 h; injection h with e2 e3
            subst e1; subst e2; subst e3
            refine ⟨?_, a3 y (by rw [hr]; simp), by simpa using h3⟩
            intro u hu
            rcases List.mem_cons.1 hu with rfl | hu
            · refine ⟨.inr ht, ?_, ?_, name_small hO x, ?_⟩
              · intro _
                have := a2 ht
                rw [hr] at this; simp only [List.length_cons] at this ⊢; omega
              · intro z hz; exact a3 z (by rw [hr]; simp [hz])
              · simp only [Fm.n, hr, List.length_cons] at a5 ⊢; omega
            · exact h2 u hu
      · rename_i ht
        injection h with h; injection h with e1 h; injection h with e2 e3
        subst e1; subst e2; subst e3
        refine ⟨?_, a3 x (by rw [hr]; simp), by simpa using h3⟩
        intro u hu
        rcases List.mem_cons.1 hu with rfl | hu
        · refine ⟨a1, fun e => absurd e ht, ?_, a4, ?_⟩
          · intro z hz; exact a3 z (by rw [hr]; simp [hz])
          · simp only [Fm.n, hr, List.length_cons] at a5 ⊢; omega
        · exact h2 u hu
def wS (st : List Fm) : Nat := (st.map fun t => 1 + szL t.l + szF t.f).sum
def wP : Pt → Nat
  | .done v => v.sz
  | _ => 0
theorem szL_snoc (l : List Vl) (v : Vl) : szL (l ++ [v]) = szL l + v.sz := by
  induction l with
  | nil => simp [szL]
  | cons x l ih => simp only [List.cons_append, szL, ih]; omega
theorem szF_snoc (l : List (ByteArray × Vl)) (v : ByteArray × Vl) : szF (l ++ [v]) = szF l + v.2.sz := by
  induction l with
  | nil => obtain ⟨a, v⟩ := v; simp [szF]
  | cons x l ih => obtain ⟨a, x⟩ := x; simp only [List.cons_append, szF, ih]; omega
theorem zeroV_sz : zeroV.sz = 1 := by simp [zeroV, Vl.sz, szL, szF]
theorem plain_sz (o : Ob) : (plainO o).1.sz = 1 := by
  unfold plainO plainV
  split
  · exact zeroV_sz
  · split
    · simp [Vl.sz, szL, szF]
    · split
      · simp [Vl.sz, szL, szF]
      · split
        · split <;> simp [Vl.sz, szL, szF]
        · exact zeroV_sz
theorem Rd.size {O : List Ob} {left : Nat} {st : List Fm} {p : Pt} {r : Vl × Int} (h : Rd O left st p r) : r.1.sz ≤ left + wS st + wP p + 1 := by
  induction h with
  | fin e =>
    rename_i left st p r
    have key : ∀ n, r = (zeroV, n) → r.1.sz ≤ left + wS st + wP p + 1 := fun n e => by rw [e, zeroV_sz]; omega
    cases p with
    | obj x =>
      simp only [rstep] at e
      split at e
      · injection e with e; exact key _ e.symm
      · split at e
        · injection e with e; exact key _ e.symm
        · split at e
          · split at e
            · injection e with e; exact key _ e.symm
            · cases e
          · split at e
            · cases e
            · injection e with e; exact key _ e.symm
    | done v =>
      cases st with
      | nil => simp only [rstep] at e; injection e with e; subst e; simp only [wP]; omega
      | cons t st => simp only [rstep] at e; cases e
    | next =>
      cases st with
      | nil => simp only [rstep] at e; injection e with e; exact key _ e.symm
      | cons t st =>
        simp only [rstep] at e
        split at e
        · cases e
        · split at e
          · split at e
            · injection e with e; exact key _ e.symm
            · split at e
              · injection e with e; exact key _ e.symm
              · cases e
          · cases e
  | go e H ih =>
    rename_i left left' st st' p p' r
    refine Nat.le_trans ih ?_
    cases p with
    | obj x =>
      simp only [rstep] at e
      split at e
      · cases e
      · split at e
        · cases e
        · split at e
          · split at e
            · cases e
            · injection e with e; injection e with e1 e; injection e with e2 e3
              subst e1; subst e2; subst e3
              simp only [wS, wP, List.map_cons, List.sum_cons, szL, szF]
              omega
          · split at e
            · injection e with e; injection e with e1 e; injection e with e2 e3
              subst e1; subst e2; subst e3
              simp only [wP, plain_sz]
              omega
            · cases e
    | done v =>
      cases st with
      | nil => simp only [rstep] at e; cases e
      | cons t st =>
        simp only [rstep] at e
        injection e with e; injection e with e1 e; injection e with e2 e3
        subst e1; subst e2; subst e3
        unfold Fm.add
        split
        · simp only [wS, wP, List.map_cons, List.sum_cons, szL_snoc]; omega
        · simp only [wS, wP, List.map_cons, List.sum_cons, szF_snoc]; omega
    | next =>
      cases st with
      | nil => simp only [rstep] at e; cases e
      | cons t st =>
        simp only [rstep] at e
        split at e
        · injection e with e; injection e with e1 e; injection e with e2 e3
          subst e1; subst e2; subst e3
          simp only [wS, wP, List.map_cons, List.sum_cons, Fm.val, Vl.sz]; omega
        · split at e
          · split at e
            · cases e
            · split at e
              · cases e
              · injection e with e; injection e with e1 e; injection e with e2 e3
                subst e1; subst e2; subst e3
                simp only [wS, wP, List.map_cons, List.sum_cons]; omega
          · injection e with e; injection e with e1 e; injection e with e2 e3
            subst e1; subst e2; subst e3
            simp only [wS, wP, List.map_cons, List.sum_cons]; omega
end Go.Proofs.YthfopcdammlmfaaGreatDoor
namespace Go.Proofs.YthfopcdammlmfaaGreatDoor
open Go.Tm
def Fr1 (E : Env) (G : Mem) (h : Heap) (lo : Nat) (t : Fm) (c : List Value) (bs : List Nat) : Prop :=
  ∃ rv lv fv lc fc, c = [.int .i64 t.tag, rv, .string t.name, .int .i64 t.tag, .int .i64 0, .string .empty, lv, fv] ∧ Sl E G 1 t.refs.length (u64s t.refs) rv ∧
    Own h 25 5 lo t.l.length lc lv ∧ RepLs E G t.l lc ∧ Own h 91 6 lo t.f.length fc fv ∧ RepFs E G t.f fc ∧ bs = slB lv ++ slB fv
def Frs (E : Env) (G : Mem) (h : Heap) (lo : Nat) : List Fm → List Value → List Nat → Prop
  | [], cs, bs => cs = [] ∧ bs = []
  | t :: st, cs, bs => ∃ c0 c1 b0 b1, cs = c0 ++ c1 ∧ bs = b1 ++ b0 ∧ Frs E G h lo st c0 b0 ∧ Fr1 E G h lo t c1 b1
structure RdM (E : Env) (L : HL) (O : List Ob) (h0 : Heap) (rb : Nat) (left : Int) (st : List Fm) (G : Mem) (tm : Tr Value) (h : Heap) : Prop where
  rbl : rb < h0.next
  wf : WF E h
  frz : Frz E G h
  dom : ∀ b c, G b = some c → h0.next + 3 ≤ b
  lo : ∀ b o, b < rb → h0.get b = some o → h.get b = some o
  next : h0.next + 3 ≤ h.next
  rd : h.get rb = some (.cells [.pointer (some ⟨L.ph, 0, none⟩), .int .i64 left] 125 true)
  res : h.get h0.next = some (.cells [.int .i64 0, .int .i64 0, .string .empty, .slice none 0 0, .slice none 0 0] 25 true)
  ob : ∃ a b c, h.get (h0.next + 2) = some (.cells [a, b, c] 127 true)
  stk : ∃ sv cs bs, fget tm 6 = sv ∧ Own h 190 8 (h0.next + 3) st.length cs sv ∧ Frs E G h (h0.next + 3) st cs bs ∧ (slB sv ++ bs).Nodup ∧ ∀ b, b ∈ slB sv ++ bs → G b = none
  f0 : fget tm 0 = .pointer (some ⟨rb, 0, none⟩)
  f4 : fget tm 4 = .pointer (some ⟨h0.next, 0, none⟩)
  f7 : fget tm 7 = .pointer (some ⟨h0.next + 1, 0, none⟩)
  f8 : fget tm 8 = .pointer (some ⟨h0.next + 2, 0, none⟩)
theorem Frs.len {E : Env} {G : Mem} {h : Heap} {lo : Nat} : ∀ {st : List Fm} {cs : List Value} {bs : List Nat}, Frs E G h lo st cs bs → cs.length = st.length * 8
  | [], cs, bs, H => by obtain ⟨rfl, rfl⟩ := H; rfl
  | t :: st, cs, bs, H => by
    obtain ⟨c0, c1, b0, b1, rfl, rfl, h1, h2⟩ := H
    have := h1.len
    obtain ⟨rv, lv, fv, lc, fc, rfl, _⟩ := h2
    simp; omega
theorem Fr1.but {E : Env} {G G' : Mem} {h h' : Heap} {lo : Nat} {t : Fm} {c : List Value} {bs : List Nat} (s : Sub G G') (k : ∀ b o, b ∈ bs → h.get b = some o → h'.get b = some o) (H : Fr1 E G h lo t c bs) : Fr1 E G' h' lo t c bs := by
  obtain ⟨rv, lv, fv, lc, fc, h1, h2, h4, h5, h6, h7, rfl⟩ := H
  exact ⟨rv, lv, fv, lc, fc, h1, h2.sub s, h4.but fun b o hb => k b o (by simp [hb]), RepLs.sub s h5, h6.but fun b o hb => k b o (by simp [hb]), RepFs.sub s h7, rfl⟩
theorem Frs.but {E : Env} {G G' : Mem} {h h' : Heap} {lo : Nat} (s : Sub G G') : ∀ {st : List Fm} {cs : List Value} {bs : List Nat}, (∀ b o, b ∈ bs → h.get b = some o → h'.get b = some o) → Frs E G h lo st cs bs → Frs E G' h' lo st cs bs
  | [], cs, bs, k, H => H
  | t :: st, cs, bs, k, H => by
    obtain ⟨c0, c1, b0, b1, rfl, rfl, h1, h2⟩ := H
    exact ⟨c0, c1, b0, b1, rfl, rfl, Frs.but s (fun b o hb => k b o (by simp [hb])) h1, h2.but s fun b o hb => k b o (by simp [hb])⟩
theorem Fr1.live {E : Env} {G : Mem} {h : Heap} (hw : WF E h) {lo : Nat} {t : Fm} {c : List Value} {bs : List Nat} (H : Fr1 E G h lo t c bs) : ∀ b, b ∈ bs → lo ≤ b ∧ b < h.next := by
  obtain ⟨rv, lv, fv, lc, fc, h1, h2, h4, h5, h6, h7, rfl⟩ := H
  intro b hb
  rcases List.mem_append.1 hb with hb | hb
  · exact h4.lt hw b hb
  · exact h6.lt hw b hb
theorem Frs.live {E : Env} {G : Mem} {h : Heap} (hw : WF E h) {lo : Nat} : ∀ {st : List Fm} {cs : List Value} {bs : List Nat}, Frs E G h lo st cs bs → ∀ b, b ∈ bs → lo ≤ b ∧ b < h.next
  | [], cs, bs, H => by obtain ⟨rfl, rfl⟩ := H; simp
  | t :: st, cs, bs, H => by
    obtain ⟨c0, c1, b0, b1, rfl, rfl, h1, h2⟩ := H
    intro b hb
    rcases List.mem_append.1 hb with hb | hb
    · exact h2.live hw b hb
    · exact Frs.live hw h1 b hb
theorem stk_read {E : Env} {h : Heap} {sb k j m : Nat} {c0 c1 rest : List Value} {e : TypeId} {fx : Bool} (hnb : (sb < E.base) = False) (hg : h.get sb = some (.cells (c0 ++ (c1 ++ rest)) e fx)) (hc : c0.length = k * 8) (h1 : c1.length = 8) (hj : j + m ≤ 8) : acells E h ⟨sb, k * 8 + j, none⟩ m = some ((c1.drop j).take m) := by
  unfold acells
  simp only [hnb, if_false, hg]
  rw [if_pos (by simp; omega), ← hc, List.drop_length_add_append, List.drop_append_of_le_length (by omega), List.take_append_of_le_length (by simp; omega)]
theorem stk_write {h : Heap} {sb k j : Nat} {c0 c1 rest vs : List Value} {e : TypeId} {fx : Bool} (hg : h.get sb = some (.cells (c0 ++ (c1 ++ rest)) e fx)) (hc : c0.length = k * 8) (h1 : c1.length = 8) (hj : j + vs.length ≤ 8) (ho : vs.all Value.oneCell' = true) : awrite h ⟨sb, k * 8 + j, none⟩ vs = some (h.put sb (.cells (c0 ++ (splice c1 j vs ++ rest)) e fx)) := by
  unfold awrite
  simp only [hg]
  rw [if_pos ⟨by simp; omega, ho⟩, ← hc, splice_app (by omega)]
theorem RdM.top {E : Env} {L : HL} {O : List Ob} {h0 : Heap} {rb : Nat} {left : Int} {t : Fm} {s : List Fm} {G : Mem} {tm : Tr Value} {h : Heap} (M : RdM E L O h0 rb left (t :: s) G tm h) :
    ∃ sb cap rest fx c0 rv lv fv lc fc bs, fget tm 6 = .slice (some ⟨sb, 0, none⟩) (s.length + 1) cap ∧ s.length + 1 ≤ cap ∧ cap ≤ 9223372036854775807 ∧
      h.get sb = some (.cells (c0 ++ ([.int .i64 t.tag, rv, .string t.name, .int .i64 t.tag, .int .i64 0, .string .empty, lv, fv] ++ rest)) 190 fx) ∧ c0.length = s.length * 8 ∧ rest.length = (cap - (s.length + 1)) * 8 ∧
      Sl E G 1 t.refs.length (u64s t.refs) rv ∧ Own h 25 5 (h0.next + 3) t.l.length lc lv ∧ RepLs E G t.l lc ∧ Own h 91 6 (h0.next + 3) t.f.length fc fv ∧ RepFs E G t.f fc ∧
      Frs E G h (h0.next + 3) s c0 bs ∧ ([sb] ++ ((slB lv ++ slB fv) ++ bs)).Nodup ∧ (∀ b, b ∈ [sb] ++ ((slB lv ++ slB fv) ++ bs) → G b = none) ∧ h0.next + 3 ≤ sb ∧ (sb < E.base) = False := by
  obtain ⟨sv, cs, bs, f6, hown, hf, hnd, hGn⟩ := M.stk
  obtain ⟨c0, c1, b0, b1, rfl, rfl, hf1, hf2⟩ := hf
  have hl := hf1.len
  obtain ⟨rv, lv, fv, lc, fc, rfl, q2, q4, q5, q6, q7, rfl⟩ := hf2
  rcases hown with ⟨_, e, _⟩ | ⟨sb, cap, rest, fx, rfl, hg, e1, e2, e3, e4, e5⟩
  · simp at e
  · refine ⟨sb, cap, rest, fx, c0, rv, lv, fv, lc, fc, b0, f6, e3, e5, by rw [← List.append_assoc]; exact hg, hl, e2, q2, q4, q5, q6, q7, hf1, ?_, ?_, e4, M.wf.nlt hg⟩
    · simpa [slB] using hnd
    · simpa [slB] using hGn
theorem RdM.kept {E : Env} {L : HL} {O : List Ob} {h0 : Heap} {rb : Nat} {left : Int} {st : List Fm} {G : Mem} {tm : Tr Value} {h : Heap} (M : RdM E L O h0 rb left st G tm h) {W nS : Nat} {R : List Nat} (H : IsO E h0 L W nS R O) (hrb : ∀ b, b ∈ L.blocks → b < rb) : IsO E h L W nS R O :=
  H.keepLo hrb ⟨fun b o hb hg => M.lo b o hb hg, by have := M.next; omega⟩
theorem RdM.setTop {E : Env} {L : HL} {O : List Ob} {h0 : Heap} {rb : Nat} {left : Int} {t : Fm} {s : List Fm} {G : Mem} {tm : Tr Value} {h h1 : Heap} (M : RdM E L O h0 rb left (t :: s) G tm h) (kk : Keep h h1) (w1 : WF E h1)
    {sb cap : Nat} {rest : List Value} {fx : Bool} {c0 : List Value} {rv lv fv : Value} {lc fc : List Value} {bs : List Nat} (m1 : s.length + 1 ≤ cap) (m2 : cap ≤ 9223372036854775807)
    (hg : h.get sb = some (.cells (c0 ++ ([.int .i64 t.tag, rv, .string t.name, .int .i64 t.tag, .int .i64 0, .string .empty, lv, fv] ++ rest)) 190 fx)) (hc0 : c0.length = s.length * 8) (hrest : rest.length = (cap - (s.length + 1)) * 8)
    (q3 : Own h 25 5 (h0.next + 3) t.l.length lc lv) (q4 : RepLs E G t.l lc) (q5 : Own h 91 6 (h0.next + 3) t.f.length fc fv) (q6 : RepFs E G t.f fc) (hfs : Frs E G h (h0.next + 3) s c0 bs)
    (hnd : ([sb] ++ ((slB lv ++ slB fv) ++ bs)).Nodup) (hGn : ∀ b, b ∈ [sb] ++ ((slB lv ++ slB fv) ++ bs) → G b = none) (hsb : h0.next + 3 ≤ sb)
    {rv' : Value} {r' : List Nat} {nm' : ByteArray} (q1' : Sl E G 1 r'.length (u64s r') rv') {tm' : Tr Value} (f6' : fget tm' 6 = .slice (some ⟨sb, 0, none⟩) (s.length + 1) cap)
    (f0' : fget tm' 0 = .pointer (some ⟨rb, 0, none⟩)) (f4' : fget tm' 4 = .pointer (some ⟨h0.next, 0, none⟩)) (f7' : fget tm' 7 = .pointer (some ⟨h0.next + 1, 0, none⟩)) (f8' : fget tm' 8 = .pointer (some ⟨h0.next + 2, 0, none⟩)) :
    RdM E L O h0 rb left ({ t with refs := r', name := nm' } :: s) G tm' (h1.put sb (.cells (c0 ++ ([.int .i64 t.tag, rv', .string nm', .int .i64 t.tag, .int .i64 0, .string .empty, lv, fv] ++ rest)) 190 fx)) := by
  obtain ⟨d1, d2, d3, d4, d5, d6, d7⟩ := nd3 hnd
  have hk : ∀ b o, b ≠ sb → h.get b = some o → (h1.put sb (.cells (c0 ++ ([.int .i64 t.tag, rv', .string nm', .int .i64 t.tag, .int .i64 0, .string .empty, lv, fv] ++ rest)) 190 fx)).get b = some o := fun b o hb hgb => by
    rw [get_put, if_neg (by omega)]; exact kk.get _ _ hgb
  obtain ⟨oa, ob, oc, hob⟩ := M.ob
  have hrb := M.rbl
  refine ⟨M.rbl, w1.put (kk.get _ _ hg), M.frz.but fun b o hb hgb => ?_, M.dom, ?_, ?_, hk _ _ (by omega) M.rd, hk _ _ (by omega) M.res, ⟨oa, ob, oc, hk _ _ (by omega) hob⟩, ?_, f0', f4', f7', f8'⟩
  · refine hk b o (fun e => ?_) hgb
    subst e
    rw [hGn _ (by simp)] at hb; cases hb
  · intro b o hb hgb
    exact hk b o (by omega) (M.lo b o hb hgb)
  · rw [next_put]; have := M.next; have := kk.next; omega
  · refine ⟨_, _, [] ++ _, f6', .inr ⟨sb, cap, rest, fx, rfl, by rw [get_put, if_pos rfl, List.append_assoc], by simp; omega, by simpa using hrest, by simpa using m1, hsb, m2⟩, ⟨c0, [.int .i64 t.tag, rv', .string nm', .int .i64 t.tag, .int .i64 0, .string .empty, lv, fv], bs, slB lv ++ slB fv, rfl, rfl, ?_, ?_⟩, ?_, ?_⟩
    · exact hfs.but (Sub.refl _) fun b o hb hgb => hk b o (d4 b hb) hgb
    · exact ⟨rv', lv, fv, lc, fc, rfl, q1', q3.but fun b o hb hgb => hk b o (d2 b hb).2.1 hgb, q4, q5.but fun b o hb hgb => hk b o (d3 b hb).2.1 hgb, q6, rfl⟩
    · simpa [slB] using hnd
    · simpa [slB] using hGn
theorem RdM.setApp {E : Env} {L : HL} {O : List Ob} {h0 : Heap} {rb : Nat} {left : Int} {t t' : Fm} {s : List Fm} {G : Mem} {tm : Tr Value} {h h3 : Heap} (M : RdM E L O h0 rb left (t :: s) G tm h)
    {sb cap : Nat} {rest : List Value} {fx : Bool} {c0 : List Value} {rv lv fv lv' fv' : Value} {lc' fc' : List Value} {bs : List Nat} (m1 : s.length + 1 ≤ cap) (m2 : cap ≤ 9223372036854775807)
    (hc0 : c0.length = s.length * 8) (hrest : rest.length = (cap - (s.length + 1)) * 8)
    (q1 : Sl E G 1 t'.refs.length (u64s t'.refs) rv) (hfs : Frs E G h (h0.next + 3) s c0 bs) (hlo : ∀ b, b ∈ slB lv ++ slB fv → h0.next + 3 ≤ b)
    (hnd : ([sb] ++ ((slB lv ++ slB fv) ++ bs)).Nodup) (hGn : ∀ b, b ∈ [sb] ++ ((slB lv ++ slB fv) ++ bs) → G b = none) (hsb : h0.next + 3 ≤ sb) (hsb2 : sb < h.next)
    (hkp : ∀ b o, h.get b = some o → b ∉ slB lv → b ∉ slB fv → b ≠ sb → h3.get b = some o) (hg3 : h3.get sb = some (.cells (c0 ++ ([.int .i64 t'.tag, rv, .string t'.name, .int .i64 t'.tag, .int .i64 0, .string .empty, lv', fv'] ++ rest)) 190 fx)) (w3 : WF E h3) (hn3 : h.next ≤ h3.next)
    (q3 : Own h3 25 5 (h0.next + 3) t'.l.length lc' lv') (q4 : RepLs E G t'.l lc') (q5 : Own h3 91 6 (h0.next + 3) t'.f.length fc' fv') (q6 : RepFs E G t'.f fc')
    (hbl : ∀ b, b ∈ slB lv' ++ slB fv' → b ∈ slB lv ++ slB fv ∨ h.next ≤ b) (hnd2 : (slB lv' ++ slB fv').Nodup) {tm' : Tr Value} (f6' : fget tm' 6 = .slice (some ⟨sb, 0, none⟩) (s.length + 1) cap)
    (f0' : fget tm' 0 = .pointer (some ⟨rb, 0, none⟩)) (f4' : fget tm' 4 = .pointer (some ⟨h0.next, 0, none⟩)) (f7' : fget tm' 7 = .pointer (some ⟨h0.next + 1, 0, none⟩)) (f8' : fget tm' 8 = .pointer (some ⟨h0.next + 2, 0, none⟩)) :
    RdM E L O h0 rb left (t' :: s) G tm' h3 := by
  obtain ⟨d1, d2, d3, d4, d5, d6, d7⟩ := nd3 hnd
  obtain ⟨oa, ob, oc, hob⟩ := M.ob
  have hrb := M.rbl
  have hlt : ∀ b c, G b = some c → b < h.next := fun b c hb => by obtain ⟨e, fx, hh⟩ := M.frz b c hb; exact (M.wf.live _ _ hh).2
  have hbs := hfs.live M.wf
  have hlow : ∀ b o, b < h0.next + 3 → h.get b = some o → h3.get b = some o := by
    intro b o hb hgb
    refine hkp b o hgb (fun hh => ?_) (fun hh => ?_) (by omega)
    · have := hlo b (by simp [hh]); omega
    · have := hlo b (by simp [hh]); omega
  refine ⟨M.rbl, w3, M.frz.but fun b o hb hgb => ?_, M.dom, fun b o hb hgb => hlow b o (by omega) (M.lo b o hb hgb), by have := M.next; omega, hlow _ _ (by omega) M.rd, hlow _ _ (by omega) M.res, ⟨oa, ob, oc, hlow _ _ (by omega) hob⟩, ?_, f0', f4', f7', f8'⟩
  · have hne : ∀ b', b' ∈ [sb] ++ ((slB lv ++ slB fv) ++ bs) → b ≠ b' := fun b' hb' e => by
      subst e
      rw [hGn _ hb'] at hb; cases hb
    exact hkp b o hgb (fun hh => hne b (by simp [hh]) rfl) (fun hh => hne b (by simp [hh]) rfl) (hne sb (by simp))
  · have hbl2 : ∀ b, b ∈ slB lv' ++ slB fv' → b ≠ sb ∧ b ∉ bs ∧ G b = none := by
      intro b hb
      rcases hbl b hb with h1 | h1
      · refine ⟨?_, ?_, hGn b (by rw [List.mem_append]; right; rw [List.mem_append]; exact .inl h1)⟩
        · rcases List.mem_append.1 h1 with h2 | h2
          · exact (d2 b h2).2.1
          · exact (d3 b h2).2.1
        · rcases List.mem_append.1 h1 with h2 | h2
          · exact (d2 b h2).2.2
          · exact (d3 b h2).2.2
      · refine ⟨by omega, fun hh => by have := hbs b hh; omega, ?_⟩
        cases hc : G b with
        | none => rfl
        | some c => have := hlt b c hc; omega
    refine ⟨_, _, _, f6', .inr ⟨sb, cap, rest, fx, rfl, by rw [hg3, List.append_assoc], by simp; omega, by simpa using hrest, by simpa using m1, hsb, m2⟩, ⟨c0, [.int .i64 t'.tag, rv, .string t'.name, .int .i64 t'.tag, .int .i64 0, .string .empty, lv', fv'], bs, slB lv' ++ slB fv', rfl, rfl, ?_, rv, lv', fv', lc', fc', rfl, q1, q3, q4, q5, q6, rfl⟩, ?_, ?_⟩
    · refine hfs.but (Sub.refl _) fun b o hb hgb => hkp b o hgb (fun hh => (d2 b hh).2.2 hb) (fun hh => (d3 b hh).2.2 hb) (d4 b hb)
    · show ([sb] ++ ((slB lv' ++ slB fv') ++ bs)).Nodup
      rw [List.singleton_append, List.nodup_cons]
      refine ⟨fun hh => ?_, List.nodup_append.2 ⟨hnd2, d7, fun a ha b hb e => (hbl2 a ha).2.1 (e ▸ hb)⟩⟩
      rcases List.mem_append.1 hh with h1 | h1
      · exact (hbl2 _ h1).1 rfl
      · exact d4 _ h1 rfl
    · intro b hb
      replace hb : b ∈ [sb] ++ ((slB lv' ++ slB fv') ++ bs) := hb
      rcases List.mem_append.1 hb with h1 | h1
      · exact hGn b (by rw [List.mem_append]; exact .inl h1)
      · rcases List.mem_append.1 h1 with h1 | h1
        · exact (hbl2 b h1).2.2
        · exact hGn b (by simp [h1])
theorem RdM.setLeft {E : Env} {L : HL} {O : List Ob} {h0 : Heap} {rb : Nat} {left : Int} {st : List Fm} {G : Mem} {tm : Tr Value} {h : Heap} (M : RdM E L O h0 rb left st G tm h) (l' : Int) :
    RdM E L O h0 rb l' st G tm (h.put rb (.cells [.pointer (some ⟨L.ph, 0, none⟩), .int .i64 l'] 125 true)) := by
  obtain ⟨oa, ob, oc, hob⟩ := M.ob
  have hrb := M.rbl
  have hk : ∀ b o, b ≠ rb → h.get b = some o → (h.put rb (.cells [.pointer (some ⟨L.ph, 0, none⟩), .int .i64 l'] 125 true)).get b = some o := fun b o hb hg => by rw [get_put, if_neg (by omega)]; exact hg
  obtain ⟨sv, cs, bs, f6, hown, hf, hnd, hGn⟩ := M.stk
  have h1 := hown.lt M.wf
  have h2 := hf.live M.wf
  refine ⟨M.rbl, M.wf.put M.rd, M.frz.but fun b o hb hg => ?_, M.dom, fun b o hb hg => hk b o (by omega) (M.lo b o hb hg), by rw [next_put]; exact M.next, by rw [get_put, if_pos rfl], hk _ _ (by omega) M.res, ⟨oa, ob, oc, hk _ _ (by omega) hob⟩, ⟨sv, cs, bs, f6, ?_, ?_, hnd, hGn⟩, M.f0, M.f4, M.f7, M.f8⟩
  · obtain ⟨cb, hcb⟩ := Option.isSome_iff_exists.1 hb
    have := M.dom b cb hcb
    exact hk b o (by omega) hg
  · exact hown.but fun b o hb hg => hk b o (by have := h1 b hb; omega) hg
  · exact hf.but (Sub.refl _) fun b o hb hg => hk b o (by have := h2 b hb; omega) hg
theorem RdM.retm {E : Env} {L : HL} {O : List Ob} {h0 : Heap} {rb : Nat} {left : Int} {st : List Fm} {G : Mem} {tm tm' : Tr Value} {h : Heap} (M : RdM E L O h0 rb left st G tm h) (f6 : fget tm' 6 = fget tm 6) (f0 : fget tm' 0 = fget tm 0) (f4 : fget tm' 4 = fget tm 4) (f7 : fget tm' 7 = fget tm 7) (f8 : fget tm' 8 = fget tm 8) : RdM E L O h0 rb left st G tm' h := by
  obtain ⟨sv, cs, bs, g6, g⟩ := M.stk
  exact ⟨M.rbl, M.wf, M.frz, M.dom, M.lo, M.next, M.rd, M.res, M.ob, ⟨sv, cs, bs, by rw [f6]; exact g6, g⟩, by rw [f0]; exact M.f0, by rw [f4]; exact M.f4, by rw [f7]; exact M.f7, by rw [f8]; exact M.f8⟩
theorem RdM.step {E : Env} {L : HL} {O : List Ob} {h0 : Heap} {rb : Nat} {left : Int} {st : List Fm} {G G' : Mem} {tm : Tr Value} {h h' : Heap} (M : RdM E L O h0 rb left st G tm h) (hk : ∀ b o, b ≠ h0.next + 1 → b ≠ h0.next + 2 → h.get b = some o → h'.get b = some o) (hob : ∃ a b c, h'.get (h0.next + 2) = some (.cells [a, b, c] 127 true))
    (w : WF E h') (hn : h.next ≤ h'.next) (hs : Sub G G') (hf : Frz E G' h') (hnew : ∀ b c, G' b = some c → G b = some c ∨ h.next ≤ b) : RdM E L O h0 rb left st G' tm h' := by
  have hrb := M.rbl
  have hnx := M.next
  obtain ⟨sv, cs, bs, f6, hown, hff, hnd, hGn⟩ := M.stk
  have h1 := hown.lt M.wf
  have h2 := hff.live M.wf
  refine ⟨M.rbl, w, hf, fun b c hb => ?_, fun b o hb hg => hk b o (by omega) (by omega) (M.lo b o hb hg), by omega, hk _ _ (by omega) (by omega) M.rd, hk _ _ (by omega) (by omega) M.res, hob, ⟨sv, cs, bs, f6, ?_, ?_, hnd, fun b hb => ?_⟩, M.f0, M.f4, M.f7, M.f8⟩
  · rcases hnew b c hb with h3 | h3
    · exact M.dom b c h3
    · omega
  · exact hown.but fun b o hb hg => hk b o (by have := h1 b hb; omega) (by have := h1 b hb; omega) hg
  · exact hff.but hs fun b o hb hg => hk b o (by have := h2 b hb; omega) (by have := h2 b hb; omega) hg
  · cases hc : G' b with
    | none => rfl
    | some c =>
      rcases hnew b c hc with h3 | h3
      · rw [hGn b hb] at h3; cases h3
      · rcases List.mem_append.1 hb with h4 | h4
        · have := h1 b h4; omega
        · have := h2 b h4; omega
def Kr (E : Env) (O : List Ob) (h0 : Heap) (rb x : Nat) : Value → Heap → Prop := fun v h' => ∃ V e c G, v = .tuple #[.agg c.toArray, .int .i64 e] ∧ Rd O 2048 [] (.obj x) (V, e) ∧ Rep E G V c ∧ Frz E G h' ∧ (∀ b c, G b = some c → h0.next + 3 ≤ b) ∧
      (∀ b o, b < rb → h0.get b = some o → h'.get b = some o) ∧ h0.next ≤ h'.next ∧ WF E h'
theorem RdM.endo {E : Env} {L : HL} {O : List Ob} {h0 : Heap} {rb : Nat} {left : Int} {st : List Fm} {G : Mem} {tm : Tr Value} {h : Heap} (M : RdM E L O h0 rb left st G tm h) {V : Vl} {e : Int} {x : Nat} (hr : Rd O 2048 [] (.obj x) (V, e)) {c : List Value} (hV : Rep E G V c) {o : AObj} :
    Kr E O h0 rb x (.tuple #[.agg c.toArray, .int .i64 e]) (h.put h0.next o) := by
  have hrb := M.rbl
  refine ⟨V, e, c, G, rfl, hr, hV, M.frz.but fun b o hb hg => ?_, M.dom, fun b o hb hg => ?_, by have := M.next; rw [next_put]; omega, M.wf.put M.res⟩
  · obtain ⟨cb, hcb⟩ := Option.isSome_iff_exists.1 hb
    have := M.dom b cb hcb
    rw [get_put, if_neg (by omega)]; exact hg
  · rw [get_put, if_neg (by omega)]; exact M.lo b o hb hg
theorem rep_zero {E : Env} {G : Mem} : Rep E G zeroV [.int .i64 0, .int .i64 0, .string .empty, .slice none 0 0, .slice none 0 0] := by
  unfold zeroV
  unfold Rep
  refine ⟨_, _, [], [], rfl, ⟨none, 0, rfl, by simp, by omega, ⟨fun _ => rfl, fun _ x => (by cases x)⟩, .inl ⟨rfl, rfl⟩⟩, ⟨none, 0, rfl, by simp, by omega, ⟨fun _ => rfl, fun _ x => (by cases x)⟩, .inl ⟨rfl, rfl⟩⟩, by unfold RepLs; rfl, by unfold RepFs; rfl, by simp, by omega, by omega⟩
def scopeIn : Code → Code
  | .scope b => b
  | .seq a b => match scopeIn a with
    | .skip => scopeIn b
    | c => c
  | _ => .skip
noncomputable def readB : Code := scopeIn (Tryz.f104.body.getD .skip)
def JJ (E : Env) (L : HL) (O : List Ob) (h0 : Heap) (rb x : Nat) (p : Pt) (n : Nat) (tm : Tr Value) (h : Heap) : Prop :=
  ∃ (left : Nat) (st : List Fm) (G : Mem), left ≤ 2048 ∧ OkSt st p ∧ left * 100 + 3 * st.length + (match p with | .obj _ => 0 | .next => 1 | .done _ => 2) ≤ n ∧ (∀ r, Rd O left st p r → Rd O 2048 [] (.obj x) r) ∧ RdM E L O h0 rb left st G tm h ∧
    ∃ vc, h.get (h0.next + 1) = some (.cells vc 25 true) ∧ vc.length = 5 ∧ (match p with | .obj y => fget tm 1 = .int .u64 y | .next => True | .done v => Rep E G v vc)
def Jr (E : Env) (L : HL) (O : List Ob) (h0 : Heap) (rb x : Nat) : Nat → Nat → Cont
  | 0 => fun n tm h => ∃ y, JJ E L O h0 rb x (.obj y) n tm h
  | 1 => fun n tm h => JJ E L O h0 rb x .next n tm h
  | 2 => fun n tm h => ∃ v, JJ E L O h0 rb x (.done v) n tm h
  | _ => fun _ _ _ => False
def LabOk (E : Env) (L : HL) (O : List Ob) (h0 : Heap) (rb x : Nat) (l : Nat) (c : Code) : Prop := ∀ n tm h, Jr E L O h0 rb x l n tm h → wpc E c (kgoto (Jr E L O h0 rb x) n (kleave E [.cell 4 25, .tmp 5] (Kr E O h0 rb x))) tm h
end Go.Proofs.YthfopcdammlmfaaGreatDoor
