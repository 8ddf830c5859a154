/- THE READER's STATES: what holds of them, plain. No program in sight. -/
/- Merged by a program of ours: O1 N1 N4 N5 N6. -/
import Derived.Test.YthfopcdammlmfaaGreatDoorC6
import Derived.Test.YthfopcdammlmfaaGreatDoorM2
import Derived.Test.YthfopcdammlmfaaGreatDoorD3
set_option maxRecDepth 10000
set_option linter.all false
set_option linter.unusedSimpArgs false
set_option linter.unusedVariables false
/- The objects of a value, by whatever handles: the plain law. -/
namespace Go.Proofs.YthfopcdammlmfaaGreatDoor
open Go.Tm
mutual
def obg (g : Nat → Nat) : Nat → Vl → List Ob
 | b, .mk k n s l f => if k = 2 then [⟨2, 0, [u64N n]⟩] else if k = 3 then [⟨3, 0, [u64N n]⟩] else if k = 4 then [⟨4, 0, packW s⟩]
   else if k = 5 then (obgL g b l).1 ++ [⟨5, (obgL g b l).2.length, (obgL g b l).2⟩] else if k = 6 then (obgF g b f).1 ++ [⟨6, (obgF g b f).2.length, (obgF g b f).2⟩] else [⟨1, 0, []⟩]
def obgL (g : Nat → Nat) : Nat → List Vl → List Ob × List Nat
 | _, [] => ([], [])
 | b, v :: l => (obg g b v ++ (obgL g (b + (obg g b v).length) l).1, g (b + (obg g b v).length - 1) :: (obgL g (b + (obg g b v).length) l).2)
def obgF (g : Nat → Nat) : Nat → List (ByteArray × Vl) → List Ob × List Nat
 | _, [] => ([], [])
 | b, (nm, v) :: l => (⟨4, 0, packW nm⟩ :: (obg g (b + 1) v ++ (obgF g (b + 1 + (obg g (b + 1) v).length) l).1), g b :: g (b + 1 + (obg g (b + 1) v).length - 1) :: (obgF g (b + 1 + (obg g (b + 1) v).length) l).2)
end
section
variable {g : Nat → Nat}
theorem obg_eq (b : Nat) (V : Vl) : obg g b V = if V.k = 2 then [⟨2, 0, [u64N V.n]⟩] else if V.k = 3 then [⟨3, 0, [u64N V.n]⟩] else if V.k = 4 then [⟨4, 0, packW V.s⟩]
 else if V.k = 5 then (obgL g b V.l).1 ++ [⟨5, (obgL g b V.l).2.length, (obgL g b V.l).2⟩] else if V.k = 6 then (obgF g b V.f).1 ++ [⟨6, (obgF g b V.f).2.length, (obgF g b V.f).2⟩] else [⟨1, 0, []⟩] := by
 cases V; rw [obg]; rfl
theorem obgL_app : ∀ (l : List Vl) (b : Nat) (l' : List Vl), obgL g b (l ++ l') = ((obgL g b l).1 ++ (obgL g (b + (obgL g b l).1.length) l').1, (obgL g b l).2 ++ (obgL g (b + (obgL g b l).1.length) l').2)
 | [], b, l' => by simp [obgL]
 | v :: l, b, l' => by
   have ih := obgL_app l (b + (obg g b v).length) l'
   rw [List.cons_append, obgL, ih, obgL]
   simp [Nat.add_assoc]
theorem obgF_app : ∀ (l : List (ByteArray × Vl)) (b : Nat) (l' : List (ByteArray × Vl)), obgF g b (l ++ l') = ((obgF g b l).1 ++ (obgF g (b + (obgF g b l).1.length) l').1, (obgF g b l).2 ++ (obgF g (b + (obgF g b l).1.length) l').2)
 | [], b, l' => by simp [obgF]
 | (nm, v) :: l, b, l' => by
   have ih := obgF_app l (b + 1 + (obg g (b + 1) v).length) l'
   rw [List.cons_append, obgF, ih, obgF]
   simp [Nat.add_assoc, Nat.add_comm 1, Nat.add_left_comm 1]
theorem obg_pos (b : Nat) (V : Vl) : 1 ≤ (obg g b V).length := by
 rw [obg_eq]
 repeat' split
 all_goals simp
theorem obgL_len : ∀ (l : List Vl) (b : Nat), (obgL g b l).2.length = l.length
 | [], b => by simp [obgL]
 | v :: l, b => by simp [obgL, obgL_len l]
theorem obgF_len : ∀ (l : List (ByteArray × Vl)) (b : Nat), (obgF g b l).2.length = 2 * l.length
 | [], b => by simp [obgF]
 | (nm, v) :: l, b => by simp [obgF, obgF_len l]; omega
theorem obgL_h : ∀ (l : List Vl) (b : Nat), ∀ y, y ∈ (obgL g b l).2 → ∃ j, y = g j ∧ b ≤ j ∧ j < b + (obgL g b l).1.length
 | [], b, y, h => by simp [obgL] at h
 | v :: l, b, y, h => by
   have hp := obg_pos (g := g) b v
   simp only [obgL, List.mem_cons] at h
   rcases h with rfl | h
   ·exact ⟨_, rfl, by omega, by simp only [obgL, List.length_append]; omega⟩
   ·obtain ⟨j, e, h1, h2⟩ := obgL_h l _ y h
    exact ⟨j, e, by omega, by simp only [obgL, List.length_append]; omega⟩
theorem obgF_h : ∀ (l : List (ByteArray × Vl)) (b : Nat), ∀ y, y ∈ (obgF g b l).2 → ∃ j, y = g j ∧ b ≤ j ∧ j < b + (obgF g b l).1.length
 | [], b, y, h => by simp [obgF] at h
 | (nm, v) :: l, b, y, h => by
   have hp := obg_pos (g := g) (b + 1) v
   simp only [obgF, List.mem_cons] at h
   rcases h with rfl | rfl | h
   ·exact ⟨_, rfl, by omega, by simp only [obgF, List.length_cons, List.length_append]; omega⟩
   ·exact ⟨_, rfl, by omega, by simp only [obgF, List.length_cons, List.length_append]; omega⟩
   ·obtain ⟨j, e, h1, h2⟩ := obgF_h l _ y h
    exact ⟨j, e, by omega, by simp only [obgF, List.length_cons, List.length_append]; omega⟩
theorem obgL_take {l : List Vl} {i : Nat} (h : i < l.length) (b : Nat) : obgL g b (l.take (i + 1)) = ((obgL g b (l.take i)).1 ++ obg g (b + (obgL g b (l.take i)).1.length) l[i], (obgL g b (l.take i)).2 ++ [g (b + (obgL g b (l.take i)).1.length + (obg g (b + (obgL g b (l.take i)).1.length) l[i]).length - 1)]) := by
 rw [List.take_succ_eq_append_getElem h, obgL_app]
 simp [obgL]
theorem obgF_take {l : List (ByteArray × Vl)} {i : Nat} (h : i < l.length) (b : Nat) : obgF g b (l.take (i + 1)) = ((obgF g b (l.take i)).1 ++ (⟨4, 0, packW l[i].1⟩ :: obg g (b + (obgF g b (l.take i)).1.length + 1) l[i].2), (obgF g b (l.take i)).2 ++ [g (b + (obgF g b (l.take i)).1.length), g (b + (obgF g b (l.take i)).1.length + 1 + (obg g (b + (obgF g b (l.take i)).1.length + 1) l[i].2).length - 1)]) := by
 rw [List.take_succ_eq_append_getElem h, obgF_app]
 have : l[i] = (l[i].1, l[i].2) := rfl
 rw [this]
 simp [obgF]
theorem obgL_pre {l : List Vl} {b : Nat} (i : Nat) : ∃ B, (obgL g b l).1 = (obgL g b (l.take i)).1 ++ B := by
 have := obgL_app (g := g) (l.take i) b (l.drop i)
 rw [List.take_append_drop] at this
 rw [this]; exact ⟨_, rfl⟩
theorem obgF_pre {l : List (ByteArray × Vl)} {b : Nat} (i : Nat) : ∃ B, (obgF g b l).1 = (obgF g b (l.take i)).1 ++ B := by
 have := obgF_app (g := g) (l.take i) b (l.drop i)
 rw [List.take_append_drop] at this
 rw [this]; exact ⟨_, rfl⟩
theorem obgL_words {l : List Vl} (h : ∀ x, x ∈ l → ∀ b, (allO (obg g b x) : Int) = wordsV x ∧ ((obg g b x).length : Int) = objsV x) : ∀ b, (allO (obgL g b l).1 : Int) = (l.map wordsV).sum ∧ ((obgL g b l).1.length : Int) = (l.map objsV).sum := by
 induction l with
 | nil => intro b; simp [obgL, allO_nil]
 | cons v l ih =>
   intro b
   obtain ⟨a1, a2⟩ := h v (by simp) b
   obtain ⟨b1, b2⟩ := ih (fun x hx => h x (by simp [hx])) (b + (obg g b v).length)
   simp only [obgL, allO_app, List.length_append, List.map_cons, List.sum_cons]
   constructor <;> omega
theorem obgF_words {l : List (ByteArray × Vl)} (h : ∀ x, x ∈ l → ∀ b, (allO (obg g b x.2) : Int) = wordsV x.2 ∧ ((obg g b x.2).length : Int) = objsV x.2) : ∀ b, (allO (obgF g b l).1 : Int) = (l.map fun x => 1 + textW x.1 + wordsV x.2).sum ∧ ((obgF g b l).1.length : Int) = (l.map fun x => 1 + objsV x.2).sum := by
 induction l with
 | nil => intro b; simp [obgF, allO_nil]
 | cons v l ih =>
   intro b
   obtain ⟨nm, v⟩ := v
   obtain ⟨a1, a2⟩ := h (nm, v) (by simp) (b + 1)
   obtain ⟨b1, b2⟩ := ih (fun x hx => h x (by simp [hx])) (b + 1 + (obg g (b + 1) v).length)
   have := packW_textW nm
   simp only [obgF, allO_cons, allO_app, List.length_append, List.length_cons, List.map_cons, List.sum_cons]
   simp only at a1 a2
   constructor <;> omega
theorem obg_words : ∀ (n : Nat) (V : Vl), V.sz ≤ n → allV formedV V = true → ∀ b, (allO (obg g b V) : Int) = wordsV V ∧ ((obg g b V).length : Int) = objsV V := by
 intro n
 induction n with
 | zero => intro V hV; have := sz_eq V; omega
 | succ n ih =>
   intro V hVn hf b
   rw [allV_eq, Bool.and_eq_true] at hf
   obtain ⟨hf1, hf2⟩ := hf
   obtain ⟨hl, hff, hk1, hk2⟩ := formed_l hf1
   rw [obg_eq, wordsV_eq, objsV_eq]
   have hb : baseW V = if V.k = 2 then 2 else if V.k = 3 then 2 else if V.k = 4 then 1 + textW V.s else 1 := rfl
   by_cases h5 : V.k = 5
   ·have hp : V.parts = V.l := by simp [Vl.parts, h5]
    rw [hp, List.all_eq_true] at hf2
    obtain ⟨a1, a2⟩ := obgL_words (l := V.l) (fun x hx => ih x (by have := l_sz hx; omega) (hf2 x hx)) b
    rw [hff (by omega), sum_add1]
    have h1 : V.k ≠ 2 := by omega
    have h2 : V.k ≠ 3 := by omega
    have h3 : V.k ≠ 4 := by omega
    rw [if_neg h1, if_neg h2, if_neg h3, if_pos h5]
    rw [if_neg h1, if_neg h2, if_neg h3] at hb
    rw [hb]
    have := obgL_len (g := g) V.l b
    simp only [allO_app, allO_cons, allO_nil, List.length_append, List.length_cons, List.length_nil, List.map_nil, List.sum_nil]
    replace a2 : ((obgL g b V.l).1.length : Int) = (V.l.map fun x => objsV x).sum := a2
    constructor <;> omega
   ·rw [hl h5]
    by_cases h6 : V.k = 6
    ·have hp : V.parts = V.f.map (·.2) := by simp [Vl.parts, h6]
     rw [hp, List.all_eq_true] at hf2
     obtain ⟨a1, a2⟩ := obgF_words (l := V.f) (fun x hx => ih x.2 (by have := f_sz hx; omega) (hf2 x.2 (List.mem_map.2 ⟨x, hx, rfl⟩))) b
     rw [sum_add3]
     have h1 : V.k ≠ 2 := by omega
     have h2 : V.k ≠ 3 := by omega
     have h3 : V.k ≠ 4 := by omega
     rw [if_neg h1, if_neg h2, if_neg h3, if_neg h5, if_pos h6]
     rw [if_neg h1, if_neg h2, if_neg h3] at hb
     rw [hb]
     have := obgF_len (g := g) V.f b
     simp only [allO_app, allO_cons, allO_nil, List.length_append, List.length_cons, List.length_nil, List.map_nil, List.sum_nil]
     constructor <;> omega
    ·rw [hff h6]
     have hpk := packW_textW V.s
     rw [hb]
     simp only [if_neg h5, if_neg h6, List.map_nil, List.sum_nil]
     repeat' split
     all_goals (simp only [allO_cons, allO_nil, List.length_cons, List.length_nil]; constructor <;> omega)
end
end Go.Proofs.YthfopcdammlmfaaGreatDoor
/- The heap as a list of places, as what reads it sees it: handles and objects. -/
namespace Go.Proofs.YthfopcdammlmfaaGreatDoor.G
open Go.Tm
abbrev Om := Nat → Option Ob
def obj (O : Om) (x : Nat) : Option Ob := O x
def IsO (E : Env) (h : Heap) (L : HL) (W nS : Nat) (R : List Nat) (O : Om) : Prop := ∃ A, IsM E h L A ∧ O = gobj A
theorem IsO.keep {E : Env} {h h' : Heap} {L : HL} {W nS : Nat} {R : List Nat} {O : Om} (H : IsO E h L W nS R O) (k : Keep h h') : IsO E h' L W nS R O := by
 obtain ⟨A, a, b⟩ := H
 exact ⟨A, a.keep k, b⟩
theorem obj_ok {E : Env} {h : Heap} {L : HL} {W nS : Nat} {R : List Nat} {O : Om} (H : IsO E h L W nS R O) {x : Nat} {o : Ob} (ho : obj O x = some o) : (o.tag < 256 ∧ o.refs < 8192 ∧ o.ws.length < 8192) ∧ o.refs ≤ o.ws.length ∧ ∀ y, y ∈ o.ws → y < 18446744073709551616 := by
 obtain ⟨A, ⟨S, H, w⟩, rfl⟩ := H
 obtain ⟨c, hc, _, rfl⟩ := gobj_some (show gobj A x = some o from ho)
 have hs := w.small hc
 refine ⟨⟨hs.1, hs.2.1, hs.2.2.1⟩, (w.sits c hc).refs, fun y hy => ?_⟩
 obtain ⟨k, hk, rfl⟩ := List.mem_iff_getElem.1 hy
 rw [← (w.sits c hc).ws k _ (List.getElem?_eq_getElem hk)]
 exact H.ok.w _
section
variable {E : Env} (hE : EOk E) {h : Heap} {L : HL} {W nS : Nat} {R : List Nat} {O : Om} (H : IsO E h L W nS R O) (hW : WF E h)
include hE H hW
theorem head_at {x : Nat} (hx : x < 18446744073709551616) : CallsTo E 62 [.pointer (some ⟨L.ph, 0, none⟩), .int .u64 x] h fun v h' => v = headO (obj O x) ∧ Keep h h' ∧ WF E h' := by
 obtain ⟨A, H, rfl⟩ := H
 exact ghead_at hE H hW hx
theorem ref_at {x : Nat} (hx : x < 18446744073709551616) {i : Int} (hi1 : -9223372036854775808 ≤ i) (hi2 : i ≤ 9223372036854775807) : CallsTo E 63 [.pointer (some ⟨L.ph, 0, none⟩), .int .u64 x, .int .i64 i] h fun v h' => v = refO i (obj O x) ∧ Keep h h' ∧ WF E h' := by
 obtain ⟨A, H, rfl⟩ := H
 exact gref_at hE H hW hx hi1 hi2
theorem hword_at {x : Nat} (hx : x < 18446744073709551616) {i : Int} (hi1 : -9223372036854775808 ≤ i) (hi2 : i ≤ 9223372036854775807) : CallsTo E 127 [.pointer (some ⟨L.ph, 0, none⟩), .int .u64 x, .int .i64 i] h fun v h' => v = wordO i (obj O x) ∧ Keep h h' ∧ WF E h' := by
 obtain ⟨A, H, rfl⟩ := H
 exact gword_at hE H hW hx hi1 hi2
end
variable {E : Env} (hE : EOk E)
include hE
theorem object_at {h : Heap} {L : HL} {W nS : Nat} {R : List Nat} {O : Om} (H : IsO E h L W nS R O) (hW : WF E h) {rb : Nat} {left : Value} (hr : h.get rb = some (.cells [.pointer (some ⟨L.ph, 0, none⟩), left] 125 true)) {x : Nat} (hx : x < 18446744073709551616) :
 CallsTo E 76 [.pointer (some ⟨rb, 0, none⟩), .int .u64 x] h fun v h' =>
  (obj O x = none → v = .tuple #[.agg #[.int .i64 0, .slice none 0 0, .slice none 0 0], .int .i64 6]) ∧
  (∀ o, obj O x = some o → ∃ rv sv, v = .tuple #[.agg #[.int .i64 o.tag, rv, sv], .int .i64 0] ∧ Own h' 33 1 h.next o.refs (u64s (o.ws.take o.refs)) rv ∧ Own h' 33 1 h.next (o.ws.length - o.refs) (u64s (o.ws.drop o.refs)) sv) ∧
  Keep h h' ∧ WF E h' := by
 have hrb := hW.live _ _ hr
 have nbr : (rb < E.base) = False := by simp; omega
 have k0 := (Keep.refl h).push (o := .cells [.int .i64 0, .slice none 0 0, .slice none 0 0] 127 true) hW
 have w0 := hW.push (.cells [.int .i64 0, .slice none 0 0, .slice none 0 0] 127 true)
 have gr0 := k0.get _ _ hr
 have l1 : acells E (h.push (.cells [.int .i64 0, .slice none 0 0, .slice none 0 0] 127 true)) ⟨rb, 0, none⟩ 1 = some [.pointer (some ⟨L.ph, 0, none⟩)] := by simp [acells, nbr, gr0]
 refine en hE Tryz.func76 rfl rfl Tryz.ntmps76 rfl (by decide +kernel) (rs := [.cell 4 127, .tmp 5]) rfl ?_
 simp only [push_cast, seval, hE.P, zz, hW.nb, hW.nb0, ↓l1]
 refine (head_at hE (H.keep k0) w0 hx).mono ?_
 rintro v h1 ⟨rfl, k1, w1⟩
 have g1 := k1.get h.next _ (show _ = some _ by rw [get_push, if_pos rfl])
 cases ho : obj O x with
 | none =>
   simp only [push_cast, seval, hE.P, zz, headO, hW.nb, hW.nb0, g1]
   refine ⟨fun o hh => (by cases hh), ?_, w1.put g1⟩
   exact (k0.trans k1).putNew hW (Nat.le_refl _)
 | some o =>
   obtain ⟨hsm, hrf, _⟩ := obj_ok H ho
   have hsz : IntKind.i64.wrap ((o.ws.length : Int) - o.refs) = ((o.ws.length - o.refs : Nat) : Int) := by rw [wr64 (by omega) (by omega)]; omega
   simp only [push_cast, seval, hE.P, zz, headO, hW.nb, hW.nb0, g1]
   have nb0 : (h.next < E.base) = False := by have := hW.base; simp; omega
   have hkA : Keep h (h1.put h.next (.cells [.int .i64 o.tag, .slice none 0 0, .slice none 0 0] 127 true)) := (k0.trans k1).putNew hW (Nat.le_refl _)
   refine wpc_loop (fun m tm h' => ∃ i rv, m = o.refs - i ∧ i ≤ o.refs ∧ fget tm 33 = .int .i64 i ∧ fget tm 32 = .int .i64 o.refs ∧ fget tm 0 = .pointer (some ⟨rb, 0, none⟩) ∧ fget tm 1 = .int .u64 x ∧ fget tm 4 = .pointer (some ⟨h.next, 0, none⟩) ∧ fget tm 7 = .int .i64 o.refs ∧ fget tm 8 = .int .i64 o.ws.length ∧
    h'.get h.next = some (.cells [.int .i64 o.tag, rv, .slice none 0 0] 127 true) ∧ Own h' 33 1 (h.next + 1) i (u64s (o.ws.take i)) rv ∧ Keep h h' ∧ WF E h') o.refs ?_ ?_
   ·refine ⟨0, .slice none 0 0, by omega, by omega, by simp only [push_cast, seval, hE.P, zz], by simp only [push_cast, seval, hE.P, zz], by simp only [push_cast, seval, hE.P, zz], by simp only [push_cast, seval, hE.P, zz], by simp only [push_cast, seval, hE.P, zz], by simp only [push_cast, seval, hE.P, zz], by simp only [push_cast, seval, hE.P, zz], by rw [get_put, if_pos rfl], by simpa [u64s] using Own.nil _ _ _ _, hkA, w1.put g1⟩
   ·rintro m tm h' ⟨i, rv, rfl, hi, f33, f32, f0, f1, f4, f7, f8, hg, hown, hk, hw⟩
    have hnx := (hw.live _ _ hg).2
    have gr := hk.get _ _ hr
    have l1 : acells E h' ⟨rb, 0, none⟩ 1 = some [.pointer (some ⟨L.ph, 0, none⟩)] := by simp [acells, nbr, gr]
    simp only [push_cast, seval, hE.P, zz, f33, f32]
    refine kif_split (fun hb => ?_) (fun hb => ?_)
    ·have hli : i < o.refs := by simpa using hb
     simp only [push_cast, seval, hE.P, zz, f33, f32, f0, f1, f4, f7, f8, ↓l1]
     refine (ref_at hE (H.keep hk) hw hx (i := i) (by omega) (by omega)).mono ?_
     rintro v h2 ⟨rfl, k2, w2⟩
     rw [ho, refO_in hli (by omega)]
     have hg2 := k2.get _ _ hg
     have hown2 := hown.keep k2
     obtain ⟨ra, rc, rfl, hrc⟩ := Own.slice hown
     simp only [push_cast, seval, hE.P, zz, f33, f32, f0, f1, f4, f7, f8, hg2, nb0]
     rw [bs50 rfl, kalloc_some]
     simp only [push_cast, seval, hE.P, zz, f33, f32, f0, f1, f4, f7, f8, hg2, nb0]
     refine kwv_own1 (el50 hE.P) w2 (lo := h.next + 1) (by have := k2.next; omega) hown2 rfl rfl (by omega) (by omega) ?_
     intro v' h3 hown3 hk3 hw3
     have hg3 := hk3.get h.next _ (by omega) hg2
     have hkk : Keep h h3 := Keep.thenLo hW (hk.trans k2) hk3 (by omega)
     obtain ⟨i1, hi1⟩ : ∃ i1, i1 = i + 1 := ⟨_, rfl⟩
     have hi2 : (i : Int) + 1 = i1 := by omega
     have hi3 : IntKind.i64.wrap (i1 : Int) = i1 := wrN (by omega)
     obtain ⟨a', c', rfl, _⟩ := Own.slice hown3
     simp only [push_cast, seval, hE.P, zz, f33, f32, f0, f1, f4, f7, f8, hg3, nb0, hi2, hi3]
     refine ⟨o.refs - i1, by omega, i1, _, rfl, by omega, rfl, rfl, ?_, hkk.putNew hW (Nat.le_refl _), hw3.put hg3⟩
     have := Own.put (b := h.next) (o := .cells [.int .i64 o.tag, .slice a' (i + 1) c', .slice none 0 0] 127 true) hown3 (by omega)
     rw [hi1, List.take_succ_eq_append_getElem (by omega)]
     unfold u64s at this ⊢
     rw [List.map_append]
     exact this
    ·have hge : i = o.refs := by have : ¬ i < o.refs := by simpa using hb
                                 omega
     subst hge
     simp only [push_cast, seval, hE.P, zz, f7, f8, hsz]
     obtain ⟨hm, hhm⟩ : ∃ hm, hm = h' := ⟨_, rfl⟩
     rw [← hhm] at hown hnx hw hg hk
     refine wpc_loop (fun m tm h' => ∃ i sv, m = o.ws.length - o.refs - i ∧ i ≤ o.ws.length - o.refs ∧ fget tm 56 = .int .i64 i ∧ fget tm 55 = .int .i64 (o.ws.length - o.refs : Nat) ∧ fget tm 0 = .pointer (some ⟨rb, 0, none⟩) ∧ fget tm 1 = .int .u64 x ∧ fget tm 4 = .pointer (some ⟨h.next, 0, none⟩) ∧
      h'.get h.next = some (.cells [.int .i64 o.tag, rv, sv] 127 true) ∧ Own h' 33 1 hm.next i (u64s ((o.ws.drop o.refs).take i)) sv ∧ (∀ b ob, b ≠ h.next → hm.get b = some ob → h'.get b = some ob) ∧ hm.next ≤ h'.next ∧ WF E h') (o.ws.length - o.refs) ?_ ?_
     ·exact ⟨0, .slice none 0 0, by omega, by omega, by simp only [push_cast, seval, hE.P, zz], by simp only [push_cast, seval, hE.P, zz], by simp only [push_cast, seval, hE.P, zz, f0], by simp only [push_cast, seval, hE.P, zz, f1], by simp only [push_cast, seval, hE.P, zz, f4], by rw [← hhm]; exact hg, by simpa [u64s] using Own.nil _ _ _ _, by rw [← hhm]; exact fun _ _ _ x => x, by rw [← hhm]; exact Nat.le_refl _, by rw [← hhm]; exact hw⟩
     ·have hwm := hw
      have hgm := hg
      have hkm := hk
      clear hw hg hk
      clear f33 f32 f0 f1 f4 f7 f8 gr l1 hb hi hhm
      clear tm h'
      rintro m tm h' ⟨i, sv, rfl, hi, f56, f55, f0, f1, f4, hg, hown', hkx, hnx2, hw⟩
      have hk : Keep h h' := ⟨fun b ob hb => hkx b ob (by have := (hW.live _ _ hb).2; omega) (hkm.get _ _ hb), by omega⟩
      have gr := hk.get _ _ hr
      have l1 : acells E h' ⟨rb, 0, none⟩ 1 = some [.pointer (some ⟨L.ph, 0, none⟩)] := by simp [acells, nbr, gr]
      simp only [push_cast, seval, hE.P, zz, f56, f55]
      refine kif_split (fun hb => ?_) (fun hb => ?_)
      ·have hli : i < o.ws.length - o.refs := by have := of_decide_eq_true hb; omega
       simp only [push_cast, seval, hE.P, zz, f56, f55, f0, f1, f4, ↓l1]
       refine (hword_at hE (H.keep hk) hw hx (i := i) (by omega) (by omega)).mono ?_
       rintro v h2 ⟨rfl, k2, w2⟩
       rw [ho, wordO_in (by omega)]
       have hg2 := k2.get _ _ hg
       have hown2 := hown'.keep k2
       obtain ⟨ra, rc, rfl, hrc⟩ := Own.slice hown'
       obtain ⟨ra2, rc2, rfl, hrc2⟩ := Own.slice hown
       simp only [push_cast, seval, hE.P, zz, f56, f55, f0, f1, f4, hg2, nb0]
       rw [bs50 rfl, kalloc_some]
       simp only [push_cast, seval, hE.P, zz, f56, f55, f0, f1, f4, hg2, nb0]
       refine kwv_own1 (el50 hE.P) w2 (lo := hm.next) (by have := k2.next; omega) hown2 rfl rfl (by omega) (by omega) ?_
       intro v' h3 hown3 hk3 hw3
       have hg3 := hk3.get h.next _ (by omega) hg2
       obtain ⟨i1, hi1⟩ : ∃ i1, i1 = i + 1 := ⟨_, rfl⟩
       have hi2 : (i : Int) + 1 = i1 := by omega
       have hi3 : IntKind.i64.wrap (i1 : Int) = i1 := wrN (by omega)
       obtain ⟨a', c', rfl, _⟩ := Own.slice hown3
       simp only [push_cast, seval, hE.P, zz, f56, f55, f0, f1, f4, hg3, nb0, hi2, hi3]
       refine ⟨o.ws.length - o.refs - i1, by omega, i1, _, rfl, by omega, rfl, rfl, ?_, ?_, ?_, hw3.put hg3⟩
       ·have := Own.put (b := h.next) (o := .cells [.int .i64 o.tag, .slice ra2 o.refs rc2, .slice a' (i + 1) c'] 127 true) hown3 (by omega)
        rw [hi1, List.take_succ_eq_append_getElem (by simp; omega)]
        unfold u64s at this ⊢
        rw [List.map_append]
        simpa using this
       ·intro b ob hb hgb
        rw [if_neg (by omega)]
        exact hk3.get b ob (hwm.live _ _ hgb).2 (k2.get _ _ (hkx b ob hb hgb))
       ·have := k2.next; have := hk3.next; omega
      ·have hge : i = o.ws.length - o.refs := by have := of_decide_eq_false hb; omega
       subst hge
       have hownr : Own h' 33 1 (h.next + 1) o.refs (u64s (o.ws.take o.refs)) rv := by
        rcases hown with hh | ⟨b', cap, rest, fx, rfl, hg', h1, h2, h3, h4, h5⟩
        ·exact .inl hh
        ·exact .inr ⟨b', cap, rest, fx, rfl, hkx _ _ (by omega) hg', h1, h2, h3, h4, h5⟩
       obtain ⟨ra2, rc2, rfl, hrc2⟩ := Own.slice hown
       obtain ⟨ra, rc, rfl, hrc⟩ := Own.slice hown'
       simp only [push_cast, seval, hE.P, zz, f4, hg, nb0]
       refine ⟨fun hh => hh.elim, ?_, hk.putNew hW (Nat.le_refl _), hw.put hg⟩
       rintro o2 rfl
       have ht : (o.ws.drop o.refs).take (o.ws.length - o.refs) = o.ws.drop o.refs := List.take_of_length_le (by simp)
       rw [ht] at hown'
       exact ⟨_, _, rfl, Own.low (Own.put hownr (by omega)) (by omega), Own.low (Own.put hown' (by omega)) (by omega)⟩
end Go.Proofs.YthfopcdammlmfaaGreatDoor.G
/- The reader: a name. -/
namespace Go.Proofs.YthfopcdammlmfaaGreatDoor.G
open Go.Tm
variable {E : Env} (hE : EOk E)
include hE
theorem name_at {h : Heap} {L : HL} {W nS : Nat} {R : List Nat} {O : Om} (H : IsO E h L W nS R O) (hW : WF E h) {rb : Nat} {left : Value} (hr : h.get rb = some (.cells [.pointer (some ⟨L.ph, 0, none⟩), left] 125 true)) {x : Nat} (hx : x < 18446744073709551616) :
 CallsTo E 80 [.pointer (some ⟨rb, 0, none⟩), .int .u64 x] h fun v h' => v = .tuple #[.string (nameO (obj O x)).1, .int .i64 (nameO (obj O x)).2] ∧ Keep h h' ∧ WF E h' := by
 refine en hE Tryz.func80 rfl rfl Tryz.ntmps80 rfl (by decide +kernel) (rs := [.tmp 4, .tmp 5]) rfl ?_
 simp only [push_cast, seval, hE.P, zz]
 refine (object_at hE H hW hr hx).mono ?_
 rintro v h1 ⟨hv1, hv2, k1, w1⟩
 cases ho : obj O x with
 | none =>
   have hv := hv1 ho
   subst hv
   simp only [push_cast, seval, hE.P, zz, w1.nb, w1.nb0]
   exact ⟨rfl, k1.push w1, w1.push _⟩
 | some o =>
   obtain ⟨rv, sv, hv, hown1, hown2⟩ := hv2 o ho
   subst hv
   obtain ⟨hsm, hrf, hws0⟩ := obj_ok H ho
   have hws : ∀ y, y ∈ o.ws.drop o.refs → y < 18446744073709551616 := fun y hy => hws0 y (List.mem_of_mem_drop hy)
   obtain ⟨ra, rc, rfl, _⟩ := Own.slice hown1
   obtain ⟨G2, hsl2, hfz2, _⟩ := own_sl w1 hown2
   obtain ⟨sa, sc, rfl, _⟩ := Own.slice hown2
   have hdl : (o.ws.drop o.refs).length = o.ws.length - o.refs := List.length_drop
   have k2 := k1.push (o := .cells [.int .i64 o.tag, .slice ra o.refs rc, .slice sa (o.ws.length - o.refs) sc] 127 true) w1
   have w2 := w1.push (.cells [.int .i64 o.tag, .slice ra o.refs rc, .slice sa (o.ws.length - o.refs) sc] 127 true)
   have kk := (Keep.refl h1).push (o := .cells [.int .i64 o.tag, .slice ra o.refs rc, .slice sa (o.ws.length - o.refs) sc] 127 true) w1
   simp only [push_cast, seval, hE.P, zz, w1.nb, w1.nb0]
   refine (plain_at hE w2 (hfz2.keep kk) (tag := o.tag) (nr := o.refs) (ws := o.ws.drop o.refs) (by omega) hws (by rw [hdl]; exact hsl2)).mono ?_
   rintro v h3 ⟨rfl, k3, w3⟩
   have hP : plainV o.tag o.refs (o.ws.drop o.refs) = plainO o := rfl
   rw [hP]
   unfold flat nameO
   obtain ⟨P, hPd⟩ : ∃ P, P = plainO o := ⟨_, rfl⟩
   rw [← hPd]
   obtain ⟨V, ok⟩ := P
   simp only
   have k4 := (k2.trans k3).push (o := .cells [.int .i64 V.k, .int .i64 V.n, .string V.s, .slice none 0 0, .slice none 0 0] 25 true) w3
   have w4 := w3.push (.cells [.int .i64 V.k, .int .i64 V.n, .string V.s, .slice none 0 0, .slice none 0 0] 25 true)
   cases ok with
   | false =>
     simp only [push_cast, seval, hE.P, zz, w3.nb, w3.nb0]
     rw [← hPd, if_neg (by simp)]
     exact ⟨rfl, k4, w4⟩
   | true =>
     by_cases h4 : V.k = 4
     ·have g4 : (V.k != 4) = false := by simp [h4]
      simp only [push_cast, seval, hE.P, zz, w3.nb, w3.nb0, g4]
      rw [← hPd, if_pos ⟨rfl, h4⟩]
      exact ⟨rfl, k4, w4⟩
     ·have g4 : (V.k != 4) = true := bne_iff_ne.mpr h4
      simp only [push_cast, seval, hE.P, zz, w3.nb, w3.nb0, g4]
      rw [← hPd, if_neg (fun hh => h4 hh.2)]
      exact ⟨rfl, k4, w4⟩
end Go.Proofs.YthfopcdammlmfaaGreatDoor.G
/- THE READER'S PLAIN LAW: what reading does, step by step; what a good value's objects are read as. No program in sight. -/
namespace Go.Proofs.YthfopcdammlmfaaGreatDoor.G
open Go.Tm
structure Fm where
 tag : Nat
 refs : List Nat
 name : ByteArray
 l : List Vl
 f : List (ByteArray × Vl)
inductive Pt where
 | obj (x : Nat)
 | done (v : Vl)
 | next
def Fm.val (t : Fm) : Vl := .mk t.tag 0 .empty t.l t.f
def Fm.add (t : Fm) (v : Vl) : Fm := if t.tag = 5 then { t with l := t.l ++ [v] } else { t with f := t.f ++ [(t.name, v)] }
def rstep (O : Om) (left : Nat) (st : List Fm) : Pt → (Vl × Int) ⊕ (Nat × List Fm × Pt)
 | .obj x =>
   if left = 0 ∨ 8 < st.length then .inl (zeroV, 4) else
   match obj O x with
   | none => .inl (zeroV, 6)
   | some o =>
     if o.tag = 5 ∨ o.tag = 6 then
      if o.refs < o.ws.length ∨ 64 < o.refs ∨ (o.tag = 6 ∧ o.refs % 2 = 1) then .inl (zeroV, 4)
      else .inr (left - 1, ⟨o.tag, o.ws.take o.refs, .empty, [], []⟩ :: st, .next)
     else if (plainO o).2 = true then .inr (left - 1, st, .done (plainO o).1) else .inl (zeroV, 4)
 | .done v =>
   match st with
   | [] => .inl (v, 0)
   | t :: st => .inr (left, t.add v :: st, .next)
 | .next =>
   match st with
   | [] => .inl (zeroV, 4)
   | t :: st =>
     match t.refs with
     | [] => .inr (left, st, .done t.val)
     | x :: r =>
       if t.tag = 6 then
        if (nameO (obj O x)).2 ≠ 0 then .inl (zeroV, (nameO (obj O x)).2)
        else match r with
         | [] => .inl (zeroV, 4)
         | y :: r => .inr (left, { t with name := (nameO (obj O x)).1, refs := r } :: st, .obj y)
       else .inr (left, { t with refs := r } :: st, .obj x)
inductive Rd (O : Om) : Nat → List Fm → Pt → Vl × Int → Prop
 | fin {left : Nat} {st : List Fm} {p : Pt} {r : Vl × Int} (h : rstep O left st p = .inl r) : Rd O left st p r
 | go {left left' : Nat} {st st' : List Fm} {p p' : Pt} {r : Vl × Int} (h : rstep O left st p = .inr (left', st', p')) (H : Rd O left' st' p' r) : Rd O left st p r
theorem Rd.det {O : Om} {left : Nat} {st : List Fm} {p : Pt} {r r' : Vl × Int} (h : Rd O left st p r) (h' : Rd O left st p r') : r = r' := by
 induction h with
 | fin e =>
   cases h' with
   | fin e' => rw [e] at e'; injection e'
   | go e' H => rw [e] at e'; cases e'
 | go e H ih =>
   cases h' with
   | fin e' => rw [e] at e'; cases e'
   | go e' H' =>
     rw [e] at e'
     injection e' with e'
     injection e' with e1 e2
     injection e2 with e2 e3
     subst e1; subst e2; subst e3
     exact ih H'
theorem strOf_pack (s : ByteArray) : strOf (s.data.toList.map (·.toNat)) = s := by
 unfold strOf
 rw [List.map_map]
 have : (UInt8.ofNat ∘ fun x : UInt8 => x.toNat) = id := by funext x; simp
 rw [this, List.map_id, Array.toArray_toList]
theorem nameO_text (nm : ByteArray) : nameO (some ⟨4, 0, packW nm⟩) = (nm, 0) := by
 unfold nameO plainO plainV
 simp only [List.drop_zero, upk_pack, strOf_pack, Nat.lt_irrefl, if_false]
 simp [Vl.k, Vl.s]
def numsV (v : Vl) : Bool := decide (-9223372036854775808 ≤ v.n) && decide (v.n ≤ 9223372036854775807)
theorem wrap_u64N {n : Int} (h1 : -9223372036854775808 ≤ n) (h2 : n ≤ 9223372036854775807) : IntKind.i64.wrap ((u64N n : Nat) : Int) = n := by
 rw [← u64N_cast]
 unfold IntKind.wrap
 simp only [IntKind.signed, IntKind.bits]
 simp
 omega
theorem empty_of {s : ByteArray} (h : s.data.toList = []) : s = .empty := by
 cases s with | mk d =>
 cases d with | mk l =>
 simp at h; subst h; rfl
theorem formed_0 {V : Vl} (h : formedV V = true) : (V.k ≠ 2 → V.k ≠ 3 → V.n = 0) ∧ (V.k ≠ 4 → V.s = .empty) := by
 unfold formedV at h
 simp only [Bool.and_eq_true, Bool.not_eq_true', Bool.or_eq_false_iff, Bool.and_eq_false_iff] at h
 obtain ⟨⟨⟨h1, h2, h3⟩, h4⟩, h5⟩ := h
 constructor
 ·intro a b
  have a' : (V.k != 2) = true := by simpa using a
  have b' : (V.k != 3) = true := by simpa using b
  rcases h2 with (h | h) | h
  ·rw [a'] at h; cases h
  ·rw [b'] at h; cases h
  ·simpa using h
 ·intro a
  have a' : (V.k != 4) = true := by simpa using a
  rcases h3 with h | h
  ·rw [a'] at h; cases h
  ·exact empty_of (by simpa using h)
theorem maxL_le {l : List Int} {x : Int} (h : x ∈ l) : x ≤ maxL l := by
 induction l with
 | nil => simp at h
 | cons y l ih =>
   simp only [List.mem_cons] at h
   unfold maxL
   rcases h with rfl | h
   ·omega
   ·have := ih h; omega
def There (O : Om) (f : Nat → Nat) (b : Nat) (B : List Ob) : Prop := ∀ i o, B[i]? = some o → obj O (f (b + i)) = some o
theorem There.left {O : Om} {f : Nat → Nat} {b : Nat} {A B : List Ob} (h : There O f b (A ++ B)) : There O f b A := fun i o hi => h i o (by
 rw [List.getElem?_append_left (by have := (List.getElem?_eq_some_iff.1 hi).1; omega)]; exact hi)
theorem There.right {O : Om} {f : Nat → Nat} {b : Nat} {A B : List Ob} (h : There O f b (A ++ B)) : There O f (b + A.length) B := fun i o hi => by
 have := h (A.length + i) o (by rw [List.getElem?_append_right (by omega)]; simpa using hi)
 rwa [← Nat.add_assoc] at this
def ReadsOk (O : Om) (f : Nat → Nat) (V : Vl) : Prop := ∀ (b left : Nat) (st : List Fm) (r : Vl × Int), There O f b (obg f b V) → V.sz ≤ left → (st.length : Int) + depthV V ≤ 8 → Rd O (left - V.sz) st (.done V) r → Rd O left st (.obj (f (b + (obg f b V).length - 1))) r
theorem rd_list {O : Om} {f : Nat → Nat} (nm : ByteArray) (df : List (ByteArray × Vl)) (st : List Fm) (r : Vl × Int) : ∀ (l : List Vl), (∀ x, x ∈ l → ReadsOk O f x ∧ (st.length : Int) + 1 + depthV x ≤ 8) → ∀ (b left : Nat) (dl : List Vl), There O f b (obgL f b l).1 → szL l ≤ left →
 Rd O (left - szL l) (⟨5, [], nm, dl ++ l, df⟩ :: st) .next r → Rd O left (⟨5, (obgL f b l).2, nm, dl, df⟩ :: st) .next r
 | [], hx, b, left, dl, hT, hl, H => by
   simpa [obgL, szL] using H
 | v :: l, hx, b, left, dl, hT, hl, H => by
   obtain ⟨h1, h2⟩ := hx v (by simp)
   unfold obgL at hT ⊢
   unfold szL at hl H
   simp only at hT ⊢
   refine .go (left' := left) (st' := ⟨5, (obgL f (b + (obg f b v).length) l).2, nm, dl, df⟩ :: st) (p' := .obj (f (b + (obg f b v).length - 1))) (by simp [rstep]) ?_
   refine h1 b left _ r hT.left (by omega) (by simp only [List.length_cons]; omega) ?_
   refine .go (left' := left - v.sz) (st' := ⟨5, (obgL f (b + (obg f b v).length) l).2, nm, dl ++ [v], df⟩ :: st) (p' := .next) (by simp [rstep, Fm.add]) ?_
   refine rd_list nm df st r l (fun x hxl => hx x (by simp [hxl])) _ _ _ hT.right (by omega) ?_
   rw [List.append_assoc]
   have e : left - v.sz - szL l = left - (v.sz + szL l) := by omega
   rw [e]; exact H
theorem rd_fields {O : Om} {q : Nat → Nat} (dl : List Vl) (st : List Fm) (r : Vl × Int) : ∀ (f : List (ByteArray × Vl)), (∀ x, x ∈ f → ReadsOk O q x.2 ∧ (st.length : Int) + 1 + depthV x.2 ≤ 8) → ∀ (b left : Nat) (nm : ByteArray) (df : List (ByteArray × Vl)), There O q b (obgF q b f).1 → szF f ≤ left →
 (∀ nm', Rd O (left - szF f) (⟨6, [], nm', dl, df ++ f⟩ :: st) .next r) → Rd O left (⟨6, (obgF q b f).2, nm, dl, df⟩ :: st) .next r
 | [], hx, b, left, nm, df, hT, hl, H => by
   simpa [obgF, szF] using H nm
 | (a, v) :: f, hx, b, left, nm, df, hT, hl, H => by
   obtain ⟨h1, h2⟩ := hx (a, v) (by simp)
   unfold obgF at hT ⊢
   unfold szF at hl H
   simp only at hT ⊢ h1 h2
   have hT0 := hT 0 ⟨4, 0, packW a⟩ (by simp)
   have hT1 : There O q (b + 1) (obg q (b + 1) v ++ (obgF q (b + 1 + (obg q (b + 1) v).length) f).1) := fun i o hi => by
    have := hT (i + 1) o (by simpa using hi)
    rw [Nat.add_assoc, Nat.add_comm 1 i]; exact this
   have hnm : nameO (obj O (q b)) = (a, 0) := by
    rw [show obj O (q b) = _ from hT0]; exact nameO_text a
   refine .go (left' := left) (st' := ⟨6, (obgF q (b + 1 + (obg q (b + 1) v).length) f).2, a, dl, df⟩ :: st) (p' := .obj (q (b + 1 + (obg q (b + 1) v).length - 1))) (by simp [rstep, hnm]) ?_
   refine h1 (b + 1) left _ r hT1.left (by omega) (by simp only [List.length_cons]; omega) ?_
   refine .go (left' := left - v.sz) (st' := ⟨6, (obgF q (b + 1 + (obg q (b + 1) v).length) f).2, a, dl, df ++ [(a, v)]⟩ :: st) (p' := .next) (by simp [rstep, Fm.add]) ?_
   refine rd_fields dl st r f (fun x hxl => hx x (by simp [hxl])) _ _ _ _ hT1.right (by omega) (fun nm' => ?_)
   rw [List.append_assoc]
   have e : left - v.sz - szF f = left - (v.sz + szF f) := by omega
   rw [e]; exact H nm'
theorem rd_val {O : Om} {f : Nat → Nat} : ∀ (n : Nat) (V : Vl), V.sz ≤ n → allV formedV V = true → allV fewV V = true → allV numsV V = true → ReadsOk O f V := by
 intro n
 induction n with
 | zero => intro V hn; have := sz_eq V; omega
 | succ n ih =>
   intro V hn hF hW hN b left st r hT hl hd H
   rw [allV_eq, Bool.and_eq_true, List.all_eq_true] at hF hW hN
   obtain ⟨fl, ff, k1, k6⟩ := formed_l hF.1
   obtain ⟨fn, fs⟩ := formed_0 hF.1
   have hw1 := hW.1
   simp only [fewV, Bool.and_eq_true, decide_eq_true_eq] at hw1
   obtain ⟨⟨hll, hfl⟩, _⟩ := hw1
   have hn1 := hN.1
   simp only [numsV, Bool.and_eq_true, decide_eq_true_eq] at hn1
   have hz := sz_eq V
   have hp := obg_pos (g := f) b V
   have hst : ¬ (left = 0 ∨ 8 < st.length) := by
    have : 0 ≤ depthV V := (depthV_bd V.sz V (Nat.le_refl _)).1
    omega
   by_cases e5 : V.k = 5
   ·have e6 : V.k ≠ 6 := by omega
    have hob : obg f b V = (obgL f b V.l).1 ++ [⟨5, (obgL f b V.l).2.length, (obgL f b V.l).2⟩] := by
     rw [obg_eq, if_neg (by omega), if_neg (by omega), if_neg (by omega), if_pos e5]
    rw [hob] at hT
    have hlast := hT.right 0 _ rfl
    have hobj : obj O (f (b + (obg f b V).length - 1)) = some ⟨5, (obgL f b V.l).2.length, (obgL f b V.l).2⟩ := by
     rw [hob, List.length_append, List.length_cons, List.length_nil]
     exact hlast
    have hparts : V.parts = V.l := by simp [Vl.parts, e5]
    have hd2 : ∀ x, x ∈ V.l → (st.length : Int) + 1 + depthV x ≤ 8 := by
     intro x hx
     rw [depthV_eq, if_pos (.inl e5), hparts] at hd
     have := maxL_le (List.mem_map.2 ⟨x, hx, rfl⟩ : depthV x ∈ V.l.map depthV)
     omega
    have hlen := obgL_len (g := f) V.l b
    refine .go (left' := left - 1) (st' := ⟨5, (obgL f b V.l).2, .empty, [], []⟩ :: st) (p' := .next) (by
     simp only [rstep]
     rw [if_neg hst, hobj]
     simp only [true_or, if_true]
     rw [if_neg (by omega), List.take_length]) ?_
    have hv : V = .mk 5 0 .empty V.l [] := by
     have a := fn (by omega) (by omega); have c := fs (by omega); have d := ff e6
     cases V; simp only [Vl.k, Vl.n, Vl.s, Vl.l, Vl.f] at *; simp [*]
    have hvf : V.f = [] := ff e6
    rw [hvf] at hz
    simp only [szF, Nat.add_zero] at hz
    refine rd_list .empty [] st r V.l (fun x hx => ⟨ih x (by have := l_sz hx; omega) (hF.2 x (by rw [hparts]; exact hx)) (hW.2 x (by rw [hparts]; exact hx)) (hN.2 x (by rw [hparts]; exact hx)), hd2 x hx⟩) b (left - 1) [] hT.left (by omega) ?_
    refine .go (left' := left - 1 - szL V.l) (st' := st) (p' := .done V) (by
     refine congrArg (fun z => Sum.inr (left - 1 - szL V.l, st, Pt.done z)) ?_
     exact hv.symm) ?_
    have e : left - 1 - szL V.l = left - V.sz := by omega
    rw [e]; exact H
   ·by_cases e6 : V.k = 6
    ·have hob : obg f b V = (obgF f b V.f).1 ++ [⟨6, (obgF f b V.f).2.length, (obgF f b V.f).2⟩] := by
      rw [obg_eq, if_neg (by omega), if_neg (by omega), if_neg (by omega), if_neg (by omega), if_pos e6]
     rw [hob] at hT
     have hlast := hT.right 0 _ rfl
     have hobj : obj O (f (b + (obg f b V).length - 1)) = some ⟨6, (obgF f b V.f).2.length, (obgF f b V.f).2⟩ := by
      rw [hob, List.length_append, List.length_cons, List.length_nil]
      exact hlast
     have hparts : V.parts = V.f.map (·.2) := by simp [Vl.parts, e6]
     have hd2 : ∀ x, x ∈ V.f → (st.length : Int) + 1 + depthV x.2 ≤ 8 := by
      intro x hx
      rw [depthV_eq, if_pos (.inr e6), hparts, List.map_map] at hd
      have := maxL_le (List.mem_map.2 ⟨x, hx, rfl⟩ : (depthV ∘ fun x => x.2) x ∈ V.f.map (depthV ∘ fun x => x.2))
      replace this : depthV x.2 ≤ maxL (V.f.map (depthV ∘ fun x => x.2)) := this
      omega
     have hlen := obgF_len (g := f) V.f b
     refine .go (left' := left - 1) (st' := ⟨6, (obgF f b V.f).2, .empty, [], []⟩ :: st) (p' := .next) (by
      simp only [rstep]
      rw [if_neg hst, hobj]
      simp only [or_true, if_true]
      rw [if_neg (by omega), List.take_length]) ?_
     have hv : V = .mk 6 0 .empty [] V.f := by
      have a := fn (by omega) (by omega); have c := fs (by omega); have d := fl e5
      cases V; simp only [Vl.k, Vl.n, Vl.s, Vl.l, Vl.f] at *; simp [*]
     have hvl : V.l = [] := fl e5
     rw [hvl] at hz
     simp only [szL, Nat.add_zero] at hz
     have hmem : ∀ x, x ∈ V.f → x.2 ∈ V.parts := fun x hx => by rw [hparts]; exact List.mem_map.2 ⟨x, hx, rfl⟩
     refine rd_fields [] st r V.f (fun x hx => ⟨ih x.2 (by have := f_sz hx; omega) (hF.2 _ (hmem x hx)) (hW.2 _ (hmem x hx)) (hN.2 _ (hmem x hx)), hd2 x hx⟩) b (left - 1) .empty [] hT.left (by omega) (fun nm' => ?_)
     refine .go (left' := left - 1 - szF V.f) (st' := st) (p' := .done V) (by
      refine congrArg (fun z => Sum.inr (left - 1 - szF V.f, st, Pt.done z)) ?_
      exact hv.symm) ?_
     have e : left - 1 - szF V.f = left - V.sz := by omega
     rw [e]; exact H
    ·have hvl : V.l = [] := fl e5
     have hvf : V.f = [] := ff e6
     rw [hvl, hvf] at hz
     simp only [szL, szF, Nat.add_zero] at hz
     rw [hz] at H
     have key : ∀ o, obg f b V = [o] → o.tag ≠ 5 → o.tag ≠ 6 → plainO o = (V, true) → Rd O left st (.obj (f (b + (obg f b V).length - 1))) r := by
      intro o ho t5 t6 hpo
      have hobj : obj O (f (b + (obg f b V).length - 1)) = some o := by
       rw [ho]
       have := hT 0 o (by rw [ho]; rfl)
       simpa using this
      refine .go (left' := left - 1) (st' := st) (p' := .done V) (by
       simp only [rstep]
       rw [if_neg hst, hobj]
       simp only
       rw [if_neg (by omega), hpo]; rfl) H
     by_cases e2 : V.k = 2
     ·refine key ⟨2, 0, [u64N V.n]⟩ (by rw [obg_eq, if_pos e2]) (fun e => by cases e) (fun e => by cases e) ?_
      have c := fs (by omega)
      show plainV 2 0 [u64N V.n] = _
      unfold plainV
      rw [if_neg (by decide), if_neg (by decide), if_pos ⟨.inl rfl, rfl⟩, List.getD_cons_zero, wrap_u64N hn1.1 hn1.2]
      cases V; simp only [Vl.k, Vl.n, Vl.s, Vl.l, Vl.f] at *; simp [*]
     ·by_cases e3 : V.k = 3
      ·refine key ⟨3, 0, [u64N V.n]⟩ (by rw [obg_eq, if_neg e2, if_pos e3]) (fun e => by cases e) (fun e => by cases e) ?_
       have c := fs (by omega)
       show plainV 3 0 [u64N V.n] = _
       unfold plainV
       rw [if_neg (by decide), if_neg (by decide), if_pos ⟨.inr rfl, rfl⟩, List.getD_cons_zero, wrap_u64N hn1.1 hn1.2]
       cases V; simp only [Vl.k, Vl.n, Vl.s, Vl.l, Vl.f] at *; simp [*]
      ·have a := fn e2 e3
       by_cases e4 : V.k = 4
       ·refine key ⟨4, 0, packW V.s⟩ (by rw [obg_eq, if_neg e2, if_neg e3, if_pos e4]) (fun e => by cases e) (fun e => by cases e) ?_
        show plainV 4 0 (packW V.s) = _
        unfold plainV
        rw [if_neg (by decide), if_neg (by decide), if_neg (by omega), if_pos rfl, upk_pack]
        simp only [strOf_pack]
        cases V; simp only [Vl.k, Vl.n, Vl.s, Vl.l, Vl.f] at *; simp [*]
       ·have e1 : V.k = 1 := by omega
        have c := fs e4
        refine key ⟨1, 0, []⟩ (by rw [obg_eq, if_neg e2, if_neg e3, if_neg e4, if_neg e5, if_neg e6]) (fun e => by cases e) (fun e => by cases e) ?_
        show plainV 1 0 [] = _
        unfold plainV
        rw [if_neg (by decide), if_pos rfl]
        cases V; simp only [Vl.k, Vl.n, Vl.s, Vl.l, Vl.f] at *; simp [*]
end Go.Proofs.YthfopcdammlmfaaGreatDoor.G
namespace Go.Proofs.YthfopcdammlmfaaGreatDoor.G
open Go.Tm
def OkO (O : Om) : Prop := ∀ x o, obj O x = some o → o.tag < 256 ∧ o.refs ≤ o.ws.length ∧ o.ws.length < 8192 ∧ ∀ y, y ∈ o.ws → y < 18446744073709551616
theorem IsO.okO {E : Env} {h : Heap} {L : HL} {W nS : Nat} {R : List Nat} {O : Om} (H : IsO E h L W nS R O) : OkO O := by
 intro x o ho
 obtain ⟨a, b, c⟩ := obj_ok H ho
 exact ⟨a.1, b, a.2.2, c⟩
theorem IsO.keepLo {E : Env} {h h' : Heap} {L : HL} {W nS : Nat} {R : List Nat} {O : Om} {lo : Nat} (H : IsO E h L W nS R O) (hL : ∀ b, b ∈ L.blocks → b < lo) (k : KeepLo lo h h') : IsO E h' L W nS R O := by
 obtain ⟨A, ⟨S, a, b⟩, c⟩ := H
 exact ⟨A, ⟨S, ⟨a.ok, a.nd, a.base, k.get _ _ (hL _ (by simp [HL.blocks])) a.heap, k.get _ _ (hL _ (by simp [HL.blocks])) a.arena, k.get _ _ (hL _ (by simp [HL.blocks])) a.table, k.get _ _ (hL _ (by simp [HL.blocks])) a.words, k.get _ _ (hL _ (by simp [HL.blocks])) a.begins, k.get _ _ (hL _ (by simp [HL.blocks])) a.slots⟩, b⟩, c⟩
theorem IsO.lt {E : Env} {h : Heap} {L : HL} {W nS : Nat} {R : List Nat} {O : Om} (H : IsO E h L W nS R O) (hW : WF E h) : ∀ b, b ∈ L.blocks → E.base ≤ b ∧ b < h.next := by
 obtain ⟨A, ⟨S, a, b⟩, c⟩ := H
 exact a.ltB hW
def Fm.n (t : Fm) : Nat := t.l.length + t.f.length + t.refs.length
def Fm.ok (m : Nat) (t : Fm) : Prop := (t.tag = 5 ∨ t.tag = 6) ∧ (t.tag = 6 → t.refs.length % 2 = 0) ∧ (∀ y, y ∈ t.refs → y < 18446744073709551616) ∧ t.name.size ≤ 70000 ∧ t.n ≤ m
def OkSt (st : List Fm) : Pt → Prop
 | .obj x => (∀ t, t ∈ st → t.ok 63) ∧ x < 18446744073709551616 ∧ st.length ≤ 9
 | .done v => (∀ t, t ∈ st → t.ok 63) ∧ st.length ≤ 9
 | .next => (∃ t s, st = t :: s ∧ t.ok 64 ∧ ∀ t, t ∈ s → t.ok 63) ∧ st.length ≤ 9
theorem upk_len {l b : List Nat} (h : upk l = some b) : b.length ≤ 8 * l.length := by
 unfold upk at h
 split at h
 ·cases h
 ·rename_i n ws
  split at h
  ·rename_i hc
   injection h with h; subst h
   have h1 := hc.1
   simp only [List.length_take, List.length_cons]
   omega
  ·cases h
theorem name_small {O : Om} (hO : OkO O) (x : Nat) : (nameO (obj O x)).1.size ≤ 70000 := by
 cases ho : obj O x with
 | none => simp [nameO]
 | some o =>
   obtain ⟨h1, h2, h3, h4⟩ := hO _ o ho
   simp only [nameO]
   split
   ·unfold plainO plainV
    split
    ·simp [zeroV, Vl.s]
    ·split
     ·simp [Vl.s]
     ·split
      ·simp [Vl.s]
      ·split
       ·split
        ·simp [Vl.s]
        ·rename_i b hb
         have := upk_len hb
         simp only [Vl.s, strOf, ByteArray.size, List.size_toArray, List.length_map]
         simp only [List.length_drop] at this
         omega
       ·simp [zeroV, Vl.s]
   ·simp
theorem OkSt.step {O : Om} (hO : OkO O) {left left' : Nat} {st st' : List Fm} {p p' : Pt} (h : rstep O left st p = .inr (left', st', p')) (H : OkSt st p) : OkSt st' p' := by
 cases p with
 | obj x =>
   obtain ⟨h1, h2, h3⟩ := H
   simp only [rstep] at h
   split at h
   ·cases h
   ·rename_i hc
    split at h
    ·cases h
    ·rename_i o ho
     obtain ⟨o1, o2, o3, o4⟩ := hO _ o ho
     split at h
     ·rename_i ht
      split at h
      ·cases h
      ·rename_i hb
       injection h with h; injection h with e1 h; injection h with e2 e3
       subst e1; subst e2; subst e3
       refine ⟨⟨_, st, rfl, ⟨ht, ?_, ?_, by simp, ?_⟩, h1⟩, by simp; omega⟩
       ·simp only [List.length_take]; intro e; omega
       ·intro y hy; exact o4 y (List.mem_of_mem_take hy)
       ·simp only [Fm.n, List.length_nil, List.length_take]; omega
     ·split at h
      ·injection h with h; injection h with e1 h; injection h with e2 e3
       subst e1; subst e2; subst e3
       exact ⟨h1, h3⟩
      ·cases h
 | done v =>
   obtain ⟨h1, h2⟩ := H
   cases st with
   | nil => simp only [rstep] at h; cases h
   | cons t st =>
     simp only [rstep] at h
     injection h with h; injection h with e1 h; injection h with e2 e3
     subst e1; subst e2; subst e3
     obtain ⟨a1, a2, a3, a4, a5⟩ := h1 t (by simp)
     refine ⟨⟨_, st, rfl, ?_, fun u hu => h1 u (by simp [hu])⟩, by simpa using h2⟩
     unfold Fm.add
     split
     ·refine ⟨a1, a2, a3, a4, ?_⟩
      simp only [Fm.n, List.length_append, List.length_cons, List.length_nil] at a5 ⊢; omega
     ·refine ⟨a1, a2, a3, a4, ?_⟩
      simp only [Fm.n, List.length_append, List.length_cons, List.length_nil] at a5 ⊢; omega
 | next =>
   obtain ⟨⟨t, s, rfl, ⟨a1, a2, a3, a4, a5⟩, h2⟩, h3⟩ := H
   simp only [rstep] at h
   split at h
   ·injection h with h; injection h with e1 h; injection h with e2 e3
    subst e1; subst e2; subst e3
    refine ⟨h2, ?_⟩
    simp at h3; omega
   ·rename_i x r hr
    split at h
    ·rename_i ht
     split at h
     ·cases h
     ·split at h
      ·cases h
      ·rename_i y r'
       injection h with h; injection h with e1 h; injection h with e2 e3
       subst e1; subst e2; subst e3
       refine ⟨?_, a3 y (by rw [hr]; simp), by simpa using h3⟩
       intro u hu
       rcases List.mem_cons.1 hu with rfl | hu
       ·refine ⟨.inr ht, ?_, ?_, name_small hO x, ?_⟩
        ·intro _
         have := a2 ht
         rw [hr] at this; simp only [List.length_cons] at this ⊢; omega
        ·intro z hz; exact a3 z (by rw [hr]; simp [hz])
        ·simp only [Fm.n, hr, List.length_cons] at a5 ⊢; omega
       ·exact h2 u hu
    ·rename_i ht
     injection h with h; injection h with e1 h; injection h with e2 e3
     subst e1; subst e2; subst e3
     refine ⟨?_, a3 x (by rw [hr]; simp), by simpa using h3⟩
     intro u hu
     rcases List.mem_cons.1 hu with rfl | hu
     ·refine ⟨a1, fun e => absurd e ht, ?_, a4, ?_⟩
      ·intro z hz; exact a3 z (by rw [hr]; simp [hz])
      ·simp only [Fm.n, hr, List.length_cons] at a5 ⊢; omega
     ·exact h2 u hu
def wS (st : List Fm) : Nat := (st.map fun t => 1 + szL t.l + szF t.f).sum
def wP : Pt → Nat
 | .done v => v.sz
 | _ => 0
theorem szL_snoc (l : List Vl) (v : Vl) : szL (l ++ [v]) = szL l + v.sz := by
 induction l with
 | nil => simp [szL]
 | cons x l ih => simp only [List.cons_append, szL, ih]; omega
theorem szF_snoc (l : List (ByteArray × Vl)) (v : ByteArray × Vl) : szF (l ++ [v]) = szF l + v.2.sz := by
 induction l with
 | nil => obtain ⟨a, v⟩ := v; simp [szF]
 | cons x l ih => obtain ⟨a, x⟩ := x; simp only [List.cons_append, szF, ih]; omega
theorem zeroV_sz : zeroV.sz = 1 := by simp [zeroV, Vl.sz, szL, szF]
theorem plain_sz (o : Ob) : (plainO o).1.sz = 1 := by
 unfold plainO plainV
 split
 ·exact zeroV_sz
 ·split
  ·simp [Vl.sz, szL, szF]
  ·split
   ·simp [Vl.sz, szL, szF]
   ·split
    ·split <;> simp [Vl.sz, szL, szF]
    ·exact zeroV_sz
theorem Rd.size {O : Om} {left : Nat} {st : List Fm} {p : Pt} {r : Vl × Int} (h : Rd O left st p r) : r.1.sz ≤ left + wS st + wP p + 1 := by
 induction h with
 | fin e =>
   rename_i left st p r
   have key : ∀ n, r = (zeroV, n) → r.1.sz ≤ left + wS st + wP p + 1 := fun n e => by rw [e, zeroV_sz]; omega
   cases p with
   | obj x =>
     simp only [rstep] at e
     split at e
     ·injection e with e; exact key _ e.symm
     ·split at e
      ·injection e with e; exact key _ e.symm
      ·split at e
       ·split at e
        ·injection e with e; exact key _ e.symm
        ·cases e
       ·split at e
        ·cases e
        ·injection e with e; exact key _ e.symm
   | done v =>
     cases st with
     | nil => simp only [rstep] at e; injection e with e; subst e; simp only [wP]; omega
     | cons t st => simp only [rstep] at e; cases e
   | next =>
     cases st with
     | nil => simp only [rstep] at e; injection e with e; exact key _ e.symm
     | cons t st =>
       simp only [rstep] at e
       split at e
       ·cases e
       ·split at e
        ·split at e
         ·injection e with e; exact key _ e.symm
         ·split at e
          ·injection e with e; exact key _ e.symm
          ·cases e
        ·cases e
 | go e H ih =>
   rename_i left left' st st' p p' r
   refine Nat.le_trans ih ?_
   cases p with
   | obj x =>
     simp only [rstep] at e
     split at e
     ·cases e
     ·split at e
      ·cases e
      ·split at e
       ·split at e
        ·cases e
        ·injection e with e; injection e with e1 e; injection e with e2 e3
         subst e1; subst e2; subst e3
         simp only [wS, wP, List.map_cons, List.sum_cons, szL, szF]
         omega
       ·split at e
        ·injection e with e; injection e with e1 e; injection e with e2 e3
         subst e1; subst e2; subst e3
         simp only [wP, plain_sz]
         omega
        ·cases e
   | done v =>
     cases st with
     | nil => simp only [rstep] at e; cases e
     | cons t st =>
       simp only [rstep] at e
       injection e with e; injection e with e1 e; injection e with e2 e3
       subst e1; subst e2; subst e3
       unfold Fm.add
       split
       ·simp only [wS, wP, List.map_cons, List.sum_cons, szL_snoc]; omega
       ·simp only [wS, wP, List.map_cons, List.sum_cons, szF_snoc]; omega
   | next =>
     cases st with
     | nil => simp only [rstep] at e; cases e
     | cons t st =>
       simp only [rstep] at e
       split at e
       ·injection e with e; injection e with e1 e; injection e with e2 e3
        subst e1; subst e2; subst e3
        simp only [wS, wP, List.map_cons, List.sum_cons, Fm.val, Vl.sz]; omega
       ·split at e
        ·split at e
         ·cases e
         ·split at e
          ·cases e
          ·injection e with e; injection e with e1 e; injection e with e2 e3
           subst e1; subst e2; subst e3
           simp only [wS, wP, List.map_cons, List.sum_cons]; omega
        ·injection e with e; injection e with e1 e; injection e with e2 e3
         subst e1; subst e2; subst e3
         simp only [wS, wP, List.map_cons, List.sum_cons]; omega
end Go.Proofs.YthfopcdammlmfaaGreatDoor.G
