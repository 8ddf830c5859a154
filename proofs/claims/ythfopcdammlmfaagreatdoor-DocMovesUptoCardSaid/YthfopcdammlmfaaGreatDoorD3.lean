/- The reader: a value, the walk. -/
/- Merged by a program of ours: R3 R4 R5 R6 R7. -/
import Derived.Test.YthfopcdammlmfaaGreatDoorD2
import Derived.Test.YthfopcdammlmfaaGreatDoorA9
set_option maxRecDepth 10000
set_option linter.all false
set_option linter.unusedSimpArgs false
set_option linter.unusedVariables false
/- The reader: plain values. -/
namespace Go.Proofs.YthfopcdammlmfaaGreatDoor
open Go.Tm
def strOf (b : List Nat) : ByteArray := ⟨(b.map UInt8.ofNat).toArray⟩
def plainV (tag nr : Nat) (ws : List Nat) : Vl × Bool :=
 if 0 < nr then (zeroV, false) else if tag = 1 then (.mk 1 0 .empty [] [], decide (ws.length = 0))
 else if (tag = 2 ∨ tag = 3) ∧ ws.length = 1 then (.mk tag (IntKind.i64.wrap ((ws.getD 0 0 : Nat) : Int)) .empty [] [], true)
 else if tag = 4 then (match upk ws with | none => (.mk 4 0 .empty [] [], false) | some b => (.mk 4 0 (strOf b) [] [], true))
 else (zeroV, false)
def flat (V : Vl) : Value := .agg #[.int .i64 V.k, .int .i64 V.n, .string V.s, .slice none 0 0, .slice none 0 0]
variable {E : Env} (hE : EOk E)
include hE
theorem plain_at {h : Heap} (hW : WF E h) {G : Mem} (hG : Frz E G h) {tag nr : Nat} {ws : List Nat} (hl8 : ws.length ≤ 8192) (hl : ∀ y, y ∈ ws → y < 18446744073709551616) {ra : Option Addr} {rc : Nat} {sv : Value} (hs : Sl E G 1 ws.length (u64s ws) sv) :
 CallsTo E 132 [.agg #[.int .i64 tag, .slice ra nr rc, sv]] h fun v h' => v = .tuple #[flat (plainV tag nr ws).1, .bool (plainV tag nr ws).2] ∧ Keep h h' ∧ WF E h' := by
 obtain ⟨sa, sc, rfl, hc1, hc2⟩ := hs.slice
 refine en hE Tryz.func132 rfl rfl Tryz.ntmps132 rfl (by decide +kernel) (rs := [.cell 2 25, .tmp 3]) rfl ?_
 simp only [push_cast, seval, hE.P, zz, hW.nb, hW.nb0]
 have w0 : WF E ((h.push (.cells [.int .i64 tag, .slice ra nr rc, .slice sa ws.length sc] 127 true)).push (.cells [.int .i64 0, .int .i64 0, .string .empty, .slice none 0 0, .slice none 0 0] 25 true)) := (hW.push _).push _
 have k0 : Keep h ((h.push (.cells [.int .i64 tag, .slice ra nr rc, .slice sa ws.length sc] 127 true)).push (.cells [.int .i64 0, .int .i64 0, .string .empty, .slice none 0 0, .slice none 0 0] 25 true)) := ((Keep.refl h).push hW).push (hW.push _)
 have g0 : ((h.push (.cells [.int .i64 tag, .slice ra nr rc, .slice sa ws.length sc] 127 true)).push (.cells [.int .i64 0, .int .i64 0, .string .empty, .slice none 0 0, .slice none 0 0] 25 true)).get h.next = some (.cells [.int .i64 tag, .slice ra nr rc, .slice sa ws.length sc] 127 true) := by
  rw [get_push, if_neg (by simp), get_push, if_pos rfl]
 have g1 : ((h.push (.cells [.int .i64 tag, .slice ra nr rc, .slice sa ws.length sc] 127 true)).push (.cells [.int .i64 0, .int .i64 0, .string .empty, .slice none 0 0, .slice none 0 0] 25 true)).get (h.next + 1) = some (.cells [.int .i64 0, .int .i64 0, .string .empty, .slice none 0 0, .slice none 0 0] 25 true) := by
  rw [get_push, if_pos (by simp)]
 have nb1 : (h.next + 1 < E.base) = False := by have := hW.base; simp; omega
 generalize hH0 : (h.push (.cells [.int .i64 tag, .slice ra nr rc, .slice sa ws.length sc] 127 true)).push (.cells [.int .i64 0, .int .i64 0, .string .empty, .slice none 0 0, .slice none 0 0] 25 true) = H0 at *
 have kp : ∀ o, Keep h (H0.put (h.next + 1) o) := fun o => k0.putNew hW (by omega)
 unfold plainV
 refine kif_split (fun hb => ?_) (fun hb => ?_)
 ·have h1 : 0 < nr := by have := of_decide_eq_true hb; omega
  simp only [if_pos h1]
  simp only [push_cast, seval, hE.P, zz, g0, g1, hW.nb0, nb1]
  exact ⟨rfl, kp _, w0.put g1⟩
 ·have h1 : ¬ 0 < nr := by have := of_decide_eq_false hb; omega
  simp only [if_neg h1]
  simp only [push_cast, seval, hE.P, zz, g0, g1, hW.nb0, nb1]
  refine kif_split (fun hb => ?_) (fun hb => ?_)
  ·have h2 : tag = 1 := by simp at hb; omega
   simp only [if_pos h2]
   simp only [push_cast, seval, hE.P, zz, g0, g1, hW.nb0, nb1]
   refine ⟨?_, kp _, w0.put g1⟩
   have : (((ws.length : Nat) : Int) == 0) = decide (ws.length = 0) := by rw [Bool.eq_iff_iff]; simp
   rw [this]; rfl
  ·have h2 : tag ≠ 1 := by simp at hb; omega
   simp only [if_neg h2]
   simp only [push_cast, seval, hE.P, zz, g0, g1, hW.nb0, nb1]
   refine kguard_cut (fun tm h' => fget tm 23 = .bool (decide ((tag = 2 ∨ tag = 3) ∧ ws.length = 1)) ∧ fget tm 1 = .pointer (some ⟨h.next, 0, none⟩) ∧ fget tm 2 = .pointer (some ⟨h.next + 1, 0, none⟩) ∧ h' = H0) ?_ ?_
   rotate_left
   ·have c2 : ((tag : Int) == 2) = decide (tag = 2) := by rw [Bool.eq_iff_iff]; simp; omega
    have c3 : ((tag : Int) == 3) = decide (tag = 3) := by rw [Bool.eq_iff_iff]; simp; omega
    have c4 : ((ws.length : Int) == 1) = decide (ws.length = 1) := by rw [Bool.eq_iff_iff]; simp; omega
    rw [c2]
    by_cases d2 : tag = 2 <;> by_cases d3 : tag = 3 <;> by_cases d4 : ws.length = 1 <;> (try omega) <;> simp only [push_cast, seval, hE.P, zz, g0, hW.nb0, c2, c3, c4, d2, d3, d4]
   ·rintro tm h' ⟨f23, f1, f2, rfl⟩
    simp only [push_cast, seval, hE.P, zz, f23]
    refine kif_split (fun hb => ?_) (fun hb => ?_)
    ·have h3 := of_decide_eq_true hb
     simp only [if_pos h3]
     simp only [push_cast, seval, hE.P, zz, f1, f2, g0, g1, hW.nb0, nb1]
     refine wdraw_pairs [] (by rw [hE.P]; decide +kernel) (by rw [hE.P]; decide +kernel) (by rw [hE.P]; decide +kernel) ?_
     simp only [push_cast, seval, hE.P, zz, f1, f2, g0, g1, hW.nb0, nb1]
     have hp1 : 0 < ws.length := by omega
     obtain ⟨a1, c1, hsl, hsp, hac⟩ := hs.elem (hG.keep k0) hp1
     injection hsl with e1 e2 e3; subst e1
     rw [u64s_at hp1, Nat.zero_mul, Nat.add_zero] at hac
     rw [ia50 hsp (by omega) (by omega), kpure_some]
     have hwd : ws.getD 0 0 = ws[0] := by simp [List.getD_eq_getElem?_getD, hp1]
     rw [hwd]
     simp only [push_cast, seval, hE.P, zz, f1, f2, g0, g1, hW.nb0, nb1, ↓hac]
     refine ⟨fun p hp => (by cases hp), ?_⟩
     exact ⟨rfl, kp _, w0.put g1⟩
    ·have h3 := of_decide_eq_false hb
     simp only [if_neg h3]
     simp only [push_cast, seval, hE.P, zz, f1, f2, g0, g1, hW.nb0, nb1]
     refine kif_split (fun hb => ?_) (fun hb => ?_)
     ·have h4 : tag = 4 := by simp at hb; omega
      simp only [if_pos h4]
      simp only [push_cast, seval, hE.P, zz, f1, f2, g0, g1, hW.nb0, nb1]
      refine (unpackedT_at hE w0 (hG.keep k0) hl8 hl hs).mono ?_
      rintro v h2 ⟨hv, k2, w2⟩
      have g1' := k2.get _ _ g1
      have kp2 : ∀ o, Keep h (h2.put (h.next + 1) o) := fun o => (k0.trans k2).putNew hW (by omega)
      cases hu : upk ws with
      | none =>
        rw [hu] at hv
        simp only at hv
        subst hv
        simp only [push_cast, seval, hE.P, zz, f1, f2, g0, g1', hW.nb0, nb1]
        exact ⟨rfl, kp2 _, w2.put g1'⟩
      | some b =>
        rw [hu] at hv
        simp only at hv
        subst hv
        simp only [push_cast, seval, hE.P, zz, f1, f2, g0, g1', hW.nb0, nb1]
        exact ⟨rfl, kp2 _, w2.put g1'⟩
     ·have h4 : tag ≠ 4 := by simp at hb; omega
      simp only [if_neg h4]
      simp only [push_cast, seval, hE.P, zz, f1, f2, g0, g1, hW.nb0, nb1]
      exact ⟨rfl, kp _, w0.put g1⟩
end Go.Proofs.YthfopcdammlmfaaGreatDoor
/- The reader: a name. -/
namespace Go.Proofs.YthfopcdammlmfaaGreatDoor
open Go.Tm
def plainO (o : Ob) : Vl × Bool := plainV o.tag o.refs (o.ws.drop o.refs)
def nameO : Option Ob → ByteArray × Int
 | none => (.empty, 6)
 | some o => if (plainO o).2 = true ∧ (plainO o).1.k = 4 then ((plainO o).1.s, 0) else (.empty, 4)
variable {E : Env} (hE : EOk E)
include hE
end Go.Proofs.YthfopcdammlmfaaGreatDoor
/- THE READER'S PLAIN LAW: what reading does, step by step; what a good value's objects are read as. No program in sight. -/
namespace Go.Proofs.YthfopcdammlmfaaGreatDoor
open Go.Tm
structure Fm where
 tag : Nat
 refs : List Nat
 name : ByteArray
 l : List Vl
 f : List (ByteArray × Vl)
inductive Pt where
 | obj (x : Nat)
 | done (v : Vl)
 | next
def Fm.val (t : Fm) : Vl := .mk t.tag 0 .empty t.l t.f
def Fm.add (t : Fm) (v : Vl) : Fm := if t.tag = 5 then { t with l := t.l ++ [v] } else { t with f := t.f ++ [(t.name, v)] }
def rstep (O : List Ob) (left : Nat) (st : List Fm) : Pt → (Vl × Int) ⊕ (Nat × List Fm × Pt)
 | .obj x =>
   if left = 0 ∨ 8 < st.length then .inl (zeroV, 4) else
   match obj O x with
   | none => .inl (zeroV, 6)
   | some o =>
     if o.tag = 5 ∨ o.tag = 6 then
      if o.refs < o.ws.length ∨ 64 < o.refs ∨ (o.tag = 6 ∧ o.refs % 2 = 1) then .inl (zeroV, 4)
      else .inr (left - 1, ⟨o.tag, o.ws.take o.refs, .empty, [], []⟩ :: st, .next)
     else if (plainO o).2 = true then .inr (left - 1, st, .done (plainO o).1) else .inl (zeroV, 4)
 | .done v =>
   match st with
   | [] => .inl (v, 0)
   | t :: st => .inr (left, t.add v :: st, .next)
 | .next =>
   match st with
   | [] => .inl (zeroV, 4)
   | t :: st =>
     match t.refs with
     | [] => .inr (left, st, .done t.val)
     | x :: r =>
       if t.tag = 6 then
        if (nameO (obj O x)).2 ≠ 0 then .inl (zeroV, (nameO (obj O x)).2)
        else match r with
         | [] => .inl (zeroV, 4)
         | y :: r => .inr (left, { t with name := (nameO (obj O x)).1, refs := r } :: st, .obj y)
       else .inr (left, { t with refs := r } :: st, .obj x)
inductive Rd (O : List Ob) : Nat → List Fm → Pt → Vl × Int → Prop
 | fin {left : Nat} {st : List Fm} {p : Pt} {r : Vl × Int} (h : rstep O left st p = .inl r) : Rd O left st p r
 | go {left left' : Nat} {st st' : List Fm} {p p' : Pt} {r : Vl × Int} (h : rstep O left st p = .inr (left', st', p')) (H : Rd O left' st' p' r) : Rd O left st p r
def numsV (v : Vl) : Bool := decide (-9223372036854775808 ≤ v.n) && decide (v.n ≤ 9223372036854775807)
def There (O : List Ob) (b : Nat) (B : List Ob) : Prop := ∀ i o, B[i]? = some o → O[b + i]? = some o
def ReadsOk (O : List Ob) (V : Vl) : Prop := ∀ (b left : Nat) (st : List Fm) (r : Vl × Int), There O b (obs b V) → V.sz ≤ left → (st.length : Int) + depthV V ≤ 8 → Rd O (left - V.sz) st (.done V) r → Rd O left st (.obj (hOf (b + (obs b V).length - 1))) r
end Go.Proofs.YthfopcdammlmfaaGreatDoor
/- THE READER's STATES: what holds of them, plain. No program in sight. -/
namespace Go.Proofs.YthfopcdammlmfaaGreatDoor
open Go.Tm
def OkO (O : List Ob) : Prop := ∀ o, o ∈ O → o.tag < 256 ∧ o.refs ≤ o.ws.length ∧ o.ws.length < 8192 ∧ ∀ y, y ∈ o.ws → y < 18446744073709551616
def Fm.n (t : Fm) : Nat := t.l.length + t.f.length + t.refs.length
def Fm.ok (m : Nat) (t : Fm) : Prop := (t.tag = 5 ∨ t.tag = 6) ∧ (t.tag = 6 → t.refs.length % 2 = 0) ∧ (∀ y, y ∈ t.refs → y < 18446744073709551616) ∧ t.name.size ≤ 70000 ∧ t.n ≤ m
def OkSt (st : List Fm) : Pt → Prop
 | .obj x => (∀ t, t ∈ st → t.ok 63) ∧ x < 18446744073709551616 ∧ st.length ≤ 9
 | .done v => (∀ t, t ∈ st → t.ok 63) ∧ st.length ≤ 9
 | .next => (∃ t s, st = t :: s ∧ t.ok 64 ∧ ∀ t, t ∈ s → t.ok 63) ∧ st.length ≤ 9
def wS (st : List Fm) : Nat := (st.map fun t => 1 + szL t.l + szF t.f).sum
def wP : Pt → Nat
 | .done v => v.sz
 | _ => 0
end Go.Proofs.YthfopcdammlmfaaGreatDoor
namespace Go.Proofs.YthfopcdammlmfaaGreatDoor
open Go.Tm
def Fr1 (E : Env) (G : Mem) (h : Heap) (lo : Nat) (t : Fm) (c : List Value) (bs : List Nat) : Prop :=
 ∃ rv lv fv lc fc, c = [.int .i64 t.tag, rv, .string t.name, .int .i64 t.tag, .int .i64 0, .string .empty, lv, fv] ∧ Sl E G 1 t.refs.length (u64s t.refs) rv ∧
  Own h 25 5 lo t.l.length lc lv ∧ RepLs E G t.l lc ∧ Own h 91 6 lo t.f.length fc fv ∧ RepFs E G t.f fc ∧ bs = slB lv ++ slB fv
def Frs (E : Env) (G : Mem) (h : Heap) (lo : Nat) : List Fm → List Value → List Nat → Prop
 | [], cs, bs => cs = [] ∧ bs = []
 | t :: st, cs, bs => ∃ c0 c1 b0 b1, cs = c0 ++ c1 ∧ bs = b1 ++ b0 ∧ Frs E G h lo st c0 b0 ∧ Fr1 E G h lo t c1 b1
structure RdM (E : Env) (L : HL) (O : List Ob) (h0 : Heap) (rb : Nat) (left : Int) (st : List Fm) (G : Mem) (tm : Tr Value) (h : Heap) : Prop where
 rbl : rb < h0.next
 wf : WF E h
 frz : Frz E G h
 dom : ∀ b c, G b = some c → h0.next + 3 ≤ b
 lo : ∀ b o, b < rb → h0.get b = some o → h.get b = some o
 next : h0.next + 3 ≤ h.next
 rd : h.get rb = some (.cells [.pointer (some ⟨L.ph, 0, none⟩), .int .i64 left] 125 true)
 res : h.get h0.next = some (.cells [.int .i64 0, .int .i64 0, .string .empty, .slice none 0 0, .slice none 0 0] 25 true)
 ob : ∃ a b c, h.get (h0.next + 2) = some (.cells [a, b, c] 127 true)
 stk : ∃ sv cs bs, fget tm 6 = sv ∧ Own h 190 8 (h0.next + 3) st.length cs sv ∧ Frs E G h (h0.next + 3) st cs bs ∧ (slB sv ++ bs).Nodup ∧ ∀ b, b ∈ slB sv ++ bs → G b = none
 f0 : fget tm 0 = .pointer (some ⟨rb, 0, none⟩)
 f4 : fget tm 4 = .pointer (some ⟨h0.next, 0, none⟩)
 f7 : fget tm 7 = .pointer (some ⟨h0.next + 1, 0, none⟩)
 f8 : fget tm 8 = .pointer (some ⟨h0.next + 2, 0, none⟩)
def Kr (E : Env) (O : List Ob) (h0 : Heap) (rb x : Nat) : Value → Heap → Prop := fun v h' => ∃ V e c G, v = .tuple #[.agg c.toArray, .int .i64 e] ∧ Rd O 2048 [] (.obj x) (V, e) ∧ Rep E G V c ∧ Frz E G h' ∧ (∀ b c, G b = some c → h0.next + 3 ≤ b) ∧
 (∀ b o, b < rb → h0.get b = some o → h'.get b = some o) ∧ h0.next ≤ h'.next ∧ WF E h'
def scopeIn : Code → Code
 | .scope b => b
 | .seq a b => match scopeIn a with
   | .skip => scopeIn b
   | c => c
 | _ => .skip
noncomputable def readB : Code := scopeIn (Tryz.f104.body.getD .skip)
def JJ (E : Env) (L : HL) (O : List Ob) (h0 : Heap) (rb x : Nat) (p : Pt) (n : Nat) (tm : Tr Value) (h : Heap) : Prop :=
 ∃ (left : Nat) (st : List Fm) (G : Mem), left ≤ 2048 ∧ OkSt st p ∧ left * 100 + 3 * st.length + (match p with | .obj _ => 0 | .next => 1 | .done _ => 2) ≤ n ∧ (∀ r, Rd O left st p r → Rd O 2048 [] (.obj x) r) ∧ RdM E L O h0 rb left st G tm h ∧
  ∃ vc, h.get (h0.next + 1) = some (.cells vc 25 true) ∧ vc.length = 5 ∧ (match p with | .obj y => fget tm 1 = .int .u64 y | .next => True | .done v => Rep E G v vc)
def Jr (E : Env) (L : HL) (O : List Ob) (h0 : Heap) (rb x : Nat) : Nat → Nat → Cont
 | 0 => fun n tm h => ∃ y, JJ E L O h0 rb x (.obj y) n tm h
 | 1 => fun n tm h => JJ E L O h0 rb x .next n tm h
 | 2 => fun n tm h => ∃ v, JJ E L O h0 rb x (.done v) n tm h
 | _ => fun _ _ _ => False
def LabOk (E : Env) (L : HL) (O : List Ob) (h0 : Heap) (rb x : Nat) (l : Nat) (c : Code) : Prop := ∀ n tm h, Jr E L O h0 rb x l n tm h → wpc E c (kgoto (Jr E L O h0 rb x) n (kleave E [.cell 4 25, .tmp 5] (Kr E O h0 rb x))) tm h
end Go.Proofs.YthfopcdammlmfaaGreatDoor
