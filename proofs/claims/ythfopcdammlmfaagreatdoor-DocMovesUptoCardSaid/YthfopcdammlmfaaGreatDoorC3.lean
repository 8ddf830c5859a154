/- THE HEAP AS A LIST OF OBJECTS: making and setting. -/
/- Merged by a program of ours: H6 H7 H8. -/
import Derived.Test.YthfopcdammlmfaaGreatDoorC2
set_option maxRecDepth 10000
set_option linter.all false
set_option linter.unusedSimpArgs false
set_option linter.unusedVariables false
/- THE HEAP AS A LIST OF OBJECTS: the walks. -/
namespace Go.Proofs.YthfopcdammlmfaaGreatDoor
open Go.Tm
def obj (O : List Ob) (x : Nat) : Option Ob := if 4294967297 ≤ x then O[x - 4294967297]? else none
variable {E : Env} (hE : EOk E)
include hE
section
variable {h : Heap} {L : HL} {S : HS} {O : List Ob} (H : IsH E h L S) (w : Wf S O) (hW : WF E h)
include H w hW
end
end Go.Proofs.YthfopcdammlmfaaGreatDoor
/- THE HEAP AS A LIST OF OBJECTS: reading and writing. -/
namespace Go.Proofs.YthfopcdammlmfaaGreatDoor
open Go.Tm
def IsO (E : Env) (h : Heap) (L : HL) (W nS : Nat) (R : List Nat) (O : List Ob) : Prop := ∃ S, IsH E h L S ∧ Wf S O ∧ S.W = W ∧ S.nS = nS ∧ S.roots = R
variable {E : Env} (hE : EOk E)
include hE
section
variable {h : Heap} {L : HL} {S : HS} (H : IsH E h L S) (hW : WF E h)
include H hW
theorem put_at {a i x : Nat} (ha : a ≤ 1048576) (hA : isAt S a = true) (hi : i < (headAt S a).size) (hlt : a + 1 + i < S.W) (hx : x < 18446744073709551616) : CallsTo E 170 [.pointer (some ⟨L.pa, 0, none⟩), .int .i64 a, .int .i64 i, .int .u64 x] h fun v h' =>
 v = .int .i64 0 ∧ IsH E h' L { S with w := updN S.w (a + 1 + i) x } ∧ KeepB L h h' ∧ WF E h' := by
 have hw := H.ok.W
 refine en hE Tryz.func170 rfl rfl Tryz.ntmps170 rfl (by decide +kernel) (rs := [.tmp 8]) rfl ?_
 simp only [push_cast, seval, hE.P, wpc_label, wpc_block]
 refine (word_at hE H hW ha (i := i) (by omega) (by omega)).mono ?_
 rintro v h1 ⟨rfl, hk1, hw1⟩
 have H1 := H.keep hk1
 rw [if_pos ⟨hA, by omega, by omega⟩]
 obtain ⟨p, hp⟩ : ∃ p, p = a + 1 + i := ⟨_, rfl⟩
 have hp2 : (a : Int) + 1 + i = p := by omega
 obtain ⟨h2, e2, H2, k2, w2⟩ := H1.wWord hw1 (i := p) (x := x) (by omega) hx
 rw [hp2, ← hp]
 simp only [push_cast, seval, hE.P, wpc_label, wpc_block, ↓H1.lWords]
 rw [ia50 rfl (by omega) (by omega), kpure_some]
 simp only [push_cast, seval, hE.P, wpc_label, wpc_block, e2]
 exact ⟨H2, (hk1.b L).trans k2, w2⟩
end
section
variable {h : Heap} {L : HL} {W nS : Nat} {R : List Nat} {O : List Ob} (H : IsO E h L W nS R O) (hW : WF E h)
include H hW
def headO : Option Ob → Value
 | some o => .tuple #[.int .i64 o.tag, .int .i64 o.refs, .int .i64 o.ws.length, .int .i64 0]
 | none => .tuple #[.int .i64 0, .int .i64 0, .int .i64 0, .int .i64 6]
def refO (i : Int) : Option Ob → Value
 | some o => if 0 ≤ i ∧ i < o.refs then .tuple #[.int .u64 (o.ws.getD i.toNat 0 : Nat), .int .i64 0] else .tuple #[.int .u64 0, .int .i64 1]
 | none => .tuple #[.int .u64 0, .int .i64 6]
omit hE H hW in
theorem refO_in {o : Ob} {n : Nat} (h : n < o.refs) (h2 : n < o.ws.length) : refO (n : Int) (some o) = .tuple #[.int .u64 (o.ws[n] : Nat), .int .i64 0] := by
 unfold refO; simp only
 rw [if_pos ⟨by omega, by omega⟩]; simp [h2]
omit hE H hW in
theorem refO_out {o : Ob} {i : Int} (h : ¬ (0 ≤ i ∧ i < o.refs)) : refO i (some o) = .tuple #[.int .u64 0, .int .i64 1] := by
 unfold refO; simp only
 rw [if_neg h]
def scalarO (O : List Ob) (z : Nat) (i : Int) : Option Ob → Value
 | some o => if 0 ≤ i ∧ i < o.ws.length - o.refs then .tuple #[.int .i64 (posO O z), .int .i64 ((o.refs : Int) + i), .int .i64 0] else .tuple #[.int .i64 0, .int .i64 0, .int .i64 1]
 | none => .tuple #[.int .i64 0, .int .i64 0, .int .i64 6]
def wordO (i : Int) : Option Ob → Value
 | some o => if 0 ≤ i ∧ i < o.ws.length - o.refs then .tuple #[.int .u64 (o.ws.getD (o.refs + i.toNat) 0 : Nat), .int .i64 0] else .tuple #[.int .u64 0, .int .i64 1]
 | none => .tuple #[.int .u64 0, .int .i64 6]
omit hE H hW in
theorem wordO_in {o : Ob} {n : Nat} (h : o.refs + n < o.ws.length) : wordO (n : Int) (some o) = .tuple #[.int .u64 (o.ws[o.refs + n] : Nat), .int .i64 0] := by
 unfold wordO; simp only
 rw [if_pos ⟨by omega, by omega⟩]; simp [h]
omit hE H hW in
theorem wordO_out {o : Ob} {i : Int} (h : ¬ (0 ≤ i ∧ i < o.ws.length - o.refs)) : wordO i (some o) = .tuple #[.int .u64 0, .int .i64 1] := by
 unfold wordO; simp only
 rw [if_neg h]
end
end Go.Proofs.YthfopcdammlmfaaGreatDoor
namespace Go.Proofs.YthfopcdammlmfaaGreatDoor
open Go.Tm
theorem nilw : anil Tryz.prog true 84 .nilIface .nilIface = some true := by simp [anil, Tryz.underlying84]
variable {E : Env} (hE : EOk E)
include hE
section
variable {h : Heap} {L : HL} {W nS : Nat} {R : List Nat} {O : List Ob} (H : IsO E h L W nS R O)
include H
variable (hW : WF E h)
include hW
def setRefO (O : List Ob) (x : Nat) (i : Int) (y : Nat) : Int × List Ob :=
 match obj O x with
 | none => (6, O)
 | some o => if 0 ≤ i ∧ i < o.refs then (if y = 0 ∨ (obj O y).isSome = true then (0, O.set (x - 4294967297) { o with ws := o.ws.set i.toNat y }) else (6, O)) else (1, O)
def setWordO (O : List Ob) (x : Nat) (i : Int) (y : Nat) : Int × List Ob :=
 match obj O x with
 | none => (6, O)
 | some o => if 0 ≤ i ∧ i < o.ws.length - o.refs then (0, O.set (x - 4294967297) { o with ws := o.ws.set (o.refs + i.toNat) y }) else (1, O)
end
end Go.Proofs.YthfopcdammlmfaaGreatDoor
