/- What is built is read; the first sentence of the law. -/
/- Merged by a program of ours: R8 R9 R10 R11 R12 R13. -/
import Derived.Test.YthfopcdammlmfaaGreatDoorD3
import Derived.Test.YthfopcdammlmfaaGreatDoorD1
import Derived.Test.YthfopcdammlmfaaGreatDoorB3
import Derived.Test.YthfopcdammlmfaaGreatDoorC4
set_option maxRecDepth 10000
set_option linter.all false
set_option linter.unusedSimpArgs false
set_option linter.unusedVariables false
/- The reader: what is next. -/
namespace Go.Proofs.YthfopcdammlmfaaGreatDoor
open Go.Tm
variable {E : Env} (hE : EOk E)
include hE
end Go.Proofs.YthfopcdammlmfaaGreatDoor
/- The reader: what is done. -/
namespace Go.Proofs.YthfopcdammlmfaaGreatDoor
open Go.Tm
variable {E : Env} (hE : EOk E)
include hE
end Go.Proofs.YthfopcdammlmfaaGreatDoor
/- The reader: an object. -/
namespace Go.Proofs.YthfopcdammlmfaaGreatDoor
open Go.Tm
variable {E : Env} (hE : EOk E)
include hE
end Go.Proofs.YthfopcdammlmfaaGreatDoor
/- The reader: reading a value. -/
namespace Go.Proofs.YthfopcdammlmfaaGreatDoor
open Go.Tm
variable {E : Env} (hE : EOk E)
include hE
end Go.Proofs.YthfopcdammlmfaaGreatDoor
/- Reading a value, and what the law asks of it. -/
namespace Go.Proofs.YthfopcdammlmfaaGreatDoor
open Go.Tm
def ReadO (O : List Ob) (x : Nat) (V : Vl) (e : Int) : Prop := ∃ V0 e0, Rd O 2048 [] (.obj x) (V0, e0) ∧ ((e0 ≠ 0 ∧ V = zeroV ∧ e = e0) ∨ (e0 = 0 ∧ goodV V0 ≠ 0 ∧ V = zeroV ∧ e = 4) ∨ (e0 = 0 ∧ goodV V0 = 0 ∧ V = V0 ∧ e = 0))
variable {E : Env} (hE : EOk E)
include hE
end Go.Proofs.YthfopcdammlmfaaGreatDoor
namespace Go.Proofs.YthfopcdammlmfaaGreatDoor
open Go.Tm
variable {E : Env} (hE : EOk E)
include hE
theorem sameL_at {V : Vl} {G G2 : Mem} {h : Heap} (hW : WF E h) (hG : Frz E G h) (hG2 : Frz E G2 h) {c d : List Value} (hV : Rep E G V c) (hV2 : Rep E G2 V d) :
 CallsTo E 50 [.agg c.toArray, .agg d.toArray] h fun v h' => v = .bool true ∧ Keep h h' ∧ WF E h' := by
 have hV0 := hV
 have hV20 := hV2
 obtain ⟨sl, sf, cl, cf, rfl, hsl, hsf, _⟩ := hV.cells
 obtain ⟨va, vk, rfl, _, _⟩ := hsl.slice
 obtain ⟨wa, wk, rfl, _, _⟩ := hsf.slice
 obtain ⟨sl', sf', cl', cf', rfl, hsl', hsf', _⟩ := hV2.cells
 obtain ⟨va', vk', rfl, _, _⟩ := hsl'.slice
 obtain ⟨wa', wk', rfl, _, _⟩ := hsf'.slice
 have nb0 : (h.next < E.base) = False := by have := hW.base; simp; omega
 refine en hE Tryz.func50 rfl rfl Tryz.ntmps50 rfl (by decide +kernel) (rs := [.tmp 4]) rfl ?_
 simp only [push_cast, seval, hE.P, zz, hW.nb, hW.nb0]
 have k1 := ((Keep.refl h).push (o := .cells [.int .i64 V.k, .int .i64 V.n, .string V.s, .slice va V.l.length vk, .slice wa V.f.length wk] 25 true) hW).push (o := .cells [.int .i64 V.k, .int .i64 V.n, .string V.s, .slice va' V.l.length vk', .slice wa' V.f.length wk'] 25 true) (hW.push _)
 have w1 := (hW.push (.cells [.int .i64 V.k, .int .i64 V.n, .string V.s, .slice va V.l.length vk, .slice wa V.f.length wk] 25 true)).push (.cells [.int .i64 V.k, .int .i64 V.n, .string V.s, .slice va' V.l.length vk', .slice wa' V.f.length wk'] 25 true)
 refine (same_at hE V.sz V (Nat.le_refl _) w1 (hG.keep k1) (hG2.keep k1) hV0 hV20).mono ?_
 rintro v h2 ⟨rfl, k2, w2⟩
 simp only [push_cast, seval, hE.P, zz]
 exact ⟨k1.trans k2, w2⟩
omit hE in
theorem nilH (a : Addr) : anil Tryz.prog true 28 (.pointer (some a)) (.pointer none) = some false := by simp [anil, Tryz.underlying28]
theorem I_at {h : Heap} (hW : WF E h) {n : Int} : CallsTo E 37 [.int .i64 n] h fun v h' => v = .agg #[.int .i64 3, .int .i64 n, .string .empty, .slice none 0 0, .slice none 0 0] ∧ Keep h h' ∧ WF E h' := by
 have nb0 : (h.next < E.base) = False := by have := hW.base; simp; omega
 refine en hE Tryz.func37 rfl rfl Tryz.ntmps37 rfl (by decide +kernel) (rs := [.cell 2 25]) rfl ?_
 simp only [push_cast, seval, hE.P, zz, hW.nb, hW.nb0]
 exact ⟨(Keep.refl h).push hW, hW.push _⟩
theorem L_at {h : Heap} (hW : WF E h) {a : Option Addr} {n k : Nat} : CallsTo E 36 [.slice a n k] h fun v h' => v = .agg #[.int .i64 5, .int .i64 0, .string .empty, .slice a n k, .slice none 0 0] ∧ Keep h h' ∧ WF E h' := by
 have nb0 : (h.next < E.base) = False := by have := hW.base; simp; omega
 refine en hE Tryz.func36 rfl rfl Tryz.ntmps36 rfl (by decide +kernel) (rs := [.cell 2 25]) rfl ?_
 simp only [push_cast, seval, hE.P, zz, hW.nb, hW.nb0]
 exact ⟨(Keep.refl h).push hW, hW.push _⟩
theorem D_at {h : Heap} (hW : WF E h) {nm : ByteArray} {k n : Int} {s : ByteArray} {a b : Option Addr} {l1 k1 l2 k2 : Nat} : CallsTo E 35 [.string nm, .agg #[.int .i64 k, .int .i64 n, .string s, .slice a l1 k1, .slice b l2 k2]] h fun v h' =>
 ∃ bl, v = .agg #[.int .i64 6, .int .i64 0, .string .empty, .slice none 0 0, .slice (some ⟨bl, 0, none⟩) 1 1] ∧ h.next ≤ bl ∧ h'.get bl = some (.cells [.string nm, .int .i64 k, .int .i64 n, .string s, .slice a l1 k1, .slice b l2 k2] 91 true) ∧ Keep h h' ∧ WF E h' := by
 have nb0 : (h.next < E.base) = False := by have := hW.base; simp; omega
 have nb1 : (h.next + 1 < E.base) = False := by have := hW.base; simp; omega
 refine en hE Tryz.func35 rfl rfl Tryz.ntmps35 rfl (by decide +kernel) (rs := [.cell 4 25]) rfl ?_
 simp only [push_cast, seval, hE.P, zz, hW.nb, hW.nb0]
 rw [bs23 rfl, kalloc_some]
 have nb2 : (h.next + 1 + 1 < E.base) = False := by have := hW.base; simp; omega
 simp only [push_cast, seval, hE.P, zz, hW.nb, hW.nb0, nb1, nb2]
 have w2 := (hW.push (.cells [.int .i64 k, .int .i64 n, .string s, .slice a l1 k1, .slice b l2 k2] 25 true)).push (.cells [.int .i64 0, .int .i64 0, .string .empty, .slice none 0 0, .slice none 0 0] 25 true)
 have k3 := (((Keep.refl h).push (o := .cells [.int .i64 k, .int .i64 n, .string s, .slice a l1 k1, .slice b l2 k2] 25 true) hW).push (o := .cells [.int .i64 0, .int .i64 0, .string .empty, .slice none 0 0, .slice none 0 0] 25 true) (hW.push _)).push (o := .cells [.string nm, .int .i64 k, .int .i64 n, .string s, .slice a l1 k1, .slice b l2 k2] 91 true) w2
 refine ⟨_, rfl, by omega, by rw [if_neg (by omega), if_pos rfl], k3.putNew hW (by omega), (w2.push _).put (o' := .cells [.int .i64 0, .int .i64 0, .string .empty, .slice none 0 0, .slice none 0 0] 25 true) ?_⟩
 rw [get_push, if_neg (by simp), get_push, if_pos (by simp)]
def v3 : Vl := .mk 3 1 .empty [] []
def v5 : Vl := .mk 5 0 .empty [v3] []
def vA : Vl := .mk 6 0 .empty [] [(⟨#[97]⟩, v5)]
omit hE in
theorem parts_vA : vA.parts = [v5] := by simp [vA, Vl.parts, Vl.k, Vl.f]
omit hE in
theorem parts_v5 : v5.parts = [v3] := by simp [v5, Vl.parts, Vl.k, Vl.l]
omit hE in
theorem parts_v3 : v3.parts = [] := by simp [v3, Vl.parts, Vl.k]
omit hE in
theorem all_vA (p : Vl → Bool) : allV p vA = (p vA && (p v5 && p v3)) := by
 rw [allV_eq, parts_vA, List.all_cons, List.all_nil, allV_eq p v5, parts_v5, List.all_cons, List.all_nil, allV_eq p v3, parts_v3, List.all_nil]
 simp
omit hE in
theorem depth_vA : depthV vA = 2 := by
 rw [depthV_eq, parts_vA, List.map_cons, List.map_nil, depthV_eq v5, parts_v5, List.map_cons, List.map_nil, depthV_eq v3]
 simp only [vA, v5, v3, Vl.k, maxL]
 decide
omit hE in
theorem size_vA : sizeV vA = 8 := by
 rw [sizeV_eq, parts_vA, List.map_cons, List.map_nil, sizeV_eq v5, parts_v5, List.map_cons, List.map_nil, sizeV_eq v3, parts_v3]
 have d1 : digitsN 1 = 1 := by rw [digitsN_eq]; rfl
 have d2 : digitsN 2 = 1 := by rw [digitsN_eq]; rfl
 have z1 : (⟨#[97]⟩ : ByteArray).size = 1 := rfl
 simp [vA, v5, v3, Vl.k, Vl.n, Vl.l, Vl.f, headV, turnedN, d1, d2, z1]
omit hE in
theorem vA_good : goodV vA = 0 := by
 have f1 : allV formedV vA = true := by rw [all_vA]; decide +kernel
 have f2 : allV spelledV vA = true := by rw [all_vA]; decide +kernel
 have f3 : allV fewV vA = true := by rw [all_vA]; decide +kernel
 unfold goodV
 rw [f1, f2, f3, depth_vA, size_vA]
 decide
end Go.Proofs.YthfopcdammlmfaaGreatDoor
