/- Building a value. -/
/- Merged by a program of ours: H17 H18. -/
import Derived.Test.YthfopcdammlmfaaGreatDoorC5
set_option maxRecDepth 10000
set_option linter.all false
set_option linter.unusedSimpArgs false
set_option linter.unusedVariables false
/- How much a value's objects take. -/
namespace Go.Proofs.YthfopcdammlmfaaGreatDoor
open Go.Tm
theorem packW_textW (s : ByteArray) : ((packW s).length : Int) = textW s := by rw [packW_len]; unfold textW; omega
theorem formed_l {V : Vl} (h : formedV V = true) : (V.k ≠ 5 → V.l = []) ∧ (V.k ≠ 6 → V.f = []) ∧ 1 ≤ V.k ∧ V.k ≤ 6 := by
 unfold formedV at h
 simp only [Bool.and_eq_true] at h
 obtain ⟨⟨⟨h1, h2⟩, h3⟩, h4⟩ := h
 simp at h1 h3
 refine ⟨fun h => ?_, fun h => ?_, by omega, by omega⟩
 ·rcases h3.1 with h5 | h5
  ·exact (h h5).elim
  ·exact h5
 ·rcases h3.2 with h5 | h5
  ·exact (h h5).elim
  ·exact h5
theorem sum_add1 (l : List Vl) : (l.map fun x => 1 + wordsV x).sum = l.length + (l.map wordsV).sum := by
 induction l with
 | nil => rfl
 | cons x l ih => simp only [List.map_cons, List.sum_cons, List.length_cons, ih]; omega
theorem sum_add3 (l : List (ByteArray × Vl)) : (l.map fun x => 3 + textW x.1 + wordsV x.2).sum = 2 * l.length + (l.map fun x => 1 + textW x.1 + wordsV x.2).sum := by
 induction l with
 | nil => rfl
 | cons x l ih => simp only [List.map_cons, List.sum_cons, List.length_cons, ih]; omega
theorem good_parts {V : Vl} (h : goodV V = 0) : allV formedV V = true ∧ allV spelledV V = true ∧ allV fewV V = true ∧ depthV V ≤ 8 ∧ sizeV V ≤ 2048 := by
 unfold goodV at h
 split at h
 ·omega
 ·rename_i h1
  split at h
  ·omega
  ·rename_i h2
   split at h
   ·omega
   ·rename_i h3
    split at h
    ·omega
    ·split at h
     ·omega
     ·exact ⟨by simpa using h1, by simpa using h2, by simpa using h3, by omega, by omega⟩
end Go.Proofs.YthfopcdammlmfaaGreatDoor
namespace Go.Proofs.YthfopcdammlmfaaGreatDoor
open Go.Tm
theorem sum_nn {l : List Int} (h : ∀ x, x ∈ l → 0 ≤ x) : 0 ≤ l.sum := by
 induction l with
 | nil => simp
 | cons x l ih => have := h x (by simp); have := ih (fun y hy => h y (by simp [hy])); simp only [List.sum_cons]; omega
theorem sum_mem {l : List Int} (h : ∀ x, x ∈ l → 0 ≤ x) {x : Int} (hx : x ∈ l) : x ≤ l.sum := by
 induction l with
 | nil => cases hx
 | cons y l ih =>
   have h1 := h y (by simp)
   have h2 := sum_nn (l := l) (fun z hz => h z (by simp [hz]))
   simp only [List.sum_cons]
   rcases List.mem_cons.1 hx with rfl | hx
   ·omega
   ·have := ih (fun z hz => h z (by simp [hz])) hx; omega
theorem head_nn (V : Vl) : 0 ≤ headV V ∧ (V.k = 4 → (V.s.size : Int) ≤ headV V) := by
 have d1 := digitsN_pos (turnedN V.n)
 have d2 := digitsN_pos V.s.size
 have d3 := digitsN_pos V.l.length
 have d4 := digitsN_pos V.f.length
 have d5 : 0 ≤ (V.f.map fun x => digitsN x.1.size + (x.1.size : Int)).sum := sum_nn fun x hx => by
  obtain ⟨y, _, rfl⟩ := List.mem_map.1 hx
  have := digitsN_pos y.1.size
  omega
 unfold headV
 refine ⟨?_, fun h4 => ?_⟩
 ·repeat' split
  all_goals omega
 ·rw [if_neg (by omega), if_neg (by omega), if_pos h4]; omega
theorem size_nn : ∀ (n : Nat) (V : Vl), V.sz ≤ n → 0 ≤ sizeV V := by
 intro n
 induction n with
 | zero => intro V hV; have := sz_eq V; omega
 | succ n ih =>
   intro V hV
   rw [sizeV_eq]
   have h1 := (head_nn V).1
   have h2 : 0 ≤ (V.parts.map sizeV).sum := sum_nn fun x hx => by
    obtain ⟨y, hy, rfl⟩ := List.mem_map.1 hx
    exact ih y (by have := parts_sz hy; omega)
   omega
theorem can_of : ∀ (n : Nat) (V : Vl), V.sz ≤ n → allV formedV V = true → allV fewV V = true → sizeV V ≤ 10000 → allV canB V = true := by
 intro n
 induction n with
 | zero => intro V hV; have := sz_eq V; omega
 | succ n ih =>
   intro V hV hf hw hs
   rw [allV_eq, Bool.and_eq_true] at hf hw ⊢
   rw [List.all_eq_true] at hf hw ⊢
   have h1 := head_nn V
   have hnn : ∀ x, x ∈ V.parts.map sizeV → 0 ≤ x := fun x hx => by
    obtain ⟨y, hy, rfl⟩ := List.mem_map.1 hx
    exact size_nn _ y (Nat.le_refl _)
   rw [sizeV_eq] at hs
   refine ⟨?_, fun x hx => ih x (by have := parts_sz hx; omega) (hf.2 x hx) (hw.2 x hx) ?_⟩
   ·unfold canB
    rw [hw.1, Bool.true_and, decide_eq_true_eq]
    by_cases h4 : V.k = 4
    ·have := sum_nn hnn; have := h1.2 h4; omega
    ·have h2 := hf.1
     unfold formedV at h2
     simp only [Bool.and_eq_true] at h2
     have h3 := h2.1.1.2
     simp at h3
     have h5 : V.s.data.toList = [] := by
      rcases h3.2 with h | h
      ·exact (h4 h).elim
      ·simpa using h
     have h6 : V.s.size = V.s.data.toList.length := by simp
     rw [h6, h5]; simp
   ·have := sum_mem hnn (List.mem_map.2 ⟨x, hx, rfl⟩)
    have := h1.1
    omega
variable {E : Env} (hE : EOk E)
include hE
section
variable {h : Heap} {L : HL} {W nS : Nat} {R : List Nat} {O : List Ob} (H : IsO E h L W nS R O)
include H
def buildO (W nS : Nat) (O : List Ob) (V : Vl) : Value × List Ob :=
 if goodV V = 0 then (if allO O + allO (obs O.length V) ≤ W ∧ O.length + (obs O.length V).length ≤ nS then (.tuple #[.int .u64 (hOf (O.length + (obs O.length V).length - 1)), .int .i64 0], O ++ obs O.length V) else (.tuple #[.int .u64 0, .int .i64 5], O))
 else (.tuple #[.int .u64 0, .int .i64 (goodV V)], O)
end
end Go.Proofs.YthfopcdammlmfaaGreatDoor
