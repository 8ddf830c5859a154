/- The engine, eighteenth part: a region that draws its order: whatever order, one outcome. (What must come before what; schedules.) -/
import Derived.Test.YtigifaghgnbgoaaGreatEng17
namespace Go.Tm

def preds (o : Oper) : List Nat := (o.after.toList.filter (Region.binds .any)).map (·.on)

def orMask (acc : List Nat) : List Nat → Nat
  | [] => 0
  | p :: l => (2 ^ p ||| acc.getD p 0) ||| orMask acc l

def masks : List Oper → List Nat → List Nat
  | [], acc => acc
  | o :: l, acc => masks l (acc ++ [orMask acc (preds o)])

def bef (M : List Nat) (j i : Nat) : Bool := (M.getD i 0).testBit j

theorem testBit_orMask {acc : List Nat} {j : Nat} : ∀ {ps : List Nat}, (orMask acc ps).testBit j = true → ∃ p, p ∈ ps ∧ (j = p ∨ (acc.getD p 0).testBit j = true)
  | [], h => by simp [orMask] at h
  | p :: l, h => by
    simp only [orMask, Nat.testBit_or, Bool.or_eq_true] at h
    rcases h with (h | h) | h
    · rw [Nat.testBit_two_pow] at h
      exact ⟨p, by simp, .inl (by simpa [eq_comm] using h)⟩
    · exact ⟨p, by simp, .inr h⟩
    · obtain ⟨q, hq, h⟩ := testBit_orMask h
      exact ⟨q, by simp [hq], h⟩

theorem masks_prefix : ∀ (l : List Oper) (acc : List Nat) (k : Nat), k < acc.length → (masks l acc).getD k 0 = acc.getD k 0
  | [], acc, k, _ => rfl
  | o :: l, acc, k, h => by
    simp only [masks]
    rw [masks_prefix l _ k (by simp; omega)]
    simp [List.getD, List.getElem?_append_left h]

/-- Of each operation: what its mask is made of. -/
theorem masks_at : ∀ (l : List Oper) (acc : List Nat) (k : Nat) (o : Oper), l[k]? = some o →
    ∃ acc' : List Nat, acc'.length = acc.length + k ∧ (∀ p, p < acc.length + k → acc'.getD p 0 = (masks l acc).getD p 0) ∧ (masks l acc).getD (acc.length + k) 0 = orMask acc' (preds o)
  | [], acc, k, o, h => by simp at h
  | u :: l, acc, 0, o, h => by
    simp at h; subst h
    refine ⟨acc, by simp, fun p hp => ?_, ?_⟩
    · simp only [masks]; rw [masks_prefix l _ p (by simp at hp ⊢; omega)]
      simp at hp
      simp [List.getD, List.getElem?_append_left hp]
    · simp only [masks]; rw [masks_prefix l _ _ (by simp)]
      simp [List.getD]
  | u :: l, acc, k + 1, o, h => by
    simp at h
    obtain ⟨acc', h1, h2, h3⟩ := masks_at l (acc ++ [orMask acc (preds u)]) k o h
    simp only [List.length_append, List.length_cons, List.length_nil, Nat.zero_add] at h1 h2 h3
    refine ⟨acc', by omega, fun p hp => ?_, ?_⟩
    · simp only [masks]; exact h2 p (by omega)
    · simp only [masks]; rw [← h3]; congr 1; omega

theorem masks_length : ∀ (l : List Oper) (acc : List Nat), (masks l acc).length = acc.length + l.length
  | [], acc => rfl
  | o :: l, acc => by simp only [masks]; rw [masks_length]; simp; omega

theorem bef_pred {O : List Oper} {j i : Nat} (h : bef (masks O []) j i = true) : ∃ o, O[i]? = some o ∧ ∃ p, p ∈ preds o ∧ (j = p ∨ (p < i ∧ bef (masks O []) j p = true)) := by
  have hi : i < O.length := by
    rcases Nat.lt_or_ge i O.length with h' | h'
    · exact h'
    · have e : (masks O [])[i]? = none := List.getElem?_eq_none (by rw [masks_length]; simpa using h')
      simp [bef, List.getD, e] at h
  have ho : O[i]? = some O[i] := List.getElem?_eq_getElem hi
  obtain ⟨acc', h1, h2, h3⟩ := masks_at O [] i _ ho
  simp only [List.length_nil, Nat.zero_add] at h1 h2 h3
  unfold bef at h
  rw [h3] at h
  obtain ⟨p, hp, hj⟩ := testBit_orMask h
  refine ⟨_, ho, p, hp, ?_⟩
  rcases hj with hj | hj
  · exact .inl hj
  · right
    have hpi : p < i := by
      rcases Nat.lt_or_ge p i with h' | h'
      · exact h'
      · have e : acc'[p]? = none := List.getElem?_eq_none (by omega)
        simp [List.getD, e] at hj
    exact ⟨hpi, by unfold bef; rw [← h2 p hpi]; exact hj⟩

/-- Done, and all that must come before. -/
def Closed (O : List Oper) (D : List Nat) : Prop := ∀ i o, i ∈ D → O[i]? = some o → ∀ p, p ∈ preds o → p ∈ D

theorem bef_done {O : List Oper} {D : List Nat} (hD : Closed O D) : ∀ (i j : Nat), i ∈ D → bef (masks O []) j i = true → j ∈ D := by
  intro i
  induction i using Nat.strongRecOn with
  | _ i ih =>
    intro j hi h
    obtain ⟨o, ho, p, hp, hj⟩ := bef_pred h
    have hpD := hD i o hi ho p hp
    rcases hj with rfl | ⟨hlt, hj⟩
    · exact hpD
    · exact ih p hlt j hpD hj

theorem bef_ready {O : List Oper} {D : List Nat} (hD : Closed O D) {i j : Nat} (hr : ∀ o, O[i]? = some o → ∀ p, p ∈ preds o → p ∈ D) (h : bef (masks O []) j i = true) : j ∈ D := by
  obtain ⟨o, ho, p, hp, hj⟩ := bef_pred h
  rcases hj with rfl | ⟨_, hj⟩
  · exact hr o ho _ hp
  · exact bef_done hD p j (hr o ho p hp) hj

def Down (O : List Oper) : Prop := ∀ i o, O[i]? = some o → ∀ p, p ∈ preds o → p < i

theorem bef_lt {O : List Oper} (hO : Down O) : ∀ (i j : Nat), bef (masks O []) j i = true → j < i := by
  intro i
  induction i using Nat.strongRecOn with
  | _ i ih =>
    intro j h
    obtain ⟨o, ho, p, hp, hj⟩ := bef_pred h
    have hpi := hO i o ho p hp
    rcases hj with rfl | ⟨hlt, hj⟩
    · exact hpi
    · have := ih p hlt j hj; omega

/-- An order that the edges allow. -/
def Sched (O : List Oper) : List Nat → List Nat → Prop
  | D, [] => ∀ i, i < O.length → i ∈ D
  | D, i :: r => i < O.length ∧ i ∉ D ∧ (∀ o, O[i]? = some o → ∀ p, p ∈ preds o → p ∈ D) ∧ Sched O (i :: D) r

theorem nodup_le : ∀ (n : Nat) (l : List Nat), l.Nodup → (∀ x, x ∈ l → x < n) → l.length ≤ n
  | 0, l, _, h => by
    cases l with
    | nil => simp
    | cons x l => have := h x (by simp); omega
  | n + 1, l, hn, h => by
    have h1 := nodup_le n (l.erase n) (hn.erase n) (fun x hx => by
      have hx2 := (hn.mem_erase_iff).1 hx
      have := h x hx2.2; have := hx2.1; omega)
    have := List.length_erase (a := n) (l := l)
    split at this <;> omega

theorem le_of_all : ∀ (n : Nat) (l : List Nat), (∀ i, i < n → i ∈ l) → n ≤ l.length
  | 0, _, _ => Nat.zero_le _
  | n + 1, l, h => by
    have h1 := le_of_all n (l.erase n) (fun i hi => (List.mem_erase_of_ne (by omega)).2 (h i (by omega)))
    rw [List.length_erase_of_mem (h n (by omega))] at h1
    have : 0 < l.length := List.length_pos_of_mem (h n (by omega))
    omega

theorem least_not (P : Nat → Prop) : ∀ n, P n → ∃ i, i ≤ n ∧ P i ∧ ∀ j, j < i → ¬ P j := by
  intro n
  induction n using Nat.strongRecOn with
  | _ n ih =>
    intro h
    by_cases hx : ∃ j, j < n ∧ P j
    · obtain ⟨j, hj, hP⟩ := hx
      obtain ⟨i, h1, h2, h3⟩ := ih j hj hP
      exact ⟨i, by omega, h2, h3⟩
    · exact ⟨n, Nat.le_refl _, h, fun j hj hP => hx ⟨j, hj, hP⟩⟩

theorem go_sched {ops : Array Oper} (hO : Down ops.toList) : ∀ (fuel t : Nat) (listed : Array Bool) (acc : List Nat), listed.size = ops.size → (∀ i, i < ops.size → (listed.getD i true = true ↔ i ∈ acc)) →
    (∀ i, i ∈ acc → i < ops.size) → acc.Nodup → acc.length + fuel = ops.size → ∃ r, Region.linearise.go .any ops fuel t listed acc = acc.reverse ++ r ∧ Sched ops.toList acc r
  | 0, t, listed, acc, hs, hl, hb, hn, hf => by
    refine ⟨[], by simp [Region.linearise.go], fun i hi => ?_⟩
    apply Classical.byContradiction
    intro hni
    have := nodup_le ops.size (i :: acc) (List.nodup_cons.2 ⟨hni, hn⟩) (fun x hx => by
      simp only [List.mem_cons] at hx
      rcases hx with rfl | hx
      · simpa using hi
      · exact hb x hx)
    simp only [List.length_cons] at this; omega
  | fuel + 1, t, listed, acc, hs, hl, hb, hn, hf => by
    have hdec : ∃ i, i < ops.size ∧ i ∉ acc ∧ ∀ j, j < i → j ∈ acc := by
      have hex : ∃ i, i < ops.size ∧ i ∉ acc := by
        apply Classical.byContradiction
        intro hne
        have := le_of_all ops.size acc (fun i hi => Classical.byContradiction fun h => hne ⟨i, hi, h⟩)
        omega
      obtain ⟨i, hi, hni⟩ := hex
      obtain ⟨k, h1, h2, h3⟩ := least_not (fun i => i < ops.size ∧ i ∉ acc) i ⟨hi, hni⟩
      exact ⟨k, h2.1, h2.2, fun j hj => Classical.byContradiction fun h => h3 j hj ⟨by omega, h⟩⟩
    obtain ⟨k, hk, hka, hkl⟩ := hdec
    simp only [Region.linearise.go]
    generalize hrs : (List.filter (fun i => !listed.getD i true && ((ops[i]?).map (fun o => o.after.all fun e => !Region.binds .any e || listed.getD e.on false)).getD false) (List.range ops.size)) = rs
    have hlf : ∀ i, i < ops.size → listed.getD i false = listed.getD i true := by
      intro i hi; simp [Array.getD, hs, hi]
    have hkr : k ∈ rs := by
      rw [← hrs, List.mem_filter]
      refine ⟨by simpa using hk, ?_⟩
      have h1 : listed.getD k true = false := by
        cases hh : listed.getD k true with
        | false => rfl
        | true => exact absurd ((hl k hk).1 hh) hka
      simp only [h1, Bool.not_false, Bool.true_and]
      rw [Array.getElem?_eq_getElem hk]
      simp only [Option.map_some, Option.getD_some]
      rw [Array.all_eq_true']
      intro e he
      cases hb2 : Region.binds .any e with
      | false => rfl
      | true =>
        simp only [Bool.not_true, Bool.false_or]
        have hp : e.on < k := hO k ops[k] (by simp [hk]) e.on (by
          simp only [preds, List.mem_map, List.mem_filter]
          exact ⟨e, ⟨by simpa using he, hb2⟩, rfl⟩)
        rw [hlf _ (by omega)]
        exact (hl e.on (by omega)).2 (hkl _ hp)
    have hpos : 0 < rs.length := List.length_pos_of_mem hkr
    have hm : t % rs.length < rs.length := Nat.mod_lt _ hpos
    rw [List.getElem?_eq_getElem hm]
    simp only
    have hir : rs[t % rs.length] ∈ rs := List.getElem_mem hm
    generalize rs[t % rs.length] = i at hir
    rw [← hrs, List.mem_filter] at hir
    obtain ⟨hi1, hi2⟩ := hir
    have hi : i < ops.size := by simpa using hi1
    simp only [Bool.and_eq_true, Bool.not_eq_true'] at hi2
    have hia : i ∉ acc := fun h => by have := (hl i hi).2 h; rw [hi2.1] at this; cases this
    obtain ⟨r, hr1, hr2⟩ := go_sched hO fuel (t / rs.length) (listed.setIfInBounds i true) (i :: acc) (by simpa using hs) (by
      intro j hj
      by_cases e : i = j
      · subst e; simp [Array.getD, hs, hj]
      · have h0 : (listed.setIfInBounds i true).getD j true = listed.getD j true := by
          rw [Array.getD_eq_getD_getElem?, Array.getD_eq_getD_getElem?, Array.getElem?_setIfInBounds_ne e]
        rw [h0, hl j hj]
        simp only [List.mem_cons]
        constructor
        · exact .inr
        · rintro (h | h)
          · exact absurd h.symm e
          · exact h) (by
      intro j hj
      simp only [List.mem_cons] at hj
      rcases hj with rfl | hj
      · exact hi
      · exact hb j hj) (List.nodup_cons.2 ⟨hia, hn⟩) (by simp only [List.length_cons]; omega)
    refine ⟨i :: r, by rw [hr1]; simp, by simpa using hi, hia, ?_, hr2⟩
    intro o ho p hp
    rw [Array.getElem?_toList] at ho
    rw [ho] at hi2
    simp only [Option.map_some, Option.getD_some, Array.all_eq_true'] at hi2
    simp only [preds, List.mem_map, List.mem_filter] at hp
    obtain ⟨e, ⟨he, hbi⟩, rfl⟩ := hp
    have := hi2.2 e (by simpa using he)
    rw [hbi] at this
    simp only [Bool.not_true, Bool.false_or] at this
    have hlt : e.on < ops.size := by
      have := hO i o (by rw [Array.getElem?_toList]; exact ho) e.on (by simp only [preds, List.mem_map, List.mem_filter]; exact ⟨e, ⟨he, hbi⟩, rfl⟩)
      omega
    rw [hlf _ hlt] at this
    exact (hl _ hlt).1 this

theorem linearise_sched {ops : Array Oper} (hO : Down ops.toList) (t : Nat) : Sched ops.toList [] (Region.linearise .any ops t) := by
  obtain ⟨r, h1, h2⟩ := go_sched hO ops.size t (Array.replicate ops.size false) [] (by simp) (by intro i hi; simp [Array.getD, hi]) (by simp) List.nodup_nil (by simp)
  unfold Region.linearise
  rw [h1]; simpa using h2
end Go.Tm
