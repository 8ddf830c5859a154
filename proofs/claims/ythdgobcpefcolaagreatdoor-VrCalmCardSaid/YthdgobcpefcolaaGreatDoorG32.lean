/- Chapter 25: all that waits is delivered, in calm. -/
/- Merged by a program of ours: VC2 U31 U32. -/
import Derived.Test.YthdgobcpefcolaaGreatDoorG31
set_option maxRecDepth 10000
set_option linter.all false
set_option linter.unusedSimpArgs false
set_option linter.unusedVariables false
/- Chapter 25, plain: the rounds of a group without faults. -/
namespace Vr
section
variable {n : Nat} {W : List Ent} {e : Ent}
theorem others (b : CB n W) : (List.range n).filter (fun j => j != 0) = List.range' 1 (n - 1) := by
  rcases b.n with h | h | h <;> subst h <;> decide
def fB (K j : Nat) : Nat → Nat := fun i => if i = 0 then 0 else if i < j then K + 1 else K
theorem fB_succ {K j : Nat} (hj : 0 < j) : (fun i => if i = j then K + 1 else fB K j i) = fB K (j + 1) := by
  funext i
  unfold fB
  by_cases h0 : i = 0
  · subst h0; rw [if_neg (by omega)]; simp
  · by_cases h1 : i = j
    · subst h1; simp [h0]
    · rw [if_neg h1, if_neg h0, if_neg h0]
      by_cases h2 : i < j
      · rw [if_pos h2, if_pos (by omega)]
      · rw [if_neg h2, if_neg (by omega)]
theorem told_all (b : CB n W) {c K : Nat} : (n - 1) / 2 ≤ toldN (cst n 0 W c (tl n (fB K n))) (K + 1) := by
  have h : (List.range n).filter (fun i => i != (cst n 0 W c (tl n (fB K n))).me && decide (K + 1 ≤ (cst n 0 W c (tl n (fB K n))).told.getD i 0)) = (List.range n).filter (fun j => j != 0) := by
    apply List.filter_congr
    intro i hi
    have hi : i < n := by simpa using hi
    have h1 : (cst n 0 W c (tl n (fB K n))).told.getD i 0 = fB K n i := tl_get hi
    have h2 : (cst n 0 W c (tl n (fB K n))).me = 0 := rfl
    rw [h1, h2]
    by_cases h0 : i = 0
    · simp [h0]
    · simp [fB, h0, hi]
  unfold toldN
  have hn : (cst n 0 W c (tl n (fB K n))).n = n := rfl
  rw [hn, h, others b, List.length_range']
  omega
theorem range'_cons (j d : Nat) : List.range' j (d + 1) = j :: List.range' (j + 1) d := rfl
theorem ok_step (b : CB n W) {c c' : Nat} {P : PR} {f f' : Nat → Nat} {j : Nat} (hj : 0 < j ∧ j < n) (hP : P = cst n 0 W c (tl n f)) (hc : c ≤ W.length) (hc' : c' ≤ W.length)
    (hn : normalM P (okM' W.length j) = (cst n 0 W c' (tl n f'), (commit (cst n 0 W c (tl n f')) c').2)) : stepP P (okM' W.length j) = (cst n 0 W c' (tl n f'), (commit (cst n 0 W c (tl n f')) c').2) ∧ stepOk P (okM' W.length j) := by
  have hl := b.len
  subst hP
  have hs : stepP (cst n 0 W c (tl n f)) (okM' W.length j) = (cst n 0 W c' (tl n f'), (commit (cst n 0 W c (tl n f')) c').2) := by
    rw [step14 rfl (by show 1 ≤ 3; omega) (by decide : 3 ≤ 4) (.inr ⟨hj.2, by show j ≠ 0; omega⟩), ← hn]; rfl
  refine ⟨hs, b.sz (by omega) hc (tl_len _ _), by rw [cst_op]; omega, rfl, .inr ⟨hj.2, by show j ≠ 0; omega⟩, by show W.length ≤ _; omega, by show 0 ≤ _ ∧ 0 ≤ _; omega, by rw [hs]; exact b.sz (by omega) hc' (tl_len _ _), ?_, ?_, .inr ⟨rfl, rfl, .inr (.inl ⟨rfl, cst_prim, by rw [cst_op]; exact Nat.le_refl _⟩)⟩⟩
  · rw [hs]
    have := commit_len (cst n 0 W c (tl n f')) c'
    rw [cst_op] at this
    exact Nat.le_trans this (by omega)
  · rw [hs]
    exact commitK_plain _ _
theorem phaseB (b : CB n W) : ∀ (d j c : Nat) (g : Nat → PR), j + d = n → 0 < j → W ≠ [] → g 0 = cst n 0 W c (tl n (fB (W.length - 1) j)) → (c = W.length ∨ c + 1 = W.length) → (j = n → c = W.length) →
    ∃ g', Dlv n g ((List.range' j d).map (okM' W.length)) d g' ∧ g' 0 = cst n 0 W W.length (tl n (fB (W.length - 1) n)) ∧ ∀ i, 0 < i → g' i = g i
  | 0, j, c, g, hd, hj, hW, h0, hc, hce => by
    have : j = n := by omega
    subst this
    exact ⟨g, .nil g, by rw [h0, hce rfl], fun i _ => rfl⟩
  | d + 1, j, c, g, hd, hj, hW, h0, hc, hce => by
    have hlen : W.length - 1 + 1 = W.length := by
      cases W with
      | nil => exact absurd rfl hW
      | cons x l => simp
    have hjn : j < n := by omega
    obtain ⟨c', h1, h2, h3⟩ := cst_ok (n := n) (W := W) (c := c) (f := fB (W.length - 1) j) ⟨hj, hjn⟩ (by unfold fB; rw [if_neg (by omega), if_neg (by omega)]; omega) hc
    have hfe : (fun i => if i = j then W.length else fB (W.length - 1) j i) = fB (W.length - 1) (j + 1) := by
      have := fB_succ (K := W.length - 1) hj
      rw [hlen] at this
      exact this
    rw [hfe] at h1 h2
    have hc1 : c' = W.length ∨ c' + 1 = W.length := by
      rcases h1 with h1 | ⟨h1, _⟩
      · exact .inl h1
      · subst h1; exact hc
    have hcn : j + 1 = n → c' = W.length := by
      intro hjn'
      rcases h1 with h1 | ⟨_, h1⟩
      · exact h1
      · rw [hjn'] at h1
        have := told_all b (c := c) (K := W.length - 1)
        rw [hlen] at this
        omega
    obtain ⟨s1, s2⟩ := ok_step (c' := c') (f' := fB (W.length - 1) (j + 1)) b ⟨hj, hjn⟩ h0 (by omega) (by omega) (by rw [h0]; exact h2)
    rw [range'_cons, List.map_cons]
    have hact : actF (g, (List.range' (j + 1) d).map (okM' W.length)) 0 (stepP (g 0) (okM' W.length j)) = (fun i => if i = 0 then cst n 0 W c' (tl n (fB (W.length - 1) (j + 1))) else g i, (List.range' (j + 1) d).map (okM' W.length)) := by
      rw [s1]
      unfold actF
      rw [addNet_far]
      exact commitK_out _ _
    obtain ⟨g', i1, i2, i3⟩ := phaseB b d (j + 1) c' (fun i => if i = 0 then cst n 0 W c' (tl n (fB (W.length - 1) (j + 1))) else g i) (by omega) (by omega) hW (if_pos rfl) hc1 hcn
    refine ⟨g', .step (by show 0 < n; omega) s2 ?_, i2, fun i hi => by rw [i3 i hi, if_neg (by omega)]⟩
    show Dlv n (actF (g, (List.range' (j + 1) d).map (okM' W.length)) 0 (stepP (g 0) (okM' W.length j))).1 _ d g'
    rw [show (okM' W.length j).to = 0 from rfl, hact]
    exact i1
theorem prep_step (b : CB n (W ++ [e])) {P : PR} {j : Nat} (hj : 0 < j ∧ j < n) (hP : P = cst n j W (W.length - 1) (tl n fun _ => 0)) :
    stepP P (prepM W e j) = (cst n j (W ++ [e]) W.length (tl n fun _ => 0), [okM' (W.length + 1) j]) ∧ stepOk P (prepM W e j) := by
  subst hP
  have hl := b.len
  simp only [List.length_append, List.length_singleton] at hl
  have hen := b.ent e (by simp)
  have hn := cst_prep b (j := j) (by omega) (t := tl n fun _ => 0)
  have hs : stepP (cst n j W (W.length - 1) (tl n fun _ => 0)) (prepM W e j) = (cst n j (W ++ [e]) W.length (tl n fun _ => 0), [okM' (W.length + 1) j]) := by
    rw [step14 rfl (by show 1 ≤ 2; omega) (by decide : 2 ≤ 4) (.inr ⟨by show 0 < n; omega, by show 0 ≠ j; omega⟩), ← hn]; rfl
  refine ⟨hs, b.pre.sz hj.2 (by omega) (tl_len _ _), by rw [cst_op]; omega, rfl, .inr ⟨by show 0 < n; omega, by show 0 ≠ j; omega⟩, by show W.length + 1 ≤ _; omega, by show e.c ≤ _ ∧ e.n ≤ _; omega, by rw [hs]; exact b.sz hj.2 (by simp) (tl_len _ _), by rw [hs]; show 1 ≤ 1000000; omega, ?_, .inr ⟨rfl, rfl, .inl ⟨rfl, by rw [cst_prim]; simp; omega, by rw [cst_op]; exact Nat.le_refl _⟩⟩⟩
  rw [hs]
  intro m hm
  simp only [List.mem_singleton] at hm
  subst hm
  exact ⟨rfl, rfl⟩
theorem phaseA (b : CB n (W ++ [e])) : ∀ (d j : Nat) (g : Nat → PR), j + d = n → 0 < j → g 0 = cst n 0 (W ++ [e]) W.length (tl n (fB W.length 1)) →
    (∀ i, 0 < i → i < j → g i = cst n i (W ++ [e]) W.length (tl n fun _ => 0)) → (∀ i, j ≤ i → i < n → g i = cst n i W (W.length - 1) (tl n fun _ => 0)) →
    ∃ g', Dlv n g ((List.range' j d).map (prepM W e) ++ (List.range' 1 (j - 1)).map (okM' (W.length + 1))) (d + (n - 1)) g' ∧ g' 0 = cst n 0 (W ++ [e]) (W.length + 1) (tl n (fB W.length n)) ∧ ∀ i, 0 < i → i < n → g' i = cst n i (W ++ [e]) W.length (tl n fun _ => 0)
  | 0, j, g, hd, hj, h0, h1, h2 => by
    have : j = n := by omega
    subst this
    have hl : (W ++ [e]).length = W.length + 1 := by simp
    have hl1 : W.length + 1 - 1 = W.length := by omega
    obtain ⟨g', i1, i2, i3⟩ := phaseB b (j - 1) 1 W.length g (by omega) (by omega) (by simp) (by rw [hl, hl1]; exact h0) (.inr (by simp)) (by
      intro h
      have := b.n; omega)
    rw [hl, hl1] at i2
    rw [hl] at i1
    refine ⟨g', ?_, i2, fun i hi hin => by rw [i3 i hi]; exact h1 i hi hin⟩
    simpa using i1
  | d + 1, j, g, hd, hj, h0, h1, h2 => by
    have hjn : j < n := by omega
    obtain ⟨s1, s2⟩ := prep_step b ⟨hj, hjn⟩ (h2 j (Nat.le_refl _) hjn)
    have hn := b.n
    have hr : List.range' 1 j = List.range' 1 (j - 1) ++ [j] := by
      obtain ⟨k, rfl⟩ : ∃ k, j = k + 1 := ⟨j - 1, by omega⟩
      rw [List.range'_concat]; simp; omega
    have hact : actF (g, (List.range' (j + 1) d).map (prepM W e) ++ (List.range' 1 (j - 1)).map (okM' (W.length + 1))) j (stepP (g j) (prepM W e j)) = (fun i => if i = j then cst n j (W ++ [e]) W.length (tl n fun _ => 0) else g i, (List.range' (j + 1) d).map (prepM W e) ++ (List.range' 1 j).map (okM' (W.length + 1))) := by
      rw [s1]
      unfold actF
      rw [addNet_near]
      · rw [hr, List.map_append, List.append_assoc]; rfl
      · intro m hm
        simp only [List.mem_singleton] at hm
        subst hm
        show 0 < 100
        omega
      · simp; omega
    obtain ⟨g', i1, i2, i3⟩ := phaseA b d (j + 1) (fun i => if i = j then cst n j (W ++ [e]) W.length (tl n fun _ => 0) else g i) (by omega) (by omega) (by rw [if_neg (by omega)]; exact h0)
      (fun i hi hij => by
        by_cases h : i = j
        · subst h; rw [if_pos rfl]
        · rw [if_neg h]; exact h1 i hi (by omega))
      (fun i hi hin => by rw [if_neg (by omega)]; exact h2 i (by omega) hin)
    refine ⟨g', ?_, i2, i3⟩
    rw [range'_cons, List.map_cons, List.cons_append, show d + 1 + (n - 1) = (d + (n - 1)) + 1 by omega]
    refine .step hjn s2 ?_
    show Dlv n (actF (g, _) j (stepP (g j) (prepM W e j))).1 _ _ g'
    rw [show (prepM W e j).to = j from rfl, hact]
    exact i1
/-- Between two requests. -/
structure CG (n : Nat) (g : Nat → PR) (W : List Ent) : Prop where
  p0 : g 0 = cst n 0 W W.length (tl n fun i => if i = 0 then 0 else W.length)
  p : ∀ i, 0 < i → i < n → g i = cst n i W (W.length - 1) (tl n fun _ => 0)
theorem CG.new {n : Nat} {g : Nat → PR} (h : ∀ i, i < n → g i = PR.new i n) (h0 : 0 < n) : CG n g [] := by
  refine ⟨?_, fun i _ hi => by rw [h i hi, cst_new]; rfl⟩
  rw [h 0 h0, cst_new]
  simp only [List.length_nil]
  congr 1
  exact tl_congr fun i _ => by split <;> rfl
def reqA (to : Nat) (e : Ent) (fr : Nat) : Mg := { k := 1, fr := fr, to := to, en := e }
theorem req0_step (b : CB n (W ++ [e])) {g : Nat → PR} (c : CG n g W) (fr : Nat) : request (g 0) (reqA 0 e fr) = (cst n 0 (W ++ [e]) W.length (tl n (fB W.length 1)), (List.range' 1 (n - 1)).map (prepM W e)) ∧ stepP (g 0) (reqA 0 e fr) = request (g 0) (reqA 0 e fr) ∧ stepOk (g 0) (reqA 0 e fr) := by
  have hl := b.len
  simp only [List.length_append, List.length_singleton] at hl
  have hen := b.ent e (by simp)
  have hn := b.n
  have hr : request (g 0) (reqA 0 e fr) = (cst n 0 (W ++ [e]) W.length (tl n (fB W.length 1)), (List.range' 1 (n - 1)).map (prepM W e)) := by
    rw [c.p0, cst_req b rfl]
    have h1 : (tl n fun i => if i = 0 then 0 else W.length) = tl n (fB W.length 1) := tl_congr fun i _ => by
      unfold fB
      by_cases h0 : i = 0
      · simp [h0]
      · rw [if_neg h0, if_neg h0, if_neg (by omega)]
    rw [h1]
    congr 1
    unfold PR.allM allF
    have h2 : (cst n 0 (W ++ [e]) W.length (tl n (fB W.length 1))).me = 0 := rfl
    have h3 : (cst n 0 (W ++ [e]) W.length (tl n (fB W.length 1))).n = n := rfl
    rw [h2, h3, others b.pre]
    rfl
  have hme : (g 0).me = 0 := by rw [c.p0]; rfl
  have hs : stepP (g 0) (reqA 0 e fr) = request (g 0) (reqA 0 e fr) := by
    rw [step14 hme.symm (by show 1 ≤ 1; omega) (by decide : 1 ≤ 4) (.inl rfl)]; rfl
  refine ⟨hr, hs, by rw [c.p0]; exact b.pre.sz (by omega) (Nat.le_refl _) (tl_len _ _), by rw [c.p0, cst_op]; omega, hme.symm, .inl rfl, by show 0 ≤ _; omega, by show e.c ≤ _ ∧ e.n ≤ _; omega, by rw [hs, hr]; exact b.sz (by omega) (by simp) (tl_len _ _), by rw [hs, hr]; simp; omega, ?_, .inl ⟨rfl, ?_⟩⟩
  · rw [hs, hr]
    intro m hm
    obtain ⟨j, _, rfl⟩ := List.mem_map.1 hm
    exact ⟨rfl, rfl⟩
  · intro x hx
    have := cst_lt b (c := W.length) (j := 0) (t := tl n fun i => if i = 0 then 0 else W.length) x (by rw [c.p0] at hx; exact hx)
    show e.n ≠ x.n
    omega
theorem reqB_step (b : CB n (W ++ [e])) {g : Nat → PR} {j : Nat} (hj : 0 < j ∧ j < n) (hg : g j = cst n j W (W.length - 1) (tl n fun _ => 0)) (fr : Nat) : stepP (g j) (reqA j e fr) = (g j, []) ∧ stepOk (g j) (reqA j e fr) := by
  have hl := b.len
  simp only [List.length_append, List.length_singleton] at hl
  have hen := b.ent e (by simp)
  have hr : request (g j) (reqA j e fr) = (g j, []) := by rw [hg]; exact cst_req' (by omega)
  have hme : (g j).me = j := by rw [hg]; rfl
  have hs : stepP (g j) (reqA j e fr) = (g j, []) := by
    rw [step14 hme.symm (by show 1 ≤ 1; omega) (by decide : 1 ≤ 4) (.inl rfl), ← hr]; rfl
  have hz : (g j).Sz := by rw [hg]; exact b.pre.sz hj.2 (by omega) (tl_len _ _)
  refine ⟨hs, hz, by rw [hg, cst_op]; omega, hme.symm, .inl rfl, by show 0 ≤ _; omega, by show e.c ≤ _ ∧ e.n ≤ _; omega, by rw [hs]; exact hz, by rw [hs]; show 0 ≤ _; omega, by rw [hs]; intro m hm; simp at hm, .inl ⟨rfl, ?_⟩⟩
  intro x hx
  have := cst_lt b (c := W.length - 1) (j := j) (t := tl n fun _ => 0) x (by rw [hg] at hx; exact hx)
  show e.n ≠ x.n
  omega
/-- A round: the primary was told a request, all is delivered. -/
theorem round (b : CB n (W ++ [e])) {g : Nat → PR} (c : CG n g W) (fr : Nat) {g1 : Nat → PR} (h0 : g1 0 = (request (g 0) (reqA 0 e fr)).1) (h1 : ∀ i, 0 < i → i < n → g1 i = g i) :
    ∃ k g', k ≤ 100 ∧ Dlv n g1 (addNet [] (request (g 0) (reqA 0 e fr)).2) k g' ∧ CG n g' (W ++ [e]) := by
  obtain ⟨hr, _, _⟩ := req0_step b c fr
  have hn := b.n
  rw [hr] at h0 ⊢
  obtain ⟨g', i1, i2, i3⟩ := phaseA b (n - 1) 1 g1 (by omega) (by omega) h0 (fun i hi hij => by omega) (fun i hi hin => by rw [h1 i (by omega) hin]; exact c.p i (by omega) hin)
  refine ⟨n - 1 + (n - 1), g', by omega, ?_, ⟨?_, fun i hi hin => ?_⟩⟩
  · have : addNet [] ((List.range' 1 (n - 1)).map (prepM W e)) = (List.range' 1 (n - 1)).map (prepM W e) := by
      rw [addNet_near]
      · rfl
      · intro m hm
        obtain ⟨j, hj, rfl⟩ := List.mem_map.1 hm
        rw [List.mem_range'_1] at hj
        show j < 100
        omega
      · simp; omega
    rw [this]
    simpa using i1
  · rw [i2, List.length_append]
    show cst n 0 (W ++ [e]) (W.length + 1) _ = cst n 0 (W ++ [e]) (W.length + 1) _
    congr 1
    exact tl_congr fun i hi => by
      unfold fB
      by_cases h : i = 0
      · simp [h]
      · rw [if_neg h, if_neg h, if_pos hi]; simp
  · rw [i3 i hi hin]
    simp
/-- The end: the primary is idle, all is delivered. -/
theorem cm_step (b : CB n W) {P : PR} {j c : Nat} (hj : 0 < j ∧ j < n) (hc : c ≤ W.length) (hP : P = cst n j W c (tl n fun _ => 0)) : stepP P (cmM W.length j) = (cst n j W W.length (tl n fun _ => 0), []) ∧ stepOk P (cmM W.length j) := by
  subst hP
  have hl := b.len
  have hs : stepP (cst n j W c (tl n fun _ => 0)) (cmM W.length j) = (cst n j W W.length (tl n fun _ => 0), []) := by
    rw [step14 rfl (by show 1 ≤ 4; omega) (by decide : 4 ≤ 4) (.inr ⟨by show 0 < n; omega, by show 0 ≠ j; omega⟩), ← cst_cm (by omega) hc]; rfl
  exact ⟨hs, b.sz hj.2 hc (tl_len _ _), by rw [cst_op]; omega, rfl, .inr ⟨by show 0 < n; omega, by show 0 ≠ j; omega⟩, by show 0 ≤ _; omega, by show 0 ≤ _ ∧ 0 ≤ _; omega, by rw [hs]; exact b.sz hj.2 (Nat.le_refl _) (tl_len _ _), by rw [hs]; show 0 ≤ _; omega, by rw [hs]; intro m hm; simp at hm, .inr ⟨rfl, rfl, .inr (.inr ⟨rfl, by rw [cst_prim]; simp; omega, by rw [cst_op]; exact Nat.le_refl _⟩)⟩⟩
theorem phaseC (b : CB n W) : ∀ (d j : Nat) (g : Nat → PR), j + d = n → 0 < j → (∀ i, 0 < i → i < j → g i = cst n i W W.length (tl n fun _ => 0)) → (∀ i, j ≤ i → i < n → g i = cst n i W (W.length - 1) (tl n fun _ => 0)) →
    ∃ g', Dlv n g ((List.range' j d).map (cmM W.length)) d g' ∧ g' 0 = g 0 ∧ ∀ i, 0 < i → i < n → g' i = cst n i W W.length (tl n fun _ => 0)
  | 0, j, g, hd, hj, h1, h2 => ⟨g, .nil g, rfl, fun i hi hin => h1 i hi (by omega)⟩
  | d + 1, j, g, hd, hj, h1, h2 => by
    have hjn : j < n := by omega
    obtain ⟨s1, s2⟩ := cm_step b ⟨hj, hjn⟩ (by omega) (h2 j (Nat.le_refl _) hjn)
    have hact : actF (g, (List.range' (j + 1) d).map (cmM W.length)) j (stepP (g j) (cmM W.length j)) = (fun i => if i = j then cst n j W W.length (tl n fun _ => 0) else g i, (List.range' (j + 1) d).map (cmM W.length)) := by
      rw [s1]
      unfold actF
      rw [addNet_nil]
    obtain ⟨g', i1, i2, i3⟩ := phaseC b d (j + 1) (fun i => if i = j then cst n j W W.length (tl n fun _ => 0) else g i) (by omega) (by omega)
      (fun i hi hij => by
        by_cases h : i = j
        · subst h; rw [if_pos rfl]
        · rw [if_neg h]; exact h1 i hi (by omega))
      (fun i hi hin => by rw [if_neg (by omega)]; exact h2 i (by omega) hin)
    refine ⟨g', ?_, by rw [i2, if_neg (by omega)], i3⟩
    rw [range'_cons, List.map_cons]
    refine .step hjn s2 ?_
    show Dlv n (actF (g, _) j (stepP (g j) (cmM W.length j))).1 _ _ g'
    rw [show (cmM W.length j).to = j from rfl, hact]
    exact i1
theorem idle_step (b : CB n W) {g : Nat → PR} (c : CG n g W) : (g 0).Sz ∧ (g 0).st = 0 ∧ (g 0).prim = true ∧ (g 0).op = (g 0).cm ∧ idle (g 0) = (List.range' 1 (n - 1)).map (cmM W.length) := by
  have hn := b.n
  have hp : (g 0).prim = true := by rw [c.p0]; exact cst_prim
  have ho : (g 0).op = (g 0).cm := by rw [c.p0, cst_op]; rfl
  refine ⟨by rw [c.p0]; exact b.sz (by omega) (Nat.le_refl _) (tl_len _ _), by rw [c.p0]; rfl, hp, ho, ?_⟩
  unfold idle
  rw [hp, ho]
  rw [if_neg (by rw [c.p0]; simp [cst, PR.new]), if_neg (by omega), c.p0]
  unfold PR.allM allF
  have h2 : (cst n 0 W W.length (tl n fun i => if i = 0 then 0 else W.length)).me = 0 := rfl
  have h3 : (cst n 0 W W.length (tl n fun i => if i = 0 then 0 else W.length)).n = n := rfl
  rw [h2, h3, others b]
  rfl
theorem ends (b : CB n W) {g : Nat → PR} (c : CG n g W) : ∃ k g', k ≤ 100 ∧ Dlv n g (addNet [] (idle (g 0))) k g' ∧ ∀ i, i < n → (g' i).sv.l = W ∧ (g' i).vw = 0 ∧ (g' i).st = 0 := by
  have hn := b.n
  obtain ⟨_, _, _, _, hi⟩ := idle_step b c
  obtain ⟨g', i1, i2, i3⟩ := phaseC b (n - 1) 1 g (by omega) (by omega) (fun i hi hij => by omega) (fun i hi hin => c.p i (by omega) hin)
  have hex := (exec_ok b.inc).1
  refine ⟨n - 1, g', by omega, ?_, fun i hin => ?_⟩
  · have : addNet [] ((List.range' 1 (n - 1)).map (cmM W.length)) = (List.range' 1 (n - 1)).map (cmM W.length) := by
      rw [addNet_near]
      · rfl
      · intro m hm
        obtain ⟨j, hj, rfl⟩ := List.mem_map.1 hm
        rw [List.mem_range'_1] at hj
        show j < 100
        omega
      · simp; omega
    rw [hi, this]
    exact i1
  · by_cases h0 : i = 0
    · subst h0
      rw [i2, c.p0]
      refine ⟨?_, rfl, rfl⟩
      show (execS (W.take W.length)).l = W
      rw [List.take_length, hex]
    · rw [i3 i (by omega) hin]
      refine ⟨?_, rfl, rfl⟩
      show (execS (W.take W.length)).l = W
      rw [List.take_length, hex]
end
end Vr
/- Chapter 25: deeds of a group without faults. -/
namespace Go.Proofs.YthdgobcpefcolaaGreatDoor
open Go.Tm Vr
set_option linter.unusedSectionVars false
variable {E : Env} (hE : EOk E)
include hE
section
variable {G : Mem} {h : Heap} (hW : WF E h) (hG : Frz E G h) {P : PR} {cs : List Value} (hP : PRR E G P cs)
include hW hG hP
/-- The model's step, in calm. -/
theorem modelOk {m : Mg} {ms : List Value} (hm : MgR E G m ms) (hs : stepOk P m) :
    CallsTo E 24 [.agg cs.toArray, .agg ms.toArray] h fun v h' => ∃ G' rc' co v2, Ext E G h G' h' ∧ PRR E G' (stepP P m).1 rc' ∧ Fz E G' 17 (stepP P m).2.length co v2 ∧ MgsR E G' (stepP P m).2 co ∧ v = .tuple #[.agg rc'.toArray, v2] := by
  obtain ⟨z, hop, hto, hfr, hmo, hen, z', hol, hlg, hc⟩ := hs
  have hk : 1 ≤ m.k ∧ m.k ≤ 4 := by rcases hc with ⟨h1, _⟩ | ⟨_, _, ⟨h1, _⟩ | ⟨h1, _⟩ | ⟨h1, _⟩⟩ <;> omega
  refine stepR_at hE hW hG hP hm hk.1 hk.2 hto hfr fun H2 k2 => ?_
  rw [step14 hto hk.1 hk.2 hfr]
  rcases hc with ⟨h1, hne⟩ | ⟨hst, hv, hc⟩
  · rw [if_pos h1, if_pos h1]
    exact requestR_at hE k2.w (hG.keep k2.k) hP z hop hm hen hne
  · have hk1 : ¬ m.k = 1 := by rcases hc with ⟨h1, _⟩ | ⟨h1, _⟩ | ⟨h1, _⟩ <;> omega
    rw [if_neg hk1, if_neg hk1]
    rcases hc with ⟨h1, h2, h3⟩ | ⟨h1, h2, h3⟩ | ⟨h1, h2, h3⟩
    · exact prepareR_at hE k2.w (hG.keep k2.k) hP z hop hen hm hst h1 hv h2 h3
    · exact prepareOkR_at hE k2.w (hG.keep k2.k) hP z hm hst h1 hv h2 (by rcases hfr with h4 | h4 <;> omega) h3
    · exact committedR_at hE k2.w (hG.keep k2.k) hP z hm hst h1 hv h2 h3
end
section
variable {G : Mem} {h : Heap} {X : Nat → Prop} (hS : SO E G h X) {P : PR} {r t : Nat} (hQ : QR E G h X P [] r t) {cs : List Value} (hP : PRR E G P cs)
include hS hQ hP
theorem deedOk {m : Mg} {ms : List Value} (hm : MgR E G m ms) (hs : stepOk P m) :
    CallsTo E 20 [.agg (ptr r :: ptr t :: cs).toArray, .agg (iv 0 :: iv 0 :: ms).toArray] h fun v h' => ∃ G' X' rc', PX E G h X G' h' X' ∧ QR E G' h' X' (stepP P m).1 [] r t ∧ PRR E G' (stepP P m).1 rc' ∧ v = .tuple #[.agg (ptr r :: ptr t :: rc').toArray, .bool true] := by
  obtain ⟨z, hop, hto, hfr, hmo, hen, z', hol, hlg, hc⟩ := hs
  have hk : 1 ≤ m.k ∧ m.k ≤ 4 := by rcases hc with ⟨h1, _⟩ | ⟨_, _, ⟨h1, _⟩ | ⟨h1, _⟩ | ⟨h1, _⟩⟩ <;> omega
  have hlg' : ∀ m', m' ∈ (stepP P m).2 → m'.log.length ≤ 1000000 ∧ m'.img.length ≤ 100000000 := fun m' h' => by
    obtain ⟨h1, h2⟩ := hlg m' h'
    rw [h1, h2]; simp
  rw [step14 hto hk.1 hk.2 hfr] at *
  rcases hc with ⟨h1, hne⟩ | ⟨hst, hv, hc⟩
  · rw [if_pos h1] at *
    exact do1_at hE hS hQ hP hm z hop h1 hto hen hmo hne z' ⟨hol, hlg'⟩
  · have hk1 : ¬ m.k = 1 := by rcases hc with ⟨h1, _⟩ | ⟨h1, _⟩ | ⟨h1, _⟩ <;> omega
    rw [if_neg hk1] at *
    have hfr' : m.fr < P.n ∧ m.fr ≠ P.me := by rcases hfr with h4 | h4 <;> omega
    rcases hc with ⟨h1, h2, h3⟩ | ⟨h1, h2, h3⟩ | ⟨h1, h2, h3⟩
    · exact do2_at hE hS hQ hP hm z ⟨by omega, by omega⟩ hto hfr' hmo 54 (by rw [h1]; rfl) z' ⟨hol, hlg'⟩ (fun s q hm1 => (prepare_at hE s q z (by simp) hop hm1 h1 hen)) (fun w f hP1 hm1 => prepareR_at hE w f hP1 z hop hen hm1 hst h1 hv h2 h3)
    · exact do2_at hE hS hQ hP hm z ⟨by omega, by omega⟩ hto hfr' hmo 55 (by rw [h1]; rfl) z' ⟨hol, hlg'⟩ (fun s q hm1 => (prepareOk_at hE s q z (by simp) hm1 h1 h3 hfr'.1)) (fun w f hP1 hm1 => prepareOkR_at hE w f hP1 z hm1 hst h1 hv h2 hfr'.1 h3)
    · exact do2_at hE hS hQ hP hm z ⟨by omega, by omega⟩ hto hfr' hmo 56 (by rw [h1]; rfl) z' ⟨hol, hlg'⟩ (fun s q hm1 => (committed_at hE s q z (by simp) hm1 h1)) (fun w f hP1 hm1 => committedR_at hE w f hP1 z hm1 hst h1 hv h2 h3)
end
/-- All that is a group's, its lists too. -/
def gX (L : List Rr) (Y : Nat → Prop) (bD bS : Nat) : Nat → Prop := fun x => un L Y x ∨ x = bD ∨ x = bS
section
variable {G : Mem} {h : Heap} {L : List Rr} {Y : Nat → Prop} {net : List Mg} {down : List Bool} {sent : List Nat} {bD bS tv : Nat} {cs : List Value} (V : GV E G h L Y net down sent bD bS cs tv)
include V
omit hE in
theorem GV.so : SO E G h (gX L Y bD bS) := by
  obtain ⟨vL, vN, _, g⟩ := V.e
  refine ⟨g.so.wf, g.so.frz, fun b c hb hx => ?_, fun b hx => ?_⟩
  · rcases hx with hx | rfl | rfl
    · exact g.so.dis b c hb hx
    · rw [V.yD] at hb; cases hb
    · rw [V.yS] at hb; cases hb
  · rcases hx with hx | rfl | rfl
    · exact g.so.lt b hx
    · exact (g.so.wf.live _ _ V.gD).2
    · exact (g.so.wf.live _ _ V.gS).2
omit hE in
/-- The replicas and what waits move; the lists stay. -/
theorem GV.move {G' : Mem} {h' : Heap} {L' : List Rr} {Y' : Nat → Prop} {net' : List Mg} {vL vN : Value} (px : PX E G h (un L Y) G' h' (un L' Y')) (g' : GS E G' h' L' Y' net' vL vN) :
    GV E G' h' L' Y' net' down sent bD bS [vL, .slice (some ⟨bD, 0, none⟩) down.length down.length, vN, .slice (some ⟨bS, 0, none⟩) sent.length sent.length, iv tv] tv ∧ PX E G h (gX L Y bD bS) G' h' (gX L' Y' bD bS) := by
  have lD := (V.so.wf.live _ _ V.gD).2
  have lS := (V.so.wf.live _ _ V.gS).2
  have V' : GV E G' h' L' Y' net' down sent bD bS [vL, .slice (some ⟨bD, 0, none⟩) down.length down.length, vN, .slice (some ⟨bS, 0, none⟩) sent.length sent.length, iv tv] tv :=
    ⟨⟨vL, vN, rfl, g'⟩, px.box V.nD V.gD, px.box V.nS V.gS, px.nx V.nD lD, px.nx V.nS lS, px.nn lD V.yD, px.nn lS V.yS, V.ne⟩
  refine ⟨V', px.wide (fun b hb => .inl hb) V'.so fun b hb => ?_⟩
  rcases hb with hb | hb
  · rcases px.xs b hb with h1 | h1
    · exact .inl (.inl h1)
    · exact .inr h1
  · exact .inl (.inr hb)
theorem act_gv {i : Nat} {a : Rr} (hi : L[i]? = some a) {m : Mg} {ms : List Value} {dk nk : Nat} (hdk : dk = 0 ∨ dk = 10 ∨ dk = 11 ∨ dk = 12 ∨ dk = 13) (hnk : nk < 65536) (hm : MgR E G m ms) {P' : PR} {out : List Mg} (hol : out.length ≤ 1000000)
    (hA : ∀ {G1 : Mem} {H : Heap}, SO E G1 H a.X → QR E G1 H a.X a.P [] a.r a.t → PRR E G1 a.P a.cs → MgR E G1 m ms → CallsTo E 20 [.agg a.c.toArray, .agg (iv dk :: iv nk :: ms).toArray] H fun v h' => ∃ G' X' rc', PX E G1 H a.X G' h' X' ∧ QR E G' h' X' P' [] a.r a.t ∧ PRR E G' P' rc' ∧ v = .tuple #[.agg (ptr a.r :: ptr a.t :: rc').toArray, .bool true])
    (hB : ∀ {G1 : Mem} {H : Heap}, WF E H → Frz E G1 H → PRR E G1 a.P a.cs → MgR E G1 m ms → outC E G1 H a.P a.cs ms dk nk out) :
    CallsTo E 12 [.agg cs.toArray, iv i, .agg (iv dk :: iv nk :: ms).toArray] h fun v h' => ∃ G' b Y' cs', PX E G h (gX L Y bD bS) G' h' (gX (L.set i b) Y' bD bS) ∧ GV E G' h' (L.set i b) Y' (addNet net out) down sent bD bS cs' tv ∧ b.P = P' ∧ v = .tuple #[.agg cs'.toArray, .bool true] := by
  obtain ⟨vL, vN, rfl, g⟩ := V.e
  refine (act_at hE g hi hdk hnk hm hol hA hB).mono ?_
  rintro v h' ⟨G', b, Y', vN', px, g', hb, _, _, rfl⟩
  obtain ⟨V', px'⟩ := V.move px g'
  exact ⟨G', b, Y', _, px', V', hb, rfl⟩
end
end Go.Proofs.YthdgobcpefcolaaGreatDoor
namespace Go.Tm
open Vr
/-- Boxes beside. -/
def Bz (Z : Nat → Prop) (G : Mem) (n : Nat) (l : List Nat) : Prop := ∀ b, b ∈ l → ¬ Z b ∧ G b = none ∧ b < n
theorem Bz.px {E : Env} {G G' : Mem} {h h' : Heap} {Z Z' : Nat → Prop} {l : List Nat} (B : Bz Z G h.next l) (p : PX E G h Z G' h' Z') : Bz Z' G' h'.next l := fun b hb => by
  obtain ⟨h1, h2, h3⟩ := B b hb
  exact ⟨p.nx h1 h3, p.nn h3 h2, Nat.lt_of_lt_of_le h3 p.kx.next⟩
section
variable {E : Env} {G : Mem} {h : Heap} {L : List Rr} {Y : Nat → Prop} {net : List Mg} {vL vN : Value}
/-- The first that waits. -/
theorem GS.head {m : Mg} (g : GS E G h L Y (m :: net) vL vN) : ∃ a c ms, vN = .slice (some a) (net.length + 1) c ∧ a.spot = none ∧ acells E h a 17 = some ms ∧ MgR E G m ms := by
  obtain ⟨co, h1, h2⟩ := g.on
  obtain ⟨c1, c2, rfl, h3, h4⟩ := h2
  obtain ⟨a, c, e1, e2, e3⟩ := OwnQ.head g.rs.wf (n := net.length) h1 h3.len
  exact ⟨a, c, c1, e1, e2, e3, h3⟩
/-- Without the first one. -/
theorem GS.pop {P : Program} {t : TypeId} (hu : P.underlying t = some (.slice 62)) (hz : asz P 62 = some 17) {m : Mg} (g : GS E G h L Y (m :: net) vL vN) : ∃ vN', asl P t vN (some (.int .i64 1)) none = some vN' ∧ GS E G h L Y net vL vN' := by
  obtain ⟨co, h1, h2⟩ := g.on
  obtain ⟨c1, c2, rfl, h3, h4⟩ := h2
  obtain ⟨v', e1, e2, e3⟩ := OwnQ.pop hu hz (n := net.length) h1 h3.len
  exact ⟨v', e1, ⟨g.rs, g.sy, g.dj, g.ol, g.yl, ⟨c2, e2, h4⟩, fun b hb => g.yn b (by rw [← e3]; exact hb)⟩⟩
end
end Go.Tm
namespace Go.Proofs.YthdgobcpefcolaaGreatDoor
open Go.Tm Vr
set_option linter.unusedSectionVars false
section
variable {E : Env} {G : Mem} {h : Heap} {L : List Rr} {Y : Nat → Prop} {net : List Mg} {down : List Bool} {sent : List Nat} {bD bS tv : Nat} {cs : List Value}
theorem GV.other {G' : Mem} {h' : Heap} {Z Z' : Nat → Prop} (V : GV E G h L Y net down sent bD bS cs tv) (p : PX E G h Z G' h' Z') (hd : ∀ x, gX L Y bD bS x → ¬ Z x) : GV E G' h' L Y net down sent bD bS cs tv := by
  obtain ⟨vL, vN, e1, g⟩ := V.e
  have lD := (V.so.wf.live _ _ V.gD).2
  have lS := (V.so.wf.live _ _ V.gS).2
  exact ⟨⟨vL, vN, e1, g.other p fun x hx => hd x (.inl hx)⟩, p.kx.get _ _ (hd _ (.inr (.inl rfl))) V.gD, p.kx.get _ _ (hd _ (.inr (.inr rfl))) V.gS, V.nD, V.nS, p.nn lD V.yD, p.nn lS V.yS, V.ne⟩
theorem GV.kw {h' : Heap} (V : GV E G h L Y net down sent bD bS cs tv) (k : KW E h h') : GV E G h' L Y net down sent bD bS cs tv :=
  V.other (PX.kw (SO.nobody V.so.wf V.so.frz) k) fun _ _ x => x
theorem GV.put {b : Nat} {o o' : AObj} (V : GV E G h L Y net down sent bD bS cs tv) (hb : h.get b = some o') (hG : G b = none) (hn : ¬ gX L Y bD bS b) : GV E G (h.put b o) L Y net down sent bD bS cs tv :=
  V.other (PX.self V.so.wf V.so.frz hb hG) fun x hx e => hn (by rw [← e]; exact hx)
theorem GV.pop {m : Mg} {P : Program} {t : TypeId} (hu : P.underlying t = some (.slice 62)) (hz : asz P 62 = some 17) (V : GV E G h L Y (m :: net) down sent bD bS cs tv) :
    ∃ vL a c vN' ms, cs = [vL, .slice (some ⟨bD, 0, none⟩) down.length down.length, .slice (some a) (net.length + 1) c, .slice (some ⟨bS, 0, none⟩) sent.length sent.length, iv tv] ∧ a.spot = none ∧ acells E h a 17 = some ms ∧ MgR E G m ms ∧
      asl P t (.slice (some a) (net.length + 1) c) (some (.int .i64 1)) none = some vN' ∧ GV E G h L Y net down sent bD bS [vL, .slice (some ⟨bD, 0, none⟩) down.length down.length, vN', .slice (some ⟨bS, 0, none⟩) sent.length sent.length, iv tv] tv := by
  obtain ⟨vL, vN, rfl, g⟩ := V.e
  obtain ⟨a, c, ms, e1, e2, e3, e4⟩ := g.head
  obtain ⟨vN', e5, g'⟩ := g.pop hu hz
  subst e1
  exact ⟨vL, a, c, vN', ms, rfl, e2, e3, e4, e5, ⟨vL, vN', rfl, g'⟩, V.gD, V.gS, V.nD, V.nS, V.yD, V.yS, V.ne⟩
end
variable {E : Env} (hE : EOk E)
include hE
section
variable {G : Mem} {h : Heap} {L : List Rr} {Y : Nat → Prop} {net : List Mg} {down : List Bool} {sent : List Nat} {bD bS tv : Nat} {cs : List Value} (V : GV E G h L Y net down sent bD bS cs tv)
include V
set_option maxHeartbeats 4000000 in
theorem deliver_at {n k : Nat} {g g' : Nat → PR} (hn : n ≤ 7) (hL : L.length = n) (hg : ∀ i a, L[i]? = some a → a.P = g i) (hdn : down = List.replicate n false) (hk : k ≤ 4000) (hD : Dlv n g net k g') :
    CallsTo E 13 [.agg cs.toArray] h fun v h' => ∃ G' L' Y' cs', PX E G h (gX L Y bD bS) G' h' (gX L' Y' bD bS) ∧ GV E G' h' L' Y' [] down sent bD bS cs' tv ∧ L'.length = n ∧ (∀ i a, L'[i]? = some a → a.P = g' i) ∧ v = .tuple #[.agg cs'.toArray, .bool true] := by
  obtain ⟨vL, vN, rfl, gs⟩ := V.e
  have w0 := gs.rs.wf.b0
  have w1 := gs.rs.wf.b1
  refine calls_of_runs (fn := Tryz.f13) (by rw [hE.P]; exact Tryz.func13) rfl (by rw [hE.known]; rfl) (by rw [Tryz.ntmps13]; exact Nat.le_of_ble_eq_true rfl) (by decide +kernel) (rs := [.cell 2 29, .tmp 3]) rfl (wpc_runs _ _ _ _ ?_)
  simp only [push_cast, seval, hE.P, awrite, wpc_label, wpc_block, w0, w1]
  have k0 := ((KW.refl gs.rs.wf).push (o := .cells [vL, .slice (some ⟨bD, 0, none⟩) down.length down.length, vN, .slice (some ⟨bS, 0, none⟩) sent.length sent.length, iv tv] 29 true)).push (o := .cells [.slice none 0 0, .slice none 0 0, .slice none 0 0, .slice none 0 0, .int .i64 0] 29 true)
  refine gtm (motive := wpc E _ _) [1, 2, 4] fun t2 hf => ?_
  simp only [push_cast, seval, hE.P, awrite, wpc_label, wpc_block, List.mem_cons, List.not_mem_nil, or_false, forall_eq_or_imp, forall_eq] at hf
  obtain ⟨p1, p2, p4⟩ := hf
  refine gheap (motive := fun H => wpc E _ _ _ H) (fun H => KW E h H ∧ H.get h.next = some (.cells [vL, .slice (some ⟨bD, 0, none⟩) down.length down.length, vN, .slice (some ⟨bS, 0, none⟩) sent.length sent.length, iv tv] 29 true) ∧ H.get (h.next + 1) = some (.cells [.slice none 0 0, .slice none 0 0, .slice none 0 0, .slice none 0 0, .int .i64 0] 29 true)) ⟨k0, by rw [get_push, if_neg (by simp), get_push, if_pos rfl], by rw [get_push, if_pos (by simp)]⟩ ?_
  clear k0
  rintro H0 ⟨k0, gG0, gZ0⟩
  have V0 := V.kw k0
  have hW := gs.rs.wf
  have sx := V.so
  have px0 := PX.kw sx k0
  have fr : ∀ b, h.next ≤ b → ¬ gX L Y bD bS b := fun b hb hx => by have := sx.lt b hx; omega
  have B0 : Bz (gX L Y bD bS) G H0.next [h.next, h.next + 1] := by
    intro b hb
    simp only [List.mem_cons, List.not_mem_nil, or_false] at hb
    rcases hb with rfl | rfl
    · exact ⟨fr _ (Nat.le_refl _), sx.gnone (Nat.le_refl _), (k0.w.live _ _ gG0).2⟩
    · exact ⟨fr _ (by omega), sx.gnone (by omega), (k0.w.live _ _ gZ0).2⟩
  refine wpc_loop (fun kk tm H => ∃ i k' G' L' Y' net' g1 cs', kk = 4000 - i ∧ i + k' ≤ 4000 ∧ Dlv n g1 net' k' g' ∧ fget tm 1 = ptr h.next ∧ fget tm 2 = ptr (h.next + 1) ∧ fget tm 4 = iv i ∧ PX E G h (gX L Y bD bS) G' H (gX L' Y' bD bS) ∧ GV E G' H L' Y' net' down sent bD bS cs' tv ∧ L'.length = n ∧ (∀ j a, L'[j]? = some a → a.P = g1 j) ∧
    H.get h.next = some (.cells cs' 29 true) ∧ H.get (h.next + 1) = some (.cells [.slice none 0 0, .slice none 0 0, .slice none 0 0, .slice none 0 0, .int .i64 0] 29 true) ∧ Bz (gX L' Y' bD bS) G' H.next [h.next, h.next + 1]) 4000 ?_ ?_
  · simp only [push_cast, seval, hE.P, awrite, wpc_label, wpc_block, p1, p2, p4]
    exact ⟨0, k, G, L, Y, net, g, _, by omega, by omega, hD, rfl, px0, V0, hL, hg, gG0, gZ0, B0⟩
  · rintro kk tm H ⟨i, k', G', L', Y', net', g1, cs', rfl, hik, hD', p1, p2, p4, px, V', hL', hg', gG, gZ, B⟩
    have nG := V'.so.wf.nlt gG
    have nZ := V'.so.wf.nlt gZ
    cases hD' with
    | nil =>
      obtain ⟨vL', vN', rfl, gs'⟩ := V'.e
      have hN : ∃ aN cN, vN' = .slice aN 0 cN := by
        obtain ⟨co, h1, _⟩ := gs'.on
        obtain ⟨a, c, e1, _⟩ := h1.isSl
        exact ⟨a, c, e1⟩
      obtain ⟨aN, cN, rfl⟩ := hN
      obtain ⟨aL, cL, hvL, _⟩ := gs'.ol.isSl
      subst hvL
      have fin : ∃ G' L_1 Y' cs', PX E G h (gX L Y bD bS) G' (H.put (h.next + 1) (.cells [.slice aL L'.length cL, .slice (some ⟨bD, 0, none⟩) down.length down.length, .slice aN 0 cN, .slice (some ⟨bS, 0, none⟩) sent.length sent.length, iv tv] 29 true)) (gX L_1 Y' bD bS) ∧ GV E G' (H.put (h.next + 1) (.cells [.slice aL L'.length cL, .slice (some ⟨bD, 0, none⟩) down.length down.length, .slice aN 0 cN, .slice (some ⟨bS, 0, none⟩) sent.length sent.length, iv tv] 29 true)) L_1 Y' [] down sent bD bS cs' tv ∧ L_1.length = n ∧ (∀ (i : Nat) (a : Rr), L_1[i]? = some a → a.P = g' i) ∧ Value.tuple #[.agg #[.slice aL L'.length cL, .slice (some ⟨bD, 0, none⟩) down.length down.length, .slice aN 0 cN, .slice (some ⟨bS, 0, none⟩) sent.length sent.length, iv tv], .bool true] = .tuple #[.agg cs'.toArray, .bool true] := by
        obtain ⟨b1, b2, b3⟩ := B (h.next + 1) (by simp)
        exact ⟨G', L', Y', _, PX.fresh hW px (by omega) b2 gZ, V'.put gZ b2 b1, hL', hg', rfl⟩
      by_cases hi : i < 4000
      · have hd : decide ((i : Int) < 4000) = true := by simp; omega
        have h00 : decide ((0 : Int) < 0) = false := by decide
        simp only [push_cast, seval, hE.P, awrite, wpc_label, wpc_block, p1, p2, p4, hd, gG, gZ, nG, nZ, h00]
        exact fin
      · have hd : decide ((i : Int) < 4000) = false := by simp; omega
        simp only [push_cast, seval, hE.P, awrite, wpc_label, wpc_block, p1, p2, p4, hd, gG, gZ, nG, nZ]
        exact fin
    | step hto hs hD2 =>
      rename_i m net2 k2
      obtain ⟨vL', aN, cN, vN2, ms, rfl, hsp, hac, hms, hpop, V2⟩ := V'.pop (P := Tryz.prog) (t := 26) Tryz.underlying26 sz62
      have hd : decide ((i : Int) < 4000) = true := by simp; omega
      have hd2 : decide ((0 : Int) < (net2.length : Int) + 1) = true := by simp
      obtain ⟨aL, cL, hvL⟩ : ∃ aL cL, vL' = .slice aL L'.length cL := by
        obtain ⟨v1, v2, e1, gs'⟩ := V2.e
        injection e1 with e1 _
        obtain ⟨a, c, e2, _⟩ := gs'.ol.isSl
        exact ⟨a, c, by rw [e1, e2]⟩
      subst hvL
      obtain ⟨a2, c2, hvN⟩ : ∃ a2 c2, vN2 = .slice a2 net2.length c2 := by
        obtain ⟨v1, v2, e1, gs'⟩ := V2.e
        injection e1 with _ e1
        injection e1 with _ e1
        injection e1 with e1 _
        obtain ⟨co, h1, _⟩ := gs'.on
        obtain ⟨a, c, e2, _⟩ := h1.isSl
        exact ⟨a, c, by rw [e1, e2]⟩
      subst hvN
      have hms0 := hms
      obtain ⟨b1, d1, b2, d2, b3, d3, hmse, _⟩ := hms.e
      have q0 := acells_part hac 0 17 (by omega)
      rw [hmse] at q0
      simp only [List.take_succ_cons, List.take_zero, List.drop_zero, Nat.add_zero] at q0
      have w0 := V'.so.wf.b0
      have u0 := V'.so.wf.ne gG
      have u5 := V'.so.wf.ne' gG
      simp only [push_cast, seval, hE.P, awrite, wpc_label, wpc_block, p1, p2, p4, hd, hd2, gG, gZ, nG, nZ]
      rw [ia26 hsp (by omega) (by omega), kpure_some]
      simp only [push_cast, seval, hE.P, awrite, wpc_label, wpc_block, p1, p2, p4, gG, gZ, nG, nZ, ↓q0, Int.toNat_zero, Nat.zero_mul, w0, u0, u5, hpop]
      have kp := (KW.refl V'.so.wf).push (o := .cells [iv m.k, iv m.fr, iv m.to, iv m.vw, iv m.op, iv m.cm, iv m.bs, iv m.nm, iv m.nc, .slice b1 m.log.length d1, .slice b2 m.img.length d2, iv m.en.c, iv m.en.n, .string m.en.t, iv m.rp.e, iv m.rp.n, .slice b3 0 d3] 62 true)
      have hbx := B h.next (by simp)
      have V3 := (V2.kw kp).put (b := h.next) (o := .cells [.slice aL L'.length cL, .slice (some ⟨bD, 0, none⟩) down.length down.length, .slice a2 net2.length c2, .slice (some ⟨bS, 0, none⟩) sent.length sent.length, iv tv] 29 true) (kp.k.get _ _ gG) hbx.2.1 hbx.1
      have px3 := PX.fresh (o := .cells [.slice aL L'.length cL, .slice (some ⟨bD, 0, none⟩) down.length down.length, .slice a2 net2.length c2, .slice (some ⟨bS, 0, none⟩) sent.length sent.length, iv tv] 29 true) hW (px.trans hW (PX.kw V'.so kp)) (Nat.le_refl _) hbx.2.1 (kp.k.get _ _ gG)
      have lG := (V'.so.wf.live _ _ gG).2
      have lZ := (V'.so.wf.live _ _ gZ).2
      have B3 : Bz (gX L' Y' bD bS) G' ((H.push (.cells [iv m.k, iv m.fr, iv m.to, iv m.vw, iv m.op, iv m.cm, iv m.bs, iv m.nm, iv m.nc, .slice b1 m.log.length d1, .slice b2 m.img.length d2, iv m.en.c, iv m.en.n, .string m.en.t, iv m.rp.e, iv m.rp.n, .slice b3 0 d3] 62 true)).put h.next (.cells [.slice aL L'.length cL, .slice (some ⟨bD, 0, none⟩) down.length down.length, .slice a2 net2.length c2, .slice (some ⟨bS, 0, none⟩) sent.length sent.length, iv tv] 29 true)).next [h.next, h.next + 1, H.next] := by
        intro b hb
        simp only [List.mem_cons, List.not_mem_nil, or_false] at hb
        rcases hb with rfl | rfl | rfl
        · exact ⟨hbx.1, hbx.2.1, by simp; omega⟩
        · have := B (h.next + 1) (by simp)
          exact ⟨this.1, this.2.1, by simp; omega⟩
        · exact ⟨fun hx => by have := V'.so.lt _ hx; omega, V'.so.gnone (Nat.le_refl _), by simp⟩
      refine gtm (motive := fun t => kpure _ _ _ t) [1, 2, 4, 5] fun t3 hf => ?_
      simp only [push_cast, seval, hE.P, awrite, wpc_label, wpc_block, List.mem_cons, List.not_mem_nil, or_false, forall_eq_or_imp, forall_eq, p1, p2, p4] at hf
      obtain ⟨r1, r2, r4, r5⟩ := hf
      refine gheap (motive := fun H => kpure _ _ _ _ H) (fun H2 => PX E G h (gX L Y bD bS) G' H2 (gX L' Y' bD bS) ∧ GV E G' H2 L' Y' net2 down sent bD bS [.slice aL L'.length cL, .slice (some ⟨bD, 0, none⟩) down.length down.length, .slice a2 net2.length c2, .slice (some ⟨bS, 0, none⟩) sent.length sent.length, iv tv] tv ∧ Bz (gX L' Y' bD bS) G' H2.next [h.next, h.next + 1, H.next] ∧ H2.get h.next = some (.cells [.slice aL L'.length cL, .slice (some ⟨bD, 0, none⟩) down.length down.length, .slice a2 net2.length c2, .slice (some ⟨bS, 0, none⟩) sent.length sent.length, iv tv] 29 true) ∧ H2.get H.next = some (.cells [iv m.k, iv m.fr, iv m.to, iv m.vw, iv m.op, iv m.cm, iv m.bs, iv m.nm, iv m.nc, .slice b1 m.log.length d1, .slice b2 m.img.length d2, iv m.en.c, iv m.en.n, .string m.en.t, iv m.rp.e, iv m.rp.n, .slice b3 0 d3] 62 true) ∧ H2.get (h.next + 1) = some (.cells [.slice none 0 0, .slice none 0 0, .slice none 0 0, .slice none 0 0, .int .i64 0] 29 true))
        ⟨px3, V3, B3, by rw [get_put, if_pos rfl], by rw [get_put, if_neg (by omega), get_push, if_pos rfl], by rw [get_put, if_neg (by omega)]; exact kp.k.get _ _ gZ⟩ ?_
      clear px3 V3 B3 kp
      rintro H2 ⟨px3, V3, B3, gG2, gM2, gZ2⟩
      have nM := V3.so.wf.nlt gM2
      have hrd : acells E H2 ⟨bD, m.to, none⟩ 1 = some [.bool false] := by
        unfold acells
        rw [if_neg (by have := V3.so.wf.nlt V3.gD; simpa using this)]
        simp only [V3.gD]
        rw [if_pos (by simp [boolsC, hdn]; omega)]
        simp [boolsC, hdn, hto]
        rw [show min 1 (n - m.to) = 1 by omega]; rfl
      rw [ia25 rfl (by omega) (by rw [hdn]; simp; omega), kpure_some]
      simp only [push_cast, seval, hE.P, awrite, wpc_label, wpc_block, r1, r2, r4, r5, gG2, gM2, gZ2, nG, nM, nZ, ↓hrd, Int.toNat_natCast, Nat.mul_one]
      obtain ⟨ar, har⟩ : ∃ ar, L'[m.to]? = some ar := ⟨_, List.getElem?_eq_getElem (by omega)⟩
      have haP := hg' _ _ har
      rw [hmse] at hms0
      have hact := act_gv hE V3 har (dk := 0) (nk := 0) (.inl rfl) (by omega) hms0 (P' := (stepP (g1 m.to) m).1) (out := (stepP (g1 m.to) m).2) hs.2.2.2.2.2.2.2.1
        (fun s q hp hm1 => by rw [← haP] at hs ⊢; exact deedOk hE s q hp hm1 hs)
        (fun w f hp hm1 => by
          rw [← haP] at hs ⊢
          unfold outC
          rw [if_pos rfl]
          refine (modelOk hE w f hp hm1 hs).mono ?_
          rintro v h' ⟨G', rc', co, v2, x, _, z, r, rfl⟩
          exact ⟨G', _, co, v2, x, z, r, rfl⟩)
      refine hact.mono ?_
      rintro v H4 ⟨G4, b, Y4, cs4, px4, V4, hbP, rfl⟩
      have B4 := B3.px px4
      have gk : ∀ b o, b ∈ [h.next, h.next + 1, H.next] → H2.get b = some o → H4.get b = some o := fun b o hb hg => px4.kx.get b o (B3 b hb).1 hg
      have gG4 := gk _ _ (by simp) gG2
      have gZ4 := gk _ _ (by simp) gZ2
      have v0 := V4.so.wf.b0
      have v1 := V4.so.wf.ne gG4
      have v2 := V4.so.wf.ne' gG4
      obtain ⟨vL4, vN4, hcs4, gs4⟩ := V4.e
      obtain ⟨aL4, cL4, hvL4, _⟩ := gs4.ol.isSl
      obtain ⟨aN4, cN4, hvN4⟩ : ∃ aN cN, vN4 = .slice aN (addNet net2 (stepP (g1 m.to) m).2).length cN := by
        obtain ⟨co, h1, _⟩ := gs4.on
        obtain ⟨a, c, e1, _⟩ := h1.isSl
        exact ⟨a, c, e1⟩
      subst hvL4; subst hvN4; subst hcs4
      simp only [push_cast, seval, hE.P, awrite, wpc_label, wpc_block, r1, r2, r4, r5, gG4, gZ4, nG, nM, nZ, v0, v1, v2]
      have k5 := (KW.refl V4.so.wf).push (o := .cells [.slice aL4 (L'.set m.to b).length cL4, .slice (some ⟨bD, 0, none⟩) down.length down.length, .slice aN4 (addNet net2 (stepP (g1 m.to) m).2).length cN4, .slice (some ⟨bS, 0, none⟩) sent.length sent.length, iv tv] 29 true)
      have b5 := B4 h.next (by simp)
      have px5 := px3.trans hW (px4.trans V3.so.wf (PX.kw V4.so k5))
      have l4 := (V4.so.wf.live _ _ gG4).2
      have l5 := (V4.so.wf.live _ _ gZ4).2
      refine ⟨4000 - (i + 1), by omega, i + 1, k2, G4, L'.set m.to b, Y4, _, (actF (g1, net2) m.to (stepP (g1 m.to) m)).1, [.slice aL4 (L'.set m.to b).length cL4, .slice (some ⟨bD, 0, none⟩) down.length down.length, .slice aN4 (addNet net2 (stepP (g1 m.to) m).2).length cN4, .slice (some ⟨bS, 0, none⟩) sent.length sent.length, iv tv], rfl, by omega, hD2, iv_succ (by omega), PX.fresh hW px5 (Nat.le_refl _) b5.2.1 (k5.k.get _ _ gG4), (V4.kw k5).put (k5.k.get _ _ gG4) b5.2.1 b5.1, by simp [hL'], ?_, rfl, ?_, ?_⟩
      · intro j a hj
        rcases set_get har hj with ⟨h1, h2⟩ | ⟨h1, h2⟩
        · subst h1; subst h2
          rw [hbP]
          simp only [actF, if_true]
        · rw [hg' j a h2]
          simp [actF, h1]
      · rw [if_neg (by omega)]
      · intro b hb
        have hb' : b ∈ [h.next, h.next + 1, H.next] := by
          simp only [List.mem_cons, List.not_mem_nil, or_false] at hb ⊢
          rcases hb with h1 | h1
          · exact .inl h1
          · exact .inr (.inl h1)
        obtain ⟨h1, h2, h3⟩ := B4 b hb'
        exact ⟨h1, h2, by omega⟩
end
end Go.Proofs.YthdgobcpefcolaaGreatDoor
