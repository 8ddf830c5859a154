/- Building a value. -/
/- Merged by a program of ours: H17 H18. -/
import Derived.Test.YthfopcdammlmfaaGreatDoorC5
set_option maxRecDepth 10000
set_option linter.all false
set_option linter.unusedSimpArgs false
set_option linter.unusedVariables false
/- How much a value's objects take. -/
namespace Go.Proofs.YthfopcdammlmfaaGreatDoor
open Go.Tm
theorem packW_textW (s : ByteArray) : ((packW s).length : Int) = textW s := by rw [packW_len]; unfold textW; omega
theorem formed_l {V : Vl} (h : formedV V = true) : (V.k ≠ 5 → V.l = []) ∧ (V.k ≠ 6 → V.f = []) ∧ 1 ≤ V.k ∧ V.k ≤ 6 := by
  unfold formedV at h
  simp only [Bool.and_eq_true] at h
  obtain ⟨⟨⟨h1, h2⟩, h3⟩, h4⟩ := h
  simp at h1 h3
  refine ⟨fun h => ?_, fun h => ?_, by omega, by omega⟩
  · rcases h3.1 with h5 | h5
    · exact (h h5).elim
    · exact h5
  · rcases h3.2 with h5 | h5
    · exact (h h5).elim
    · exact h5
theorem obsL_words {l : List Vl} (h : ∀ x, x ∈ l → ∀ b, (allO (obs b x) : Int) = wordsV x ∧ ((obs b x).length : Int) = objsV x) : ∀ b, (allO (obsL b l).1 : Int) = (l.map wordsV).sum ∧ ((obsL b l).1.length : Int) = (l.map objsV).sum := by
  induction l with
  | nil => intro b; simp [obsL, allO_nil]
  | cons v l ih =>
    intro b
    obtain ⟨a1, a2⟩ := h v (by simp) b
    obtain ⟨b1, b2⟩ := ih (fun x hx => h x (by simp [hx])) (b + (obs b v).length)
    simp only [obsL, allO_app, List.length_append, List.map_cons, List.sum_cons]
    constructor <;> omega
theorem obsF_words {l : List (ByteArray × Vl)} (h : ∀ x, x ∈ l → ∀ b, (allO (obs b x.2) : Int) = wordsV x.2 ∧ ((obs b x.2).length : Int) = objsV x.2) : ∀ b, (allO (obsF b l).1 : Int) = (l.map fun x => 1 + textW x.1 + wordsV x.2).sum ∧ ((obsF b l).1.length : Int) = (l.map fun x => 1 + objsV x.2).sum := by
  induction l with
  | nil => intro b; simp [obsF, allO_nil]
  | cons v l ih =>
    intro b
    obtain ⟨nm, v⟩ := v
    obtain ⟨a1, a2⟩ := h (nm, v) (by simp) (b + 1)
    obtain ⟨b1, b2⟩ := ih (fun x hx => h x (by simp [hx])) (b + 1 + (obs (b + 1) v).length)
    have := packW_textW nm
    simp only [obsF, allO_cons, allO_app, List.length_append, List.length_cons, List.map_cons, List.sum_cons]
    simp only at a1 a2
    constructor <;> omega
theorem sum_add1 (l : List Vl) : (l.map fun x => 1 + wordsV x).sum = l.length + (l.map wordsV).sum := by
  induction l with
  | nil => rfl
  | cons x l ih => simp only [List.map_cons, List.sum_cons, List.length_cons, ih]; omega
theorem sum_add3 (l : List (ByteArray × Vl)) : (l.map fun x => 3 + textW x.1 + wordsV x.2).sum = 2 * l.length + (l.map fun x => 1 + textW x.1 + wordsV x.2).sum := by
  induction l with
  | nil => rfl
  | cons x l ih => simp only [List.map_cons, List.sum_cons, List.length_cons, ih]; omega
theorem obs_words : ∀ (n : Nat) (V : Vl), V.sz ≤ n → allV formedV V = true → ∀ b, (allO (obs b V) : Int) = wordsV V ∧ ((obs b V).length : Int) = objsV V := by
  intro n
  induction n with
  | zero => intro V hV; have := sz_eq V; omega
  | succ n ih =>
    intro V hVn hf b
    rw [allV_eq, Bool.and_eq_true] at hf
    obtain ⟨hf1, hf2⟩ := hf
    obtain ⟨hl, hff, hk1, hk2⟩ := formed_l hf1
    rw [obs_eq, wordsV_eq, objsV_eq]
    have hb : baseW V = if V.k = 2 then 2 else if V.k = 3 then 2 else if V.k = 4 then 1 + textW V.s else 1 := rfl
    by_cases h5 : V.k = 5
    · have hp : V.parts = V.l := by simp [Vl.parts, h5]
      rw [hp, List.all_eq_true] at hf2
      obtain ⟨a1, a2⟩ := obsL_words (l := V.l) (fun x hx => ih x (by have := l_sz hx; omega) (hf2 x hx)) b
      rw [hff (by omega), sum_add1]
      have h1 : V.k ≠ 2 := by omega
      have h2 : V.k ≠ 3 := by omega
      have h3 : V.k ≠ 4 := by omega
      rw [if_neg h1, if_neg h2, if_neg h3, if_pos h5]
      rw [if_neg h1, if_neg h2, if_neg h3] at hb
      rw [hb]
      have := obsL_len V.l b
      simp only [allO_app, allO_cons, allO_nil, List.length_append, List.length_cons, List.length_nil, List.map_nil, List.sum_nil]
      replace a2 : ((obsL b V.l).1.length : Int) = (V.l.map fun x => objsV x).sum := a2
      constructor <;> omega
    · rw [hl h5]
      by_cases h6 : V.k = 6
      · have hp : V.parts = V.f.map (·.2) := by simp [Vl.parts, h6]
        rw [hp, List.all_eq_true] at hf2
        obtain ⟨a1, a2⟩ := obsF_words (l := V.f) (fun x hx => ih x.2 (by have := f_sz hx; omega) (hf2 x.2 (List.mem_map.2 ⟨x, hx, rfl⟩))) b
        rw [sum_add3]
        have h1 : V.k ≠ 2 := by omega
        have h2 : V.k ≠ 3 := by omega
        have h3 : V.k ≠ 4 := by omega
        rw [if_neg h1, if_neg h2, if_neg h3, if_neg h5, if_pos h6]
        rw [if_neg h1, if_neg h2, if_neg h3] at hb
        rw [hb]
        have := obsF_len V.f b
        simp only [allO_app, allO_cons, allO_nil, List.length_append, List.length_cons, List.length_nil, List.map_nil, List.sum_nil]
        constructor <;> omega
      · rw [hff h6]
        have hpk := packW_textW V.s
        rw [hb]
        simp only [if_neg h5, if_neg h6, List.map_nil, List.sum_nil]
        repeat' split
        all_goals (simp only [allO_cons, allO_nil, List.length_cons, List.length_nil]; constructor <;> omega)
theorem good_parts {V : Vl} (h : goodV V = 0) : allV formedV V = true ∧ allV spelledV V = true ∧ allV fewV V = true ∧ depthV V ≤ 8 ∧ sizeV V ≤ 2048 := by
  unfold goodV at h
  split at h
  · omega
  · rename_i h1
    split at h
    · omega
    · rename_i h2
      split at h
      · omega
      · rename_i h3
        split at h
        · omega
        · split at h
          · omega
          · exact ⟨by simpa using h1, by simpa using h2, by simpa using h3, by omega, by omega⟩
end Go.Proofs.YthfopcdammlmfaaGreatDoor
namespace Go.Proofs.YthfopcdammlmfaaGreatDoor
open Go.Tm
theorem sum_nn {l : List Int} (h : ∀ x, x ∈ l → 0 ≤ x) : 0 ≤ l.sum := by
  induction l with
  | nil => simp
  | cons x l ih => have := h x (by simp); have := ih (fun y hy => h y (by simp [hy])); simp only [List.sum_cons]; omega
theorem sum_mem {l : List Int} (h : ∀ x, x ∈ l → 0 ≤ x) {x : Int} (hx : x ∈ l) : x ≤ l.sum := by
  induction l with
  | nil => cases hx
  | cons y l ih =>
    have h1 := h y (by simp)
    have h2 := sum_nn (l := l) (fun z hz => h z (by simp [hz]))
    simp only [List.sum_cons]
    rcases List.mem_cons.1 hx with rfl | hx
    · omega
    · have := ih (fun z hz => h z (by simp [hz])) hx; omega
theorem head_nn (V : Vl) : 0 ≤ headV V ∧ (V.k = 4 → (V.s.size : Int) ≤ headV V) := by
  have d1 := digitsN_pos (turnedN V.n)
  have d2 := digitsN_pos V.s.size
  have d3 := digitsN_pos V.l.length
  have d4 := digitsN_pos V.f.length
  have d5 : 0 ≤ (V.f.map fun x => digitsN x.1.size + (x.1.size : Int)).sum := sum_nn fun x hx => by
    obtain ⟨y, _, rfl⟩ := List.mem_map.1 hx
    have := digitsN_pos y.1.size
    omega
  unfold headV
  refine ⟨?_, fun h4 => ?_⟩
  · repeat' split
    all_goals omega
  · rw [if_neg (by omega), if_neg (by omega), if_pos h4]; omega
theorem size_nn : ∀ (n : Nat) (V : Vl), V.sz ≤ n → 0 ≤ sizeV V := by
  intro n
  induction n with
  | zero => intro V hV; have := sz_eq V; omega
  | succ n ih =>
    intro V hV
    rw [sizeV_eq]
    have h1 := (head_nn V).1
    have h2 : 0 ≤ (V.parts.map sizeV).sum := sum_nn fun x hx => by
      obtain ⟨y, hy, rfl⟩ := List.mem_map.1 hx
      exact ih y (by have := parts_sz hy; omega)
    omega
theorem can_of : ∀ (n : Nat) (V : Vl), V.sz ≤ n → allV formedV V = true → allV fewV V = true → sizeV V ≤ 10000 → allV canB V = true := by
  intro n
  induction n with
  | zero => intro V hV; have := sz_eq V; omega
  | succ n ih =>
    intro V hV hf hw hs
    rw [allV_eq, Bool.and_eq_true] at hf hw ⊢
    rw [List.all_eq_true] at hf hw ⊢
    have h1 := head_nn V
    have hnn : ∀ x, x ∈ V.parts.map sizeV → 0 ≤ x := fun x hx => by
      obtain ⟨y, hy, rfl⟩ := List.mem_map.1 hx
      exact size_nn _ y (Nat.le_refl _)
    rw [sizeV_eq] at hs
    refine ⟨?_, fun x hx => ih x (by have := parts_sz hx; omega) (hf.2 x hx) (hw.2 x hx) ?_⟩
    · unfold canB
      rw [hw.1, Bool.true_and, decide_eq_true_eq]
      by_cases h4 : V.k = 4
      · have := sum_nn hnn; have := h1.2 h4; omega
      · have h2 := hf.1
        unfold formedV at h2
        simp only [Bool.and_eq_true] at h2
        have h3 := h2.1.1.2
        simp at h3
        have h5 : V.s.data.toList = [] := by
          rcases h3.2 with h | h
          · exact (h4 h).elim
          · simpa using h
        have h6 : V.s.size = V.s.data.toList.length := by simp
        rw [h6, h5]; simp
    · have := sum_mem hnn (List.mem_map.2 ⟨x, hx, rfl⟩)
      have := h1.1
      omega
variable {E : Env} (hE : EOk E)
include hE
section
variable {h : Heap} {L : HL} {W nS : Nat} {R : List Nat} {O : List Ob} (H : IsO E h L W nS R O)
include H
theorem room_at {w n : Int} (h1 : 0 ≤ w) (h2 : 0 ≤ n) : CallsTo E 42 [.pointer (some ⟨L.ph, 0, none⟩), .int .i64 w, .int .i64 n] h fun v h' =>
    v = .bool (decide (w ≤ (W : Int) - allO O) && decide (n ≤ (nS : Int) - O.length)) ∧ h' = h := by
  have hWb : W ≤ 1048576 ∧ nS ≤ 1048576 ∧ O.length ≤ nS := by obtain ⟨S, H', w', e1, e2, e3⟩ := H; rw [← e1, ← e2]; exact ⟨H'.ok.W, H'.ok.nS, w'.len H'.ok⟩
  refine en hE Tryz.func42 rfl rfl Tryz.ntmps42 rfl (by decide +kernel) (rs := [.tmp 6]) rfl ?_
  simp only [push_cast, seval, hE.P, zz]
  refine (oarena_at hE H).mono ?_
  rintro v h' ⟨rfl, rfl⟩
  simp only [push_cast, seval, hE.P, zz]
  refine (ofree_at hE H).mono ?_
  rintro v h' ⟨rfl, rfl⟩
  simp only [push_cast, seval, hE.P, zz]
  refine kguard_splitT (fun hb => ?_) (fun hb => ?_)
  · have h3 : w ≤ (W : Int) - allO O := by simpa using hb
    simp only [push_cast, seval, hE.P, zz, hb]
    refine (otable_at hE H).mono ?_
    rintro v h' ⟨rfl, rfl⟩
    simp only [push_cast, seval, hE.P, zz, hb]
    refine (oslots_at hE H).mono ?_
    rintro v h' ⟨rfl, rfl⟩
    simp only [push_cast, seval, hE.P, zz, hb]
    refine (otable_at hE H).mono ?_
    rintro v h' ⟨rfl, rfl⟩
    simp only [push_cast, seval, hE.P, zz, hb]
    refine (ocount_at hE H).mono ?_
    rintro v h' ⟨rfl, rfl⟩
    have hw : IntKind.i64.wrap ((nS : Int) - O.length) = (nS : Int) - O.length := wr64 (by omega) (by omega)
    have h4 : decide (w ≤ (W : Int) - allO O) = true := decide_eq_true h3
    simp only [push_cast, seval, hE.P, zz, hb, hw, h4]
  · have h3 : ¬ w ≤ (W : Int) - allO O := by simpa using hb
    have h4 : decide (w ≤ (W : Int) - allO O) = false := decide_eq_false h3
    simp only [push_cast, seval, hE.P, zz, hb, h4]
def buildO (W nS : Nat) (O : List Ob) (V : Vl) : Value × List Ob :=
  if goodV V = 0 then (if allO O + allO (obs O.length V) ≤ W ∧ O.length + (obs O.length V).length ≤ nS then (.tuple #[.int .u64 (hOf (O.length + (obs O.length V).length - 1)), .int .i64 0], O ++ obs O.length V) else (.tuple #[.int .u64 0, .int .i64 5], O))
  else (.tuple #[.int .u64 0, .int .i64 (goodV V)], O)
theorem build_at {V : Vl} (hz : V.sz ≤ 10000) (hW : WF E h) {G : Mem} (hG : Frz E G h) (hS : Sep L G) {c : List Value} (hV : Rep E G V c) : CallsTo E 10 [.pointer (some ⟨L.ph, 0, none⟩), .agg c.toArray] h fun v h' =>
    v = (buildO W nS O V).1 ∧ IsO E h' L W nS R (buildO W nS O V).2 ∧ KeepB L h h' ∧ WF E h' := by
  have hWb : W ≤ 1048576 ∧ nS ≤ 1048576 ∧ O.length ≤ nS := by obtain ⟨S, H', w', e1, e2, e3⟩ := H; rw [← e1, ← e2]; exact ⟨H'.ok.W, H'.ok.nS, w'.len H'.ok⟩
  have hlt := H.lt hW
  have hV0 := hV
  obtain ⟨sl, sf, cl, cf, rfl, hsl, hsf, hl, hf, hb1, hb2, hb3⟩ := hV.cells
  unfold buildO
  refine en hE Tryz.func10 rfl rfl Tryz.ntmps10 rfl (by decide +kernel) (rs := [.tmp 4, .tmp 5]) rfl ?_
  simp only [push_cast, seval, hE.P, zz, hW.nb, hW.nb0]
  have k0 := (Keep.refl h).push (o := .cells [.int .i64 V.k, .int .i64 V.n, .string V.s, sl, sf] 25 true) hW
  have w0 := hW.push (.cells [.int .i64 V.k, .int .i64 V.n, .string V.s, sl, sf] 25 true)
  have g0 : (h.push (.cells [.int .i64 V.k, .int .i64 V.n, .string V.s, sl, sf] 25 true)).get h.next = some (.cells [.int .i64 V.k, .int .i64 V.n, .string V.s, sl, sf] 25 true) := by rw [get_push, if_pos rfl]
  refine (Words_at hE hz w0 (hG.keep k0) hV0).mono ?_
  rintro v h1 ⟨rfl, k1, w1⟩
  have g1 := k1.get _ _ g0
  have H1 := H.keep (k0.trans k1)
  by_cases hg : goodV V = 0
  · obtain ⟨p1, p2, p3, p4, p5⟩ := good_parts hg
    obtain ⟨q1, q2⟩ := obs_words _ V (Nat.le_refl _) p1 O.length
    have hcan := can_of _ V (Nat.le_refl _) p1 p3 (by omega)
    simp only [if_pos hg]
    simp only [push_cast, seval, hE.P, zz, hW.nb0, g1]
    refine (room_at hE H1 (w := wordsV V) (n := objsV V) (by omega) (by omega)).mono ?_
    rintro v h2 ⟨rfl, rfl⟩
    by_cases hr : allO O + allO (obs O.length V) ≤ W ∧ O.length + (obs O.length V).length ≤ nS
    · simp only [if_pos hr]
      have e1 : (decide (wordsV V ≤ (W : Int) - allO O) && decide (objsV V ≤ (nS : Int) - O.length)) = true := by
        rw [decide_eq_true (by omega), decide_eq_true (by omega)]; rfl
      simp only [push_cast, seval, hE.P, zz, e1, hW.nb0, g1]
      refine (value_at hE V.sz V (Nat.le_refl _) H1 w1 (hG.keep (k0.trans k1)) hS hV0 hcan hr.1 hr.2).mono ?_
      rintro v h3 ⟨rfl, H3, k3, w3⟩
      simp only [push_cast, seval, hE.P, zz]
      exact ⟨H3, ((k0.trans k1).b L).trans k3, w3⟩
    · simp only [if_neg hr]
      have e1 : (decide (wordsV V ≤ (W : Int) - allO O) && decide (objsV V ≤ (nS : Int) - O.length)) = false := by
        rw [Bool.and_eq_false_iff, decide_eq_false_iff_not, decide_eq_false_iff_not]; omega
      simp only [push_cast, seval, hE.P, zz, e1]
      exact ⟨H1, (k0.trans k1).b L, w1⟩
  · simp only [if_neg hg]
    have e0 : (goodV V != 0) = true := by simpa using hg
    simp only [push_cast, seval, hE.P, zz, e0]
    exact ⟨H1, (k0.trans k1).b L, w1⟩
end
end Go.Proofs.YthfopcdammlmfaaGreatDoor
