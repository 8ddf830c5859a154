/- The engine, twenty-fifth part: regions that draw their order and make new memory in any order: the steps. -/
import Derived.Test.YtigifaghgnbgoaaGreatEng24
namespace Go.Tm

section
variable {E : Env} {call : Caller} {O : List Oper} {c : Nat → St}

theorem Draw2.scqstep (W : Draw2 E call O c) {D : List Nat} (hD : Closed O D) {tm : Tr Value} (hs : ∀ t, scQ (live c D) (fget tm t) = true) {i : Nat} {o : Oper} (ho : O[i]? = some o)
    (hr : ∀ o, O[i]? = some o → ∀ p, p ∈ preds o → p ∈ D) {v : Value} (hv : (c (i + 1)).tm = aput (c i).tm o.dst v) : ∀ t, scQ (live c (i :: D)) (fget (aput tm o.dst v) t) = true := by
  intro t
  rw [fget_aput]
  by_cases e : o.dst = some t
  · rw [if_pos e]
    have := W.vals i o t ho e
    rw [hv, fget_aput, if_pos e] at this
    refine scQ_imp _ _ (live_imp fun k hk => ?_) v this
    simp only [List.mem_cons] at hk ⊢
    rcases hk with hk | hk
    · exact .inl hk
    · simp only [befs, List.mem_filter] at hk
      exact .inr (bef_ready hD hr hk.2)
  · rw [if_neg e]
    exact scQ_imp _ _ (live_imp fun k hk => List.mem_cons_of_mem _ hk) _ (hs t)

theorem Early.more {w0 : World} {D : List Nat} {i p : Nat} {ρ : Ren} {w : World} {j : Nat} {o : Oper} (h : Early E c w0 D p ρ w j o) : Early E c w0 (i :: D) p ρ w j o := by
  obtain ⟨mk, ob, cc, g1, g2, g3, g4, g5, g6, g7⟩ := h
  exact ⟨mk, ob, cc, g1, g2, g3, g4, scOQ_imp (live_imp fun k hk => List.mem_cons_of_mem _ hk) g5, g6, g7⟩

theorem same_o {i : Nat} {o o' : Oper} (h : O[i]? = some o) (h' : O[i]? = some o') : o = o' := by rw [h] at h'; exact Option.some.inj h'

variable {B : Nat} {ρ0 : Ren} {w0 : World}

theorem Inv.quiet (W : Draw2 E call O c) {D : List Nat} (hD : Closed O D) {p : Nat} {ρ : Ren} {tm : Tr Value} {w : World} (I : Inv E B O c ρ0 w0 D p ρ tm w) {i : Nat} {o : Oper} (ho : O[i]? = some o) (hi : i ∉ D)
    (hr : ∀ o, O[i]? = some o → ∀ p, p ∈ preds o → p ∈ D) (hF : isF E.P o = false) (hA : isA E.P o = true → awanted O (c i).tm o = false) {v : Value} (hv : (c (i + 1)).tm = aput (c i).tm o.dst v) :
    Inv E B O c ρ0 w0 (i :: D) p ρ (aput tm o.dst v) w := by
  have hne : ∀ j oj, O[j]? = some oj → isA E.P oj = true → awanted O (c j).tm oj = true → j ≠ i := by
    intro j oj h1 h2 h3 e
    subst e
    have := same_o ho h1; subst this
    rw [hA h2] at h3; cases h3
  have hmem : ∀ j oj, O[j]? = some oj → isA E.P oj = true → awanted O (c j).tm oj = true → j ∈ i :: D → j ∈ D := by
    intro j oj h1 h2 h3 h4
    simp only [List.mem_cons] at h4
    exact h4.resolve_left (hne j oj h1 h2 h3)
  refine ⟨I.st, ?_, I.le, I.form, ?_, ?_, ?_, ?_, W.frstep I.fr ho hi hv, W.scqstep hD I.scq ho hr hv⟩
  · intro k hk
    simp only [List.mem_cons] at hk
    rcases hk with rfl | hk
    · exact (List.getElem?_eq_some_iff.1 ho).1
    · exact I.bd k hk
  · intro e oe h1 h2
    have : e ≠ i := by
      intro he; subst he
      have := same_o ho h1; subst this
      rw [hF] at h2; cases h2
    simp only [List.mem_cons, this, false_or]
    exact I.effs e oe h1 h2
  · intro j oj h1 h2 h3
    exact List.mem_cons_of_mem _ (I.allocs j oj h1 h2 h3)
  · intro j oj h1 h2 h3 h4 h5
    exact (I.early j oj h1 h2 h3 (hmem j oj h1 h2 h5 h4) h5).more
  · intro j k oj ok h1 h2 h3 h4 h5 k1 k2 k3 k4 k5 hjk
    exact I.dist j k oj ok h1 h2 h3 (hmem j oj h1 h2 h5 h4) h5 k1 k2 k3 (hmem k ok k1 k2 k5 k4) k5 hjk

theorem isA_not_isF {P : Program} {o : Oper} (h : isA P o = true) : isF P o = false := by
  unfold isA at h; unfold isF
  cases hk : kindOf P o.op <;> simp only [hk] at h ⊢ <;> cases h

theorem Inv.alloc (W : Draw2 E call O c) {D : List Nat} (hD : Closed O D) {p : Nat} {ρ : Ren} {tm : Tr Value} {w : World} (I : Inv E B O c ρ0 w0 D p ρ tm w) {i : Nat} {o : Oper} (ho : O[i]? = some o) (hi : i ∉ D)
    (hr : ∀ o, O[i]? = some o → ∀ p, p ∈ preds o → p ∈ D) (hA : isA E.P o = true) (hw : awanted O (c i).tm o = true) {v : Value} (hv : (c (i + 1)).tm = aput (c i).tm o.dst v)
    {mk : Nat → Value} {ob : AObj} {cc : Obj} (ha : aalloc E.P (opd (c i).tm) o.op = some (mk, ob)) (hh : (c (i + 1)).h = (c i).h.push ob) (hc : objR E.P ρ ⟨w.heap.size, 0, 0⟩ ob cc) (hsc : scO (c i).h.next ob) :
    Inv E B O c ρ0 w0 (i :: D) p (upd ρ (c i).h.next ⟨w.heap.size, 0, 0⟩) (aput tm o.dst v) (w.alloc cc) ∧ ∀ b, live c D b = true → upd ρ (c i).h.next ⟨w.heap.size, 0, 0⟩ b = ρ b := by
  have hlt : i < O.length := (List.getElem?_eq_some_iff.1 ho).1
  have hip : p ≤ i := by
    rcases Nat.lt_or_ge i p with h | h
    · exact absurd (I.allocs i o ho hA h) hi
    · exact h
  have hnext : (c (i + 1)).h.next = (c i).h.next + 1 := by rw [hh]; rfl
  have hfree : ¬ (live c D (c i).h.next = true) := W.unused I.bd hi hlt (Nat.le_refl _) (by omega)
  have hag : ∀ b, live c D b = true → upd ρ (c i).h.next ⟨w.heap.size, 0, 0⟩ b = ρ b := fun b hb => upd_ne _ _ _ (fun e => hfree (e ▸ hb))
  have hpn := W.next_le' (a := p) (b := i) hip (by omega)
  have hmem : ∀ j, j ≠ i → j ∈ i :: D → j ∈ D := by
    intro j h1 h2
    simp only [List.mem_cons] at h2
    exact h2.resolve_left h1
  have hold : ∀ j oj, O[j]? = some oj → j ≠ i → isA E.P oj = true → awanted O (c j).tm oj = true → j ∈ D → (c j).h.next ≠ (c i).h.next := by
    intro j oj h1 h2 h3 h4 h5
    have hjl : j < O.length := (List.getElem?_eq_some_iff.1 h1).1
    have hj : (c (j + 1)).h.next = (c j).h.next + 1 := by
      obtain ⟨v', _, ⟨_, h⟩ | ⟨h, _⟩⟩ := aop1_tm (W.run j oj h1)
      · obtain ⟨_, _, _, _, h6⟩ := alloc_h h3 h
        rw [h6]; rfl
      · rw [h4] at h; cases h
    rcases Nat.lt_or_ge j i with h | h
    · have := W.next_le' (a := j + 1) (b := i) (by omega) (by omega); omega
    · have := W.next_le' (a := i + 1) (b := j) (by omega) (by omega); omega
  have hlow : ∀ b o', (c p).h.get b = some o' → upd ρ (c i).h.next ⟨w.heap.size, 0, 0⟩ b = ρ b ∧ (ρ b).r < w.heap.size := by
    intro b o' hb
    have h1 := (I.st.hr.live b o' hb).2.1
    exact ⟨upd_lt _ _ _ (by omega), I.st.hr.lt hb⟩
  refine ⟨⟨I.st.trans (Step.newOnly I.st.hr hpn _ _), ?_, I.le, I.form, ?_, ?_, ?_, ?_, W.frstep I.fr ho hi hv, W.scqstep hD I.scq ho hr hv⟩, hag⟩
  · intro k hk
    simp only [List.mem_cons] at hk
    rcases hk with rfl | hk
    · exact hlt
    · exact I.bd k hk
  · intro e oe h1 h2
    have : e ≠ i := by
      intro he; subst he
      have := same_o ho h1; subst this
      rw [isA_not_isF hA] at h2; cases h2
    simp only [List.mem_cons, this, false_or]
    exact I.effs e oe h1 h2
  · intro j oj h1 h2 h3
    exact List.mem_cons_of_mem _ (I.allocs j oj h1 h2 h3)
  · intro j oj h1 h2 h3 h4 h5
    by_cases hji : j = i
    · subst hji
      have := same_o ho h1; subst this
      refine ⟨mk, ob, cc, ha, ?_, ?_, hsc, ?_, ?_, ?_⟩
      · rw [upd_same, heap_alloc]; simp
      · rw [upd_same]; exact objR_congr (n := (c j).h.next) (fun b hb => upd_lt _ _ _ hb) hsc hc
      · refine scOQ_imp (live_imp fun k hk => ?_) (W.objs j o mk ob ho hA hw ha)
        simp only [befs, List.mem_filter] at hk
        exact List.mem_cons_of_mem _ (bef_ready hD hr hk.2)
      · rw [upd_same]; exact I.st.size
      · intro b o' hb
        obtain ⟨h6, h7⟩ := hlow b o' hb
        rw [h6, upd_same]; simp only; omega
    · obtain ⟨mk', ob', cc', g1, g2, g3, g4, g5, g6, g7⟩ := I.early j oj h1 h2 h3 (hmem j hji h4) h5
      have e1 := upd_ne ρ (c i).h.next ⟨w.heap.size, 0, 0⟩ (hold j oj h1 hji h2 h5 (hmem j hji h4))
      refine ⟨mk', ob', cc', g1, ?_, ?_, g4, scOQ_imp (live_imp fun k hk => List.mem_cons_of_mem _ hk) g5, ?_, ?_⟩
      · rw [e1, heap_alloc, Array.getElem?_push]
        rw [if_neg ?_]
        · exact g2
        · intro he
          rw [he] at g2
          simp at g2
      · rw [e1]; exact objR_congrQ hag g5 g3
      · rw [e1]; exact g6
      · intro b o' hb
        rw [(hlow b o' hb).1, e1]
        exact g7 b o' hb
  · intro j k oj ok h1 h2 h3 h4 h5 k1 k2 k3 k4 k5 hjk
    have hr' : ∀ j oj, O[j]? = some oj → isA E.P oj = true → p ≤ j → j ∈ D → awanted O (c j).tm oj = true → (ρ (c j).h.next).r < w.heap.size := by
      intro j oj h1 h2 h3 h4 h5
      obtain ⟨_, _, cc', _, g2, _⟩ := I.early j oj h1 h2 h3 h4 h5
      rcases Nat.lt_or_ge (ρ (c j).h.next).r w.heap.size with h' | h'
      · exact h'
      · simp [Array.getElem?_eq_none h'] at g2
    by_cases hji : j = i
    · subst hji
      have hkD := hmem k (fun e => hjk e.symm) k4
      rw [upd_same, upd_ne _ _ _ (hold k ok k1 (fun e => hjk e.symm) k2 k5 hkD)]
      have := hr' k ok k1 k2 k3 hkD k5
      simp only; omega
    · have hjD := hmem j hji h4
      rw [upd_ne _ _ _ (hold j oj h1 hji h2 h5 hjD)]
      by_cases hki : k = i
      · subst hki
        rw [upd_same]
        have := hr' j oj h1 h2 h3 hjD h5
        simp only; omega
      · have hkD := hmem k hki k4
        rw [upd_ne _ _ _ (hold k ok k1 hki k2 k5 hkD)]
        exact I.dist j k oj ok h1 h2 h3 hjD h5 k1 k2 k3 hkD k5 hjk

/-- What is known before an effect. -/
theorem Inv.atE (W : Draw2 E call O c) (hB : B ≤ w0.heap.size) {D : List Nat} (hD : Closed O D) {p : Nat} {ρ : Ren} {tm : Tr Value} {w : World} (I : Inv E B O c ρ0 w0 D p ρ tm w) {i : Nat} {o : Oper} (ho : O[i]? = some o) (hi : i ∉ D)
    (hr : ∀ o, O[i]? = some o → ∀ p, p ∈ preds o → p ∈ D) (hF : isF E.P o = true) : p ≤ i ∧ Step E B ρ0 (c 0).h w0 ρ (c i).h w ∧
      ∀ b o, (c i).h.get b = some o → (∃ o', (c p).h.get b = some o') ∨ ∃ j oj, p ≤ j ∧ j < i ∧ O[j]? = some oj ∧ isA E.P oj = true ∧ j ∈ D ∧ awanted O (c j).tm oj = true ∧ b = (c j).h.next := by
  have hlt : i < O.length := (List.getElem?_eq_some_iff.1 ho).1
  have hip : p ≤ i := by
    rcases Nat.lt_or_ge i p with h | h
    · exact absurd ((I.effs i o ho hF).2 h) hi
    · exact h
  obtain ⟨k, rfl⟩ : ∃ k, i = p + k := ⟨i - p, by omega⟩
  refine ⟨hip, W.push hB I k (by omega) ?_ ?_⟩
  · intro e oe h1 h2 h3
    cases h4 : isF E.P oe with
    | false => rfl
    | true =>
      have := (I.effs e oe h3 h4).1 (bef_ready hD hr (W.effs e (p + k) oe o h2 h3 ho h4 hF))
      omega
  · intro j oj h1 h2 h3 h4
    exact bef_ready hD hr (W.alle j (p + k) oj o h2 h3 ho h4 hF)

theorem Inv.eff (W : Draw2 E call O c) (hB : B ≤ w0.heap.size) {D : List Nat} (hD : Closed O D) {p : Nat} {ρ ρ' : Ren} {tm : Tr Value} {w w' : World} (I : Inv E B O c ρ0 w0 D p ρ tm w) {i : Nat} {o : Oper} (ho : O[i]? = some o) (hi : i ∉ D)
    (hr : ∀ o, O[i]? = some o → ∀ p, p ∈ preds o → p ∈ D) (hF : isF E.P o = true) {v : Value} (hv : (c (i + 1)).tm = aput (c i).tm o.dst v) (t : Step E B ρ (c i).h w ρ' (c (i + 1)).h w') :
    ∃ ρ'', Inv E B O c ρ0 w0 (i :: D) (i + 1) ρ'' (aput tm o.dst v) w' ∧ (∀ b, live c D b = true → ρ'' b = ρ b) ∧ ∀ b, b < (c (i + 1)).h.next → ρ'' b = ρ' b := by
  have hlt : i < O.length := (List.getElem?_eq_some_iff.1 ho).1
  obtain ⟨hip, s, hlive⟩ := I.atE W hB hD ho hi hr hF
  have hag : ∀ b, live c D b = true → (fun b => if b < (c (i + 1)).h.next then ρ' b else ρ b) b = ρ b := by
    intro b hb
    simp only
    split
    · rename_i h1
      rcases Nat.lt_or_ge b (c i).h.next with h2 | h2
      · exact t.ext b h2
      · exact absurd hb (W.unused I.bd hi hlt h2 h1)
    · rfl
  have hmem : ∀ j, i + 1 ≤ j → j ∈ i :: D → j ∈ D := by
    intro j h1 h2
    simp only [List.mem_cons] at h2
    exact h2.resolve_left (by omega)
  have hhi : ∀ j oj, O[j]? = some oj → i + 1 ≤ j → ¬ (c j).h.next < (c (i + 1)).h.next := by
    intro j oj h1 h2
    have hjl : j < O.length := (List.getElem?_eq_some_iff.1 h1).1
    have := W.next_le' (a := i + 1) (b := j) h2 (by omega); omega
  refine ⟨fun b => if b < (c (i + 1)).h.next then ρ' b else ρ b, ⟨(s.trans t).congr fun b hb => if_pos hb, ?_, by omega, .inr ⟨i, o, ho, hF, rfl⟩, ?_, ?_, ?_, ?_, W.frstep I.fr ho hi hv, W.scqstep hD I.scq ho hr hv⟩, hag, fun b hb => if_pos hb⟩
  · intro k hk
    simp only [List.mem_cons] at hk
    rcases hk with rfl | hk
    · exact hlt
    · exact I.bd k hk
  · intro e oe h1 h2
    simp only [List.mem_cons]
    constructor
    · rintro (rfl | h)
      · omega
      · have := (I.effs e oe h1 h2).1 h; omega
    · intro h
      rcases Nat.lt_or_ge e i with h3 | h3
      · exact .inr (bef_ready hD hr (W.effs e i oe o h3 h1 ho h2 hF))
      · exact .inl (by omega)
  · intro j oj h1 h2 h3
    rcases Nat.lt_or_ge j i with h4 | h4
    · exact List.mem_cons_of_mem _ (bef_ready hD hr (W.alle j i oj o h4 h1 ho h2 hF))
    · have : j = i := by omega
      simp [this]
  · intro j oj h1 h2 h3 h4 h5
    have hjD := hmem j h3 h4
    obtain ⟨mk, ob, cc, g1, g2, g3, g4, g5, g6, g7⟩ := I.early j oj h1 h2 (by omega) hjD h5
    have e1 : (if (c j).h.next < (c (i + 1)).h.next then ρ' (c j).h.next else ρ (c j).h.next) = ρ (c j).h.next := if_neg (hhi j oj h1 h3)
    have hsz : (ρ (c j).h.next).r < w.heap.size := by
      rcases Nat.lt_or_ge (ρ (c j).h.next).r w.heap.size with h' | h'
      · exact h'
      · simp [Array.getElem?_eq_none h'] at g2
    have hnl : ∀ b o', (c i).h.get b = some o' → (ρ b).r ≠ (ρ (c j).h.next).r := by
      intro b o' hb
      rcases hlive b o' hb with ⟨o'', h⟩ | ⟨k, ok, k1, k2, k3, k4, k5, k6, rfl⟩
      · exact g7 b o'' h
      · exact I.dist k j ok oj k3 k4 k1 k5 k6 h1 h2 (by omega) hjD h5 (by omega)
    refine ⟨mk, ob, cc, g1, ?_, ?_, g4, scOQ_imp (live_imp fun k hk => List.mem_cons_of_mem _ hk) g5, ?_, ?_⟩
    · simp only [e1]; rw [t.frame _ hsz hnl]; exact g2
    · simp only [e1]; exact objR_congrQ hag g5 g3
    · simp only [e1]; exact g6
    · intro b o' hb
      simp only [e1]
      rw [if_pos (t.hr.live b o' hb).2.1]
      rcases t.range b o' hb with ⟨b0, o0, h6, h7⟩ | h6
      · rw [← h7]; exact hnl b0 o0 h6
      · omega
  · intro j k oj ok h1 h2 h3 h4 h5 k1 k2 k3 k4 k5 hjk
    simp only [if_neg (hhi j oj h1 h3), if_neg (hhi k ok k1 k3)]
    exact I.dist j k oj ok h1 h2 (by omega) (hmem j h3 h4) h5 k1 k2 (by omega) (hmem k k3 k4) k5 hjk
end
end Go.Tm
