/- The engine, twenty-sixth part: regions that draw their order and make new memory in any order: the whole region. -/
import Derived.Test.YtigifaghgnbgoaaGreatEng25
namespace Go.Tm

theorem sc_of_live {c : Nat → St} {D : List Nat} {m : Nat} (h : ∀ b, live c D b = true → b < m) (v : Value) (hs : scQ (live c D) v = true) : sc m v = true := by
  rw [← sc_scQ]
  exact scQ_imp _ _ (fun b hb => by simpa using h b hb) v hs

theorem run_draw2 {E : Env} {B n : Nat} {call : Caller} (hcall : CallOk E B call) {ops : Array Oper} (hok : opsOk E.base n ops = true) {Q : Exit → Act → World → Prop} {c : Nat → St} (W : Draw2 E call ops.toList c)
    {ρ0 : Ren} {w0 : World} (hB : B ≤ w0.heap.size)
    (hq : ∀ ρ' a' w', Step E B ρ0 (c 0).h w0 ρ' (c ops.toList.length).h w' → FR ρ' n (c ops.toList.length).tm a' → Sc (c ops.toList.length) → Q .normal a' w') :
    ∀ (r D : List Nat) (p : Nat) (ρ : Ren) (tm : Tr Value) (w : World) (a : Act), Sched ops.toList D r → Closed ops.toList D → Inv E B ops.toList c ρ0 w0 D p ρ tm w → FR ρ n tm a → wpOps E.P ops Q r a w
  | [], D, p, ρ, tm, w, a, hS, hD, I, F => by
    have hle := I.le
    obtain ⟨k, hk⟩ : ∃ k, ops.toList.length = p + k := ⟨ops.toList.length - p, by omega⟩
    obtain ⟨s, _⟩ := W.push hB I k (by omega) (by
      intro e o h1 h2 h3
      cases h4 : isF E.P o with
      | false => rfl
      | true =>
        have := (I.effs e o h3 h4).1 (hS e (by omega)); omega) (by
      intro j o h1 h2 h3 h4
      exact hS j (by omega))
    rw [← hk] at s
    have hfg : ∀ t, fget tm t = fget (c ops.toList.length).tm t := by
      intro t
      have C := W.canon ops.toList.length (Nat.le_refl _)
      by_cases hx : ∃ (j : Nat) (o' : Oper), ops.toList[j]? = some o' ∧ o'.dst = some t
      · obtain ⟨j, o', hj, hd⟩ := hx
        have hjl : j < ops.toList.length := (List.getElem?_eq_some_iff.1 hj).1
        rw [(I.fr t).1 j o' (hS j hjl) hj hd, (C t).1 j o' (by simpa using hjl) hj hd]
      · rw [(I.fr t).2 (fun j o' _ hj hd => hx ⟨j, o', hj, hd⟩), (C t).2 (fun j o' _ hj hd => hx ⟨j, o', hj, hd⟩)]
    refine hq ρ a w s ⟨F.defers, F.size, fun t ht => by rw [F.val t ht, hfg t]⟩ fun t => ?_
    rw [← hfg t]
    refine sc_of_live (D := D) ?_ _ (I.scq t)
    intro b hb
    simp only [live, inSpan, Bool.or_eq_true, List.any_eq_true, Bool.and_eq_true, decide_eq_true_eq] at hb
    rcases hb with hb | ⟨k', hk', h3, h4⟩
    · have := W.next_le' (a := 0) (b := ops.toList.length) (by omega) (Nat.le_refl _); omega
    · have := I.bd k' hk'
      have := W.next_le' (a := k' + 1) (b := ops.toList.length) (by omega) (Nat.le_refl _); omega
  | i :: r, D, p, ρ, tm, w, a, hS, hD, I, F => by
    obtain ⟨hlt, hni, hr, hS'⟩ := hS
    have ho : ops.toList[i]? = some ops.toList[i] := List.getElem?_eq_getElem hlt
    generalize ops.toList[i] = o at ho
    have ho' : ops[i]? = some o := by rw [← Array.getElem?_toList]; exact ho
    have hall : ∀ o, o ∈ ops → operOk E.base n o = true := by
      intro o ho
      simp only [opsOk, List.all_eq_true] at hok
      exact hok o (by simpa using ho)
    have hoo := hall o (Array.mem_of_getElem? ho')
    simp only [operOk, Bool.and_eq_true, List.all_eq_true] at hoo
    have hopd : ∀ x, x ∈ o.op.operands → opdOk E.base n x = true := fun x hx => hoo.1 x (by simpa using hx)
    have hw := wanted_eq F (ops := ops) (fun o ho => by have := hall o ho; simp only [operOk, Bool.and_eq_true] at this; exact this.2) o
    have hag := W.agree hD I.fr ho hni hr
    have hopa := opd_agree hag
    have hwa := awanted_agree hag
    simp only [wpOps, ho', hw]
    rw [hwa]
    obtain ⟨v, hv, hcase⟩ := aop1_tm (W.run i o ho)
    have hC' := closed_cons hD hr
    have eu : ∀ ρ, ren ρ undef = undef := fun ρ => by simp [undef, ren, renA_eq]
    have go := run_draw2 hcall hok W hB hq r (i :: D)
    rcases hcase with ⟨hwt, ha⟩ | ⟨hwt, rfl, hh⟩
    · rw [hwt]
      simp only [if_true]
      left
      have hex : execOp a.eval o = execOp (fun x => ren ρ (opd (c i).tm x)) o := execOp_congr (aop_notSelect ha) fun x hx => by rw [eval_opd I.st.hr F (hopd x hx), hopa x hx]
      cases hF : isF E.P o with
      | true =>
        obtain ⟨hip, s, _⟩ := I.atE W hB hD ho hni hr hF
        refine run_aop (s := c i) hcall ha s.hr (fun x hx => W.opds i o x ho (.inl hF) hwt hx) hex ?_
        intro ρ' w' t hsv
        obtain ⟨ρ'', I', h1, h2⟩ := I.eff W hB hD ho hni hr hF hv t
        refine go (i + 1) ρ'' _ w' _ hS' hC' I' ?_
        have := F.putQ h1 I.scq hoo.2 v
        rw [ren_congr ρ' ρ'' _ h2 v hsv] at this
        exact this
      | false =>
        cases hA : isA E.P o with
        | true =>
          obtain ⟨mk, ob, h1, h2, h3⟩ := alloc_h hA ha
          obtain ⟨cc, g1, g2, g3, g4⟩ := run_aalloc (P := E.P) (ρ := ρ) (w := w) (n := (c i).h.next) (fun x hx => W.opds i o x ho (.inr hA) hwt hx) h1
          obtain ⟨I', h4⟩ := I.alloc W hD ho hni hr hA hwt hv h1 h3 g2 g3
          unfold Oper.wp
          rw [hex, g1]
          rw [h2] at I'
          exact go p _ _ _ _ hS' hC' I' (F.putQ h4 I.scq hoo.2 _)
        | false =>
          have I' := I.quiet W hD ho hni hr hF (fun h => by rw [hA] at h; cases h) hv
          have F' := F.putQ (ρ' := ρ) (fun _ _ => rfl) I.scq hoo.2 v
          have fin : o.wp E.P a w (fun a' w' => wpOps E.P ops Q r a' w') Q := by
            have hq := quiet_h (isE_of hF hA) (W.run i o ho)
            rw [hq] at ha
            have hread : isR E.P o = true → aread E (c p).h (opd (c i).tm) o.op = aread E (c i).h (opd (c i).tm) o.op := by
              intro hR
              refine W.reads i o p ho hR hwt ?_ ?_
              · rcases I.form with h | ⟨e, oe, h1, h2, h3⟩
                · exact .inl h
                · refine .inr ⟨e, oe, h1, h2, h3, ?_⟩
                  cases h4 : bef (masks ops.toList []) i e with
                  | false => rfl
                  | true =>
                    have heD := (I.effs e oe h1 h2).2 (by omega)
                    exact absurd (bef_done hD _ _ heD h4) hni
              · intro e oe h1 h2 h3
                exact (I.effs e oe h1 h2).1 (bef_ready hD hr h3)
            have hq2 := quiet_op (call := call) (tm := (c i).tm) (h := (c p).h) (isE_of hF hA) (fun _ _ => rfl) ha hread
            unfold Oper.wp
            rw [hex]
            unfold aop at hq2
            have hE := isE_of hF hA
            unfold isE at hE
            cases hk : kindOf E.P o.op <;> simp only [hk] at hq2 hE
            · cases hp : apure E.P (opd (c i).tm) o.op with
              | none => simp [hp] at hq2
              | some v' =>
                simp [hp] at hq2
                subst hq2
                rw [run_apure (ρ := ρ) hp w]
                exact go p ρ _ w _ hS' hC' I' F'
            · cases hp : aread E (c p).h (opd (c i).tm) o.op with
              | none => simp [hp] at hq2
              | some v' =>
                simp [hp] at hq2
                subst hq2
                obtain ⟨h1, _⟩ := run_aread I.st.hr hp
                rw [h1]
                exact go p ρ _ w _ hS' hC' I' F'
            · cases hE
            · cases hE
          exact fin
    · rw [hwt]
      simp only [Bool.false_eq_true, if_false]
      cases hF : isF E.P o with
      | true =>
        obtain ⟨hip, s, _⟩ := I.atE W hB hD ho hni hr hF
        have t : Step E B ρ (c i).h w ρ (c (i + 1)).h w := by rw [hh]; exact Step.refl s.hr
        obtain ⟨ρ'', I', h1, h2⟩ := I.eff W hB hD ho hni hr hF hv t
        refine go (i + 1) ρ'' _ w _ hS' hC' I' ?_
        have := F.putQ h1 I.scq hoo.2 undef
        rw [eu] at this
        exact this
      | false =>
        have I' := I.quiet W hD ho hni hr hF (fun _ => hwt) hv
        have F' := F.putQ (ρ' := ρ) (fun _ _ => rfl) I.scq hoo.2 undef
        rw [eu] at F'
        exact go p ρ _ w _ hS' hC' I' F'
end Go.Tm
