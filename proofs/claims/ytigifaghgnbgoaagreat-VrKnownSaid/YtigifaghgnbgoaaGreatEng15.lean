/- The engine, fifteenth part: a list of operations, on both sides. -/
import Derived.Test.YtigifaghgnbgoaaGreatEng14
namespace Go.Tm

theorem aop_notSelect {E : Env} {call : Caller} {op : Op} {s : St} {r : Value × Heap} (h : aop E call op s = some r) : notSelect op = true := by
  cases op <;> first | rfl | skip
  simp [aop, kindOf, apure] at h

/-- What is known of calls. -/
def CallOk (E : Env) (B : Nat) (call : Caller) : Prop :=
  ∀ f args h v h', call f args h = some (v, h') → ∃ fn b, E.P.funcs[f]? = some fn ∧ fn.body = some b ∧ (fn.name == "runtime.NumGoroutine") = false ∧
    ∀ ρ w, HR E B ρ h w → (∀ x, x ∈ args → sc h.next x = true) →
      Calls E.P f (args.map (ren ρ)).toArray w fun e w' => ∃ ρ', e = .returned (ren ρ' v) ∧ Step E B ρ h w ρ' h' w' ∧ sc h'.next v = true

theorem run_aop {E : Env} {B : Nat} {call : Caller} (hcall : CallOk E B call) {o : Oper} {s : St} {v : Value} {h' : Heap} (hx : aop E call o.op s = some (v, h')) {ρ : Ren} {w : World} (H : HR E B ρ s.h w)
    (hs : ∀ x, x ∈ o.op.operands → sc s.h.next (opd s.tm x) = true) {a : Act} (ha : execOp a.eval o = execOp (fun x => ren ρ (opd s.tm x)) o) {next : Act → World → Prop} {Q : Exit → Act → World → Prop}
    (hn : ∀ ρ' w', Step E B ρ s.h w ρ' h' w' → sc h'.next v = true → next (a.put o.dst (ren ρ' v)) w') : o.wp E.P a w next Q := by
  unfold Oper.wp
  rw [ha]
  unfold aop at hx
  split at hx
  · cases hp : apure E.P (opd s.tm) o.op with
    | none => simp [hp] at hx
    | some v' =>
      simp [hp] at hx
      obtain ⟨rfl, rfl⟩ := hx
      rw [run_apure (ρ := ρ) hp w]
      exact hn ρ w (Step.refl H) (sc_apure hp hs)
  · cases hp : aread E s.h (opd s.tm) o.op with
    | none => simp [hp] at hx
    | some v' =>
      simp [hp] at hx
      obtain ⟨rfl, rfl⟩ := hx
      obtain ⟨h1, h2⟩ := run_aread H hp
      rw [h1]
      exact hn ρ w (Step.refl H) h2
  · cases hp : aalloc E.P (opd s.tm) o.op with
    | none => simp [hp] at hx
    | some p =>
      obtain ⟨mk, ob⟩ := p
      simp [hp] at hx
      obtain ⟨rfl, rfl⟩ := hx
      obtain ⟨c, h1, h2, h3, h4⟩ := run_aalloc (ρ := ρ) (w := w) hs hp
      rw [h1]
      exact hn _ _ (Step.alloc H h3 h2) (by simpa using h4)
  · split at hx
    · rename_i v' h2 hp
      simp only [Option.some.injEq, Prod.mk.injEq] at hx
      obtain ⟨rfl, rfl⟩ := hx
      obtain ⟨ρ', w', h1, h2, h3⟩ := run_aeff H hs hp
      rcases h1 with h1 | ⟨rfl, h1⟩
      · rw [h1]; exact hn _ _ h2 h3
      · rw [h1]
        have := hn _ _ h2 h3
        simpa [Oper.upon, undef, ren, renA_eq] using this
    · rename_i f args hp
      obtain ⟨fn, b, hf, hb, hnm, hc⟩ := hcall _ _ _ _ _ hx
      obtain ⟨h1, h2⟩ := run_enter (ρ := ρ) H hs hp hf hb hnm
      rw [h1]
      refine (hc ρ w H h2).mono ?_
      rintro e w' ⟨ρ', rfl, h3, h4⟩
      exact hn _ _ h3 h4
    · cases hx

def aopsI (E : Env) (call : Caller) (ops : Array Oper) : List Nat → St → Option St
  | [], s => some s
  | i :: l, s => match ops[i]? with
    | none => none
    | some o => match aop1 E call ops.toList o s with
      | some s' => aopsI E call ops l s'
      | none => none

theorem run_ops {E : Env} {B n : Nat} {call : Caller} (hcall : CallOk E B call) {ops : Array Oper} (hok : opsOk E.base n ops = true) {Q : Exit → Act → World → Prop} :
    ∀ (l : List Nat) (s s' : St) (ρ : Ren) (w : World) (a : Act), aopsI E call ops l s = some s' → HR E B ρ s.h w → FR ρ n s.tm a → Sc s →
      (∀ ρ' a' w', Step E B ρ s.h w ρ' s'.h w' → FR ρ' n s'.tm a' → Sc s' → Q .normal a' w') → wpOps E.P ops Q l a w
  | [], s, s', ρ, w, a, hx, H, F, S, hq => by
    simp only [aopsI, Option.some.injEq] at hx; subst hx
    exact hq ρ a w (Step.refl H) F S
  | i :: l, s, s', ρ, w, a, hx, H, F, S, hq => by
    simp only [aopsI] at hx
    cases ho : ops[i]? with
    | none => simp [ho] at hx
    | some o =>
      simp only [ho] at hx
      have hall : ∀ o, o ∈ ops → operOk E.base n o = true := by
        intro o ho
        simp only [opsOk, List.all_eq_true] at hok
        exact hok o (by simpa using ho)
      have hoo := hall o (Array.mem_of_getElem? ho)
      simp only [operOk, Bool.and_eq_true, List.all_eq_true] at hoo
      have hopd : ∀ x, x ∈ o.op.operands → opdOk E.base n x = true := fun x hx => hoo.1 x (by simpa using hx)
      have hw := wanted_eq F (ops := ops) (fun o ho => by have := hall o ho; simp only [operOk, Bool.and_eq_true] at this; exact this.2) o
      simp only [wpOps, ho, hw]
      unfold aop1 at hx
      split at hx
      · rename_i heq
        split at heq
        · rename_i hwt
          rw [hwt]
          simp only [if_true]
          left
          cases hop : aop E call o.op s with
          | none => simp [hop] at heq
          | some r =>
            obtain ⟨v, h'⟩ := r
            simp only [hop, Option.some.injEq] at heq
            subst heq
            refine run_aop hcall hop H (fun x hx => sc_opd H.base_le S (hopd x hx)) (execOp_congr (aop_notSelect hop) fun x hx => eval_opd H F (hopd x hx)) ?_
            intro ρ' w' hst hv
            refine run_ops hcall hok l _ _ ρ' w' _ hx hst.hr (F.put hst.ext S hoo.2 v) (sc_aput S hst.le hv) ?_
            intro ρ'' a' w'' hst' F' S'
            exact hq ρ'' a' w'' (hst.trans hst') F' S'
        · rename_i hwt
          simp only [Bool.not_eq_true] at hwt
          simp only [Option.some.injEq] at heq
          subst heq
          rw [hwt]
          simp only [Bool.false_eq_true, if_false]
          have F' := F.put (ρ' := ρ) (m := s.h.next) (fun _ _ => rfl) S hoo.2 undef
          have e : ren ρ undef = undef := by simp [undef, ren, renA_eq]
          rw [e] at F'
          exact run_ops hcall hok l _ _ ρ w _ hx H F' (sc_aput (v := undef) S (Nat.le_refl _) rfl) hq
      · cases hx

theorem aops_eq {E : Env} {call : Caller} {ops : Array Oper} : ∀ (l : List Oper) (k : Nat) (s : St), ops.toList.drop k = l → aops E call ops.toList l s = aopsI E call ops ((List.range' k l.length)) s
  | [], k, s, _ => rfl
  | o :: l, k, s, h => by
    have ho : ops[k]? = some o := by
      have : (ops.toList.drop k)[0]? = some o := by rw [h]; rfl
      rw [List.getElem?_drop] at this; simpa using this
    have hl : ops.toList.drop (k + 1) = l := by
      have : (ops.toList.drop k).drop 1 = l := by rw [h]; rfl
      rw [List.drop_drop] at this; exact this
    simp only [aops, List.length_cons, List.range'_succ, aopsI, ho]
    cases aop1 E call ops.toList o s with
    | none => rfl
    | some s' => exact aops_eq l (k + 1) s' hl
end Go.Tm
