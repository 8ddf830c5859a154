/- The engine, twenty-second part: code and calls, on both sides. -/
import Derived.Test.YtigifaghgnbgoaaGreatEng27
namespace Go.Tm

def codeOk (base n : Nat) : Code → Bool
  | .region _ ops _ => opsOk base n ops
  | .seq a b => codeOk base n a && codeOk base n b
  | .cond c a b => opdOk base n c && (codeOk base n a && codeOk base n b)
  | .block _ b => codeOk base n b
  | .loop b => codeOk base n b
  | .scope b => codeOk base n b
  | _ => true

def resOk (n : Nat) : ResultVar → Bool
  | .tmp t => decide (t < n)
  | .cell a _ => decide (a < n)

def funcOk (base : Nat) (fn : Func) : Bool :=
  match fn.body with
  | some b => codeOk base fn.ntmps b && fn.results.toList.all (resOk fn.ntmps)
  | none => true

def progOk (E : Env) : Bool := E.P.funcs.toList.all (funcOk E.base)

theorem codeOk_label {base n : Nat} : ∀ {c : Code} {l : Nat} {r : Code}, findLabel c l = some r → codeOk base n c = true → codeOk base n r = true
  | .seq a b, l, r, h, hc => by
    simp only [codeOk, Bool.and_eq_true] at hc
    unfold findLabel at h
    split at h
    · rename_i rest hr
      injection h with h; subst h
      simp only [codeOk, Bool.and_eq_true]
      exact ⟨codeOk_label hr hc.1, hc.2⟩
    · exact codeOk_label h hc.2
  | .label l', l, r, h, _ => by
    unfold findLabel at h
    split at h
    · injection h with h; subst h; rfl
    · cases h
  | .skip, _, _, h, _ => by simp [findLabel] at h
  | .region _ _ _, _, _, h, _ => by simp [findLabel] at h
  | .cond _ _ _, _, _, h, _ => by simp [findLabel] at h
  | .block _ _, _, _, h, _ => by simp [findLabel] at h
  | .loop _, _, _, h, _ => by simp [findLabel] at h
  | .rangeFunc _ _ _ _, _, _, h, _ => by simp [findLabel] at h
  | .exit _, _, _, h, _ => by simp [findLabel] at h
  | .scope _, _, _, h, _ => by simp [findLabel] at h
  | .goto _, _, _, h, _ => by simp [findLabel] at h
  | .ret, _, _, h, _ => by simp [findLabel] at h
  | .refuse _, _, _, h, _ => by simp [findLabel] at h

/- A scope through which the run goes with jumps of its own. -/
def hops (P : Program) (body : Code) (Q : Exit → Act → World → Prop) : Nat → Code → Act → World → Prop
  | 0, _, _, _ => False
  | n + 1, c, a, w => c.wp P (fun e a w => match e with
      | .goto l => ∃ rest, findLabel body l = some rest ∧ hops P body Q n rest a w
      | e => Q e a w) a w

theorem wp_scope_hops {P : Program} {body : Code} {Q : Exit → Act → World → Prop} (n : Nat) {a : Act} {w : World} (h : hops P body Q n body a w) : (Code.scope body).wp P Q a w := by
  intro b k cs
  have key : ∀ n c a w, hops P body Q n c a w → ∃ e a' w', Q e a' w' ∧ Arrives P (lone (b.at a (.code c :: .inScope body :: k)) cs w) b k cs e a' w' := by
    intro n
    induction n with
    | zero => intro c a w h; exact h.elim
    | succ n ih =>
      intro c a w h
      obtain ⟨e, a₁, w₁, hq, harr⟩ := h b (.inScope body :: k) cs
      cases e with
      | normal => exact ⟨.normal, a₁, w₁, hq, Steps.trans harr (.one step_inScope)⟩
      | exit id => exact ⟨.exit id, a₁, w₁, hq, fun k' hk => harr k' (by simp [exitTo, hk])⟩
      | goto l =>
        obtain ⟨rest, hf, hh⟩ := hq
        obtain ⟨e₂, a₂, w₂, hq₂, harr₂⟩ := ih _ _ _ hh
        exact ⟨e₂, a₂, w₂, hq₂, .of_steps (harr _ (by simp [gotoIn, hf])) harr₂⟩
      | ret => exact ⟨_, a₁, w₁, hq, harr⟩
      | panic ch => exact ⟨_, a₁, w₁, hq, harr⟩
      | outgrown => exact ⟨_, a₁, w₁, hq, harr⟩
  obtain ⟨e, a', w', hq, harr⟩ := key n body a w h
  exact ⟨e, a', w', hq, .of_steps (.one step_scope) harr⟩

def exq : Ex → Exit
  | .normal => .normal
  | .ret => .ret
  | .exit id => .exit id
  | .goto l => .goto l

def Post (E : Env) (B n : Nat) (ρ : Ren) (s : St) (w : World) (e : Ex) (s' : St) : Exit → Act → World → Prop :=
  fun e' a' w' => e' = exq e ∧ ∃ ρ', FR ρ' n s'.tm a' ∧ Step E B ρ s.h w ρ' s'.h w' ∧ Sc s'

/-- What is known of a run of code. -/
def RunOk (E : Env) (B n : Nat) (run : Code → St → Option (Ex × St)) : Prop :=
  ∀ c s e s', run c s = some (e, s') → codeOk E.base n c = true → ∀ ρ w a, HR E B ρ s.h w → FR ρ n s.tm a → Sc s → c.wp E.P (Post E B n ρ s w e s') a w

theorem Post.trans {E : Env} {B n : Nat} {ρ ρ' : Ren} {s s1 s' : St} {w w1 : World} {e : Ex} {x : Exit} {a : Act} {w2 : World} (h1 : Step E B ρ s.h w ρ' s1.h w1) (h : Post E B n ρ' s1 w1 e s' x a w2) : Post E B n ρ s w e s' x a w2 := by
  obtain ⟨he, ρ'', hf, hs, hsc⟩ := h
  exact ⟨he, ρ'', hf, h1.trans hs, hsc⟩

theorem rounds_ok {E : Env} {B n : Nat} {run : Code → St → Option (Ex × St)} (hr : RunOk E B n run) {b : Code} (hb : codeOk E.base n b = true) :
    ∀ (k : Nat) (s : St) (e : Ex) (s' : St), arounds (run b) k s = some (e, s') → ∀ ρ w a, HR E B ρ s.h w → FR ρ n s.tm a → Sc s → Code.rounds E.P b (Post E B n ρ s w e s') k a w
  | 0, s, e, s', h, _, _, _, _, _, _ => by simp [arounds] at h
  | k + 1, s, e, s', h, ρ, w, a, H, F, S => by
    simp only [arounds] at h
    rw [rounds_succ]
    cases hx : run b s with
    | none => simp [hx] at h
    | some r =>
      obtain ⟨e1, s1⟩ := r
      have h1 := hr b s e1 s1 hx hb ρ w a H F S
      cases e1 with
      | normal =>
        simp only [hx] at h
        refine wp_mono h1 ?_
        rintro x a1 w1 ⟨rfl, ρ1, F1, st1, S1⟩
        simp only [exq, Exit.then]
        have ih := rounds_ok hr hb k s1 e s' h ρ1 w1 a1 st1.hr F1 S1
        have mono : ∀ m a w2, Code.rounds E.P b (Post E B n ρ1 s1 w1 e s') m a w2 → Code.rounds E.P b (Post E B n ρ s w e s') m a w2 := by
          intro m
          induction m with
          | zero => intro a w2 h; exact h
          | succ m ihm =>
            intro a w2 h
            rw [rounds_succ] at h ⊢
            refine wp_mono h ?_
            intro x a3 w3 hx
            cases x <;> simp only [Exit.then] at hx ⊢ <;> first | exact ihm _ _ hx | exact Post.trans st1 hx
        exact mono _ _ _ ih
      | ret =>
        simp only [hx, Option.some.injEq, Prod.mk.injEq] at h
        obtain ⟨rfl, rfl⟩ := h
        exact wp_mono h1 (by rintro x a1 w1 ⟨rfl, hh⟩; exact ⟨rfl, hh⟩)
      | exit id =>
        simp only [hx, Option.some.injEq, Prod.mk.injEq] at h
        obtain ⟨rfl, rfl⟩ := h
        exact wp_mono h1 (by rintro x a1 w1 ⟨rfl, hh⟩; exact ⟨rfl, hh⟩)
      | goto l =>
        simp only [hx, Option.some.injEq, Prod.mk.injEq] at h
        obtain ⟨rfl, rfl⟩ := h
        exact wp_mono h1 (by rintro x a1 w1 ⟨rfl, hh⟩; exact ⟨rfl, hh⟩)

theorem hops_mono {P : Program} {body : Code} {Q Q' : Exit → Act → World → Prop} (hq : ∀ e a w, Q e a w → Q' e a w) : ∀ (m : Nat) (c : Code) (a : Act) (w : World), hops P body Q m c a w → hops P body Q' m c a w
  | 0, _, _, _, h => h
  | m + 1, c, a, w, h => by
    refine wp_mono h ?_
    intro e a w he
    cases e with
    | goto l =>
      obtain ⟨rest, h1, h2⟩ := he
      exact ⟨rest, h1, hops_mono hq m rest a w h2⟩
    | normal => exact hq _ _ _ he
    | exit id => exact hq _ _ _ he
    | ret => exact hq _ _ _ he
    | panic c => exact hq _ _ _ he
    | outgrown => exact hq _ _ _ he

theorem scope_ok {E : Env} {B n : Nat} {run : Code → St → Option (Ex × St)} (hr : RunOk E B n run) {body : Code} (hb : codeOk E.base n body = true) :
    ∀ (k : Nat) (c : Code) (s : St) (e : Ex) (s' : St), codeOk E.base n c = true → ascope run body k c s = some (e, s') → ∀ ρ w a, HR E B ρ s.h w → FR ρ n s.tm a → Sc s → hops E.P body (Post E B n ρ s w e s') k c a w
  | 0, c, s, e, s', _, h, _, _, _, _, _, _ => by simp [ascope] at h
  | k + 1, c, s, e, s', hc, h, ρ, w, a, H, F, S => by
    simp only [ascope] at h
    cases hx : run c s with
    | none => simp [hx] at h
    | some r =>
      obtain ⟨e1, s1⟩ := r
      have h1 := hr c s e1 s1 hx hc ρ w a H F S
      cases e1 with
      | goto l =>
        simp only [hx] at h
        cases hf : findLabel body l with
        | none => simp [hf] at h
        | some rest =>
          simp only [hf] at h
          refine wp_mono h1 ?_
          rintro x a1 w1 ⟨rfl, ρ1, F1, st1, S1⟩
          simp only [exq]
          exact ⟨rest, hf, hops_mono (fun _ _ _ hh => Post.trans st1 hh) k rest a1 w1 (scope_ok hr hb k rest s1 e s' (codeOk_label hf hb) h ρ1 w1 a1 st1.hr F1 S1)⟩
      | normal =>
        simp only [hx, Option.some.injEq, Prod.mk.injEq] at h
        obtain ⟨rfl, rfl⟩ := h
        exact wp_mono h1 (by rintro x a1 w1 ⟨rfl, hh⟩; exact ⟨rfl, hh⟩)
      | ret =>
        simp only [hx, Option.some.injEq, Prod.mk.injEq] at h
        obtain ⟨rfl, rfl⟩ := h
        exact wp_mono h1 (by rintro x a1 w1 ⟨rfl, hh⟩; exact ⟨rfl, hh⟩)
      | exit id =>
        simp only [hx, Option.some.injEq, Prod.mk.injEq] at h
        obtain ⟨rfl, rfl⟩ := h
        exact wp_mono h1 (by rintro x a1 w1 ⟨rfl, hh⟩; exact ⟨rfl, hh⟩)

theorem fget_leaf (t : Nat) : fget .leaf t = undef := by simp [fget, Tr.get_leaf]

theorem fget_from : ∀ (l : List Value) (k : Nat) (tm : Tr Value) (t : Nat), fget (afrom k l tm) t = if k ≤ t then (match l[t - k]? with | some v => v | none => fget tm t) else fget tm t
  | [], k, tm, t => by simp [afrom]
  | v :: l, k, tm, t => by
    simp only [afrom]
    rw [fget_from l (k + 1), fget_set]
    by_cases h1 : k + 1 ≤ t
    · rw [if_pos h1, if_neg (by omega), if_pos (by omega)]
      obtain ⟨j, rfl⟩ : ∃ j, t = k + 1 + j := ⟨t - (k + 1), by omega⟩
      rw [show k + 1 + j - (k + 1) = j by omega, show k + 1 + j - k = j + 1 by omega, List.getElem?_cons_succ]
    · rw [if_neg h1]
      by_cases h2 : k = t
      · subst h2; simp
      · rw [if_neg h2, if_neg (by omega)]

def resVal (tmps : Array Value) : ResultVar → Sem Value
  | .tmp t => pure (tmps.getD t undef)
  | .cell b t => do loadVar t (← asAddr (tmps.getD b undef))

theorem results_eq (fn : Func) (tmps : Array Value) : results fn tmps = (do
    let vs ← fn.results.mapM (resVal tmps)
    pure (if h : vs.size = 1 then vs[0] else .tuple vs)) := by
  unfold results
  rfl

theorem run_aresults {E : Env} {B n : Nat} {ρ : Ren} {s : St} {a : Act} {w : World} (H : HR E B ρ s.h w) (F : FR ρ n s.tm a) : ∀ (l : List ResultVar) (r : List Value), l.all (resOk n) = true → aresults E s l = some r →
    (l.mapM (resVal a.tmps)).run E.P w = .ok (r.map (ren ρ)) w
  | [], r, _, h => by simp [aresults] at h; subst h; rfl
  | .tmp t :: l, r, hk, h => by
    simp only [aresults] at h
    simp only [List.all_cons, Bool.and_eq_true, resOk, decide_eq_true_eq] at hk
    cases hl : aresults E s l with
    | none => simp [hl] at h
    | some r' =>
      simp [hl] at h; subst h
      have ih := run_aresults H F l r' hk.2 hl
      simp only [List.mapM_cons, resVal, Sem.run_bind, Sem.run_pure, Result.andThen_ok, ih, F.val t hk.1, List.map_cons]
  | .cell b t :: l, r, hk, h => by
    simp only [aresults] at h
    simp only [List.all_cons, Bool.and_eq_true, resOk, decide_eq_true_eq] at hk
    cases hv : aload E s.h t (fget s.tm b) with
    | none => simp [hv] at h
    | some v =>
      cases hl : aresults E s l with
      | none => simp [hv, hl] at h
      | some r' =>
        simp [hv, hl] at h; subst h
        have ih := run_aresults H F l r' hk.2 hl
        obtain ⟨h1, _, ad, hp⟩ := run_aload H hv
        rw [hp] at h1
        simp only [Instr.loadAt, ren, Instr.sureAddr, Sem.run_bind, Sem.run_pure, Result.andThen_ok] at h1
        have hh : (resVal a.tmps (.cell b t)).run E.P w = .ok (ren ρ v) w := by
          simp only [resVal, F.val b hk.1, hp, ren, asAddr, Sem.run_bind, Sem.run_pure, Result.andThen_ok, h1]
        simp only [List.mapM_cons, Sem.run_bind, Sem.run_pure, hh, Result.andThen_ok, ih, List.map_cons]

theorem sc_aresults {E : Env} {B : Nat} {ρ : Ren} {s : St} {w : World} (H : HR E B ρ s.h w) (S : Sc s) : ∀ (l : List ResultVar) (r : List Value), aresults E s l = some r → ∀ v, v ∈ r → sc s.h.next v = true
  | [], r, h => by simp [aresults] at h; subst h; simp
  | .tmp t :: l, r, h => by
    simp only [aresults] at h
    cases hl : aresults E s l with
    | none => simp [hl] at h
    | some r' =>
      simp [hl] at h; subst h
      intro v hv
      simp only [List.mem_cons] at hv
      rcases hv with rfl | hv
      · exact S t
      · exact sc_aresults H S l r' hl v hv
  | .cell b t :: l, r, h => by
    simp only [aresults] at h
    cases hv : aload E s.h t (fget s.tm b) with
    | none => simp [hv] at h
    | some v =>
      cases hl : aresults E s l with
      | none => simp [hv, hl] at h
      | some r' =>
        simp [hv, hl] at h; subst h
        intro x hx
        simp only [List.mem_cons] at hx
        rcases hx with rfl | hx
        · exact (run_aload H hv).2.1
        · exact sc_aresults H S l r' hl x hx

theorem ren_aret (ρ : Ren) (r : List Value) : (if h : (r.map (ren ρ)).toArray.size = 1 then (r.map (ren ρ)).toArray[0] else .tuple (r.map (ren ρ)).toArray) = ren ρ (aret r) := by
  match r with
  | [] => simp [aret, ren, renA_eq]
  | [v] => simp [aret]
  | v :: u :: l => simp [aret, ren, renA_eq]

theorem call_ok {E : Env} (hp : progOk E = true) {B : Nat} {run : Code → St → Option (Ex × St)} (hr : ∀ n, RunOk E B n run) : CallOk E B (acallBy E run) := by
  intro f args h v h' hx
  unfold acallBy at hx
  split at hx
  · rename_i fn hf
    split at hx
    · rename_i b hb
      split at hx
      · rename_i hc
        have hf' : E.P.funcs[f]? = some fn := by simpa using hf
        refine ⟨fn, b, hf', hb, hc.2, ?_⟩
        intro ρ w H hargs
        have hfo : funcOk E.base fn = true := by
          simp only [progOk, List.all_eq_true] at hp
          exact hp fn (List.mem_of_getElem? hf)
        simp only [funcOk, hb, Bool.and_eq_true] at hfo
        obtain ⟨hco, hres⟩ := hfo
        have S0 : Sc ⟨afrom 0 args .leaf, h⟩ := by
          intro t
          simp only [fget_from, Nat.zero_le, if_true, Nat.sub_zero, fget_leaf]
          cases ha : args[t]? with
          | none => rfl
          | some x => exact hargs x (List.mem_of_getElem? ha)
        have F0 : FR ρ fn.ntmps (afrom 0 args .leaf) { tmps := (args.map (ren ρ)).toArray ++ Array.replicate (fn.ntmps - (args.map (ren ρ)).toArray.size) undef, defers := [] } := by
          refine ⟨rfl, by simp; omega, ?_⟩
          intro t ht
          simp only [fget_from, Nat.zero_le, if_true, Nat.sub_zero, fget_leaf, Array.getD_eq_getD_getElem?, Array.getElem?_append]
          by_cases hlt : t < args.length
          · simp [hlt]
          · simp [hlt, Array.getElem?_replicate, undef, ren, renA_eq]
            rw [if_pos (by omega)]
            rfl
        have fin : ∀ e s', run b ⟨afrom 0 args .leaf, h⟩ = some (e, s') → (e = .normal ∨ e = .ret) → (aresults E s' fn.results.toList).map (fun l => (aret l, s'.h)) = some (v, h') →
            Calls E.P f (args.map (ren ρ)).toArray w fun e w' => ∃ ρ', e = .returned (ren ρ' v) ∧ Step E B ρ h w ρ' h' w' ∧ sc h'.next v = true := by
          intro e s' hrun he hl
          cases har : aresults E s' fn.results.toList with
          | none => simp [har] at hl
          | some r =>
            simp [har] at hl
            obtain ⟨rfl, rfl⟩ := hl
            refine calls_of_wp hf' hb (wp_mono (hr fn.ntmps b _ e s' hrun hco ρ w _ H F0 S0) ?_)
            rintro x a1 w1 ⟨rfl, ρ1, F1, st1, S1⟩
            have hresults : (results fn a1.tmps).run E.P w1 = .ok (ren ρ1 (aret r)) w1 := by
              have := run_aresults st1.hr F1 _ r hres har
              rw [results_eq, Array.mapM_eq_mapM_toList]
              simp only [Sem.run_bind, Sem.run_map, this, Result.andThen_ok, Sem.run_pure]
              rw [ren_aret]
            have hscv : sc s'.h.next (aret r) = true := by
              have hall := sc_aresults st1.hr S1 _ r har
              match r, hall with
              | [], _ => rfl
              | [v], hall => exact hall v (by simp)
              | v :: u :: l, hall => simp only [aret, sc, scA, scL_iff]; exact hall
            rcases he with rfl | rfl
            · exact ⟨F1.defers, _, hresults, ρ1, rfl, st1, hscv⟩
            · exact ⟨F1.defers, _, hresults, ρ1, rfl, st1, hscv⟩
        unfold aleave at hx
        split at hx
        · rename_i s' hrun; exact fin _ _ hrun (.inl rfl) hx
        · rename_i s' hrun; exact fin _ _ hrun (.inr rfl) hx
        · cases hx
      · cases hx
    · cases hx
  · cases hx

theorem exec_ok {E : Env} (hp : progOk E = true) (hm : E.P.follows .mixedOrders = true) {B : Nat} : ∀ (k n : Nat), RunOk E B n (aexec E k) := by
  intro k
  induction k with
  | zero => intro n c s e s' h; simp [aexec] at h
  | succ k ih =>
    intro n c s e s' h hc ρ w a H F S
    have base : ∀ x, Post E B n ρ s w x s (exq x) a w := fun x => ⟨rfl, ρ, F, Step.refl H, S⟩
    cases c with
    | skip => simp only [aexec, Option.some.injEq, Prod.mk.injEq] at h; obtain ⟨rfl, rfl⟩ := h; exact wp_skip (base .normal)
    | label l => simp only [aexec, Option.some.injEq, Prod.mk.injEq] at h; obtain ⟨rfl, rfl⟩ := h; exact wp_label (base .normal)
    | ret => simp only [aexec, Option.some.injEq, Prod.mk.injEq] at h; obtain ⟨rfl, rfl⟩ := h; exact wp_ret (base .ret)
    | exit id => simp only [aexec, Option.some.injEq, Prod.mk.injEq] at h; obtain ⟨rfl, rfl⟩ := h; exact wp_exit (base (.exit id))
    | goto l => simp only [aexec, Option.some.injEq, Prod.mk.injEq] at h; obtain ⟨rfl, rfl⟩ := h; exact wp_goto (base (.goto l))
    | seq x y =>
      simp only [codeOk, Bool.and_eq_true] at hc
      simp only [aexec] at h
      cases hx : aexec E k x s with
      | none => simp [hx] at h
      | some r =>
        obtain ⟨e1, s1⟩ := r
        have h1 := ih n x s e1 s1 hx hc.1 ρ w a H F S
        refine wp_seq ?_
        cases e1 with
        | normal =>
          simp only [hx] at h
          refine wp_mono h1 ?_
          rintro x1 a1 w1 ⟨rfl, ρ1, F1, st1, S1⟩
          exact wp_mono (ih n y s1 e s' h hc.2 ρ1 w1 a1 st1.hr F1 S1) fun _ _ _ hh => Post.trans st1 hh
        | ret => simp only [hx, Option.some.injEq, Prod.mk.injEq] at h; obtain ⟨rfl, rfl⟩ := h; exact wp_mono h1 (by rintro x a1 w1 ⟨rfl, hh⟩; exact ⟨rfl, hh⟩)
        | exit id => simp only [hx, Option.some.injEq, Prod.mk.injEq] at h; obtain ⟨rfl, rfl⟩ := h; exact wp_mono h1 (by rintro x a1 w1 ⟨rfl, hh⟩; exact ⟨rfl, hh⟩)
        | goto l => simp only [hx, Option.some.injEq, Prod.mk.injEq] at h; obtain ⟨rfl, rfl⟩ := h; exact wp_mono h1 (by rintro x a1 w1 ⟨rfl, hh⟩; exact ⟨rfl, hh⟩)
    | cond x y z =>
      simp only [codeOk, Bool.and_eq_true] at hc
      simp only [aexec] at h
      have he := eval_opd H F hc.1
      split at h
      · rename_i ht
        rw [ht] at he
        exact wp_cond_true he (ih n y s e s' h hc.2.1 ρ w a H F S)
      · rename_i ht
        rw [ht] at he
        exact wp_cond_false he (ih n z s e s' h hc.2.2 ρ w a H F S)
      · cases h
    | block id b =>
      simp only [codeOk] at hc
      simp only [aexec] at h
      cases hx : aexec E k b s with
      | none => simp [hx] at h
      | some r =>
        obtain ⟨e1, s1⟩ := r
        have h1 := ih n b s e1 s1 hx hc ρ w a H F S
        refine wp_block (wp_mono h1 ?_)
        rintro x1 a1 w1 ⟨rfl, hh⟩
        cases e1 with
        | exit id' =>
          simp only [hx] at h
          simp only [exq, Exit.inBlock]
          split at h
          · rename_i hid
            simp only [Option.some.injEq, Prod.mk.injEq] at h
            obtain ⟨rfl, rfl⟩ := h
            rw [if_pos hid]; exact ⟨rfl, hh⟩
          · rename_i hid
            simp only [Option.some.injEq, Prod.mk.injEq] at h
            obtain ⟨rfl, rfl⟩ := h
            rw [if_neg hid]; exact ⟨rfl, hh⟩
        | normal => simp only [hx, Option.some.injEq, Prod.mk.injEq] at h; obtain ⟨rfl, rfl⟩ := h; exact ⟨rfl, hh⟩
        | ret => simp only [hx, Option.some.injEq, Prod.mk.injEq] at h; obtain ⟨rfl, rfl⟩ := h; exact ⟨rfl, hh⟩
        | goto l => simp only [hx, Option.some.injEq, Prod.mk.injEq] at h; obtain ⟨rfl, rfl⟩ := h; exact ⟨rfl, hh⟩
    | loop b =>
      simp only [codeOk] at hc
      simp only [aexec] at h
      exact wp_loop_rounds k (rounds_ok (ih n) hc k s e s' h ρ w a H F S)
    | scope b =>
      simp only [codeOk] at hc
      simp only [aexec] at h
      exact wp_scope_hops k (scope_ok (ih n) hc k b s e s' hc h ρ w a H F S)
    | region id ops draw =>
      simp only [codeOk] at hc
      cases draw with
      | false =>
        simp only [aexec] at h
        rw [aops_eq ops.toList 0 s (by simp), Array.length_toList] at h
        cases hx : aopsI E (acallBy E (aexec E k)) ops (List.range' 0 ops.size) s with
        | none => simp [hx] at h
        | some s1 =>
          simp [hx] at h
          obtain ⟨rfl, rfl⟩ := h
          refine wp_region ?_
          rw [List.range_eq_range']
          refine run_ops (call_ok hp ih) hc _ s s1 ρ w a hx H F S ?_
          intro ρ' a' w' h1 h2 h3
          exact ⟨rfl, ρ', h2, h1, h3⟩
      | true =>
        simp only [aexec] at h
        cases hx : adrawX E (acallBy E (aexec E k)) ops.toList s with
        | none => simp [hx] at h
        | some s1 =>
          simp [hx] at h
          obtain ⟨rfl, rfl⟩ := h
          refine wp_region_draw fun t => ?_
          rw [hm]
          simp only [Region.schedule, Bool.true_or, if_true]
          rcases adrawX_cases hx with hx | ⟨c, W, rfl, rfl⟩
          · obtain ⟨s2, g1, g2, g3⟩ := draw_sched hx t
            refine run_ops (call_ok hp ih) hc _ s s2 ρ w.drew a g1 H.drew F S ?_
            intro ρ' a' w' h1 h2 h3
            refine ⟨rfl, ρ', ⟨h2.defers, h2.size, fun t ht => by rw [h2.val t ht, g2 t]⟩, ((Step.drew H).trans h1).same g3, fun t => ?_⟩
            rw [← g2 t, ← g3.1]; exact h3 t
          · refine run_draw2 (call_ok hp ih) hc W (ρ0 := ρ) (w0 := w.drew) H.drew.B_le ?_ _ [] 0 ρ (c 0).tm w.drew a (linearise_sched W.down t) (fun i o hi => by simp at hi) (inv_start H.drew S) F
            intro ρ' a' w' h1 h2 h3
            exact ⟨rfl, ρ', h2, (Step.drew H).trans h1, h3⟩
    | rangeFunc _ _ _ _ => simp [aexec] at h
    | refuse _ => simp [aexec] at h
end Go.Tm
