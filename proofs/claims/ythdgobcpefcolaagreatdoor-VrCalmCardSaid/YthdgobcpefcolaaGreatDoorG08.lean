/- The engine, twenty-second part: code and calls, on both sides. -/
import Derived.Test.YthdgobcpefcolaaGreatDoorG07
import Derived.Below
import Derived.LoopNIn
import Derived.RangeFuncRecord
set_option maxRecDepth 10000
set_option linter.all false
set_option linter.unusedSimpArgs false
set_option linter.unusedVariables false
namespace Go.Tm
open Go.RowKit (Below)

def codeOk (base n : Nat) : Code → Bool
  | .region _ ops _ => opsOk base n ops
  | .seq a b => codeOk base n a && codeOk base n b
  | .cond c a b => opdOk base n c && (codeOk base n a && codeOk base n b)
  | .block _ b => codeOk base n b
  | .loop b => codeOk base n b
  | .scope b => codeOk base n b
  | .rangeFunc g ps assign body => opdOk base n g && (ps.toList.all (fun p => decide (p < n)) && (codeOk base n assign && codeOk base n body))
  | _ => true

def resOk (n : Nat) : ResultVar → Bool
  | .tmp t => decide (t < n)
  | .cell a _ => decide (a < n)

def funcOk (base : Nat) (fn : Func) : Bool :=
  match fn.body with
  | some b => codeOk base fn.ntmps b && fn.results.toList.all (resOk fn.ntmps)
  | none => true

def progOk (E : Env) : Bool := E.P.funcs.toList.all (funcOk E.base)

theorem opsOk_mono {base base' n : Nat} (h : base ≤ base') {ops : Array Oper} (H : opsOk base n ops = true) : opsOk base' n ops = true := by
  unfold opsOk at H ⊢
  rw [List.all_eq_true] at H ⊢
  intro o ho
  have := H o ho
  unfold operOk at this ⊢
  rw [Bool.and_eq_true] at this ⊢
  refine ⟨?_, this.2⟩
  rw [List.all_eq_true] at this ⊢
  intro x hx
  have := this.1 x hx
  cases x with
  | global g => simp only [opdOk, decide_eq_true_eq] at this ⊢; omega
  | tmp t => exact this
  | const v => exact this
  | func f => exact this
theorem opdOk_mono {base base' n : Nat} (h : base ≤ base') {x : Operand} (H : opdOk base n x = true) : opdOk base' n x = true := by
  cases x with
  | global g => simp only [opdOk, decide_eq_true_eq] at H ⊢; omega
  | tmp t => exact H
  | const v => exact H
  | func f => exact H
theorem codeOk_mono {base base' n : Nat} (h : base ≤ base') : ∀ (c : Code), codeOk base n c = true → codeOk base' n c = true := by
  intro c
  induction c with
  | region id ops d => intro H; exact opsOk_mono h H
  | seq a b iha ihb => intro H; simp only [codeOk, Bool.and_eq_true] at H ⊢; exact ⟨iha H.1, ihb H.2⟩
  | cond c a b iha ihb =>
    intro H
    simp only [codeOk, Bool.and_eq_true] at H ⊢
    refine ⟨?_, iha H.2.1, ihb H.2.2⟩
    exact opdOk_mono h H.1
  | block id b ih => exact ih
  | loop b ih => exact ih
  | scope b ih => exact ih
  | rangeFunc g ps x y ihx ihy =>
    intro H
    simp only [codeOk, Bool.and_eq_true] at H ⊢
    exact ⟨opdOk_mono h H.1, H.2.1, ihx H.2.2.1, ihy H.2.2.2⟩
  | _ => intro H; rfl
theorem progOk_mono {E E' : Env} (hP : E'.P = E.P) (h : E.base ≤ E'.base) (H : progOk E = true) : progOk E' = true := by
  unfold progOk at H ⊢
  rw [List.all_eq_true] at H ⊢
  intro fn hfn
  rw [hP] at hfn
  have := H fn hfn
  unfold funcOk at this ⊢
  split at this
  · rename_i b hb
    rw [Bool.and_eq_true] at this ⊢
    exact ⟨codeOk_mono h _ this.1, this.2⟩
  · rfl

theorem codeOk_label {base n : Nat} : ∀ {c : Code} {l : Nat} {r : Code}, findLabel c l = some r → codeOk base n c = true → codeOk base n r = true
  | .seq a b, l, r, h, hc => by
    simp only [codeOk, Bool.and_eq_true] at hc
    unfold findLabel at h
    split at h
    · rename_i rest hr
      injection h with h; subst h
      simp only [codeOk, Bool.and_eq_true]
      exact ⟨codeOk_label hr hc.1, hc.2⟩
    · exact codeOk_label h hc.2
  | .label l', l, r, h, _ => by
    unfold findLabel at h
    split at h
    · injection h with h; subst h; rfl
    · cases h
  | .skip, _, _, h, _ => by simp [findLabel] at h
  | .region _ _ _, _, _, h, _ => by simp [findLabel] at h
  | .cond _ _ _, _, _, h, _ => by simp [findLabel] at h
  | .block _ _, _, _, h, _ => by simp [findLabel] at h
  | .loop _, _, _, h, _ => by simp [findLabel] at h
  | .rangeFunc _ _ _ _, _, _, h, _ => by simp [findLabel] at h
  | .exit _, _, _, h, _ => by simp [findLabel] at h
  | .scope _, _, _, h, _ => by simp [findLabel] at h
  | .goto _, _, _, h, _ => by simp [findLabel] at h
  | .ret, _, _, h, _ => by simp [findLabel] at h
  | .refuse _, _, _, h, _ => by simp [findLabel] at h

theorem flat_label : ∀ {c : Code} {l : Nat} {r : Code}, findLabel c l = some r → flat c = true → flat r = true
  | .seq a b, l, r, h, hc => by
    simp only [flat, Bool.and_eq_true] at hc
    unfold findLabel at h
    split at h
    · rename_i rest hr
      injection h with h; subst h
      simp only [flat, Bool.and_eq_true]
      exact ⟨flat_label hr hc.1, hc.2⟩
    · exact flat_label h hc.2
  | .label l', l, r, h, _ => by
    unfold findLabel at h
    split at h
    · injection h with h; subst h; rfl
    · cases h
  | .skip, _, _, h, _ => by simp [findLabel] at h
  | .region _ _ _, _, _, h, _ => by simp [findLabel] at h
  | .cond _ _ _, _, _, h, _ => by simp [findLabel] at h
  | .block _ _, _, _, h, _ => by simp [findLabel] at h
  | .loop _, _, _, h, _ => by simp [findLabel] at h
  | .rangeFunc _ _ _ _, _, _, h, _ => by simp [findLabel] at h
  | .exit _, _, _, h, _ => by simp [findLabel] at h
  | .scope _, _, _, h, _ => by simp [findLabel] at h
  | .goto _, _, _, h, _ => by simp [findLabel] at h
  | .ret, _, _, h, _ => by simp [findLabel] at h
  | .refuse _, _, _, h, _ => by simp [findLabel] at h

/- A scope through which the run goes with jumps of its own. -/
def hops (rd : Option Nat) (P : Program) (body : Code) (Q : Exit → Act → World → Prop) : Nat → Code → Act → World → Prop
  | 0, _, _, _ => False
  | n + 1, c, a, w => c.wpIn (Wd rd) 0 P (fun e a w => match e with
      | .goto l => ∃ rest, findLabel body l = some rest ∧ hops rd P body Q n rest a w
      | e => Q e a w) a w

theorem stepR_scope {P : Program} {b : Frame} {a : Act} {k : List Item} {cs : List Frame} {w : World} {c : Code} : step P (lone (b.atR a (.code (.scope c) :: k)) cs w) = .next (lone (b.atR a (.code c :: .inScope c :: k)) cs w) :=
  step_lone_go (by simp [stepG, stepG.exec, Frame.atR])
theorem stepR_inScope {P : Program} {b : Frame} {a : Act} {k : List Item} {cs : List Frame} {w : World} {c : Code} : step P (lone (b.atR a (.inScope c :: k)) cs w) = .next (lone (b.atR a k) cs w) :=
  step_lone_go (by simp [stepG, stepG.exec, Frame.atR])

theorem wp_scope_hops {rd : Option Nat} {P : Program} {body : Code} {Q : Exit → Act → World → Prop} (n : Nat) {a : Act} {w : World} (h : hops rd P body Q n body a w) : (Code.scope body).wpIn (Wd rd) 0 P Q a w := by
  intro b k cs hro hb hr
  have key : ∀ n c a w, hops rd P body Q n c a w → ∃ e a' w', Q e a' w' ∧ ArrivesIn (Machine.fenced P (Wd rd)) P (lone (b.atR a (.code c :: .inScope body :: k)) cs w) b k cs e a' w' := by
    intro n
    induction n with
    | zero => intro c a w h; exact h.elim
    | succ n ih =>
      intro c a w h
      obtain ⟨e, a₁, w₁, hq, harr⟩ := h b (.inScope body :: k) cs hro hb hr
      cases e with
      | normal => exact ⟨.normal, a₁, w₁, hq, StepsIn.trans harr (.one (fenced_calm hb hr rfl) stepR_inScope)⟩
      | exit id => exact ⟨.exit id, a₁, w₁, hq, fun k' hk => harr.1 k' (by simp [exitTo, hk]), fun h1 hk => harr.2 h1 (by simp [exitTo, hk])⟩
      | goto l =>
        obtain ⟨rest, hf, hh⟩ := hq
        obtain ⟨e₂, a₂, w₂, hq₂, harr₂⟩ := ih _ _ _ hh
        exact ⟨e₂, a₂, w₂, hq₂, .of_steps (harr.1 _ (by simp [gotoIn, hf])) harr₂⟩
      | ret => exact ⟨_, a₁, w₁, hq, harr⟩
      | panic ch => exact ⟨_, a₁, w₁, hq, harr⟩
      | outgrown => exact ⟨_, a₁, w₁, hq, harr⟩
  obtain ⟨e, a', w', hq, harr⟩ := key n body a w h
  exact ⟨e, a', w', hq, .of_steps (.one (fenced_calm hb hr rfl) stepR_scope) harr⟩

def exq : Ex → Exit
  | .normal => .normal
  | .ret => .ret
  | .exit id => .exit id
  | .goto l => .goto l

theorem Step.below {E : Env} {B : Nat} {ρ : Ren} {h : Heap} {w w' : World} (H : HR E B ρ h w) (hb : Below w.heap.size w w') : Step E B ρ h w ρ h w' where
  hr := {
    base_le := H.base_le
    ro_B := H.ro_B
    B_le := Nat.le_trans H.B_le hb.size
    fix := H.fix
    ro := fun b o hlt ho => by
      have h1 := H.ro b o hlt ho
      rw [hb.block b (Nat.lt_of_lt_of_le (H.ro_B b o hlt ho) H.B_le)]; exact h1
    live := fun b o hg => by
      obtain ⟨h1, h2, h3, h4, c, h5, h6⟩ := H.live b o hg
      exact ⟨h1, h2, h3, h4, c, by rw [hb.block _ (H.lt hg)]; exact h5, h6⟩
    inj := H.inj }
  ext := fun _ _ => rfl
  le := Nat.le_refl _
  frame := fun r hr _ => hb.block r hr
  range := fun b o hg => .inl ⟨b, o, hg, rfl⟩
  size := hb.size
  os := hb.os
  tape := hb.tape
  output := hb.output

/- Blocks beside the heap that we know: the records of ranges over functions. -/
def isSide : Obj → Bool
  | .deferred _ => true
  | .loop _ => true
  | _ => false

theorem HR.notSide {E : Env} {B : Nat} {ρ : Ren} {h : Heap} {w : World} (H : HR E B ρ h w) {b : Nat} {o : AObj} (hb : h.get b = some o) {r : Nat} {c : Obj} (hr : w.heap[r]? = some c) (hs : isSide c = true) : (ρ b).r ≠ r := by
  rintro rfl
  obtain ⟨_, _, _, _, c', h5, h6⟩ := H.live b o hb
  rw [hr] at h5
  injection h5 with h5; subst h5
  cases o <;> cases c <;> simp [isSide, objR] at hs h6

theorem lt_of_heap {w : World} {r : Nat} {c : Obj} (h : w.heap[r]? = some c) : r < w.heap.size := (Array.getElem?_eq_some_iff.1 h).1

theorem Step.keeps {E : Env} {B : Nat} {ρ ρ' : Ren} {h h' : Heap} {w w' : World} (s : Step E B ρ h w ρ' h' w') (H : HR E B ρ h w) {r : Nat} {c : Obj} (hr : w.heap[r]? = some c) (hs : isSide c = true) : w'.heap[r]? = some c := by
  rw [s.frame r (lt_of_heap hr) (fun b o hb => H.notSide hb hr hs)]; exact hr

/-- A block more beside. -/
theorem Step.sideNew {E : Env} {B : Nat} {ρ : Ren} {h : Heap} {w : World} (H : HR E B ρ h w) (c : Obj) : Step E B ρ h w ρ h (w.alloc c) :=
  Step.below H ⟨rfl, rfl, rfl, by simp, fun i hi => by rw [heap_alloc, Array.getElem?_push, if_neg (by omega)]⟩

/-- A block beside that turns. -/
theorem Step.sidePut {E : Env} {B : Nat} {ρ0 ρ : Ren} {h0 h : Heap} {w0 w : World} (s : Step E B ρ0 h0 w0 ρ h w) (hB : B ≤ w0.heap.size) {r : Nat} {c : Obj} (hr : w.heap[r]? = some c) (hs : isSide c = true) (hge : w0.heap.size ≤ r) (c' : Obj) :
    Step E B ρ0 h0 w0 ρ h (w.putObj r c') where
  hr := {
    base_le := s.hr.base_le
    ro_B := s.hr.ro_B
    B_le := by rw [World.putObj_size]; exact s.hr.B_le
    fix := s.hr.fix
    ro := fun b o hlt ho => by
      have := s.hr.ro_B b o hlt ho
      rw [World.putObj_heap_other (by omega)]; exact s.hr.ro b o hlt ho
    live := fun b o hb => by
      obtain ⟨h1, h2, h3, h4, c2, h5, h6⟩ := s.hr.live b o hb
      exact ⟨h1, h2, h3, h4, c2, by rw [World.putObj_heap_other (s.hr.notSide hb hr hs)]; exact h5, h6⟩
    inj := s.hr.inj }
  ext := s.ext
  le := s.le
  frame := fun k hk hn => by rw [World.putObj_heap_other (by omega)]; exact s.frame k hk hn
  range := s.range
  size := by rw [World.putObj_size]; exact s.size
  os := s.os
  tape := s.tape
  output := s.output

def mkD (rs : List Nat) : List Deferred := rs.map fun r => { target := .collected r, args := #[] }

def Marks (w w' : World) (rs : List Nat) : Prop := rs.Nodup ∧ ∀ r, r ∈ rs → w.heap.size ≤ r ∧ w'.heap[r]? = some (.deferred (some []))

def Post (E : Env) (B n : Nat) (ds : List Deferred) (ρ : Ren) (s : St) (w : World) (e : Ex) (s' : St) : Exit → Act → World → Prop :=
  fun e' a' w' => e' = exq e ∧ ∃ ρ' rs, FR ρ' n (mkD rs ++ ds) s'.tm a' ∧ Step E B ρ s.h w ρ' s'.h w' ∧ Sc s' ∧ Marks w w' rs

/-- What is known of a run of code. -/
def RunOk (E : Env) (B n : Nat) (run : Code → St → Option (Ex × St)) : Prop :=
  ∀ rd c s e s', run c s = some (e, s') → codeOk E.base n c = true → (rd = none ∨ flat c = true) → ∀ ρ w a ds, HR E B ρ s.h w → FR ρ n ds s.tm a → Sc s → c.wpIn (Wd rd) 0 E.P (Post E B n ds ρ s w e s') a w

theorem Post.trans {E : Env} {B n : Nat} {ds : List Deferred} {ρ ρ' : Ren} {s s1 s' : St} {w w1 : World} {e : Ex} {x : Exit} {a : Act} {w2 : World} {rs : List Nat} (h1 : Step E B ρ s.h w ρ' s1.h w1) (hm : Marks w w1 rs) (h : Post E B n (mkD rs ++ ds) ρ' s1 w1 e s' x a w2) : Post E B n ds ρ s w e s' x a w2 := by
  obtain ⟨he, ρ'', rs2, hf, hs, hsc, hm2⟩ := h
  refine ⟨he, ρ'', rs2 ++ rs, by simpa [mkD] using hf, h1.trans hs, hsc, ?_, ?_⟩
  · refine List.nodup_append.2 ⟨hm2.1, hm.1, ?_⟩
    rintro r hr r' hr' rfl
    have := (hm2.2 r hr).1
    have := lt_of_heap (hm.2 r hr').2
    omega
  · intro r hr
    rcases List.mem_append.1 hr with hr | hr
    · have := hm2.2 r hr
      exact ⟨Nat.le_trans h1.size this.1, this.2⟩
    · exact ⟨(hm.2 r hr).1, hs.keeps h1.hr (hm.2 r hr).2 rfl⟩

theorem rounds_mono {F : Fence} {n : Nat} {P : Program} {c : Code} {Q Q' : Exit → Act → World → Prop} (hq : ∀ e a w, Q e a w → Q' e a w) : ∀ (m : Nat) (a : Act) (w : World), Code.roundsIn F n P c Q m a w → Code.roundsIn F n P c Q' m a w
  | 0, _, _, h => h
  | m + 1, a, w, h => by
    rw [roundsIn_succ] at h ⊢
    refine wpIn_mono h ?_
    intro x a3 w3 hx
    cases x <;> simp only [Exit.then] at hx ⊢ <;> first | exact rounds_mono hq m _ _ hx | exact hq _ _ _ hx

theorem rounds_ok {E : Env} {B n : Nat} {run : Code → St → Option (Ex × St)} (hr : RunOk E B n run) {rd : Option Nat} {b : Code} (hb : codeOk E.base n b = true) (hfl : rd = none ∨ flat b = true) :
    ∀ (k : Nat) (s : St) (e : Ex) (s' : St), arounds (run b) k s = some (e, s') → ∀ ρ w a ds, HR E B ρ s.h w → FR ρ n ds s.tm a → Sc s → Code.roundsIn (Wd rd) 0 E.P b (Post E B n ds ρ s w e s') k a w
  | 0, s, e, s', h, _, _, _, _, _, _, _ => by simp [arounds] at h
  | k + 1, s, e, s', h, ρ, w, a, ds, H, F, S => by
    simp only [arounds] at h
    rw [roundsIn_succ]
    cases hx : run b s with
    | none => simp [hx] at h
    | some r =>
      obtain ⟨e1, s1⟩ := r
      have h1 := hr rd b s e1 s1 hx hb hfl ρ w a ds H F S
      cases e1 with
      | normal =>
        simp only [hx] at h
        refine wpIn_mono h1 ?_
        rintro x a1 w1 ⟨rfl, ρ1, rs, F1, st1, S1, hm⟩
        simp only [exq, Exit.then]
        have ih := rounds_ok hr hb hfl k s1 e s' h ρ1 w1 a1 _ st1.hr F1 S1
        exact rounds_mono (fun _ _ _ hx => Post.trans st1 hm hx) _ _ _ ih
      | ret =>
        simp only [hx, Option.some.injEq, Prod.mk.injEq] at h
        obtain ⟨rfl, rfl⟩ := h
        exact wpIn_mono h1 (by rintro x a1 w1 ⟨rfl, hh⟩; exact ⟨rfl, hh⟩)
      | exit id =>
        simp only [hx, Option.some.injEq, Prod.mk.injEq] at h
        obtain ⟨rfl, rfl⟩ := h
        exact wpIn_mono h1 (by rintro x a1 w1 ⟨rfl, hh⟩; exact ⟨rfl, hh⟩)
      | goto l =>
        simp only [hx, Option.some.injEq, Prod.mk.injEq] at h
        obtain ⟨rfl, rfl⟩ := h
        exact wpIn_mono h1 (by rintro x a1 w1 ⟨rfl, hh⟩; exact ⟨rfl, hh⟩)

theorem hops_mono {rd : Option Nat} {P : Program} {body : Code} {Q Q' : Exit → Act → World → Prop} (hq : ∀ e a w, Q e a w → Q' e a w) : ∀ (m : Nat) (c : Code) (a : Act) (w : World), hops rd P body Q m c a w → hops rd P body Q' m c a w
  | 0, _, _, _, h => h
  | m + 1, c, a, w, h => by
    refine wpIn_mono h ?_
    intro e a w he
    cases e with
    | goto l =>
      obtain ⟨rest, h1, h2⟩ := he
      exact ⟨rest, h1, hops_mono hq m rest a w h2⟩
    | normal => exact hq _ _ _ he
    | exit id => exact hq _ _ _ he
    | ret => exact hq _ _ _ he
    | panic c => exact hq _ _ _ he
    | outgrown => exact hq _ _ _ he

theorem scope_ok {E : Env} {B n : Nat} {run : Code → St → Option (Ex × St)} (hr : RunOk E B n run) {rd : Option Nat} {body : Code} (hb : codeOk E.base n body = true) (hbf : rd = none ∨ flat body = true) :
    ∀ (k : Nat) (c : Code) (s : St) (e : Ex) (s' : St), codeOk E.base n c = true → (rd = none ∨ flat c = true) → ascope run body k c s = some (e, s') → ∀ ρ w a ds, HR E B ρ s.h w → FR ρ n ds s.tm a → Sc s → hops rd E.P body (Post E B n ds ρ s w e s') k c a w
  | 0, c, s, e, s', _, _, h, _, _, _, _, _, _, _ => by simp [ascope] at h
  | k + 1, c, s, e, s', hc, hcf, h, ρ, w, a, ds, H, F, S => by
    simp only [ascope] at h
    cases hx : run c s with
    | none => simp [hx] at h
    | some r =>
      obtain ⟨e1, s1⟩ := r
      have h1 := hr rd c s e1 s1 hx hc hcf ρ w a ds H F S
      cases e1 with
      | goto l =>
        simp only [hx] at h
        cases hf : findLabel body l with
        | none => simp [hf] at h
        | some rest =>
          simp only [hf] at h
          refine wpIn_mono h1 ?_
          rintro x a1 w1 ⟨rfl, ρ1, rs, F1, st1, S1, hm⟩
          simp only [exq]
          exact ⟨rest, hf, hops_mono (fun _ _ _ hh => Post.trans st1 hm hh) k rest a1 w1 (scope_ok hr hb hbf k rest s1 e s' (codeOk_label hf hb) (hbf.imp id (flat_label hf)) h ρ1 w1 a1 _ st1.hr F1 S1)⟩
      | normal =>
        simp only [hx, Option.some.injEq, Prod.mk.injEq] at h
        obtain ⟨rfl, rfl⟩ := h
        exact wpIn_mono h1 (by rintro x a1 w1 ⟨rfl, hh⟩; exact ⟨rfl, hh⟩)
      | ret =>
        simp only [hx, Option.some.injEq, Prod.mk.injEq] at h
        obtain ⟨rfl, rfl⟩ := h
        exact wpIn_mono h1 (by rintro x a1 w1 ⟨rfl, hh⟩; exact ⟨rfl, hh⟩)
      | exit id =>
        simp only [hx, Option.some.injEq, Prod.mk.injEq] at h
        obtain ⟨rfl, rfl⟩ := h
        exact wpIn_mono h1 (by rintro x a1 w1 ⟨rfl, hh⟩; exact ⟨rfl, hh⟩)

theorem fget_leaf (t : Nat) : fget .leaf t = undef := by simp [fget, Tr.get_leaf]

theorem fget_from : ∀ (l : List Value) (k : Nat) (tm : Tr Value) (t : Nat), fget (afrom k l tm) t = if k ≤ t then (match l[t - k]? with | some v => v | none => fget tm t) else fget tm t
  | [], k, tm, t => by simp [afrom]
  | v :: l, k, tm, t => by
    simp only [afrom]
    rw [fget_from l (k + 1), fget_set]
    by_cases h1 : k + 1 ≤ t
    · rw [if_pos h1, if_neg (by omega), if_pos (by omega)]
      obtain ⟨j, rfl⟩ : ∃ j, t = k + 1 + j := ⟨t - (k + 1), by omega⟩
      rw [show k + 1 + j - (k + 1) = j by omega, show k + 1 + j - k = j + 1 by omega, List.getElem?_cons_succ]
    · rw [if_neg h1]
      by_cases h2 : k = t
      · subst h2; simp
      · rw [if_neg h2, if_neg (by omega)]

def resVal (tmps : Array Value) : ResultVar → Sem Value
  | .tmp t => pure (tmps.getD t undef)
  | .cell b t => do loadVar t (← asAddr (tmps.getD b undef))

theorem results_eq (fn : Func) (tmps : Array Value) : results fn tmps = (do
    let vs ← fn.results.mapM (resVal tmps)
    pure (if h : vs.size = 1 then vs[0] else .tuple vs)) := by
  unfold results
  rfl

theorem run_aresults {E : Env} {B n : Nat} {ds : List Deferred} {ρ : Ren} {s : St} {a : Act} {w : World} (H : HR E B ρ s.h w) (F : FR ρ n ds s.tm a) : ∀ (l : List ResultVar) (r : List Value), l.all (resOk n) = true → aresults E s l = some r →
    (l.mapM (resVal a.tmps)).run E.P w = .ok (r.map (ren ρ)) w
  | [], r, _, h => by simp [aresults] at h; subst h; rfl
  | .tmp t :: l, r, hk, h => by
    simp only [aresults] at h
    simp only [List.all_cons, Bool.and_eq_true, resOk, decide_eq_true_eq] at hk
    cases hl : aresults E s l with
    | none => simp [hl] at h
    | some r' =>
      simp [hl] at h; subst h
      have ih := run_aresults H F l r' hk.2 hl
      simp only [List.mapM_cons, resVal, Sem.run_bind, Sem.run_pure, Result.andThen_ok, ih, F.val t hk.1, List.map_cons]
  | .cell b t :: l, r, hk, h => by
    simp only [aresults] at h
    simp only [List.all_cons, Bool.and_eq_true, resOk, decide_eq_true_eq] at hk
    cases hv : aload E s.h t (fget s.tm b) with
    | none => simp [hv] at h
    | some v =>
      cases hl : aresults E s l with
      | none => simp [hv, hl] at h
      | some r' =>
        simp [hv, hl] at h; subst h
        have ih := run_aresults H F l r' hk.2 hl
        obtain ⟨h1, _, ad, hp⟩ := run_aload H hv
        rw [hp] at h1
        simp only [Instr.loadAt, ren, Instr.sureAddr, Sem.run_bind, Sem.run_pure, Result.andThen_ok] at h1
        have hh : (resVal a.tmps (.cell b t)).run E.P w = .ok (ren ρ v) w := by
          simp only [resVal, F.val b hk.1, hp, ren, asAddr, Sem.run_bind, Sem.run_pure, Result.andThen_ok, h1]
        simp only [List.mapM_cons, Sem.run_bind, Sem.run_pure, hh, Result.andThen_ok, ih, List.map_cons]

theorem sc_aresults {E : Env} {B : Nat} {ρ : Ren} {s : St} {w : World} (H : HR E B ρ s.h w) (S : Sc s) : ∀ (l : List ResultVar) (r : List Value), aresults E s l = some r → ∀ v, v ∈ r → sc s.h.next v = true
  | [], r, h => by simp [aresults] at h; subst h; simp
  | .tmp t :: l, r, h => by
    simp only [aresults] at h
    cases hl : aresults E s l with
    | none => simp [hl] at h
    | some r' =>
      simp [hl] at h; subst h
      intro v hv
      simp only [List.mem_cons] at hv
      rcases hv with rfl | hv
      · exact S t
      · exact sc_aresults H S l r' hl v hv
  | .cell b t :: l, r, h => by
    simp only [aresults] at h
    cases hv : aload E s.h t (fget s.tm b) with
    | none => simp [hv] at h
    | some v =>
      cases hl : aresults E s l with
      | none => simp [hv, hl] at h
      | some r' =>
        simp [hv, hl] at h; subst h
        intro x hx
        simp only [List.mem_cons] at hx
        rcases hx with rfl | hx
        · exact (run_aload H hv).2.1
        · exact sc_aresults H S l r' hl x hx

theorem ren_aret (ρ : Ren) (r : List Value) : (if h : (r.map (ren ρ)).toArray.size = 1 then (r.map (ren ρ)).toArray[0] else .tuple (r.map (ren ρ)).toArray) = ren ρ (aret r) := by
  match r with
  | [] => simp [aret, ren, renA_eq]
  | [v] => simp [aret]
  | v :: u :: l => simp [aret, ren, renA_eq]

/-- What is known of calls is so. -/
def KnownOk (E : Env) : Prop := ∀ f args v, E.known f args = some v → (∃ fn b, E.P.funcs[f]? = some fn ∧ fn.body = some b ∧ (fn.name == "runtime.NumGoroutine") = false) ∧ (∀ ρ, args.map (ren ρ) = args) ∧ (∀ ρ, ren ρ v = v) ∧ (∀ n, sc n v = true) ∧
  ∀ w : World, (∀ b o, b < E.base → E.ro b = some o → w.heap[b]? = some o) → Calls E.P f args.toArray w fun e w' => e = .returned v ∧ Below w.heap.size w w'

theorem known_none {E : Env} (h : E.known = fun _ _ => none) : KnownOk E := fun f args v hv => by rw [h] at hv; cases hv

/-- What is known of iterators is so: called with yield, the function yields what is told, round by round, as long as yield hands back true. -/
def IterOk (E : Env) : Prop := ∀ f lb h i o, E.iter f lb h i = some o →
  (∃ fn b, E.P.funcs[f]? = some fn ∧ fn.body = some b ∧ (fn.name == "runtime.NumGoroutine") = false) ∧
  (∀ v, o = some v → ∀ B ρ W, HR E B ρ h W → sc h.next v = true) ∧
  ∀ (B l N : Nat) (lbc : List Value) (I : Nat → Ren → Heap → World → Prop) (R : World → Prop),
    (∀ i ρ h W, I i ρ h W → (∀ ρ' W', Step E B ρ h W ρ' h W' → I i ρ' h W') ∧ i < N ∧ HR E B ρ h W ∧ lb.map (ren ρ) = lbc ∧ (∀ x, x ∈ lb → sc h.next x = true) ∧ ∃ o, E.iter f lb h i = some o ∧ (o = none → R W) ∧
      ∀ v, o = some v → ∃ fn tmps assign body, (Instr.yield l #[ren ρ v]).run E.P W = .ok (.round l fn tmps assign body) W ∧
        RoundIn (Wd none) 0 E.P l fn tmps assign body W fun e W2 => (e = .returned (.bool true) ∧ ∃ ρ' h', (∀ b, b < h.next → ρ' b = ρ b) ∧ h.next ≤ h'.next ∧ I (i + 1) ρ' h' W2) ∨ (e = .returned (.bool false) ∧ R W2)) →
    ∀ ρ h W, I 0 ρ h W → CallsIn (Wd none) 0 E.P f (.func (.yield l) #[] #[] :: lbc).toArray W fun e W' => ∃ v, e = .returned v ∧ R W'

theorem iter_none {E : Env} (h : E.iter = fun _ _ _ _ => none) : IterOk E := fun f lb h' i o hv => by rw [h] at hv; cases hv

def exJump : Ex → Option Code
  | .normal => none
  | .ret => some .ret
  | .exit id => some (.exit id)
  | .goto l => some (.goto l)

theorem marks_nil (w w' : World) : Marks w w' [] := ⟨List.nodup_nil, fun r h => by cases h⟩

theorem range_ok {E : Env} (hit : IterOk E) {B n : Nat} {run : Code → St → Option (Ex × St)} (hr : RunOk E B n run) {g : Operand} {ps : Array Tmp} {assign body : Code} {p : Nat} (hps : ps.toList = [p]) (hp : p < n)
    (hg : opdOk E.base n g = true) (hca : codeOk E.base n assign = true) (hcb : codeOk E.base n body = true) (hfa : flat assign = true) (hfb : flat body = true) {s : St} {it : Heap → Nat → Option (Option Value)} (hai : aiter E (opd s.tm g) = some it)
    {k : Nat} {e : Ex} {s' : St} (h : arange run it p assign body s.tm k 0 s.h = some (e, s')) {ρ : Ren} {w : World} {a : Act} {ds : List Deferred} (H : HR E B ρ s.h w) (F : FR ρ n ds s.tm a) (S : Sc s) :
    (Code.rangeFunc g ps assign body).wpIn (Wd none) 0 E.P (Post E B n ds ρ s w e s') a w := by
  have hps' : ps = #[p] := by cases ps; simp at hps; simp [hps]
  subst hps'
  unfold aiter at hai
  split at hai
  rotate_left
  · cases hai
  rename_i f cap hv
  injection hai with hai
  have hge := eval_opd H F hg
  rw [hv] at hge
  -- some round is known
  obtain ⟨o0, ho0⟩ : ∃ o, E.iter f cap.toList s.h 0 = some o := by
    cases k with
    | zero => simp [arange] at h
    | succ k =>
      cases hx : it s.h 0 with
      | none => simp [arange, hx] at h
      | some o => exact ⟨o, by rw [hai]; exact hx⟩
  obtain ⟨⟨fn, b, hf1, hf2, hf3⟩, _, hcall⟩ := hit f cap.toList s.h 0 o0 ho0
  have hscg : sc s.h.next (opd s.tm g) = true := sc_opd H.base_le S hg
  refine wpIn_rangeFunc fun fid _ => ?_
  generalize hw1 : (w.alloc (.deferred (some []))).alloc (.loop { state := .ready, pending := none, fn := fid, tmps := a.tmps, params := #[p], assign := assign, body := body, defers := w.heap.size }) = w1
  have hbase : ∀ st pend, (⟨st, pend, fid, a.tmps, #[p], assign, body, w.heap.size⟩ : Loop) = { state := st, pending := pend, fn := fid, tmps := a.tmps, params := #[p], assign := assign, body := body, defers := w.heap.size } := fun _ _ => rfl
  have st1 : Step E B ρ s.h w ρ s.h w1 := by
    rw [← hw1]
    exact (Step.sideNew H _).trans (Step.sideNew (Step.sideNew H _).hr _)
  have hrec : w1.heap[w.heap.size + 1]? = some (.loop { state := .ready, pending := none, fn := fid, tmps := a.tmps, params := #[p], assign := assign, body := body, defers := w.heap.size }) := by
    rw [← hw1, heap_alloc, Array.getElem?_push, if_pos (by simp)]
  have hdef : w1.heap[w.heap.size]? = some (.deferred (some [])) := by
    rw [← hw1, heap_alloc, Array.getElem?_push, if_neg (by simp), heap_alloc, Array.getElem?_push, if_pos rfl]
  have hI0 : ∀ W', Step E B ρ s.h w ρ s.h W' → True := fun _ _ => trivial
  refine ⟨w.heap.size + 1, [{ target := .collected w.heap.size, args := #[] }], w1, { target := .fn (.func f) (cap.map (ren ρ)), args := #[.func (.yield (w.heap.size + 1)) #[] #[]] }, w1, f, (.func (.yield (w.heap.size + 1)) #[] #[] :: cap.toList.map (ren ρ)).toArray, w1, ?_, ?_, fun _ _ => trivial, ?_, fun h => Bool.noConfusion h, ?_⟩
  · rw [← hw1]; exact run_enterLoop_outer fid a.tmps #[p] assign body
  · simp only [resolve, hge, ren, renA_eq, Deferred.ofValue]
    simp [Act.eval]
  · simp only [invoke]
    rw [run_callFunc hf1 hf2 hf3]
    congr 2
    apply Array.ext'
    simp
  · refine CallsIn.mono (hcall B (w.heap.size + 1) k (cap.toList.map (ren ρ))
      (fun i ρi hh W => i < k ∧ Step E B ρ s.h w ρi hh W ∧ arange run it p assign body s.tm (k - i) i hh = some (e, s') ∧ W.heap[w.heap.size]? = some (.deferred (some [])) ∧
        W.heap[w.heap.size + 1]? = some (.loop { state := .ready, pending := none, fn := fid, tmps := a.tmps, params := #[p], assign := assign, body := body, defers := w.heap.size }))
      (fun W => ∃ ρi st, Step E B ρ s.h w ρi s'.h W ∧ s'.tm = s.tm ∧ st ≠ .busy ∧ W.heap[w.heap.size]? = some (.deferred (some [])) ∧
        W.heap[w.heap.size + 1]? = some (.loop { state := st, pending := exJump e, fn := fid, tmps := a.tmps, params := #[p], assign := assign, body := body, defers := w.heap.size })) ?_ ρ s.h w1 ?_) ?_
    · rintro i ρi hh W ⟨hik, sti, hra, hd, hl⟩
      refine ⟨fun ρ' W' st => ⟨hik, sti.trans st, hra, st.keeps sti.hr hd rfl, st.keeps sti.hr hl rfl⟩, hik, sti.hr, ?_⟩
      obtain ⟨m, hm⟩ : ∃ m, k - i = m + 1 := ⟨k - i - 1, by omega⟩
      rw [hm] at hra
      simp only [arange] at hra
      have hcap : cap.toList.map (ren ρi) = cap.toList.map (ren ρ) := by
        refine List.map_congr_left fun x hx => ren_congr ρ ρi s.h.next sti.ext x ?_
        rw [hv] at hscg
        simp only [sc, Bool.and_eq_true, scA_iff] at hscg
        exact hscg.2 x (by simpa using hx)
      have hsl : ∀ x, x ∈ cap.toList → sc hh.next x = true := fun x hx => by
        rw [hv] at hscg
        simp only [sc, Bool.and_eq_true, scA_iff] at hscg
        exact sc_mono _ _ sti.le _ (hscg.2 x (by simpa using hx))
      cases hiter : it hh i with
      | none => simp [hiter] at hra
      | some o =>
        refine ⟨hcap, hsl, o, by rw [hai]; exact hiter, ?_, ?_⟩
        · rintro rfl
          simp only [hiter, Option.some.injEq, Prod.mk.injEq] at hra
          obtain ⟨rfl, rfl⟩ := hra
          exact ⟨ρi, .ready, sti, rfl, by simp, hd, hl⟩
        · rintro v rfl
          have hscv : sc hh.next v = true := by
            obtain ⟨_, hq, _⟩ := hit f cap.toList hh i (some v) (by rw [hai]; exact hiter)
            exact hq v rfl B ρi W sti.hr
          have stb : Step E B ρ s.h w ρi hh W := sti
          have hl' := hl
          have hd' := hd
          simp only [hiter] at hra
          cases hxa : run assign ⟨s.tm.set p (some v), hh⟩ with
          | none => simp [hxa] at hra
          | some ra =>
            obtain ⟨ea, sa⟩ := ra
            simp only [hxa] at hra
            cases ea with
            | ret => simp at hra
            | exit id => simp at hra
            | goto l => simp at hra
            | normal =>
              simp only at hra
              refine ⟨_, _, _, _, run_yield hl' (by simp), ?_⟩
              refine roundIn_of_wpIn trivial ?_
              have Fv := F.put (ρ' := ρi) (m := s.h.next) sti.ext S (d := some p) (by simpa [dstOk] using hp) v
              have Fr : FR ρi n [] (s.tm.set p (some v)) { tmps := a.tmps.setIfInBounds p (ren ρi v), defers := [] } := ⟨rfl, Fv.size, Fv.val⟩
              have Sr : Sc ⟨s.tm.set p (some v), hh⟩ := sc_aput (d := some p) S sti.le hscv
              have ha := hr (some (w.heap.size + 1)) assign _ _ _ hxa hca (.inr hfa) ρi W { tmps := a.tmps.setIfInBounds p (ren ρi v), defers := [] } [] stb.hr Fr Sr
              have etm : (Array.foldl (fun tmps (x : Tmp × Value) => tmps.setIfInBounds x.1 x.2) a.tmps (Array.zip #[p] #[ren ρi v])) = a.tmps.setIfInBounds p (ren ρi v) := by simp
              simp only [etm]
              refine wpIn_mono ha ?_
              rintro x a1 w2 ⟨rfl, ρ1, rs1, F1, sA, S1, _⟩
              simp only [exq, Exit.then]
              have hl2 := sA.keeps stb.hr hl' rfl
              have hd2 := sA.keeps stb.hr hd' rfl
              refine ⟨_, run_beginRound hl2 rfl, ?_⟩
              have sB := (stb.trans sA).sidePut H.B_le hl2 rfl (by omega) (.loop { state := .busy, pending := none, fn := fid, tmps := a.tmps, params := #[p], assign := assign, body := body, defers := w.heap.size })
              have hl3 : (w2.putObj (w.heap.size + 1) (.loop { state := .busy, pending := none, fn := fid, tmps := a.tmps, params := #[p], assign := assign, body := body, defers := w.heap.size })).heap[w.heap.size + 1]? = _ := World.putObj_heap_same (lt_of_heap hl2)
              have hd3 : (w2.putObj (w.heap.size + 1) (.loop { state := .busy, pending := none, fn := fid, tmps := a.tmps, params := #[p], assign := assign, body := body, defers := w.heap.size })).heap[w.heap.size]? = _ := (World.putObj_heap_other (by omega)).trans hd2
              cases hxb : run body sa with
              | none => simp [hxb] at hra
              | some rb =>
                obtain ⟨eb, sb⟩ := rb
                simp only [hxb] at hra
                have hb := hr (some (w.heap.size + 1)) body _ _ _ hxb hcb (.inr hfb) ρ1 _ a1 _ sB.hr F1 S1
                refine wpIn_mono hb ?_
                rintro x a2 w4 ⟨rfl, ρ2, rs2, F2, sC, S2, _⟩
                have hl4 := sC.keeps sB.hr hl3 rfl
                have hd4 := sC.keeps sB.hr hd3 rfl
                have sD := sB.trans sC
                have fin : ∀ (jump : Option Code) (rest : World → Prop), (∀ st, st = (if jump.isNone then LoopState.ready else .done) → ∀ W2, Step E B ρ s.h w ρ2 sb.h W2 → W2.heap[w.heap.size]? = some (.deferred (some [])) →
                    W2.heap[w.heap.size + 1]? = some (.loop { state := st, pending := jump, fn := fid, tmps := a.tmps, params := #[p], assign := assign, body := body, defers := w.heap.size }) → rest W2) →
                    ∃ v w5, (Instr.endRound (w.heap.size + 1) jump).run E.P w4 = .ok v w5 ∧ v = .bool jump.isNone ∧ rest w5 := by
                  intro jump rest hrest
                  exact ⟨_, _, run_endRound jump hl4, rfl, hrest _ rfl _ (sD.sidePut H.B_le hl4 rfl (by omega) _) ((World.putObj_heap_other (by omega)).trans hd4) (World.putObj_heap_same (lt_of_heap hl4))⟩
                have done : ∀ eb', eb' ≠ .normal → (e, s') = (eb', (⟨s.tm, sb.h⟩ : St)) → ∃ v w5, (Instr.endRound (w.heap.size + 1) (exJump eb')).run E.P w4 = .ok v w5 ∧ v = .bool (exJump eb').isNone ∧
                    (∃ ρi st, Step E B ρ s.h w ρi s'.h w5 ∧ s'.tm = s.tm ∧ st ≠ .busy ∧ w5.heap[w.heap.size]? = some (.deferred (some [])) ∧
                      w5.heap[w.heap.size + 1]? = some (.loop { state := st, pending := exJump e, fn := fid, tmps := a.tmps, params := #[p], assign := assign, body := body, defers := w.heap.size })) := by
                  intro eb' _ hee
                  simp only [Prod.mk.injEq] at hee
                  obtain ⟨rfl, rfl⟩ := hee
                  refine fin _ _ fun st hst W2 s2 hd5 hl5 => ⟨ρ2, st, s2, rfl, ?_, hd5, hl5⟩
                  rw [hst]; split <;> simp
                cases eb with
                | normal =>
                  simp only at hra
                  simp only [exq, roundPost]
                  obtain ⟨v5, w5, g1, g2, g3⟩ := fin none (fun W2 => i + 1 < k ∧ Step E B ρ s.h w ρ2 sb.h W2 ∧ arange run it p assign body s.tm (k - (i + 1)) (i + 1) sb.h = some (e, s') ∧ W2.heap[w.heap.size]? = some (.deferred (some [])) ∧
                    W2.heap[w.heap.size + 1]? = some (.loop { state := .ready, pending := none, fn := fid, tmps := a.tmps, params := #[p], assign := assign, body := body, defers := w.heap.size })) (by
                    intro st hst W2 s2 hd5 hl5
                    have em : k - (i + 1) = m := by omega
                    have hm0 : 0 < m := by
                      rcases Nat.eq_zero_or_pos m with h0 | h0
                      · subst h0; simp [arange] at hra
                      · exact h0
                    refine ⟨by omega, s2, by rw [em]; exact hra, hd5, ?_⟩
                    rw [hl5, hst]; rfl)
                  subst g2
                  exact ⟨_, w5, g1, .inl ⟨rfl, ρ2, sb.h, (sA.trans (Step.refl sA.hr)).ext |> fun ha b hb => (sC.ext b (Nat.lt_of_lt_of_le hb sA.le)).trans (ha b hb), Nat.le_trans sA.le sC.le, g3⟩⟩
                | ret =>
                  simp only [Option.some.injEq] at hra
                  obtain ⟨v5, w5, g1, g2, g3⟩ := done .ret (by simp) hra.symm
                  subst g2
                  exact ⟨_, w5, g1, .inr ⟨rfl, g3⟩⟩
                | exit id =>
                  simp only [Option.some.injEq] at hra
                  obtain ⟨v5, w5, g1, g2, g3⟩ := done (.exit id) (by simp) hra.symm
                  subst g2
                  exact ⟨_, w5, g1, .inr ⟨rfl, g3⟩⟩
                | goto l =>
                  simp only [Option.some.injEq] at hra
                  obtain ⟨v5, w5, g1, g2, g3⟩ := done (.goto l) (by simp) hra.symm
                  subst g2
                  exact ⟨_, w5, g1, .inr ⟨rfl, g3⟩⟩
    · refine ⟨?_, st1, by simpa using h, hdef, hrec⟩
      cases k with
      | zero => simp [arange] at h
      | succ k => omega
    · rintro e2 W' ⟨v, rfl, ρi, st, sR, htm, hst, hd, hl⟩
      refine ⟨exJump e, _, run_endLoop hl hst, ?_⟩
      have sE := sR.sidePut H.B_le hl rfl (by omega) (.loop { state := .exhausted, pending := exJump e, fn := fid, tmps := a.tmps, params := #[p], assign := assign, body := body, defers := w.heap.size })
      have FE : FR ρi n ([{ target := .collected w.heap.size, args := #[] }] ++ a.defers) s'.tm { tmps := a.tmps, defers := [{ target := .collected w.heap.size, args := #[] }] ++ a.defers } := by
        refine ⟨rfl, F.size, fun t ht => ?_⟩
        rw [htm]
        exact (F.val t ht).trans (ren_congr ρ ρi s.h.next sE.ext _ (S t)).symm
      have hP : Post E B n ds ρ s w e s' (exq e) { tmps := a.tmps, defers := [{ target := .collected w.heap.size, args := #[] }] ++ a.defers } (W'.putObj (w.heap.size + 1) (.loop { state := .exhausted, pending := exJump e, fn := fid, tmps := a.tmps, params := #[p], assign := assign, body := body, defers := w.heap.size })) := by
        refine ⟨rfl, ρi, [w.heap.size], ?_, sE, ?_, ?_, ?_⟩
        · rw [← F.defers]; exact FE
        · intro t
          have := sE.le
          rw [htm]
          exact sc_mono _ _ this _ (S t)
        · simp
        · intro r hr
          simp only [List.mem_singleton] at hr
          subst hr
          exact ⟨Nat.le_refl _, (World.putObj_heap_other (by omega)).trans hd⟩
      cases e with
      | normal => exact hP
      | ret => exact wpIn_ret hP
      | exit id => exact wpIn_exit hP
      | goto l => exact wpIn_goto hP

theorem leaves_ok {E : Env} {B : Nat} {ρ ρ1 : Ren} {h h1 : Heap} {w : World} (hB : B ≤ w.heap.size) {fn : Func} {tmps : Array Value} {R : Ending → World → Prop}
    (fin : ∀ w2, Step E B ρ h w ρ1 h1 w2 → ∃ v, (results fn tmps).run E.P w2 = .ok v w2 ∧ R (.returned v) w2) :
    ∀ (rs : List Nat) (w1 : World), Step E B ρ h w ρ1 h1 w1 → Marks w w1 rs → LeavesInM Fence.wide 0 E.P fn tmps R (mkD rs) .returning w1
  | [], w1, st, _ => fin w1 st
  | r :: rs, w1, st, hm => by
    obtain ⟨h1, h2⟩ := hm.2 r (by simp)
    have hnd := List.nodup_cons.1 hm.1
    refine ⟨by simp, .inl ⟨r, _, rfl, run_takeDeferred h2, leaves_ok hB fin rs _ (st.sidePut hB h2 rfl h1 _) ⟨hnd.2, fun r' hr' => ?_⟩⟩⟩
    obtain ⟨h3, h4⟩ := hm.2 r' (List.mem_cons_of_mem _ hr')
    exact ⟨h3, (World.putObj_heap_other (fun e => hnd.1 (by rw [← e]; exact hr'))).trans h4⟩

theorem call_ok {E : Env} (hp : progOk E = true) (hkn : KnownOk E) {B : Nat} {run : Code → St → Option (Ex × St)} (hr : ∀ n, RunOk E B n run) : CallOk E B (acallBy E run) := by
  intro f args h v h' hx
  unfold acallBy at hx
  split at hx
  · rename_i v' hk
    simp only [Option.some.injEq, Prod.mk.injEq] at hx
    obtain ⟨rfl, rfl⟩ := hx
    obtain ⟨⟨fn, b, h1, h2, h3⟩, h4, h5, h6, h7⟩ := hkn f args v' hk
    refine ⟨fn, b, h1, h2, h3, fun ρ w H _ => ?_⟩
    rw [h4]
    refine (h7 w H.ro).mono ?_
    rintro e w' ⟨rfl, hb⟩
    exact ⟨ρ, by rw [h5], Step.below H hb, h6 _⟩
  unfold acallText at hx
  split at hx
  · rename_i fn hf
    split at hx
    · rename_i b hb
      split at hx
      · rename_i hc
        have hf' : E.P.funcs[f]? = some fn := by simpa using hf
        refine ⟨fn, b, hf', hb, hc.2, ?_⟩
        intro ρ w H hargs
        have hfo : funcOk E.base fn = true := by
          simp only [progOk, List.all_eq_true] at hp
          exact hp fn (List.mem_of_getElem? hf)
        simp only [funcOk, hb, Bool.and_eq_true] at hfo
        obtain ⟨hco, hres⟩ := hfo
        have S0 : Sc ⟨afrom 0 args .leaf, h⟩ := by
          intro t
          simp only [fget_from, Nat.zero_le, if_true, Nat.sub_zero, fget_leaf]
          cases ha : args[t]? with
          | none => rfl
          | some x => exact hargs x (List.mem_of_getElem? ha)
        have F0 : FR ρ fn.ntmps [] (afrom 0 args .leaf) { tmps := (args.map (ren ρ)).toArray ++ Array.replicate (fn.ntmps - (args.map (ren ρ)).toArray.size) undef, defers := [] } := by
          refine ⟨rfl, by simp; omega, ?_⟩
          intro t ht
          simp only [fget_from, Nat.zero_le, if_true, Nat.sub_zero, fget_leaf, Array.getD_eq_getD_getElem?, Array.getElem?_append]
          by_cases hlt : t < args.length
          · simp [hlt]
          · simp [hlt, Array.getElem?_replicate, undef, ren, renA_eq]
            rw [if_pos (by omega)]
            rfl
        have fin : ∀ e s', run b ⟨afrom 0 args .leaf, h⟩ = some (e, s') → (e = .normal ∨ e = .ret) → (aresults E s' fn.results.toList).map (fun l => (aret l, s'.h)) = some (v, h') →
            Calls E.P f (args.map (ren ρ)).toArray w fun e w' => ∃ ρ', e = .returned (ren ρ' v) ∧ Step E B ρ h w ρ' h' w' ∧ sc h'.next v = true := by
          intro e s' hrun he hl
          cases har : aresults E s' fn.results.toList with
          | none => simp [har] at hl
          | some r =>
            simp [har] at hl
            obtain ⟨rfl, rfl⟩ := hl
            refine callsIn_wide.1 (callsIn_of_wp_marks (F := Fence.wide) (n := 0) hf' hb trivial (wpIn_mono (hr fn.ntmps none b _ e s' hrun hco (.inl rfl) ρ w _ [] H F0 S0) ?_))
            rintro x a1 w1 ⟨rfl, ρ1, rs, F1, st1, S1, hm⟩
            have hscv : sc s'.h.next (aret r) = true := by
              have hall := sc_aresults st1.hr S1 _ r har
              match r, hall with
              | [], _ => rfl
              | [v], hall => exact hall v (by simp)
              | v :: u :: l, hall => simp only [aret, sc, scA, scL_iff]; exact hall
            have hlv := leaves_ok (R := fun e w' => ∃ ρ', e = .returned (ren ρ' (aret r)) ∧ Step E B ρ h w ρ' s'.h w' ∧ sc s'.h.next (aret r) = true) H.B_le (fn := fn) (tmps := a1.tmps) (fun w2 st2 => by
              refine ⟨ren ρ1 (aret r), ?_, ρ1, rfl, st2, hscv⟩
              have := run_aresults st2.hr F1 _ r hres har
              rw [results_eq, Array.mapM_eq_mapM_toList]
              simp only [Sem.run_bind, Sem.run_map, this, Result.andThen_ok, Sem.run_pure]
              rw [ren_aret]) rs w1 st1 hm
            have hdf : a1.defers = mkD rs := by rw [F1.defers]; simp
            rw [← hdf] at hlv
            rcases he with rfl | rfl
            · exact hlv
            · exact hlv
        unfold aleave at hx
        split at hx
        · rename_i s' hrun; exact fin _ _ hrun (.inl rfl) hx
        · rename_i s' hrun; exact fin _ _ hrun (.inr rfl) hx
        · cases hx
      · cases hx
    · cases hx
  · cases hx

theorem exec_ok {E : Env} (hp : progOk E = true) (hkn : KnownOk E) (hit : IterOk E) (hm : E.P.follows .mixedOrders = true) {B : Nat} : ∀ (k n : Nat), RunOk E B n (aexec E k) := by
  intro k
  induction k with
  | zero => intro n rd c s e s' h; simp [aexec] at h
  | succ k ih =>
    intro n rd c s e s' h hc hfl ρ w a ds H F S
    have base : ∀ x, Post E B n ds ρ s w x s (exq x) a w := fun x => ⟨rfl, ρ, [], F, Step.refl H, S, marks_nil _ _⟩
    cases c with
    | skip => simp only [aexec, Option.some.injEq, Prod.mk.injEq] at h; obtain ⟨rfl, rfl⟩ := h; exact wpIn_skip (base .normal)
    | label l => simp only [aexec, Option.some.injEq, Prod.mk.injEq] at h; obtain ⟨rfl, rfl⟩ := h; exact wpIn_label (base .normal)
    | ret => simp only [aexec, Option.some.injEq, Prod.mk.injEq] at h; obtain ⟨rfl, rfl⟩ := h; exact wpIn_ret (base .ret)
    | exit id => simp only [aexec, Option.some.injEq, Prod.mk.injEq] at h; obtain ⟨rfl, rfl⟩ := h; exact wpIn_exit (base (.exit id))
    | goto l => simp only [aexec, Option.some.injEq, Prod.mk.injEq] at h; obtain ⟨rfl, rfl⟩ := h; exact wpIn_goto (base (.goto l))
    | seq x y =>
      simp only [codeOk, Bool.and_eq_true] at hc
      simp only [flat, Bool.and_eq_true] at hfl
      simp only [aexec] at h
      cases hx : aexec E k x s with
      | none => simp [hx] at h
      | some r =>
        obtain ⟨e1, s1⟩ := r
        have h1 := ih n rd x s e1 s1 hx hc.1 (hfl.imp id (·.1)) ρ w a ds H F S
        refine wpIn_seq ?_
        cases e1 with
        | normal =>
          simp only [hx] at h
          refine wpIn_mono h1 ?_
          rintro x1 a1 w1 ⟨rfl, ρ1, rs, F1, st1, S1, hm1⟩
          exact wpIn_mono (ih n rd y s1 e s' h hc.2 (hfl.imp id (·.2)) ρ1 w1 a1 _ st1.hr F1 S1) fun _ _ _ hh => Post.trans st1 hm1 hh
        | ret => simp only [hx, Option.some.injEq, Prod.mk.injEq] at h; obtain ⟨rfl, rfl⟩ := h; exact wpIn_mono h1 (by rintro x a1 w1 ⟨rfl, hh⟩; exact ⟨rfl, hh⟩)
        | exit id => simp only [hx, Option.some.injEq, Prod.mk.injEq] at h; obtain ⟨rfl, rfl⟩ := h; exact wpIn_mono h1 (by rintro x a1 w1 ⟨rfl, hh⟩; exact ⟨rfl, hh⟩)
        | goto l => simp only [hx, Option.some.injEq, Prod.mk.injEq] at h; obtain ⟨rfl, rfl⟩ := h; exact wpIn_mono h1 (by rintro x a1 w1 ⟨rfl, hh⟩; exact ⟨rfl, hh⟩)
    | cond x y z =>
      simp only [codeOk, Bool.and_eq_true] at hc
      simp only [flat, Bool.and_eq_true] at hfl
      simp only [aexec] at h
      have he := eval_opd H F hc.1
      split at h
      · rename_i ht
        rw [ht] at he
        exact wpIn_cond_true he (ih n rd y s e s' h hc.2.1 (hfl.imp id (·.1)) ρ w a ds H F S)
      · rename_i ht
        rw [ht] at he
        exact wpIn_cond_false he (ih n rd z s e s' h hc.2.2 (hfl.imp id (·.2)) ρ w a ds H F S)
      · cases h
    | block id b =>
      simp only [codeOk] at hc
      simp only [flat] at hfl
      simp only [aexec] at h
      cases hx : aexec E k b s with
      | none => simp [hx] at h
      | some r =>
        obtain ⟨e1, s1⟩ := r
        have h1 := ih n rd b s e1 s1 hx hc hfl ρ w a ds H F S
        refine wpIn_block (wpIn_mono h1 ?_)
        rintro x1 a1 w1 ⟨rfl, hh⟩
        cases e1 with
        | exit id' =>
          simp only [hx] at h
          simp only [exq, Exit.inBlock]
          split at h
          · rename_i hid
            simp only [Option.some.injEq, Prod.mk.injEq] at h
            obtain ⟨rfl, rfl⟩ := h
            rw [if_pos hid]; exact ⟨rfl, hh⟩
          · rename_i hid
            simp only [Option.some.injEq, Prod.mk.injEq] at h
            obtain ⟨rfl, rfl⟩ := h
            rw [if_neg hid]; exact ⟨rfl, hh⟩
        | normal => simp only [hx, Option.some.injEq, Prod.mk.injEq] at h; obtain ⟨rfl, rfl⟩ := h; exact ⟨rfl, hh⟩
        | ret => simp only [hx, Option.some.injEq, Prod.mk.injEq] at h; obtain ⟨rfl, rfl⟩ := h; exact ⟨rfl, hh⟩
        | goto l => simp only [hx, Option.some.injEq, Prod.mk.injEq] at h; obtain ⟨rfl, rfl⟩ := h; exact ⟨rfl, hh⟩
    | loop b =>
      simp only [codeOk] at hc
      simp only [flat] at hfl
      simp only [aexec] at h
      exact wpIn_loop_rounds k (rounds_ok (ih n) hc hfl k s e s' h ρ w a ds H F S)
    | scope b =>
      simp only [codeOk] at hc
      simp only [flat] at hfl
      simp only [aexec] at h
      exact wp_scope_hops k (scope_ok (ih n) hc hfl k b s e s' hc hfl h ρ w a ds H F S)
    | region id ops draw =>
      simp only [codeOk] at hc
      cases draw with
      | false =>
        simp only [aexec] at h
        rw [aops_eq ops.toList 0 s (by simp), Array.length_toList] at h
        cases hx : aopsI E (acallBy E (aexec E k)) ops (List.range' 0 ops.size) s with
        | none => simp [hx] at h
        | some s1 =>
          simp [hx] at h
          obtain ⟨rfl, rfl⟩ := h
          refine wpIn_region ?_
          rw [List.range_eq_range']
          refine run_ops (call_ok hp hkn ih) hc _ s s1 ρ w a hx H F S ?_
          intro ρ' a' w' h1 h2 h3
          exact ⟨rfl, ρ', [], h2, h1, h3, marks_nil _ _⟩
      | true =>
        simp only [aexec] at h
        cases hx : adrawX E (acallBy E (aexec E k)) ops.toList s with
        | none => simp [hx] at h
        | some s1 =>
          simp [hx] at h
          obtain ⟨rfl, rfl⟩ := h
          refine wpIn_region_draw fun t => ?_
          rw [hm]
          simp only [Region.schedule, Bool.true_or, if_true]
          rcases adrawX_cases hx with hx | ⟨c, W, rfl, rfl⟩
          · obtain ⟨s2, g1, g2, g3⟩ := draw_sched hx t
            refine run_ops (call_ok hp hkn ih) hc _ s s2 ρ w.drew a g1 H.drew F S ?_
            intro ρ' a' w' h1 h2 h3
            refine ⟨rfl, ρ', [], ⟨h2.defers, h2.size, fun t ht => by rw [h2.val t ht, g2 t]⟩, ((Step.drew H).trans h1).same g3, fun t => ?_, marks_nil _ _⟩
            rw [← g2 t, ← g3.1]; exact h3 t
          · refine run_draw2 (call_ok hp hkn ih) hc W (ρ0 := ρ) (w0 := w.drew) H.drew.B_le ?_ _ [] 0 ρ (c 0).tm w.drew a (linearise_sched W.down t) (fun i o hi => by simp at hi) (inv_start H.drew S) F
            intro ρ' a' w' h1 h2 h3
            exact ⟨rfl, ρ', [], h2, (Step.drew H).trans h1, h3, marks_nil _ _⟩
    | rangeFunc g ps assign body =>
      simp only [codeOk, Bool.and_eq_true] at hc
      simp only [flat] at hfl
      rcases hfl with rfl | hfl
      rotate_left
      · cases hfl
      simp only [aexec] at h
      split at h
      · rename_i it p hai hps
        split at h
        · rename_i hff
          refine range_ok hit (ih n) hps ?_ hc.1 hc.2.2.1 hc.2.2.2 hff.1 hff.2 hai h H F S
          have := hc.2.1
          rw [hps] at this
          simpa using this
        · cases h
      · cases h
    | refuse _ => simp [aexec] at h
end Go.Tm
