/- The engine, twenty-third part: regions that draw their order and make new memory in any order. (Tools.) -/
import Derived.Test.YtigifaghgnbgoaaGreatEng21
import Derived.Test.YtigifaghgnbgoaaGreatEng16
namespace Go.Tm

def isF (P : Program) (o : Oper) : Bool :=
  match kindOf P o.op with
  | .eff => true
  | _ => false
def isA (P : Program) (o : Oper) : Bool :=
  match kindOf P o.op with
  | .alloc => true
  | _ => false

def scOQ (q : Nat → Bool) : AObj → Prop
  | .cells c _ _ => ∀ v, v ∈ c → scQ q v = true
  | .map es _ => ∀ e, e ∈ es → scQ q e.key = true ∧ scQ q e.val = true
  | .iter _ _ => True

def scOQb (q : Nat → Bool) : AObj → Bool
  | .cells c _ _ => c.all (scQ q)
  | .map es _ => es.isEmpty
  | .iter _ _ => true

theorem scOQ_of {q : Nat → Bool} {o : AObj} (h : scOQb q o = true) : scOQ q o := by
  cases o with
  | cells c e fx => simpa [scOQb, scOQ] using h
  | map es k => simp only [scOQb, List.isEmpty_iff] at h; subst h; intro e he; simp at he
  | iter s p => trivial

theorem scOQ_imp {q q' : Nat → Bool} (h : ∀ b, q b = true → q' b = true) {o : AObj} (hs : scOQ q o) : scOQ q' o := by
  cases o with
  | cells c e fx => exact fun v hv => scQ_imp q q' h v (hs v hv)
  | map es k => exact fun e he => ⟨scQ_imp q q' h _ (hs e he).1, scQ_imp q q' h _ (hs e he).2⟩
  | iter s p => trivial

theorem objR_congrQ {P : Program} {ρ ρ' : Ren} {q : Nat → Bool} {x : Loc} {o : AObj} {c : Obj} (h : ∀ b, q b = true → ρ' b = ρ b) (hs : scOQ q o) (hr : objR P ρ x o c) : objR P ρ' x o c := by
  cases o with
  | cells l e fx =>
    cases c <;> simp only [objR] at hr ⊢
    have : l.map (ren ρ') = l.map (ren ρ) := List.map_congr_left fun v hv => ren_congrQ ρ ρ' q h v (hs v hv)
    rw [this]; exact hr
  | map es k =>
    cases c <;> simp only [objR] at hr ⊢
    have : es.map (renE ρ') = es.map (renE ρ) := List.map_congr_left fun e he => by
      obtain ⟨h1, h2⟩ := hs e he
      simp only [renE, ren_congrQ ρ ρ' q h _ h1, ren_congrQ ρ ρ' q h _ h2]
    rw [this]; exact hr
  | iter s p => cases c <;> exact hr

theorem FR.putQ {ρ ρ' : Ren} {n : Nat} {q : Nat → Bool} {tm : Tr Value} {a : Act} (F : FR ρ n tm a) (hext : ∀ b, q b = true → ρ' b = ρ b) (hs : ∀ t, scQ q (fget tm t) = true) {d : Option Nat} (hd : dstOk n d = true) (v : Value) :
    FR ρ' n (aput tm d v) (a.put d (ren ρ' v)) := by
  cases d with
  | none =>
    refine ⟨F.defers, F.size, fun t ht => ?_⟩
    simp only [aput, Act.put]
    rw [F.val t ht, ren_congrQ ρ ρ' q hext _ (hs t)]
  | some d =>
    simp only [dstOk, decide_eq_true_eq] at hd
    refine ⟨F.defers, by simp [Act.put, F.size], fun t ht => ?_⟩
    simp only [aput, Act.put, fget_set]
    by_cases e : d = t
    · subst e
      simp [Array.getD, F.size, hd]
    · rw [if_neg e]
      have := F.val t ht
      rw [ren_congrQ ρ ρ' q hext _ (hs t), ← this]
      rw [Array.getD_eq_getD_getElem?, Array.getD_eq_getD_getElem?, Array.getElem?_setIfInBounds_ne e]

/-- A block that is there already gets its name. -/
theorem Step.pushOld {E : Env} {B : Nat} {ρ0 ρ : Ren} {h0 h : Heap} {w0 w : World} (s : Step E B ρ0 h0 w0 ρ h w) {ob : AObj} {cc : Obj} (hsc : scO h.next ob) (hB : B ≤ (ρ h.next).r) (hw : w0.heap.size ≤ (ρ h.next).r)
    (hc : w.heap[(ρ h.next).r]? = some cc) (ho : objR E.P ρ (ρ h.next) ob cc) (hd : ∀ b o, h.get b = some o → (ρ b).r ≠ (ρ h.next).r) : Step E B ρ0 h0 w0 ρ (h.push ob) w where
  hr := {
    base_le := by have := s.hr.base_le; simp; omega
    base_B := s.hr.base_B
    B_le := s.hr.B_le
    fix := s.hr.fix
    ro := s.hr.ro
    live := fun b o hb => by
      rw [get_push] at hb
      by_cases e : h.next = b
      · subst e
        simp only [if_true, Option.some.injEq] at hb
        subst hb
        exact ⟨s.hr.base_le, by simp, hB, scO_mono (by simp) hsc, cc, hc, ho⟩
      · rw [if_neg e] at hb
        obtain ⟨h1, h2, h3, h4, h5⟩ := s.hr.live b o hb
        exact ⟨h1, by simp; omega, h3, scO_mono (by simp) h4, h5⟩
    inj := fun b b' o o' h1 h2 he => by
      rw [get_push] at h1 h2
      by_cases e1 : h.next = b
      · by_cases e2 : h.next = b'
        · omega
        · rw [if_neg e2] at h2
          subst e1
          exact absurd he.symm (hd b' o' h2)
      · rw [if_neg e1] at h1
        by_cases e2 : h.next = b'
        · subst e2
          exact absurd he (hd b o h1)
        · rw [if_neg e2] at h2
          exact s.hr.inj b b' o o' h1 h2 he }
  ext := s.ext
  le := by have := s.le; simp; omega
  frame := s.frame
  range := fun b o hb => by
    rw [get_push] at hb
    by_cases e : h.next = b
    · subst e; exact .inr hw
    · rw [if_neg e] at hb; exact s.range b o hb
  size := s.size
  os := s.os
  tape := s.tape
  output := s.output

/-- A block made, and no name known yet. -/
theorem Step.newOnly {E : Env} {B : Nat} {ρ : Ren} {h : Heap} {w : World} (H : HR E B ρ h w) {k : Nat} (hk : h.next ≤ k) (x : Loc) (cc : Obj) : Step E B ρ h w (upd ρ k x) h (w.alloc cc) where
  hr := {
    base_le := H.base_le
    base_B := H.base_B
    B_le := by have := H.B_le; simp; omega
    fix := fun b hb => by have := H.base_le; rw [upd_lt _ _ _ (by omega)]; exact H.fix b hb
    ro := fun b o' hb ho => by
      have h1 := H.ro b o' hb ho
      have h2 := H.base_B; have h3 := H.B_le
      rw [heap_alloc, Array.getElem?_push]
      rw [if_neg (by omega)]; exact h1
    live := fun b o' hb => by
      obtain ⟨h1, h2, h3, h4, c', h5, h6⟩ := H.live b o' hb
      rw [upd_lt _ _ _ (by omega)]
      have := H.lt hb
      refine ⟨h1, h2, h3, h4, c', ?_, objR_congr (n := h.next) (fun b hb => upd_lt _ _ _ (by omega)) h4 h6⟩
      rw [heap_alloc, Array.getElem?_push]
      rw [if_neg (by omega)]; exact h5
    inj := fun b b' o1 o2 h1 h2 he => by
      have g1 := (H.live b o1 h1).2.1
      have g2 := (H.live b' o2 h2).2.1
      rw [upd_lt _ _ _ (by omega), upd_lt _ _ _ (by omega)] at he
      exact H.inj b b' o1 o2 h1 h2 he }
  ext := fun b hb => upd_lt _ _ _ (by omega)
  le := Nat.le_refl _
  frame := fun r hr _ => by rw [heap_alloc, Array.getElem?_push]; rw [if_neg (by omega)]
  range := fun b o' hb => by
    have g := (H.live b o' hb).2.1
    rw [upd_lt _ _ _ (by omega)]
    exact .inl ⟨b, o', hb, rfl⟩
  size := by simp
  os := rfl
  tape := rfl
  output := rfl

theorem Step.congr {E : Env} {B : Nat} {ρ0 ρ ρ' : Ren} {h0 h : Heap} {w0 w : World} (s : Step E B ρ0 h0 w0 ρ h w) (hc : ∀ b, b < h.next → ρ' b = ρ b) : Step E B ρ0 h0 w0 ρ' h w where
  hr := {
    base_le := s.hr.base_le
    base_B := s.hr.base_B
    B_le := s.hr.B_le
    fix := fun b hb => by have := s.hr.base_le; rw [hc b (by omega)]; exact s.hr.fix b hb
    ro := s.hr.ro
    live := fun b o hb => by
      obtain ⟨h1, h2, h3, h4, c', h5, h6⟩ := s.hr.live b o hb
      rw [hc b h2]
      exact ⟨h1, h2, h3, h4, c', h5, objR_congr (n := h.next) hc h4 h6⟩
    inj := fun b b' o o' h1 h2 he => by
      have g1 := (s.hr.live b o h1).2.1
      have g2 := (s.hr.live b' o' h2).2.1
      rw [hc b g1, hc b' g2] at he
      exact s.hr.inj b b' o o' h1 h2 he }
  ext := fun b hb => by have := s.le; rw [hc b (by omega)]; exact s.ext b hb
  le := s.le
  frame := s.frame
  range := fun b o hb => by
    have g1 := (s.hr.live b o hb).2.1
    rw [hc b g1]; exact s.range b o hb
  size := s.size
  os := s.os
  tape := s.tape
  output := s.output
end Go.Tm
