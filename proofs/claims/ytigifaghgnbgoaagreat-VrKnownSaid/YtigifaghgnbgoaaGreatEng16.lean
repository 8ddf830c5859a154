/- The engine, sixteenth part: which blocks a value names, as a set. -/
import Derived.Test.YtigifaghgnbgoaaGreatEng15
namespace Go.Tm

mutual
def scQ (n : Nat → Bool) : Value → Bool
  | .pointer (some a) => n a.block
  | .slice (some a) _ _ => n a.block
  | .map (some r) => n r
  | .chan (some r) => n r
  | .func _ x y => scQA n x && scQA n y
  | .iface _ v => scQ n v
  | .agg x => scQA n x
  | .tuple x => scQA n x
  | _ => true
def scQA (n : Nat → Bool) : Array Value → Bool
  | ⟨l⟩ => scQL n l
def scQL (n : Nat → Bool) : List Value → Bool
  | [] => true
  | v :: l => scQ n v && scQL n l
end

theorem scQL_eq (n : Nat → Bool) (l : List Value) : scQL n l = l.all (scQ n) := by
  induction l with
  | nil => simp [scQL]
  | cons v l ih => simp [scQL, ih]
theorem scQL_iff (n : Nat → Bool) (l : List Value) : scQL n l = true ↔ ∀ v, v ∈ l → scQ n v = true := by simp [scQL_eq]
theorem scQA_iff (n : Nat → Bool) (a : Array Value) : scQA n a = true ↔ ∀ v, v ∈ a → scQ n v = true := by
  cases a with | mk l => simp [scQA, scQL_iff]

mutual
theorem ren_congrQ (ρ ρ' : Ren) (n : Nat → Bool) (h : ∀ b, n b = true → ρ' b = ρ b) : ∀ v, scQ n v = true → ren ρ' v = ren ρ v
  | .pointer (some a), hs => by
    have := h a.block (by simpa [scQ] using hs)
    simp [ren, rena, this]
  | .slice (some a) l c, hs => by
    have := h a.block (by simpa [scQ] using hs)
    simp [ren, rens, this]
  | .map (some r), hs => by
    have := h r (by simpa [scQ] using hs)
    simp [ren, this]
  | .chan (some r), hs => by
    have := h r (by simpa [scQ] using hs)
    simp [ren, this]
  | .func f x y, hs => by
    simp only [scQ, Bool.and_eq_true] at hs
    simp only [ren, renA_congrQ ρ ρ' n h x hs.1, renA_congrQ ρ ρ' n h y hs.2]
  | .iface t v, hs => by
    simp only [scQ] at hs
    simp only [ren, ren_congrQ ρ ρ' n h v hs]
  | .agg x, hs => by
    simp only [scQ] at hs
    simp only [ren, renA_congrQ ρ ρ' n h x hs]
  | .tuple x, hs => by
    simp only [scQ] at hs
    simp only [ren, renA_congrQ ρ ρ' n h x hs]
  | .bool b, _ => rfl
  | .int k n, _ => rfl
  | .float k b, _ => rfl
  | .complex k a b, _ => rfl
  | .string s, _ => rfl
  | .pointer none, _ => rfl
  | .slice none l c, _ => rfl
  | .map none, _ => rfl
  | .chan none, _ => rfl
  | .nilFunc, _ => rfl
  | .nilIface, _ => rfl
theorem renA_congrQ (ρ ρ' : Ren) (n : Nat → Bool) (h : ∀ b, n b = true → ρ' b = ρ b) : ∀ a, scQA n a = true → renA ρ' a = renA ρ a
  | ⟨l⟩, hs => by
    simp only [scQA] at hs
    simp only [renA, renL_congrQ ρ ρ' n h l hs]
theorem renL_congrQ (ρ ρ' : Ren) (n : Nat → Bool) (h : ∀ b, n b = true → ρ' b = ρ b) : ∀ l, scQL n l = true → renL ρ' l = renL ρ l
  | [], _ => rfl
  | v :: l, hs => by
    simp only [scQL, Bool.and_eq_true] at hs
    simp only [renL, ren_congrQ ρ ρ' n h v hs.1, renL_congrQ ρ ρ' n h l hs.2]
end

mutual
theorem scQ_imp (n m : Nat → Bool) (h : ∀ b, n b = true → m b = true) : ∀ v, scQ n v = true → scQ m v = true
  | .pointer (some a), hs => by simp only [scQ] at *; exact h _ hs
  | .slice (some a) l c, hs => by simp only [scQ] at *; exact h _ hs
  | .map (some r), hs => by simp only [scQ] at *; exact h _ hs
  | .chan (some r), hs => by simp only [scQ] at *; exact h _ hs
  | .func f x y, hs => by
    simp only [scQ, Bool.and_eq_true] at *
    exact ⟨scQA_imp n m h x hs.1, scQA_imp n m h y hs.2⟩
  | .iface t v, hs => by simp only [scQ] at *; exact scQ_imp n m h v hs
  | .agg x, hs => by simp only [scQ] at *; exact scQA_imp n m h x hs
  | .tuple x, hs => by simp only [scQ] at *; exact scQA_imp n m h x hs
  | .bool b, _ => rfl
  | .int k n, _ => rfl
  | .float k b, _ => rfl
  | .complex k a b, _ => rfl
  | .string s, _ => rfl
  | .pointer none, _ => rfl
  | .slice none l c, _ => rfl
  | .map none, _ => rfl
  | .chan none, _ => rfl
  | .nilFunc, _ => rfl
  | .nilIface, _ => rfl
theorem scQA_imp (n m : Nat → Bool) (h : ∀ b, n b = true → m b = true) : ∀ a, scQA n a = true → scQA m a = true
  | ⟨l⟩, hs => by simp only [scQA] at *; exact scQL_imp n m h l hs
theorem scQL_imp (n m : Nat → Bool) (h : ∀ b, n b = true → m b = true) : ∀ l, scQL n l = true → scQL m l = true
  | [], _ => rfl
  | v :: l, hs => by
    simp only [scQL, Bool.and_eq_true] at *
    exact ⟨scQ_imp n m h v hs.1, scQL_imp n m h l hs.2⟩
end


mutual
theorem sc_scQ (n : Nat) : ∀ v, scQ (fun b => decide (b < n)) v = sc n v
  | .pointer (some a) => by simp [scQ, sc]
  | .slice (some a) l c => by simp [scQ, sc]
  | .map (some r) => by simp [scQ, sc]
  | .chan (some r) => by simp [scQ, sc]
  | .func f x y => by simp only [scQ, sc, scA_scQ n x, scA_scQ n y]
  | .iface t v => by simp only [scQ, sc, sc_scQ n v]
  | .agg x => by simp only [scQ, sc, scA_scQ n x]
  | .tuple x => by simp only [scQ, sc, scA_scQ n x]
  | .bool b => rfl
  | .int k n => rfl
  | .float k b => rfl
  | .complex k a b => rfl
  | .string s => rfl
  | .pointer none => rfl
  | .slice none l c => rfl
  | .map none => rfl
  | .chan none => rfl
  | .nilFunc => rfl
  | .nilIface => rfl
theorem scA_scQ (n : Nat) : ∀ a, scQA (fun b => decide (b < n)) a = scA n a
  | ⟨l⟩ => by simp only [scQA, scA, scL_scQ n l]
theorem scL_scQ (n : Nat) : ∀ l, scQL (fun b => decide (b < n)) l = scL n l
  | [] => rfl
  | v :: l => by simp only [scQL, scL, sc_scQ n v, scL_scQ n l]
end
end Go.Tm
