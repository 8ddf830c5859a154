/- The engine, first part: a map keyed by numbers, names of blocks renamed, which blocks a value names. -/
import Derived.Calls
import Derived.LoopN
import Derived.Scope
import Derived.Laws.Entries
import Derived.Laws.Append
namespace Go.Tm

/- A map from numbers. -/
inductive Tr (α : Type) where
  | leaf
  | node (v : Option α) (l r : Tr α)

def path : Nat → Nat → List Bool
  | 0, _ => []
  | f + 1, k => match k with
    | 0 => []
    | k + 1 => (k % 2 == 0) :: path f (k / 2)

theorem path_inj : ∀ (f k j g : Nat), k ≤ f → j ≤ g → path f k = path g j → k = j := by
  intro f
  induction f with
  | zero =>
    intro k j g hk hj h
    cases g with
    | zero => omega
    | succ g => cases j with
      | zero => omega
      | succ j => simp [path] at h
  | succ f ih =>
    intro k j g hk hj h
    cases k with
    | zero =>
      cases g with
      | zero => omega
      | succ g => cases j with
        | zero => rfl
        | succ j => simp [path] at h
    | succ k =>
      cases g with
      | zero => simp [path] at h
      | succ g => cases j with
        | zero => simp [path] at h
        | succ j =>
          simp only [path, List.cons.injEq] at h
          obtain ⟨h1, h2⟩ := h
          have h3 := ih (k / 2) (j / 2) g (by omega) (by omega) h2
          have h4 : (k % 2 = 0) ↔ (j % 2 = 0) := by
            have := congrArg (· = true) h1
            simpa using this
          omega

namespace Tr
variable {α : Type}
def getP : Tr α → List Bool → Option α
  | leaf, _ => none
  | node v _ _, [] => v
  | node _ l r, b :: p => if b then getP l p else getP r p
def setP (x : Option α) : List Bool → Tr α → Tr α
  | [], leaf => node x leaf leaf
  | [], node _ l r => node x l r
  | b :: p, leaf => if b then node none (setP x p leaf) leaf else node none leaf (setP x p leaf)
  | b :: p, node v l r => if b then node v (setP x p l) r else node v l (setP x p r)
theorem getP_leaf (p : List Bool) : getP (leaf : Tr α) p = none := by cases p <;> rfl
theorem getP_setP (x : Option α) : ∀ (p q : List Bool) (t : Tr α), getP (setP x p t) q = if p = q then x else getP t q := by
  intro p
  induction p with
  | nil =>
    intro q t
    cases t <;> cases q <;> simp [setP, getP, getP_leaf]
  | cons b p ih =>
    intro q t
    cases t with
    | leaf =>
      cases b <;> cases q with
      | nil => simp [setP, getP]
      | cons c q => cases c <;> simp [setP, getP, ih, getP_leaf]
    | node v l r =>
      cases b <;> cases q with
      | nil => simp [setP, getP]
      | cons c q => cases c <;> simp [setP, getP, ih]
def get (t : Tr α) (k : Nat) : Option α := getP t (path k k)
def set (t : Tr α) (k : Nat) (x : Option α) : Tr α := setP x (path k k) t
theorem get_set (t : Tr α) (k j : Nat) (x : Option α) : (t.set k x).get j = if k = j then x else t.get j := by
  simp only [get, set, getP_setP]
  by_cases h : k = j
  · subst h; simp
  · have : path k k ≠ path j j := fun e => h (path_inj _ _ _ _ (Nat.le_refl _) (Nat.le_refl _) e)
    simp [h, this]
theorem get_leaf (k : Nat) : (leaf : Tr α).get k = none := getP_leaf _
end Tr

/- RENAMING: a block's number, and how many elements more than we know of lie behind it. -/
structure Loc where
  r : Nat
  ex : Nat
  sh : Nat

abbrev Ren := Nat → Loc

def rena (ρ : Ren) (a : Addr) : Addr := ⟨(ρ a.block).r, a.off + (ρ a.block).sh, a.spot⟩
/-- A slice's address: 'some d' for its spot: what is left of a slice cut at its end: its address moves on by d where more lies behind it. -/
def rens (ρ : Ren) (a : Addr) : Addr :=
  match a.spot with
  | none => ⟨(ρ a.block).r, a.off + (ρ a.block).sh, none⟩
  | some d => ⟨(ρ a.block).r, (if (ρ a.block).ex = 0 then a.off else a.off + d) + (ρ a.block).sh, none⟩

mutual
def ren (ρ : Ren) : Value → Value
  | .pointer (some a) => .pointer (some (rena ρ a))
  | .slice (some a) l c => .slice (some (rens ρ a)) l (c + (ρ a.block).ex)
  | .map (some r) => .map (some (ρ r).r)
  | .chan (some r) => .chan (some (ρ r).r)
  | .func f x y => .func f (renA ρ x) (renA ρ y)
  | .iface t v => .iface t (ren ρ v)
  | .agg x => .agg (renA ρ x)
  | .tuple x => .tuple (renA ρ x)
  | .bool b => .bool b
  | .int k n => .int k n
  | .float k b => .float k b
  | .complex k a b => .complex k a b
  | .string s => .string s
  | .pointer none => .pointer none
  | .slice none l c => .slice none l c
  | .map none => .map none
  | .chan none => .chan none
  | .nilFunc => .nilFunc
  | .nilIface => .nilIface
def renA (ρ : Ren) : Array Value → Array Value
  | ⟨l⟩ => ⟨renL ρ l⟩
def renL (ρ : Ren) : List Value → List Value
  | [] => []
  | v :: l => ren ρ v :: renL ρ l
end

mutual
def sc (n : Nat) : Value → Bool
  | .pointer (some a) => decide (a.block < n)
  | .slice (some a) _ _ => decide (a.block < n)
  | .map (some r) => decide (r < n)
  | .chan (some r) => decide (r < n)
  | .func _ x y => scA n x && scA n y
  | .iface _ v => sc n v
  | .agg x => scA n x
  | .tuple x => scA n x
  | _ => true
def scA (n : Nat) : Array Value → Bool
  | ⟨l⟩ => scL n l
def scL (n : Nat) : List Value → Bool
  | [] => true
  | v :: l => sc n v && scL n l
end

theorem renL_eq (ρ : Ren) (l : List Value) : renL ρ l = l.map (ren ρ) := by
  induction l with
  | nil => simp [renL]
  | cons v l ih => simp [renL, ih]
theorem renA_eq (ρ : Ren) (a : Array Value) : renA ρ a = a.map (ren ρ) := by
  cases a; simp [renA, renL_eq]
theorem scL_eq (n : Nat) (l : List Value) : scL n l = l.all (sc n) := by
  induction l with
  | nil => simp [scL]
  | cons v l ih => simp [scL, ih]
theorem scL_iff (n : Nat) (l : List Value) : scL n l = true ↔ ∀ v, v ∈ l → sc n v = true := by simp [scL_eq]
theorem scA_iff (n : Nat) (a : Array Value) : scA n a = true ↔ ∀ v, v ∈ a → sc n v = true := by
  cases a with | mk l => simp [scA, scL_iff]

mutual
theorem ren_congr (ρ ρ' : Ren) (n : Nat) (h : ∀ b, b < n → ρ' b = ρ b) : ∀ v, sc n v = true → ren ρ' v = ren ρ v
  | .pointer (some a), hs => by
    have := h a.block (by simpa [sc] using hs)
    simp [ren, rena, this]
  | .slice (some a) l c, hs => by
    have := h a.block (by simpa [sc] using hs)
    simp [ren, rens, this]
  | .map (some r), hs => by
    have := h r (by simpa [sc] using hs)
    simp [ren, this]
  | .chan (some r), hs => by
    have := h r (by simpa [sc] using hs)
    simp [ren, this]
  | .func f x y, hs => by
    simp only [sc, Bool.and_eq_true] at hs
    simp only [ren, renA_congr ρ ρ' n h x hs.1, renA_congr ρ ρ' n h y hs.2]
  | .iface t v, hs => by
    simp only [sc] at hs
    simp only [ren, ren_congr ρ ρ' n h v hs]
  | .agg x, hs => by
    simp only [sc] at hs
    simp only [ren, renA_congr ρ ρ' n h x hs]
  | .tuple x, hs => by
    simp only [sc] at hs
    simp only [ren, renA_congr ρ ρ' n h x hs]
  | .bool b, _ => rfl
  | .int k n, _ => rfl
  | .float k b, _ => rfl
  | .complex k a b, _ => rfl
  | .string s, _ => rfl
  | .pointer none, _ => rfl
  | .slice none l c, _ => rfl
  | .map none, _ => rfl
  | .chan none, _ => rfl
  | .nilFunc, _ => rfl
  | .nilIface, _ => rfl
theorem renA_congr (ρ ρ' : Ren) (n : Nat) (h : ∀ b, b < n → ρ' b = ρ b) : ∀ a, scA n a = true → renA ρ' a = renA ρ a
  | ⟨l⟩, hs => by
    simp only [scA] at hs
    simp only [renA, renL_congr ρ ρ' n h l hs]
theorem renL_congr (ρ ρ' : Ren) (n : Nat) (h : ∀ b, b < n → ρ' b = ρ b) : ∀ l, scL n l = true → renL ρ' l = renL ρ l
  | [], _ => rfl
  | v :: l, hs => by
    simp only [scL, Bool.and_eq_true] at hs
    simp only [renL, ren_congr ρ ρ' n h v hs.1, renL_congr ρ ρ' n h l hs.2]
end

mutual
theorem sc_mono (n m : Nat) (h : n ≤ m) : ∀ v, sc n v = true → sc m v = true
  | .pointer (some a), hs => by simp only [sc, decide_eq_true_eq] at *; omega
  | .slice (some a) l c, hs => by simp only [sc, decide_eq_true_eq] at *; omega
  | .map (some r), hs => by simp only [sc, decide_eq_true_eq] at *; omega
  | .chan (some r), hs => by simp only [sc, decide_eq_true_eq] at *; omega
  | .func f x y, hs => by
    simp only [sc, Bool.and_eq_true] at *
    exact ⟨scA_mono n m h x hs.1, scA_mono n m h y hs.2⟩
  | .iface t v, hs => by simp only [sc] at *; exact sc_mono n m h v hs
  | .agg x, hs => by simp only [sc] at *; exact scA_mono n m h x hs
  | .tuple x, hs => by simp only [sc] at *; exact scA_mono n m h x hs
  | .bool b, _ => rfl
  | .int k n, _ => rfl
  | .float k b, _ => rfl
  | .complex k a b, _ => rfl
  | .string s, _ => rfl
  | .pointer none, _ => rfl
  | .slice none l c, _ => rfl
  | .map none, _ => rfl
  | .chan none, _ => rfl
  | .nilFunc, _ => rfl
  | .nilIface, _ => rfl
theorem scA_mono (n m : Nat) (h : n ≤ m) : ∀ a, scA n a = true → scA m a = true
  | ⟨l⟩, hs => by simp only [scA] at *; exact scL_mono n m h l hs
theorem scL_mono (n m : Nat) (h : n ≤ m) : ∀ l, scL n l = true → scL m l = true
  | [], _ => rfl
  | v :: l, hs => by
    simp only [scL, Bool.and_eq_true] at *
    exact ⟨sc_mono n m h v hs.1, scL_mono n m h l hs.2⟩
end

mutual
/-- Names blocks below n alone, and no slice cut at its end. -/
def cl (n : Nat) : Value → Bool
  | .pointer (some a) => decide (a.block < n)
  | .slice (some a) _ _ => decide (a.block < n) && a.spot.isNone
  | .map (some r) => decide (r < n)
  | .chan (some r) => decide (r < n)
  | .func _ x y => clA n x && clA n y
  | .iface _ v => cl n v
  | .agg x => clA n x
  | .tuple x => clA n x
  | _ => true
def clA (n : Nat) : Array Value → Bool
  | ⟨l⟩ => clL n l
def clL (n : Nat) : List Value → Bool
  | [] => true
  | v :: l => cl n v && clL n l
end

mutual
theorem sc_of_cl (n : Nat) : ∀ v, cl n v = true → sc n v = true
  | .pointer (some a), hs => by simpa [sc, cl] using hs
  | .slice (some a) l c, hs => by simp only [cl, Bool.and_eq_true] at hs; simpa [sc] using hs.1
  | .map (some r), hs => by simpa [sc, cl] using hs
  | .chan (some r), hs => by simpa [sc, cl] using hs
  | .func f x y, hs => by
    simp only [cl, sc, Bool.and_eq_true] at *
    exact ⟨scA_of_clA n x hs.1, scA_of_clA n y hs.2⟩
  | .iface t v, hs => by simp only [cl, sc] at *; exact sc_of_cl n v hs
  | .agg x, hs => by simp only [cl, sc] at *; exact scA_of_clA n x hs
  | .tuple x, hs => by simp only [cl, sc] at *; exact scA_of_clA n x hs
  | .bool b, _ => rfl
  | .int k n, _ => rfl
  | .float k b, _ => rfl
  | .complex k a b, _ => rfl
  | .string s, _ => rfl
  | .pointer none, _ => rfl
  | .slice none l c, _ => rfl
  | .map none, _ => rfl
  | .chan none, _ => rfl
  | .nilFunc, _ => rfl
  | .nilIface, _ => rfl
theorem scA_of_clA (n : Nat) : ∀ a, clA n a = true → scA n a = true
  | ⟨l⟩, hs => by simp only [clA, scA] at *; exact scL_of_clL n l hs
theorem scL_of_clL (n : Nat) : ∀ l, clL n l = true → scL n l = true
  | [], _ => rfl
  | v :: l, hs => by
    simp only [clL, scL, Bool.and_eq_true] at *
    exact ⟨sc_of_cl n v hs.1, scL_of_clL n l hs.2⟩
end
theorem clL_iff (n : Nat) (l : List Value) : clL n l = true ↔ ∀ v, v ∈ l → cl n v = true := by
  induction l with
  | nil => simp [clL]
  | cons v l ih => simp [clL, ih]

mutual
/-- Below n nothing is renamed: a value that names blocks below n alone stays. -/
theorem ren_id (ρ : Ren) (n : Nat) (h : ∀ b, b < n → ρ b = ⟨b, 0, 0⟩) : ∀ v, cl n v = true → ren ρ v = v
  | .pointer (some ⟨b, o, s⟩), hs => by
    have := h b (by simpa [cl] using hs)
    simp [ren, rena, this]
  | .slice (some ⟨b, o, none⟩) l c, hs => by
    have := h b (by simpa [cl] using hs)
    simp [ren, rens, this]
  | .slice (some ⟨b, o, some d⟩) l c, hs => by simp [cl] at hs
  | .map (some r), hs => by
    have := h r (by simpa [cl] using hs)
    simp [ren, this]
  | .chan (some r), hs => by
    have := h r (by simpa [cl] using hs)
    simp [ren, this]
  | .func f x y, hs => by
    simp only [cl, Bool.and_eq_true] at hs
    simp only [ren, renA_id ρ n h x hs.1, renA_id ρ n h y hs.2]
  | .iface t v, hs => by
    simp only [cl] at hs
    simp only [ren, ren_id ρ n h v hs]
  | .agg x, hs => by
    simp only [cl] at hs
    simp only [ren, renA_id ρ n h x hs]
  | .tuple x, hs => by
    simp only [cl] at hs
    simp only [ren, renA_id ρ n h x hs]
  | .bool b, _ => rfl
  | .int k n, _ => rfl
  | .float k b, _ => rfl
  | .complex k a b, _ => rfl
  | .string s, _ => rfl
  | .pointer none, _ => rfl
  | .slice none l c, _ => rfl
  | .map none, _ => rfl
  | .chan none, _ => rfl
  | .nilFunc, _ => rfl
  | .nilIface, _ => rfl
theorem renA_id (ρ : Ren) (n : Nat) (h : ∀ b, b < n → ρ b = ⟨b, 0, 0⟩) : ∀ a, clA n a = true → renA ρ a = a
  | ⟨l⟩, hs => by
    simp only [clA] at hs
    simp only [renA, renL_id ρ n h l hs]
theorem renL_id (ρ : Ren) (n : Nat) (h : ∀ b, b < n → ρ b = ⟨b, 0, 0⟩) : ∀ l, clL n l = true → renL ρ l = l
  | [], _ => rfl
  | v :: l, hs => by
    simp only [clL, Bool.and_eq_true] at hs
    simp only [renL, ren_id ρ n h v hs.1, renL_id ρ n h l hs.2]
end
end Go.Tm
