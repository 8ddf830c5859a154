/- The engine, third part: operations that neither read nor write memory. -/
/- Merged by a program of ours: Eng1 Eng2 Eng3. -/
import Derived.Calls
import Derived.LoopN
import Derived.Scope
import Derived.Laws.Entries
import Derived.Laws.Append
import Derived.Laws.Strings
set_option maxRecDepth 10000
set_option linter.all false
set_option linter.unusedSimpArgs false
set_option linter.unusedVariables false
/- The engine, first part: a map keyed by numbers, names of blocks renamed, which blocks a value names. -/
namespace Go.Tm

/- A map from numbers. -/
inductive Tr (α : Type) where
  | leaf
  | node (v : Option α) (l r : Tr α)

def path : Nat → Nat → List Bool
  | 0, _ => []
  | f + 1, k => match k with
    | 0 => []
    | k + 1 => (k % 2 == 0) :: path f (k / 2)

theorem path_inj : ∀ (f k j g : Nat), k ≤ f → j ≤ g → path f k = path g j → k = j := by
  intro f
  induction f with
  | zero =>
    intro k j g hk hj h
    cases g with
    | zero => omega
    | succ g => cases j with
      | zero => omega
      | succ j => simp [path] at h
  | succ f ih =>
    intro k j g hk hj h
    cases k with
    | zero =>
      cases g with
      | zero => omega
      | succ g => cases j with
        | zero => rfl
        | succ j => simp [path] at h
    | succ k =>
      cases g with
      | zero => simp [path] at h
      | succ g => cases j with
        | zero => simp [path] at h
        | succ j =>
          simp only [path, List.cons.injEq] at h
          obtain ⟨h1, h2⟩ := h
          have h3 := ih (k / 2) (j / 2) g (by omega) (by omega) h2
          have h4 : (k % 2 = 0) ↔ (j % 2 = 0) := by
            have := congrArg (· = true) h1
            simpa using this
          omega

namespace Tr
variable {α : Type}
def getP : Tr α → List Bool → Option α
  | leaf, _ => none
  | node v _ _, [] => v
  | node _ l r, b :: p => if b then getP l p else getP r p
def setP (x : Option α) : List Bool → Tr α → Tr α
  | [], leaf => node x leaf leaf
  | [], node _ l r => node x l r
  | b :: p, leaf => if b then node none (setP x p leaf) leaf else node none leaf (setP x p leaf)
  | b :: p, node v l r => if b then node v (setP x p l) r else node v l (setP x p r)
theorem getP_leaf (p : List Bool) : getP (leaf : Tr α) p = none := by cases p <;> rfl
theorem getP_setP (x : Option α) : ∀ (p q : List Bool) (t : Tr α), getP (setP x p t) q = if p = q then x else getP t q := by
  intro p
  induction p with
  | nil =>
    intro q t
    cases t <;> cases q <;> simp [setP, getP, getP_leaf]
  | cons b p ih =>
    intro q t
    cases t with
    | leaf =>
      cases b <;> cases q with
      | nil => simp [setP, getP]
      | cons c q => cases c <;> simp [setP, getP, ih, getP_leaf]
    | node v l r =>
      cases b <;> cases q with
      | nil => simp [setP, getP]
      | cons c q => cases c <;> simp [setP, getP, ih]
def get (t : Tr α) (k : Nat) : Option α := getP t (path k k)
def set (t : Tr α) (k : Nat) (x : Option α) : Tr α := setP x (path k k) t
theorem get_set (t : Tr α) (k j : Nat) (x : Option α) : (t.set k x).get j = if k = j then x else t.get j := by
  simp only [get, set, getP_setP]
  by_cases h : k = j
  · subst h; simp
  · have : path k k ≠ path j j := fun e => h (path_inj _ _ _ _ (Nat.le_refl _) (Nat.le_refl _) e)
    simp [h, this]
theorem get_leaf (k : Nat) : (leaf : Tr α).get k = none := getP_leaf _
end Tr

/- RENAMING: a block's number, and how many elements more than we know of lie behind it. -/
structure Loc where
  r : Nat
  ex : Nat
  sh : Nat

abbrev Ren := Nat → Loc

def rena (ρ : Ren) (a : Addr) : Addr := ⟨(ρ a.block).r, a.off + (ρ a.block).sh, a.spot⟩
/-- A slice's address: 'some (2 * d)' for its spot: what is left of a slice cut at its end: its address moves on by d where more lies behind it; 'some (2 * d + 1)': the spot d itself. -/
def rens (ρ : Ren) (a : Addr) : Addr :=
  match a.spot with
  | none => ⟨(ρ a.block).r, a.off + (ρ a.block).sh, none⟩
  | some d => if d % 2 = 1 then ⟨(ρ a.block).r, a.off + (ρ a.block).sh, some (d / 2)⟩ else ⟨(ρ a.block).r, (if (ρ a.block).ex = 0 then a.off else a.off + d / 2) + (ρ a.block).sh, none⟩

/-- A slice's capacity: an exact one is marked by the spot 'some 0' at a slice that is not empty. -/
def capx (ρ : Ren) (a : Addr) (l c : Nat) : Nat := if a.spot = some 0 ∧ l ≠ 0 then c else c + (ρ a.block).ex
theorem capx_none (ρ : Ren) (a : Addr) (l c : Nat) (h : a.spot = none) : capx ρ a l c = c + (ρ a.block).ex := by simp [capx, h]
theorem capx_zero (ρ : Ren) (a : Addr) (l c : Nat) (h : (ρ a.block).ex = 0) : capx ρ a l c = c := by simp [capx, h]
theorem le_capx (ρ : Ren) (a : Addr) (l c : Nat) : c ≤ capx ρ a l c := by unfold capx; split <;> omega

mutual
def ren (ρ : Ren) : Value → Value
  | .pointer (some a) => .pointer (some (rena ρ a))
  | .slice (some a) l c => .slice (some (rens ρ a)) l (capx ρ a l c)
  | .map (some r) => .map (some (ρ r).r)
  | .chan (some r) => .chan (some (ρ r).r)
  | .func f x y => .func f (renA ρ x) (renA ρ y)
  | .iface t v => .iface t (ren ρ v)
  | .agg x => .agg (renA ρ x)
  | .tuple x => .tuple (renA ρ x)
  | .bool b => .bool b
  | .int k n => .int k n
  | .float k b => .float k b
  | .complex k a b => .complex k a b
  | .string s => .string s
  | .pointer none => .pointer none
  | .slice none l c => .slice none l c
  | .map none => .map none
  | .chan none => .chan none
  | .nilFunc => .nilFunc
  | .nilIface => .nilIface
def renA (ρ : Ren) : Array Value → Array Value
  | ⟨l⟩ => ⟨renL ρ l⟩
def renL (ρ : Ren) : List Value → List Value
  | [] => []
  | v :: l => ren ρ v :: renL ρ l
end

mutual
def sc (n : Nat) : Value → Bool
  | .pointer (some a) => decide (a.block < n)
  | .slice (some a) _ _ => decide (a.block < n)
  | .map (some r) => decide (r < n)
  | .chan (some r) => decide (r < n)
  | .func _ x y => scA n x && scA n y
  | .iface _ v => sc n v
  | .agg x => scA n x
  | .tuple x => scA n x
  | _ => true
def scA (n : Nat) : Array Value → Bool
  | ⟨l⟩ => scL n l
def scL (n : Nat) : List Value → Bool
  | [] => true
  | v :: l => sc n v && scL n l
end

theorem renL_eq (ρ : Ren) (l : List Value) : renL ρ l = l.map (ren ρ) := by
  induction l with
  | nil => simp [renL]
  | cons v l ih => simp [renL, ih]
theorem renA_eq (ρ : Ren) (a : Array Value) : renA ρ a = a.map (ren ρ) := by
  cases a; simp [renA, renL_eq]
theorem scL_eq (n : Nat) (l : List Value) : scL n l = l.all (sc n) := by
  induction l with
  | nil => simp [scL]
  | cons v l ih => simp [scL, ih]
theorem scL_iff (n : Nat) (l : List Value) : scL n l = true ↔ ∀ v, v ∈ l → sc n v = true := by simp [scL_eq]
theorem scA_iff (n : Nat) (a : Array Value) : scA n a = true ↔ ∀ v, v ∈ a → sc n v = true := by
  cases a with | mk l => simp [scA, scL_iff]

mutual
theorem ren_congr (ρ ρ' : Ren) (n : Nat) (h : ∀ b, b < n → ρ' b = ρ b) : ∀ v, sc n v = true → ren ρ' v = ren ρ v
  | .pointer (some a), hs => by
    have := h a.block (by simpa [sc] using hs)
    simp [ren, rena, this]
  | .slice (some a) l c, hs => by
    have := h a.block (by simpa [sc] using hs)
    simp [ren, rens, capx, this]
  | .map (some r), hs => by
    have := h r (by simpa [sc] using hs)
    simp [ren, this]
  | .chan (some r), hs => by
    have := h r (by simpa [sc] using hs)
    simp [ren, this]
  | .func f x y, hs => by
    simp only [sc, Bool.and_eq_true] at hs
    simp only [ren, renA_congr ρ ρ' n h x hs.1, renA_congr ρ ρ' n h y hs.2]
  | .iface t v, hs => by
    simp only [sc] at hs
    simp only [ren, ren_congr ρ ρ' n h v hs]
  | .agg x, hs => by
    simp only [sc] at hs
    simp only [ren, renA_congr ρ ρ' n h x hs]
  | .tuple x, hs => by
    simp only [sc] at hs
    simp only [ren, renA_congr ρ ρ' n h x hs]
  | .bool b, _ => rfl
  | .int k n, _ => rfl
  | .float k b, _ => rfl
  | .complex k a b, _ => rfl
  | .string s, _ => rfl
  | .pointer none, _ => rfl
  | .slice none l c, _ => rfl
  | .map none, _ => rfl
  | .chan none, _ => rfl
  | .nilFunc, _ => rfl
  | .nilIface, _ => rfl
theorem renA_congr (ρ ρ' : Ren) (n : Nat) (h : ∀ b, b < n → ρ' b = ρ b) : ∀ a, scA n a = true → renA ρ' a = renA ρ a
  | ⟨l⟩, hs => by
    simp only [scA] at hs
    simp only [renA, renL_congr ρ ρ' n h l hs]
theorem renL_congr (ρ ρ' : Ren) (n : Nat) (h : ∀ b, b < n → ρ' b = ρ b) : ∀ l, scL n l = true → renL ρ' l = renL ρ l
  | [], _ => rfl
  | v :: l, hs => by
    simp only [scL, Bool.and_eq_true] at hs
    simp only [renL, ren_congr ρ ρ' n h v hs.1, renL_congr ρ ρ' n h l hs.2]
end

mutual
theorem sc_mono (n m : Nat) (h : n ≤ m) : ∀ v, sc n v = true → sc m v = true
  | .pointer (some a), hs => by simp only [sc, decide_eq_true_eq] at *; omega
  | .slice (some a) l c, hs => by simp only [sc, decide_eq_true_eq] at *; omega
  | .map (some r), hs => by simp only [sc, decide_eq_true_eq] at *; omega
  | .chan (some r), hs => by simp only [sc, decide_eq_true_eq] at *; omega
  | .func f x y, hs => by
    simp only [sc, Bool.and_eq_true] at *
    exact ⟨scA_mono n m h x hs.1, scA_mono n m h y hs.2⟩
  | .iface t v, hs => by simp only [sc] at *; exact sc_mono n m h v hs
  | .agg x, hs => by simp only [sc] at *; exact scA_mono n m h x hs
  | .tuple x, hs => by simp only [sc] at *; exact scA_mono n m h x hs
  | .bool b, _ => rfl
  | .int k n, _ => rfl
  | .float k b, _ => rfl
  | .complex k a b, _ => rfl
  | .string s, _ => rfl
  | .pointer none, _ => rfl
  | .slice none l c, _ => rfl
  | .map none, _ => rfl
  | .chan none, _ => rfl
  | .nilFunc, _ => rfl
  | .nilIface, _ => rfl
theorem scA_mono (n m : Nat) (h : n ≤ m) : ∀ a, scA n a = true → scA m a = true
  | ⟨l⟩, hs => by simp only [scA] at *; exact scL_mono n m h l hs
theorem scL_mono (n m : Nat) (h : n ≤ m) : ∀ l, scL n l = true → scL m l = true
  | [], _ => rfl
  | v :: l, hs => by
    simp only [scL, Bool.and_eq_true] at *
    exact ⟨sc_mono n m h v hs.1, scL_mono n m h l hs.2⟩
end

mutual
/-- Names blocks below n alone, and no slice cut at its end. -/
def cl (n : Nat) : Value → Bool
  | .pointer (some a) => decide (a.block < n)
  | .slice (some a) _ _ => decide (a.block < n) && a.spot.isNone
  | .map (some r) => decide (r < n)
  | .chan (some r) => decide (r < n)
  | .func _ x y => clA n x && clA n y
  | .iface _ v => cl n v
  | .agg x => clA n x
  | .tuple x => clA n x
  | _ => true
def clA (n : Nat) : Array Value → Bool
  | ⟨l⟩ => clL n l
def clL (n : Nat) : List Value → Bool
  | [] => true
  | v :: l => cl n v && clL n l
end

mutual
theorem sc_of_cl (n : Nat) : ∀ v, cl n v = true → sc n v = true
  | .pointer (some a), hs => by simpa [sc, cl] using hs
  | .slice (some a) l c, hs => by simp only [cl, Bool.and_eq_true] at hs; simpa [sc] using hs.1
  | .map (some r), hs => by simpa [sc, cl] using hs
  | .chan (some r), hs => by simpa [sc, cl] using hs
  | .func f x y, hs => by
    simp only [cl, sc, Bool.and_eq_true] at *
    exact ⟨scA_of_clA n x hs.1, scA_of_clA n y hs.2⟩
  | .iface t v, hs => by simp only [cl, sc] at *; exact sc_of_cl n v hs
  | .agg x, hs => by simp only [cl, sc] at *; exact scA_of_clA n x hs
  | .tuple x, hs => by simp only [cl, sc] at *; exact scA_of_clA n x hs
  | .bool b, _ => rfl
  | .int k n, _ => rfl
  | .float k b, _ => rfl
  | .complex k a b, _ => rfl
  | .string s, _ => rfl
  | .pointer none, _ => rfl
  | .slice none l c, _ => rfl
  | .map none, _ => rfl
  | .chan none, _ => rfl
  | .nilFunc, _ => rfl
  | .nilIface, _ => rfl
theorem scA_of_clA (n : Nat) : ∀ a, clA n a = true → scA n a = true
  | ⟨l⟩, hs => by simp only [clA, scA] at *; exact scL_of_clL n l hs
theorem scL_of_clL (n : Nat) : ∀ l, clL n l = true → scL n l = true
  | [], _ => rfl
  | v :: l, hs => by
    simp only [clL, scL, Bool.and_eq_true] at *
    exact ⟨sc_of_cl n v hs.1, scL_of_clL n l hs.2⟩
end
theorem clL_iff (n : Nat) (l : List Value) : clL n l = true ↔ ∀ v, v ∈ l → cl n v = true := by
  induction l with
  | nil => simp [clL]
  | cons v l ih => simp [clL, ih]

mutual
/-- Below n nothing is renamed: a value that names blocks below n alone stays. -/
theorem ren_id (ρ : Ren) (n : Nat) (h : ∀ b, b < n → ρ b = ⟨b, 0, 0⟩) : ∀ v, cl n v = true → ren ρ v = v
  | .pointer (some ⟨b, o, s⟩), hs => by
    have := h b (by simpa [cl] using hs)
    simp [ren, rena, this]
  | .slice (some ⟨b, o, none⟩) l c, hs => by
    have := h b (by simpa [cl] using hs)
    simp [ren, rens, capx, this]
  | .slice (some ⟨b, o, some d⟩) l c, hs => by simp [cl] at hs
  | .map (some r), hs => by
    have := h r (by simpa [cl] using hs)
    simp [ren, this]
  | .chan (some r), hs => by
    have := h r (by simpa [cl] using hs)
    simp [ren, this]
  | .func f x y, hs => by
    simp only [cl, Bool.and_eq_true] at hs
    simp only [ren, renA_id ρ n h x hs.1, renA_id ρ n h y hs.2]
  | .iface t v, hs => by
    simp only [cl] at hs
    simp only [ren, ren_id ρ n h v hs]
  | .agg x, hs => by
    simp only [cl] at hs
    simp only [ren, renA_id ρ n h x hs]
  | .tuple x, hs => by
    simp only [cl] at hs
    simp only [ren, renA_id ρ n h x hs]
  | .bool b, _ => rfl
  | .int k n, _ => rfl
  | .float k b, _ => rfl
  | .complex k a b, _ => rfl
  | .string s, _ => rfl
  | .pointer none, _ => rfl
  | .slice none l c, _ => rfl
  | .map none, _ => rfl
  | .chan none, _ => rfl
  | .nilFunc, _ => rfl
  | .nilIface, _ => rfl
theorem renA_id (ρ : Ren) (n : Nat) (h : ∀ b, b < n → ρ b = ⟨b, 0, 0⟩) : ∀ a, clA n a = true → renA ρ a = a
  | ⟨l⟩, hs => by
    simp only [clA] at hs
    simp only [renA, renL_id ρ n h l hs]
theorem renL_id (ρ : Ren) (n : Nat) (h : ∀ b, b < n → ρ b = ⟨b, 0, 0⟩) : ∀ l, clL n l = true → renL ρ l = l
  | [], _ => rfl
  | v :: l, hs => by
    simp only [clL, Bool.and_eq_true] at hs
    simp only [renL, ren_id ρ n h v hs.1, renL_id ρ n h l hs.2]
end
/-- What lies in memory that is only read, as we write it. -/
def enc1 : Value → Value
  | .slice (some a) l c => .slice (some ⟨a.block, a.off, a.spot.map fun d => 2 * d + 1⟩) l c
  | v => v
def cl1 (n : Nat) : Value → Bool
  | .slice (some a) _ _ => decide (a.block < n)
  | v => cl n v
theorem ren_enc1 (ρ : Ren) (n : Nat) (h : ∀ b, b < n → ρ b = ⟨b, 0, 0⟩) (v : Value) (hs : cl1 n v = true) : ren ρ (enc1 v) = v := by
  unfold enc1
  split
  · rename_i a l c
    obtain ⟨b, o, sp⟩ := a
    have := h b (by simpa [cl1] using hs)
    cases sp with
    | none => simp [ren, rens, capx, this]
    | some d =>
      have e1 : (2 * d + 1) % 2 = 1 := by omega
      have e2 : (2 * d + 1) / 2 = d := by omega
      simp [ren, rens, capx, this, e1, e2]
  · rename_i h1
    refine ren_id ρ n h v ?_
    unfold cl1 at hs
    split at hs
    · rename_i a l c; exact absurd rfl (h1 a l c)
    · exact hs
theorem sc_enc1 (n : Nat) (v : Value) (hs : cl1 n v = true) : sc n (enc1 v) = true := by
  unfold enc1
  split
  · simpa [cl1, sc] using hs
  · rename_i h1
    refine sc_of_cl n v ?_
    unfold cl1 at hs
    split at hs
    · rename_i a l c; exact absurd rfl (h1 a l c)
    · exact hs
end Go.Tm
/- The engine, second part: the abstract heap, what it says of a world, and how both go on together. -/
namespace Go.Tm

inductive AObj where
  | cells (c : List Value) (e : TypeId) (fx : Bool)
  | map (es : List MapEntry) (clock : Nat)
  | iter (s : ByteArray) (pos : Nat)

structure Heap where
  next : Nat
  tr : Tr AObj

structure Env where
  P : Program
  base : Nat
  ro : Nat → Option Obj
  known : FuncId → List Value → Option Value := fun _ _ => none
  /-- What an iterator yields: the function, the boxes it has caught, the memory, the round: 'some (some v)' is a value that comes, 'some none' the end. -/
  iter : FuncId → List Value → Heap → Nat → Option (Option Value) := fun _ _ _ _ => none

def Heap.get (h : Heap) (b : Nat) : Option AObj := h.tr.get b
def Heap.put (h : Heap) (b : Nat) (o : AObj) : Heap := { h with tr := h.tr.set b (some o) }
def Heap.kill (h : Heap) (b : Nat) : Heap := { h with tr := h.tr.set b none }
def Heap.push (h : Heap) (o : AObj) : Heap := { next := h.next + 1, tr := h.tr.set h.next (some o) }

theorem get_put (h : Heap) (b j : Nat) (o : AObj) : (h.put b o).get j = if b = j then some o else h.get j := Tr.get_set _ _ _ _
theorem get_kill (h : Heap) (b j : Nat) : (h.kill b).get j = if b = j then none else h.get j := Tr.get_set _ _ _ _
theorem get_push (h : Heap) (j : Nat) (o : AObj) : (h.push o).get j = if h.next = j then some o else h.get j := Tr.get_set _ _ _ _
@[simp] theorem next_put (h : Heap) (b : Nat) (o : AObj) : (h.put b o).next = h.next := rfl
@[simp] theorem next_kill (h : Heap) (b : Nat) : (h.kill b).next = h.next := rfl
@[simp] theorem next_push (h : Heap) (o : AObj) : (h.push o).next = h.next + 1 := rfl

def renE (ρ : Ren) (e : MapEntry) : MapEntry := { e with key := ren ρ e.key, val := ren ρ e.val }

def scO (n : Nat) : AObj → Prop
  | .cells c _ _ => ∀ v, v ∈ c → sc n v = true
  | .map es _ => ∀ e, e ∈ es → sc n e.key = true ∧ sc n e.val = true
  | .iter _ _ => True

def objR (P : Program) (ρ : Ren) (x : Loc) : AObj → Obj → Prop
  | .cells c e fx, .cells c' e' fr => e' = e ∧ (fx = true → x.ex = 0) ∧ ∃ pre hid : List Value, c' = (pre ++ c.map (ren ρ) ++ hid).toArray ∧ pre.length = x.sh ∧ hid.length = x.ex * P.cellsOf e ∧ ∀ i, i < c'.size → ¬ (fr.1 ≤ i ∧ i < fr.2)
  | .map es k, .map es' k' => es' = (es.map (renE ρ)).toArray ∧ k' = k
  | .iter s p, .stringIter s' p' => s' = s ∧ p' = p ∧ x.sh = 0
  | _, _ => False

theorem objR_congr {P : Program} {ρ ρ' : Ren} {n : Nat} {x : Loc} {o : AObj} {c : Obj} (h : ∀ b, b < n → ρ' b = ρ b) (hs : scO n o) (hr : objR P ρ x o c) : objR P ρ' x o c := by
  cases o with
  | cells l e fx =>
    cases c <;> simp only [objR] at hr ⊢
    have : l.map (ren ρ') = l.map (ren ρ) := List.map_congr_left fun v hv => ren_congr ρ ρ' n h v (hs v hv)
    rw [this]; exact hr
  | map es k =>
    cases c <;> simp only [objR] at hr ⊢
    have : es.map (renE ρ') = es.map (renE ρ) := List.map_congr_left fun e he => by
      obtain ⟨h1, h2⟩ := hs e he
      simp only [renE, ren_congr ρ ρ' n h _ h1, ren_congr ρ ρ' n h _ h2]
    rw [this]; exact hr
  | iter s p => cases c <;> exact hr

theorem scO_mono {n m : Nat} {o : AObj} (h : n ≤ m) (hs : scO n o) : scO m o := by
  cases o with
  | cells l e fx => exact fun v hv => sc_mono n m h v (hs v hv)
  | map es k => exact fun e he => ⟨sc_mono n m h _ (hs e he).1, sc_mono n m h _ (hs e he).2⟩
  | iter s p => trivial

/-- WHAT AN ABSTRACT HEAP SAYS OF A WORLD. B: how many blocks the world had at the start. -/
structure HR (E : Env) (B : Nat) (ρ : Ren) (h : Heap) (w : World) : Prop where
  base_le : E.base ≤ h.next
  ro_B : ∀ b o, b < E.base → E.ro b = some o → b < B
  B_le : B ≤ w.heap.size
  fix : ∀ b, b < E.base → ρ b = ⟨b, 0, 0⟩
  ro : ∀ b o, b < E.base → E.ro b = some o → w.heap[b]? = some o
  live : ∀ b o, h.get b = some o → E.base ≤ b ∧ b < h.next ∧ B ≤ (ρ b).r ∧ scO h.next o ∧ ∃ c, w.heap[(ρ b).r]? = some c ∧ objR E.P ρ (ρ b) o c
  inj : ∀ b b' o o', h.get b = some o → h.get b' = some o' → (ρ b).r = (ρ b').r → b = b'

theorem HR.lt {E : Env} {B : Nat} {ρ : Ren} {h : Heap} {w : World} (H : HR E B ρ h w) {b : Nat} {o : AObj} (hb : h.get b = some o) : (ρ b).r < w.heap.size := by
  obtain ⟨_, _, _, _, c, hc, _⟩ := H.live b o hb
  rcases Nat.lt_or_ge (ρ b).r w.heap.size with h' | h'
  · exact h'
  · simp [Array.getElem?_eq_none h'] at hc

/-- ONE WAY ON, OF BOTH. -/
structure Step (E : Env) (B : Nat) (ρ : Ren) (h : Heap) (w : World) (ρ' : Ren) (h' : Heap) (w' : World) : Prop where
  hr : HR E B ρ' h' w'
  ext : ∀ b, b < h.next → ρ' b = ρ b
  le : h.next ≤ h'.next
  frame : ∀ r, r < w.heap.size → (∀ b o, h.get b = some o → (ρ b).r ≠ r) → w'.heap[r]? = w.heap[r]?
  range : ∀ b o, h'.get b = some o → (∃ b0 o0, h.get b0 = some o0 ∧ (ρ b0).r = (ρ' b).r) ∨ w.heap.size ≤ (ρ' b).r
  size : w.heap.size ≤ w'.heap.size
  os : w'.os = w.os
  tape : w'.tape = w.tape
  output : w'.output = w.output

theorem Step.refl {E : Env} {B : Nat} {ρ : Ren} {h : Heap} {w : World} (H : HR E B ρ h w) : Step E B ρ h w ρ h w where
  hr := H
  ext := fun _ _ => rfl
  le := Nat.le_refl _
  frame := fun _ _ _ => rfl
  range := fun b o hb => .inl ⟨b, o, hb, rfl⟩
  size := Nat.le_refl _
  os := rfl
  tape := rfl
  output := rfl

theorem Step.trans {E : Env} {B : Nat} {ρ ρ' ρ'' : Ren} {h h' h'' : Heap} {w w' w'' : World} (s : Step E B ρ h w ρ' h' w') (t : Step E B ρ' h' w' ρ'' h'' w'') : Step E B ρ h w ρ'' h'' w'' where
  hr := t.hr
  ext := fun b hb => (t.ext b (Nat.lt_of_lt_of_le hb s.le)).trans (s.ext b hb)
  le := Nat.le_trans s.le t.le
  frame := fun r hr hn => by
    rw [t.frame r (Nat.lt_of_lt_of_le hr s.size) ?_, s.frame r hr hn]
    intro b o hb e
    rcases s.range b o hb with ⟨b0, o0, h0, e0⟩ | hge
    · exact hn b0 o0 h0 (e0.trans e)
    · omega
  range := fun b o hb => by
    rcases t.range b o hb with ⟨b0, o0, h0, e0⟩ | hge
    · rcases s.range b0 o0 h0 with ⟨b1, o1, h1, e1⟩ | hge
      · exact .inl ⟨b1, o1, h1, e1.trans e0⟩
      · exact .inr (e0 ▸ hge)
    · exact .inr (Nat.le_trans s.size hge)
  size := Nat.le_trans s.size t.size
  os := t.os.trans s.os
  tape := t.tape.trans s.tape
  output := t.output.trans s.output

theorem heap_alloc (w : World) (c : Obj) : (w.alloc c).heap = w.heap.push c := rfl

theorem HR.drew {E : Env} {B : Nat} {ρ : Ren} {h : Heap} {w : World} (H : HR E B ρ h w) : HR E B ρ h w.drew :=
  ⟨H.base_le, H.ro_B, H.B_le, H.fix, H.ro, H.live, H.inj⟩

theorem Step.drew {E : Env} {B : Nat} {ρ : Ren} {h : Heap} {w : World} (H : HR E B ρ h w) : Step E B ρ h w ρ h w.drew where
  hr := H.drew
  ext := fun _ _ => rfl
  le := Nat.le_refl _
  frame := fun _ _ _ => rfl
  range := fun b o hb => .inl ⟨b, o, hb, rfl⟩
  size := Nat.le_refl _
  os := rfl
  tape := rfl
  output := rfl

def upd (ρ : Ren) (n : Nat) (x : Loc) : Ren := fun b => if b = n then x else ρ b
@[simp] theorem upd_same (ρ : Ren) (n : Nat) (x : Loc) : upd ρ n x n = x := by simp [upd]
theorem upd_ne (ρ : Ren) (n : Nat) (x : Loc) {b : Nat} (h : b ≠ n) : upd ρ n x b = ρ b := by simp [upd, h]
theorem upd_lt (ρ : Ren) (n : Nat) (x : Loc) {b : Nat} (h : b < n) : upd ρ n x b = ρ b := upd_ne _ _ _ (by omega)

theorem ren_upd {ρ : Ren} {n : Nat} {x : Loc} {v : Value} (h : sc n v = true) : ren (upd ρ n x) v = ren ρ v :=
  ren_congr _ _ n (fun _ hb => upd_lt _ _ _ hb) v h

/-- A NEW BLOCK ON BOTH SIDES. -/
theorem Step.alloc {E : Env} {B : Nat} {ρ : Ren} {h : Heap} {w : World} (H : HR E B ρ h w) {o : AObj} {c : Obj} {ex sh : Nat} (hs : scO h.next o) (hc : objR E.P ρ ⟨w.heap.size, ex, sh⟩ o c) :
    Step E B ρ h w (upd ρ h.next ⟨w.heap.size, ex, sh⟩) (h.push o) (w.alloc c) where
  hr := {
    base_le := by have := H.base_le; simp; omega
    ro_B := H.ro_B
    B_le := by have := H.B_le; simp; omega
    fix := fun b hb => by have := H.base_le; rw [upd_lt _ _ _ (by omega)]; exact H.fix b hb
    ro := fun b o' hb ho => by
      have h1 := H.ro b o' hb ho
      have h2 := H.ro_B b o' hb ho; have h3 := H.B_le
      rw [heap_alloc, Array.getElem?_push]
      rw [if_neg (by omega)]; exact h1
    live := fun b o' hb => by
      rw [get_push] at hb
      by_cases e : h.next = b
      · subst e
        simp only [if_true, Option.some.injEq] at hb
        subst hb
        refine ⟨H.base_le, by simp, by simpa using H.B_le, scO_mono (by simp) hs, c, by rw [upd_same, heap_alloc]; simp, ?_⟩
        rw [upd_same]
        exact objR_congr (n := h.next) (fun b hb => upd_lt _ _ _ hb) hs hc
      · rw [if_neg e] at hb
        obtain ⟨h1, h2, h3, h4, c', h5, h6⟩ := H.live b o' hb
        rw [upd_ne _ _ _ (fun x => e x.symm)]
        have := H.lt hb
        refine ⟨h1, by simp; omega, h3, scO_mono (by simp) h4, c', ?_, objR_congr (n := h.next) (fun b hb => upd_lt _ _ _ hb) h4 h6⟩
        rw [heap_alloc, Array.getElem?_push]
        rw [if_neg (by omega)]; exact h5
    inj := fun b b' o1 o2 h1 h2 he => by
      rw [get_push] at h1 h2
      by_cases e1 : h.next = b
      · by_cases e2 : h.next = b'
        · omega
        · rw [if_neg e2] at h2
          rw [← e1, upd_same, upd_ne _ _ _ (fun x => e2 x.symm)] at he
          have := H.lt h2; simp only at he; omega
      · rw [if_neg e1] at h1
        by_cases e2 : h.next = b'
        · rw [← e2, upd_same, upd_ne _ _ _ (fun x => e1 x.symm)] at he
          have := H.lt h1; simp only at he; omega
        · rw [if_neg e2] at h2
          rw [upd_ne _ _ _ (fun x => e1 x.symm), upd_ne _ _ _ (fun x => e2 x.symm)] at he
          exact H.inj b b' o1 o2 h1 h2 he }
  ext := fun b hb => upd_lt _ _ _ hb
  le := by simp
  frame := fun r hr _ => by rw [heap_alloc, Array.getElem?_push]; rw [if_neg (by omega)]
  range := fun b o' hb => by
    rw [get_push] at hb
    by_cases e : h.next = b
    · subst e; right; simp
    · rw [if_neg e] at hb
      rw [upd_ne _ _ _ (fun x => e x.symm)]
      exact .inl ⟨b, o', hb, rfl⟩
  size := by simp
  os := rfl
  tape := rfl
  output := rfl

def setBlk (w : World) (r : Nat) (c : Obj) : World := { w with heap := w.heap.setIfInBounds r c }

theorem heap_setBlk (w : World) (r j : Nat) (c : Obj) (h : r < w.heap.size) : (setBlk w r c).heap[j]? = if r = j then some c else w.heap[j]? := by
  simp only [setBlk, Array.getElem?_setIfInBounds]
  by_cases e : r = j
  · subst e; simp [h]
  · simp [e]

/-- A LIVE BLOCK WRITTEN ON BOTH SIDES. -/
theorem Step.put {E : Env} {B : Nat} {ρ : Ren} {h : Heap} {w : World} (H : HR E B ρ h w) {b : Nat} {o0 o : AObj} {c : Obj} (hb : h.get b = some o0) (hs : scO h.next o) (hc : objR E.P ρ (ρ b) o c) :
    Step E B ρ h w ρ (h.put b o) (setBlk w (ρ b).r c) where
  hr := {
    base_le := H.base_le
    ro_B := H.ro_B
    B_le := by simpa [setBlk] using H.B_le
    fix := H.fix
    ro := fun j o' hj ho => by
      have h1 := H.ro j o' hj ho
      rw [heap_setBlk _ _ _ _ (H.lt hb)]
      have h2 := H.ro_B j o' hj ho
      have h3 := (H.live b o0 hb).2.2.1
      rw [if_neg (by omega)]; exact h1
    live := fun j o' hj => by
      rw [get_put] at hj
      by_cases e : b = j
      · subst e
        simp only [if_true, Option.some.injEq] at hj
        subst hj
        obtain ⟨h1, h2, h3, _, _, _, _⟩ := H.live b o0 hb
        exact ⟨h1, h2, h3, hs, c, by rw [heap_setBlk _ _ _ _ (H.lt hb)]; simp, hc⟩
      · rw [if_neg e] at hj
        obtain ⟨h1, h2, h3, h4, c', h5, h6⟩ := H.live j o' hj
        refine ⟨h1, h2, h3, h4, c', ?_, h6⟩
        rw [heap_setBlk _ _ _ _ (H.lt hb), if_neg (fun x => e (H.inj _ _ _ _ hb hj x))]
        exact h5
    inj := fun j j' o1 o2 h1 h2 he => by
      rw [get_put] at h1 h2
      have g1 : ∃ o, h.get j = some o := by
        by_cases e : b = j
        · exact ⟨o0, e ▸ hb⟩
        · rw [if_neg e] at h1; exact ⟨_, h1⟩
      have g2 : ∃ o, h.get j' = some o := by
        by_cases e : b = j'
        · exact ⟨o0, e ▸ hb⟩
        · rw [if_neg e] at h2; exact ⟨_, h2⟩
      obtain ⟨_, g1⟩ := g1
      obtain ⟨_, g2⟩ := g2
      exact H.inj j j' _ _ g1 g2 he }
  ext := fun _ _ => rfl
  le := Nat.le_refl _
  frame := fun r hr hn => by
    rw [heap_setBlk _ _ _ _ (H.lt hb), if_neg (hn b o0 hb)]
  range := fun j o' hj => by
    rw [get_put] at hj
    by_cases e : b = j
    · exact .inl ⟨b, o0, hb, by rw [e]⟩
    · rw [if_neg e] at hj; exact .inl ⟨j, o', hj, rfl⟩
  size := by simp [setBlk]
  os := rfl
  tape := rfl
  output := rfl

/-- A LIVE BLOCK THAT GETS A NEW NAME: the elder name is dead. -/
theorem Step.move {E : Env} {B : Nat} {ρ : Ren} {h : Heap} {w : World} (H : HR E B ρ h w) {b ex sh : Nat} {o0 o : AObj} {c : Obj} (hb : h.get b = some o0) (hs : scO h.next o) (hc : objR E.P ρ ⟨(ρ b).r, ex, sh⟩ o c) :
    Step E B ρ h w (upd ρ h.next ⟨(ρ b).r, ex, sh⟩) ((h.kill b).push o) (setBlk w (ρ b).r c) where
  hr := {
    base_le := by have := H.base_le; simp; omega
    ro_B := H.ro_B
    B_le := by simpa [setBlk] using H.B_le
    fix := fun j hj => by have := H.base_le; rw [upd_lt _ _ _ (by omega)]; exact H.fix j hj
    ro := fun j o' hj ho => by
      have h1 := H.ro j o' hj ho
      rw [heap_setBlk _ _ _ _ (H.lt hb)]
      have h2 := H.ro_B j o' hj ho
      have h3 := (H.live b o0 hb).2.2.1
      rw [if_neg (by omega)]; exact h1
    live := fun j o' hj => by
      rw [get_push, next_kill] at hj
      obtain ⟨k1, k2, k3, _, _, _, _⟩ := H.live b o0 hb
      by_cases e : h.next = j
      · subst e
        simp only [if_true, Option.some.injEq] at hj
        subst hj
        refine ⟨by simpa using H.base_le, by simp, by rw [upd_same]; exact k3, scO_mono (by simp) hs, c, by rw [upd_same, heap_setBlk _ _ _ _ (H.lt hb)]; simp, ?_⟩
        rw [upd_same]
        exact objR_congr (n := h.next) (fun b hb => upd_lt _ _ _ hb) hs hc
      · rw [if_neg e, get_kill] at hj
        by_cases e2 : b = j
        · simp [e2] at hj
        rw [if_neg e2] at hj
        obtain ⟨h1, h2, h3, h4, c', h5, h6⟩ := H.live j o' hj
        rw [upd_ne _ _ _ (fun x => e x.symm)]
        refine ⟨h1, by simp; omega, h3, scO_mono (by simp) h4, c', ?_, objR_congr (n := h.next) (fun b hb => upd_lt _ _ _ hb) h4 h6⟩
        rw [heap_setBlk _ _ _ _ (H.lt hb), if_neg (fun x => e2 (H.inj _ _ _ _ hb hj x))]
        exact h5
    inj := fun j j' o1 o2 h1 h2 he => by
      rw [get_push, next_kill] at h1 h2
      by_cases e1 : h.next = j
      · by_cases e2 : h.next = j'
        · omega
        · rw [if_neg e2, get_kill] at h2
          by_cases e3 : b = j'
          · simp [e3] at h2
          rw [if_neg e3] at h2
          rw [← e1, upd_same, upd_ne _ _ _ (fun x => e2 x.symm)] at he
          exact absurd (H.inj _ _ _ _ hb h2 he) e3
      · rw [if_neg e1, get_kill] at h1
        by_cases e3 : b = j
        · simp [e3] at h1
        rw [if_neg e3] at h1
        by_cases e2 : h.next = j'
        · rw [← e2, upd_same, upd_ne _ _ _ (fun x => e1 x.symm)] at he
          exact absurd (H.inj _ _ _ _ hb h1 he.symm) e3
        · rw [if_neg e2, get_kill] at h2
          by_cases e4 : b = j'
          · simp [e4] at h2
          rw [if_neg e4] at h2
          rw [upd_ne _ _ _ (fun x => e1 x.symm), upd_ne _ _ _ (fun x => e2 x.symm)] at he
          exact H.inj _ _ _ _ h1 h2 he }
  ext := fun j hj => upd_lt _ _ _ hj
  le := by simp
  frame := fun r hr hn => by
    rw [heap_setBlk _ _ _ _ (H.lt hb), if_neg (hn b o0 hb)]
  range := fun j o' hj => by
    rw [get_push, next_kill] at hj
    by_cases e : h.next = j
    · subst e; rw [upd_same]; exact .inl ⟨b, o0, hb, rfl⟩
    · rw [if_neg e, get_kill] at hj
      by_cases e2 : b = j
      · simp [e2] at hj
      rw [if_neg e2] at hj
      rw [upd_ne _ _ _ (fun x => e x.symm)]
      exact .inl ⟨j, o', hj, rfl⟩
  size := by simp [setBlk]
  os := rfl
  tape := rfl
  output := rfl

/-- An elder name dies; a new block is made. -/
theorem HR.kill {E : Env} {B : Nat} {ρ : Ren} {h : Heap} {w : World} (H : HR E B ρ h w) (b : Nat) : Step E B ρ h w ρ (h.kill b) w where
  hr := {
    base_le := H.base_le
    ro_B := H.ro_B
    B_le := H.B_le
    fix := H.fix
    ro := H.ro
    live := fun j o hj => by
      rw [get_kill] at hj
      by_cases e : b = j
      · simp [e] at hj
      · rw [if_neg e] at hj; exact H.live j o hj
    inj := fun j j' o o' h1 h2 he => by
      rw [get_kill] at h1 h2
      by_cases e : b = j
      · simp [e] at h1
      by_cases e' : b = j'
      · simp [e'] at h2
      rw [if_neg e] at h1; rw [if_neg e'] at h2
      exact H.inj _ _ _ _ h1 h2 he }
  ext := fun _ _ => rfl
  le := Nat.le_refl _
  frame := fun _ _ _ => rfl
  range := fun j o hj => by
    rw [get_kill] at hj
    by_cases e : b = j
    · simp [e] at hj
    · rw [if_neg e] at hj; exact .inl ⟨j, o, hj, rfl⟩
  size := Nat.le_refl _
  os := rfl
  tape := rfl
  output := rfl
end Go.Tm
namespace Go.Tm

def bslt : List UInt8 → List UInt8 → Bool := Op.bytesLess

def aint (op : BinOp) (k : IntKind) (a b : Int) : Option Value :=
  match op with
  | .add => some (.int k (k.wrap (a + b)))
  | .sub => some (.int k (k.wrap (a - b)))
  | .mul => some (.int k (k.wrap (a * b)))
  | .quo => if b = 0 then none else some (.int k (k.wrap (a.tdiv b)))
  | .rem => if b = 0 then none else some (.int k (a.tmod b))
  | .and | .or | .xor | .andNot => some (.int k (bits op k a b))
  | .eql => some (.bool (a == b))
  | .neq => some (.bool (a != b))
  | .lss => some (.bool (a < b))
  | .leq => some (.bool (a ≤ b))
  | .gtr => some (.bool (a > b))
  | .geq => some (.bool (a ≥ b))
  | .shl | .shr => none

def astr (op : BinOp) (x y : ByteArray) : Option Value :=
  match op with
  | .add => if ((x.size + y.size : Nat) : Int) > 9223372036854775807 then none else some (.string (x ++ y))
  | .eql => some (.bool (x.data.toList == y.data.toList))
  | .neq => some (.bool !(x.data.toList == y.data.toList))
  | .lss => some (.bool (bslt x.data.toList y.data.toList))
  | .leq => some (.bool (bslt x.data.toList y.data.toList || x.data.toList == y.data.toList))
  | .gtr => some (.bool !(bslt x.data.toList y.data.toList || x.data.toList == y.data.toList))
  | .geq => some (.bool !(bslt x.data.toList y.data.toList))
  | _ => none

/-- '==' and '!=' where one side at least is nil. -/
def anil (P : Program) (kc : Bool) (t : TypeId) (u v : Value) : Option Bool :=
  match P.underlying t, u, v with
  | some (.pointer _), .pointer none, .pointer none => some true
  | some (.pointer _), .pointer none, .pointer (some _) => some false
  | some (.pointer _), .pointer (some _), .pointer none => some false
  | some (.interface _), .nilIface, .nilIface => if kc then some true else none
  | some (.interface _), .nilIface, .iface _ _ => some false
  | some (.interface _), .iface _ _, .nilIface => some false
  | some (.slice _), .slice none _ _, .slice none _ _ => some true
  | some (.slice _), .slice none _ _, .slice (some _) _ _ => some false
  | some (.slice _), .slice (some _) _ _, .slice none _ _ => some false
  | some (.map _ _), .map none, .map none => some true
  | some (.map _ _), .map none, .map (some _) => some false
  | some (.map _ _), .map (some _), .map none => some false
  | some (.func _ _ _), .nilFunc, .nilFunc => some true
  | some (.func _ _ _), .nilFunc, .func _ _ _ => some false
  | some (.func _ _ _), .func _ _ _, .nilFunc => some false
  | some .bool, .bool a, .bool b => some (a == b)
  | _, _, _ => none

def abin (P : Program) (kc : Bool) (op : BinOp) (t : TypeId) (u v : Value) : Option Value :=
  match u, v with
  | .int k a, .int k' b =>
    match op with
    | .shl => if b < 0 then none else some (.int k (k.wrap (a * 2 ^ (min b.toNat k.bits))))
    | .shr => if b < 0 then none else some (.int k (a.fdiv (2 ^ (min b.toNat k.bits))))
    | _ => if k = k' then aint op k a b else none
  | .string a, .string b => astr op a b
  | u, v =>
    match op with
    | .eql => (anil P kc t u v).map .bool
    | .neq => (anil P kc t u v).map fun b => .bool !b
    | _ => none

theorem run_aint {P : Program} {op : BinOp} {t : TypeId} {k : IntKind} {a b : Int} {r : Value} (hn : op ≠ .shl ∧ op ≠ .shr) (h : aint op k a b = some r) (w : World) :
    (binOp op t (.int k a) (.int k b)).run P w = .ok r w := by
  cases op <;> simp only [aint] at h <;> first
    | (split at h <;> first
        | (cases h; done)
        | (injection h with h; subst h; simp [binOp, Op.intDiv, *]))
    | (injection h with h; subst h; simp [binOp, Op.intArith, Op.intCmp, Op.intBits, bits])
    | simp at hn

theorem run_astr {P : Program} {op : BinOp} {t : TypeId} {a b : ByteArray} {r : Value} (h : astr op a b = some r) (w : World) :
    (binOp op t (.string a) (.string b)).run P w = .ok r w := by
  have ha : a.toList = a.data.toList := Go.ByteArray.toList_eq a
  have hb : b.toList = b.data.toList := Go.ByteArray.toList_eq b
  cases op <;> simp only [astr] at h <;> first
    | (by_cases hc : ((a.size + b.size : Nat) : Int) > 9223372036854775807
       · rw [if_pos hc] at h; cases h
       · rw [if_neg hc] at h
         injection h with h; subst h; simp only [binOp, Op.stringOp]; rw [if_neg (by simpa using hc)]; rfl)
    | (injection h with h; subst h; simp [binOp, Op.stringOp, ha, hb, bslt]; done)
    | (cases h; done)

theorem ren_ptr_none {ρ : Ren} : ren ρ (.pointer none) = .pointer none := rfl

theorem run_anil {P : Program} {kc : Bool} {ρ : Ren} {t : TypeId} {u v : Value} {r : Bool} (h : anil P kc t u v = some r) (w : World) :
    (Op.equal t (ren ρ u) (ren ρ v)).run P w = .ok r w := by
  unfold Op.equal
  generalize hd : Op.maxDepth = d
  obtain ⟨n, rfl⟩ : ∃ n, d = n + 1 := ⟨9999, hd.symm⟩
  clear hd
  unfold anil at h
  split at h <;> first
    | (cases h; done)
    | (rename_i hu
       cases kc
       · cases h
       · simp only [if_true, Option.some.injEq] at h; subst h
         simp only [Op.equalIn, Sem.run_bind, run_underlying hu, Result.andThen_ok, ren]
         rfl)
    | (injection h with h; subst h
       rename_i hu
       simp only [Op.equalIn, Sem.run_bind, run_underlying hu, Result.andThen_ok, ren]
       rfl)

theorem eqGuard_of {op : BinOp} {t : TypeId} {u v : Value} {x y : Operand} (h1 : ¬ (u = .nilIface ∧ v = .nilIface)) (h2 : ∀ a b, ¬ (u = .agg a ∧ v = .agg b)) :
    eqGuard op t x y u v = pure () := by
  cases u with
  | nilIface => cases v <;> first | (exact absurd ⟨rfl, rfl⟩ h1) | (cases op <;> rfl)
  | agg a => cases v <;> first | (exact absurd ⟨rfl, rfl⟩ (h2 _ _)) | (cases op <;> rfl)
  | _ => cases op <;> rfl

theorem anil_shape {P : Program} {kc : Bool} {ρ : Ren} {t : TypeId} {u v : Value} {b : Bool} (h : anil P kc t u v = some b) :
    (¬ (ren ρ u = .nilIface ∧ ren ρ v = .nilIface) ∨ (kc = true ∧ ren ρ u = .nilIface ∧ ren ρ v = .nilIface)) ∧ ∀ a b, ¬ (ren ρ u = .agg a ∧ ren ρ v = .agg b) := by
  unfold anil at h
  split at h <;> first
    | (cases h; done)
    | (cases kc
       · cases h
       · exact ⟨.inr ⟨rfl, rfl, rfl⟩, by simp [ren]⟩)
    | (constructor <;> simp [ren])

def isConst : Operand → Bool
  | .const _ => true
  | _ => false

theorem eqGuard_const {op : BinOp} {t : TypeId} {x y : Operand} (h : (isConst x || isConst y) = true) : eqGuard op t x y .nilIface .nilIface = pure () := by
  cases x <;> first | (cases op <;> rfl) | (cases y <;> first | (cases op <;> rfl) | (simp [isConst] at h))

theorem run_eqGuard {P : Program} {ρ : Ren} {op : BinOp} {t : TypeId} {u v r : Value} {x y : Operand} (h : abin P (isConst x || isConst y) op t u v = some r) :
    eqGuard op t x y (ren ρ u) (ren ρ v) = pure () := by
  have key : ∀ b, anil P (isConst x || isConst y) t u v = some b → eqGuard op t x y (ren ρ u) (ren ρ v) = pure () := by
    intro b hb
    obtain ⟨h1, h2⟩ := anil_shape (ρ := ρ) hb
    rcases h1 with h1 | ⟨hk, e1, e2⟩
    · exact eqGuard_of h1 h2
    · rw [e1, e2]; exact eqGuard_const hk
  unfold abin at h
  split at h
  · exact eqGuard_of (by simp [ren]) (by simp [ren])
  · exact eqGuard_of (by simp [ren]) (by simp [ren])
  · split at h
    · cases hb : anil P (isConst x || isConst y) t u v with
      | none => simp [hb] at h
      | some b => exact key b hb
    · cases hb : anil P (isConst x || isConst y) t u v with
      | none => simp [hb] at h
      | some b => exact key b hb
    · cases h

theorem run_abin {P : Program} {kc : Bool} {ρ : Ren} {op : BinOp} {t : TypeId} {u v r : Value} (h : abin P kc op t u v = some r) (w : World) :
    (binOp op t (ren ρ u) (ren ρ v)).run P w = .ok r w := by
  unfold abin at h
  split at h
  · rename_i k a k' b
    simp only [ren]
    split at h
    · split at h
      · cases h
      · injection h with h; subst h; simp [binOp, Op.shift, *]
    · split at h
      · cases h
      · injection h with h; subst h; simp [binOp, Op.shift, *]
    · rename_i h1 h2
      split at h
      · rename_i hk; subst hk
        exact run_aint ⟨h1, h2⟩ h w
      · cases h
  · simp only [ren]; exact run_astr h w
  · rename_i h1 h2
    split at h
    · cases hb : anil P kc t u v with
      | none => simp [hb] at h
      | some b =>
        simp [hb] at h; subst h
        have he := run_anil (ρ := ρ) hb w
        have : binOp .eql t (ren ρ u) (ren ρ v) = (do pure (.bool (← Op.equal t (ren ρ u) (ren ρ v)))) := by
          unfold anil at hb
          split at hb <;> first | (cases hb; done) | rfl
        rw [this]; simp [he]
    · cases hb : anil P kc t u v with
      | none => simp [hb] at h
      | some b =>
        simp [hb] at h; subst h
        have he := run_anil (ρ := ρ) hb w
        have : binOp .neq t (ren ρ u) (ren ρ v) = (do pure (.bool (!(← Op.equal t (ren ρ u) (ren ρ v))))) := by
          unfold anil at hb
          split at hb <;> first | (cases hb; done) | rfl
        rw [this]; simp [he]
    · cases h

/-- The results of a binary operation name no block. -/
theorem flat_abin {P : Program} {kc : Bool} {op : BinOp} {t : TypeId} {u v r : Value} (h : abin P kc op t u v = some r) : ∀ ρ n, ren ρ r = r ∧ sc n r = true := by
  intro ρ n
  unfold abin at h
  split at h
  · split at h
    · split at h
      · cases h
      · injection h with h; subst h; exact ⟨rfl, rfl⟩
    · split at h
      · cases h
      · injection h with h; subst h; exact ⟨rfl, rfl⟩
    · split at h
      · cases op <;> simp only [aint] at h <;> first
          | (injection h with h; subst h; exact ⟨rfl, rfl⟩)
          | (split at h <;> first | (cases h; done) | (injection h with h; subst h; exact ⟨rfl, rfl⟩))
          | (cases h; done)
      · cases h
  · cases op <;> simp only [astr] at h <;> first
      | (injection h with h; subst h; exact ⟨rfl, rfl⟩)
      | (split at h <;> first | (cases h; done) | (injection h with h; subst h; exact ⟨rfl, rfl⟩))
      | (cases h; done)
  · split at h
    · cases hb : anil P kc t u v with
      | none => simp [hb] at h
      | some b => simp [hb] at h; subst h; exact ⟨rfl, rfl⟩
    · cases hb : anil P kc t u v with
      | none => simp [hb] at h
      | some b => simp [hb] at h; subst h; exact ⟨rfl, rfl⟩
    · cases h
end Go.Tm
