/- The engine, third part: operations that neither read nor write memory. -/
import Derived.Test.YtigifaghgnbgoaaGreatEng2
import Derived.Laws.Strings
namespace Go.Tm

def bslt : List UInt8 → List UInt8 → Bool := Op.bytesLess

def aint (op : BinOp) (k : IntKind) (a b : Int) : Option Value :=
  match op with
  | .add => some (.int k (k.wrap (a + b)))
  | .sub => some (.int k (k.wrap (a - b)))
  | .mul => some (.int k (k.wrap (a * b)))
  | .quo => if b = 0 then none else some (.int k (k.wrap (a.tdiv b)))
  | .rem => if b = 0 then none else some (.int k (a.tmod b))
  | .and | .or | .xor | .andNot => some (.int k (bits op k a b))
  | .eql => some (.bool (a == b))
  | .neq => some (.bool (a != b))
  | .lss => some (.bool (a < b))
  | .leq => some (.bool (a ≤ b))
  | .gtr => some (.bool (a > b))
  | .geq => some (.bool (a ≥ b))
  | .shl | .shr => none

def astr (op : BinOp) (x y : ByteArray) : Option Value :=
  match op with
  | .add => if ((x.size + y.size : Nat) : Int) > 9223372036854775807 then none else some (.string (x ++ y))
  | .eql => some (.bool (x.data.toList == y.data.toList))
  | .neq => some (.bool !(x.data.toList == y.data.toList))
  | .lss => some (.bool (bslt x.data.toList y.data.toList))
  | .leq => some (.bool (bslt x.data.toList y.data.toList || x.data.toList == y.data.toList))
  | .gtr => some (.bool !(bslt x.data.toList y.data.toList || x.data.toList == y.data.toList))
  | .geq => some (.bool !(bslt x.data.toList y.data.toList))
  | _ => none

/-- '==' and '!=' where one side at least is nil. -/
def anil (P : Program) (kc : Bool) (t : TypeId) (u v : Value) : Option Bool :=
  match P.underlying t, u, v with
  | some (.pointer _), .pointer none, .pointer none => some true
  | some (.pointer _), .pointer none, .pointer (some _) => some false
  | some (.pointer _), .pointer (some _), .pointer none => some false
  | some (.interface _), .nilIface, .nilIface => if kc then some true else none
  | some (.interface _), .nilIface, .iface _ _ => some false
  | some (.interface _), .iface _ _, .nilIface => some false
  | some (.slice _), .slice none _ _, .slice none _ _ => some true
  | some (.slice _), .slice none _ _, .slice (some _) _ _ => some false
  | some (.slice _), .slice (some _) _ _, .slice none _ _ => some false
  | some (.map _ _), .map none, .map none => some true
  | some (.map _ _), .map none, .map (some _) => some false
  | some (.map _ _), .map (some _), .map none => some false
  | some (.func _ _ _), .nilFunc, .nilFunc => some true
  | some (.func _ _ _), .nilFunc, .func _ _ _ => some false
  | some (.func _ _ _), .func _ _ _, .nilFunc => some false
  | some .bool, .bool a, .bool b => some (a == b)
  | _, _, _ => none

def abin (P : Program) (kc : Bool) (op : BinOp) (t : TypeId) (u v : Value) : Option Value :=
  match u, v with
  | .int k a, .int k' b =>
    match op with
    | .shl => if b < 0 then none else some (.int k (k.wrap (a * 2 ^ (min b.toNat k.bits))))
    | .shr => if b < 0 then none else some (.int k (a.fdiv (2 ^ (min b.toNat k.bits))))
    | _ => if k = k' then aint op k a b else none
  | .string a, .string b => astr op a b
  | u, v =>
    match op with
    | .eql => (anil P kc t u v).map .bool
    | .neq => (anil P kc t u v).map fun b => .bool !b
    | _ => none

theorem run_aint {P : Program} {op : BinOp} {t : TypeId} {k : IntKind} {a b : Int} {r : Value} (hn : op ≠ .shl ∧ op ≠ .shr) (h : aint op k a b = some r) (w : World) :
    (binOp op t (.int k a) (.int k b)).run P w = .ok r w := by
  cases op <;> simp only [aint] at h <;> first
    | (split at h <;> first
        | (cases h; done)
        | (injection h with h; subst h; simp [binOp, Op.intDiv, *]))
    | (injection h with h; subst h; simp [binOp, Op.intArith, Op.intCmp, Op.intBits, bits])
    | simp at hn

theorem run_astr {P : Program} {op : BinOp} {t : TypeId} {a b : ByteArray} {r : Value} (h : astr op a b = some r) (w : World) :
    (binOp op t (.string a) (.string b)).run P w = .ok r w := by
  have ha : a.toList = a.data.toList := Go.ByteArray.toList_eq a
  have hb : b.toList = b.data.toList := Go.ByteArray.toList_eq b
  cases op <;> simp only [astr] at h <;> first
    | (by_cases hc : ((a.size + b.size : Nat) : Int) > 9223372036854775807
       · rw [if_pos hc] at h; cases h
       · rw [if_neg hc] at h
         injection h with h; subst h; simp only [binOp, Op.stringOp]; rw [if_neg (by simpa using hc)]; rfl)
    | (injection h with h; subst h; simp [binOp, Op.stringOp, ha, hb, bslt]; done)
    | (cases h; done)

theorem ren_ptr_none {ρ : Ren} : ren ρ (.pointer none) = .pointer none := rfl

theorem run_anil {P : Program} {kc : Bool} {ρ : Ren} {t : TypeId} {u v : Value} {r : Bool} (h : anil P kc t u v = some r) (w : World) :
    (Op.equal t (ren ρ u) (ren ρ v)).run P w = .ok r w := by
  unfold Op.equal
  generalize hd : Op.maxDepth = d
  obtain ⟨n, rfl⟩ : ∃ n, d = n + 1 := ⟨9999, hd.symm⟩
  clear hd
  unfold anil at h
  split at h <;> first
    | (cases h; done)
    | (rename_i hu
       cases kc
       · cases h
       · simp only [if_true, Option.some.injEq] at h; subst h
         simp only [Op.equalIn, Sem.run_bind, run_underlying hu, Result.andThen_ok, ren]
         rfl)
    | (injection h with h; subst h
       rename_i hu
       simp only [Op.equalIn, Sem.run_bind, run_underlying hu, Result.andThen_ok, ren]
       rfl)

theorem eqGuard_of {op : BinOp} {t : TypeId} {u v : Value} {x y : Operand} (h1 : ¬ (u = .nilIface ∧ v = .nilIface)) (h2 : ∀ a b, ¬ (u = .agg a ∧ v = .agg b)) :
    eqGuard op t x y u v = pure () := by
  cases u with
  | nilIface => cases v <;> first | (exact absurd ⟨rfl, rfl⟩ h1) | (cases op <;> rfl)
  | agg a => cases v <;> first | (exact absurd ⟨rfl, rfl⟩ (h2 _ _)) | (cases op <;> rfl)
  | _ => cases op <;> rfl

theorem anil_shape {P : Program} {kc : Bool} {ρ : Ren} {t : TypeId} {u v : Value} {b : Bool} (h : anil P kc t u v = some b) :
    (¬ (ren ρ u = .nilIface ∧ ren ρ v = .nilIface) ∨ (kc = true ∧ ren ρ u = .nilIface ∧ ren ρ v = .nilIface)) ∧ ∀ a b, ¬ (ren ρ u = .agg a ∧ ren ρ v = .agg b) := by
  unfold anil at h
  split at h <;> first
    | (cases h; done)
    | (cases kc
       · cases h
       · exact ⟨.inr ⟨rfl, rfl, rfl⟩, by simp [ren]⟩)
    | (constructor <;> simp [ren])

def isConst : Operand → Bool
  | .const _ => true
  | _ => false

theorem eqGuard_const {op : BinOp} {t : TypeId} {x y : Operand} (h : (isConst x || isConst y) = true) : eqGuard op t x y .nilIface .nilIface = pure () := by
  cases x <;> first | (cases op <;> rfl) | (cases y <;> first | (cases op <;> rfl) | (simp [isConst] at h))

theorem run_eqGuard {P : Program} {ρ : Ren} {op : BinOp} {t : TypeId} {u v r : Value} {x y : Operand} (h : abin P (isConst x || isConst y) op t u v = some r) :
    eqGuard op t x y (ren ρ u) (ren ρ v) = pure () := by
  have key : ∀ b, anil P (isConst x || isConst y) t u v = some b → eqGuard op t x y (ren ρ u) (ren ρ v) = pure () := by
    intro b hb
    obtain ⟨h1, h2⟩ := anil_shape (ρ := ρ) hb
    rcases h1 with h1 | ⟨hk, e1, e2⟩
    · exact eqGuard_of h1 h2
    · rw [e1, e2]; exact eqGuard_const hk
  unfold abin at h
  split at h
  · exact eqGuard_of (by simp [ren]) (by simp [ren])
  · exact eqGuard_of (by simp [ren]) (by simp [ren])
  · split at h
    · cases hb : anil P (isConst x || isConst y) t u v with
      | none => simp [hb] at h
      | some b => exact key b hb
    · cases hb : anil P (isConst x || isConst y) t u v with
      | none => simp [hb] at h
      | some b => exact key b hb
    · cases h

theorem run_abin {P : Program} {kc : Bool} {ρ : Ren} {op : BinOp} {t : TypeId} {u v r : Value} (h : abin P kc op t u v = some r) (w : World) :
    (binOp op t (ren ρ u) (ren ρ v)).run P w = .ok r w := by
  unfold abin at h
  split at h
  · rename_i k a k' b
    simp only [ren]
    split at h
    · split at h
      · cases h
      · injection h with h; subst h; simp [binOp, Op.shift, *]
    · split at h
      · cases h
      · injection h with h; subst h; simp [binOp, Op.shift, *]
    · rename_i h1 h2
      split at h
      · rename_i hk; subst hk
        exact run_aint ⟨h1, h2⟩ h w
      · cases h
  · simp only [ren]; exact run_astr h w
  · rename_i h1 h2
    split at h
    · cases hb : anil P kc t u v with
      | none => simp [hb] at h
      | some b =>
        simp [hb] at h; subst h
        have he := run_anil (ρ := ρ) hb w
        have : binOp .eql t (ren ρ u) (ren ρ v) = (do pure (.bool (← Op.equal t (ren ρ u) (ren ρ v)))) := by
          unfold anil at hb
          split at hb <;> first | (cases hb; done) | rfl
        rw [this]; simp [he]
    · cases hb : anil P kc t u v with
      | none => simp [hb] at h
      | some b =>
        simp [hb] at h; subst h
        have he := run_anil (ρ := ρ) hb w
        have : binOp .neq t (ren ρ u) (ren ρ v) = (do pure (.bool (!(← Op.equal t (ren ρ u) (ren ρ v))))) := by
          unfold anil at hb
          split at hb <;> first | (cases hb; done) | rfl
        rw [this]; simp [he]
    · cases h

/-- The results of a binary operation name no block. -/
theorem flat_abin {P : Program} {kc : Bool} {op : BinOp} {t : TypeId} {u v r : Value} (h : abin P kc op t u v = some r) : ∀ ρ n, ren ρ r = r ∧ sc n r = true := by
  intro ρ n
  unfold abin at h
  split at h
  · split at h
    · split at h
      · cases h
      · injection h with h; subst h; exact ⟨rfl, rfl⟩
    · split at h
      · cases h
      · injection h with h; subst h; exact ⟨rfl, rfl⟩
    · split at h
      · cases op <;> simp only [aint] at h <;> first
          | (injection h with h; subst h; exact ⟨rfl, rfl⟩)
          | (split at h <;> first | (cases h; done) | (injection h with h; subst h; exact ⟨rfl, rfl⟩))
          | (cases h; done)
      · cases h
  · cases op <;> simp only [astr] at h <;> first
      | (injection h with h; subst h; exact ⟨rfl, rfl⟩)
      | (split at h <;> first | (cases h; done) | (injection h with h; subst h; exact ⟨rfl, rfl⟩))
      | (cases h; done)
  · split at h
    · cases hb : anil P kc t u v with
      | none => simp [hb] at h
      | some b => simp [hb] at h; subst h; exact ⟨rfl, rfl⟩
    · cases hb : anil P kc t u v with
      | none => simp [hb] at h
      | some b => simp [hb] at h; subst h; exact ⟨rfl, rfl⟩
    · cases h
end Go.Tm
