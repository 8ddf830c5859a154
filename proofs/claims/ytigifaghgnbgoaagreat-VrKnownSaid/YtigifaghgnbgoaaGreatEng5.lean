/- The engine, fifth part: all operations that neither read nor write memory, as one. -/
import Derived.Test.YtigifaghgnbgoaaGreatEng4
namespace Go.Tm

def afieldAddr (P : Program) (s : TypeId) (x : Value) (f : Nat) : Option Value :=
  match P.underlying s, x with
  | some (.struct fields), .pointer (some a) =>
    match fields[f]? with
    | some fl => match asz P fl.type, a.spot with
      | some (_ + 1), none => some (.pointer (some (addo a fl.offset)))
      | _, _ => none
    | none => none
  | _, _ => none

theorem run_afieldAddr {P : Program} {ρ : Ren} {s : TypeId} {x v : Value} {f : Nat} (h : afieldAddr P s x f = some v) (w : World) :
    (Instr.fieldAt s (ren ρ x) f).run P w = .ok (ren ρ v) w := by
  unfold afieldAddr at h
  split at h
  · rename_i fields a hu
    split at h
    · rename_i fl hf
      split at h
      · rename_i k hz hsp
        injection h with h; subst h
        simp only [Instr.fieldAt, Sem.run_bind, run_underlying hu, Result.andThen_ok, hf, ren, Instr.sureAddr, Sem.run_pure, fieldPlace, run_sizeOf hz]
        simp [rena_add hsp]
      · cases h
    · cases h
  · cases h

def afield (P : Program) (t : TypeId) (x : Value) (f : Nat) : Option Value :=
  match P.underlying t, x with
  | some (.struct fields), .agg cs =>
    match fields[f]? with
    | some fl => apart P fl.type cs.toList fl.offset
    | none => none
  | _, _ => none

theorem run_afield {P : Program} {ρ : Ren} {s : TypeId} {x v : Value} {f : Nat} (h : afield P s x f = some v) (w : World) :
    (Instr.field s (ren ρ x) f).run P w = .ok (ren ρ v) w := by
  unfold afield at h
  split at h
  · rename_i fields cs hu
    split at h
    · rename_i fl hf
      have := run_apart (ρ := ρ) h w
      simp only [Instr.field, Sem.run_bind, run_underlying hu, Result.andThen_ok, hf, ren, renA_eq, asAgg, Sem.run_pure]
      rw [← this]; congr 2
      apply Array.ext'; simp
    · cases h
  · cases h

def aindexAddr (P : Program) (t : TypeId) (x i : Value) : Option Value :=
  match P.underlying t, x, i with
  | some (.slice e), .slice (some a) len _, .int _ n =>
    if 0 ≤ n ∧ n < len then
      match asz P e, a.spot with
      | some size, none => some (.pointer (some (addo a (n.toNat * size))))
      | _, _ => none
    else none
  | some (.array len e), .pointer (some a), .int _ n =>
    if 0 ≤ n ∧ n < len then
      match asz P e, a.spot with
      | some size, none => some (.pointer (some (addo a (n.toNat * size))))
      | _, _ => none
    else none
  | _, _, _ => none

theorem run_aindexAddr {P : Program} {ρ : Ren} {t : TypeId} {x i v : Value} (h : aindexAddr P t x i = some v) (w : World) :
    (Instr.indexAt t (ren ρ x) (ren ρ i)).run P w = .ok (ren ρ v) w := by
  unfold aindexAddr at h
  split at h
  · rename_i e a len cap k n hu
    split at h
    · rename_i hn
      split at h
      · rename_i size hz hsp
        injection h with h; subst h
        simp only [Instr.indexAt, Sem.run_bind, run_underlying hu, Result.andThen_ok, ren, asIntOf, Sem.run_pure, rens_none hsp]
        simp [hn, run_sizeOf hz, rena_add hsp]
      · cases h
    · cases h
  · rename_i len e a k n hu
    split at h
    · rename_i hn
      split at h
      · rename_i size hz hsp
        injection h with h; subst h
        simp only [Instr.indexAt, Sem.run_bind, run_underlying hu, Result.andThen_ok, ren, asIntOf, Sem.run_pure, Instr.sureAddr]
        simp [hn, run_sizeOf hz, rena_add hsp]
      · cases h
    · cases h
  · cases h

def aindex (P : Program) (t : TypeId) (x i : Value) : Option Value :=
  match P.underlying t, x, i with
  | some .string, .string s, .int _ n =>
    if 0 ≤ n then match s.data.toList[n.toNat]? with
      | some b => some (.int .u8 b.toNat)
      | none => none
    else none
  | some (.array len e), .agg cs, .int _ n =>
    if 0 ≤ n ∧ n < len then
      match asz P e with
      | some size => apart P e cs.toList (n.toNat * size)
      | none => none
    else none
  | _, _, _ => none

theorem run_aindex {P : Program} {ρ : Ren} {t : TypeId} {x i v : Value} (h : aindex P t x i = some v) (w : World) :
    (Instr.index t (ren ρ x) (ren ρ i)).run P w = .ok (ren ρ v) w := by
  unfold aindex at h
  split at h
  · rename_i s k n hu
    split at h
    · rename_i hn
      split at h
      · rename_i b hb
        injection h with h; subst h
        have hg : s[n.toNat]? = some b := by
          have hlt : n.toNat < s.size := by
            have := (List.getElem?_eq_some_iff.1 hb).1
            cases s; exact this
          rw [ByteArray.getElem?_lt' s _ hlt]
          have h2 := (List.getElem?_eq_some_iff.1 hb).2
          congr 1
        simp only [Instr.index, Sem.run_bind, run_underlying hu, Result.andThen_ok, ren, asIntOf, Sem.run_pure]
        simp [hn, hg]
      · cases h
    · cases h
  · rename_i len e cs k n hu
    split at h
    · rename_i hn
      split at h
      · rename_i size hz
        have := run_apart (ρ := ρ) h w
        simp only [Instr.index, Sem.run_bind, run_underlying hu, Result.andThen_ok, ren, renA_eq, asIntOf, Sem.run_pure]
        rw [if_pos hn]
        simp only [Sem.run_bind, run_sizeOf hz, Result.andThen_ok]
        rw [← this]; congr 2
        apply Array.ext'; simp
      · cases h
    · cases h
  · cases h

def aextract (x : Value) (i : Nat) : Option Value :=
  match x with
  | .tuple vs => vs.toList[i]?
  | _ => none

theorem run_aextract {P : Program} {ρ : Ren} {x v : Value} {i : Nat} (h : aextract x i = some v) (w : World) :
    (Instr.extract (ren ρ x) i).run P w = .ok (ren ρ v) w := by
  unfold aextract at h
  split at h
  · rename_i vs
    simp only [ren, renA_eq, Instr.extract]
    have : (vs.map (ren ρ))[i]? = some (ren ρ v) := by
      simp at h; simp [h]
    simp [this]
  · cases h

def alen (P : Program) (t : TypeId) (x : Value) : Option Value :=
  match P.underlying t, x with
  | some .string, .string s => some (.int .i64 s.size)
  | some (.slice _), .slice _ n _ => some (.int .i64 n)
  | some (.array n _), .agg _ => some (.int .i64 n)
  | some (.array n _), .pointer _ => some (.int .i64 n)
  | some (.map _ _), .map none => some (.int .i64 0)
  | _, _ => none

theorem run_alen {P : Program} {ρ : Ren} {t ty : TypeId} {x v : Value} (h : alen P t x = some v) (w : World) :
    (Builtin.len_ #[t] ty #[ren ρ x]).run P w = .ok v w := by
  unfold alen at h
  split at h
  · rename_i s hu; injection h with h; subst h
    simp [Builtin.len_, run_underlying hu, ren, goInt]
  · rename_i a n c d hu; injection h with h; subst h
    cases n <;> simp [Builtin.len_, run_underlying hu, ren, goInt]
  · rename_i n _ cs hu; injection h with h; subst h
    simp [Builtin.len_, run_underlying hu, ren, goInt]
  · rename_i n _ a hu; injection h with h; subst h
    cases a <;> simp [Builtin.len_, run_underlying hu, ren, goInt]
  · rename_i hu; injection h with h; subst h
    simp [Builtin.len_, run_underlying hu, ren, goInt]
  · cases h

/- min and max of integers. -/
def afold (f : Int → Int → Int) (x : Int) : List Value → Option Int
  | [] => some x
  | .int _ y :: l => afold f (f x y) l
  | _ => none
def amm (f : Int → Int → Int) : List Value → Option Value
  | .int k x :: l => (afold f x l).map (.int k)
  | _ => none
def fmax (x y : Int) : Int := if y > x then y else x
def fmin (x y : Int) : Int := if y < x then y else x

theorem run_afold {P : Program} {ρ : Ren} {k : IntKind} {f : Int → Int → Int} {g : Value → Value → Sem Value} (hg : ∀ x j y, g (.int k x) (.int j y) = pure (.int k (f x y))) (w : World) :
    ∀ (l : List Value) (x r : Int), afold f x l = some r → ((l.map (ren ρ)).foldlM g (.int k x)).run P w = .ok (.int k r) w
  | [], x, r, h => by simp [afold] at h; simp [h]
  | v :: l, x, r, h => by
    cases v <;> simp only [afold] at h <;> first | (cases h; done) | skip
    rename_i j y
    simp only [List.map_cons, ren, List.foldlM_cons, hg]
    exact run_afold hg w l _ r h

theorem run_amm {P : Program} {ρ : Ren} {l : List Value} {v : Value} {ts : Array TypeId} {t : TypeId} (w : World) :
    (amm fmax l = some v → (Builtin.max_ ts t (l.map (ren ρ)).toArray).run P w = .ok v w) ∧ (amm fmin l = some v → (Builtin.min_ ts t (l.map (ren ρ)).toArray).run P w = .ok v w) := by
  constructor
  · intro h
    cases l with
    | nil => simp [amm] at h
    | cons x l =>
      cases x <;> simp only [amm] at h <;> first | (cases h; done) | skip
      rename_i k x
      cases hf : afold fmax x l with
      | none => simp [hf] at h
      | some r =>
        simp [hf] at h; subst h
        simp only [Builtin.max_, List.map_cons, ren]
        exact run_afold (fun _ _ _ => rfl) w l x r hf
  · intro h
    cases l with
    | nil => simp [amm] at h
    | cons x l =>
      cases x <;> simp only [amm] at h <;> first | (cases h; done) | skip
      rename_i k x
      cases hf : afold fmin x l with
      | none => simp [hf] at h
      | some r =>
        simp [hf] at h; subst h
        simp only [Builtin.min_, List.map_cons, ren]
        exact run_afold (fun _ _ _ => rfl) w l x r hf

theorem flat_amm {f : Int → Int → Int} {l : List Value} {v : Value} (h : amm f l = some v) : ∃ k n, v = .int k n := by
  cases l with
  | nil => simp [amm] at h
  | cons x l =>
    cases x <;> simp only [amm] at h <;> first | (cases h; done) | skip
    rename_i k x
    cases hf : afold f x l with
    | none => simp [hf] at h
    | some r => simp [hf] at h; exact ⟨_, _, h.symm⟩

def aconv (P : Program) (s d : TypeId) (x : Value) : Option Value :=
  match P.underlying s, P.underlying d, x with
  | some (.int _), some (.int k), .int _ n => some (.int k (k.wrap n))
  | some .string, some .string, .string b => some (.string b)
  | _, _, _ => none

theorem run_aconv {P : Program} {ρ : Ren} {s d : TypeId} {x v : Value} (h : aconv P s d x = some v) (w : World) :
    (convert s d (ren ρ x)).run P w = .ok v w := by
  unfold aconv at h
  split at h
  · rename_i hs hd
    injection h with h; subst h
    simp [convert, run_underlying hs, run_underlying hd, ren, Conv.intToInt]
  · rename_i hs hd
    injection h with h; subst h
    simp [convert, run_underlying hs, run_underlying hd, ren]
  · cases h

def aun (op : UnOp) (x : Value) : Option Value :=
  match op, x with
  | .neg, .int k n => some (.int k (k.wrap (0 - n)))
  | .xor, .int k n => some (.int k (bits .xor k (if k.signed then -1 else k.max) n))
  | .not, .bool b => some (.bool !b)
  | _, _ => none

theorem run_aun {P : Program} {ρ : Ren} {op : UnOp} {x v : Value} (h : aun op x = some v) (w : World) :
    (Op.unary op (ren ρ x)).run P w = .ok v w := by
  unfold aun at h
  split at h
  · injection h with h; subst h; simp [Op.unary, ren, Op.intArith]
  · injection h with h; subst h; simp [Op.unary, ren, intBits_xor]
  · injection h with h; subst h; simp [Op.unary, ren]
  · cases h

/- A struct or an array put together. -/
def splice (c : List Value) (off : Nat) (vs : List Value) : List Value := c.take off ++ vs ++ c.drop (off + vs.length)

def vcells : Value → List Value
  | .agg cs => cs.toList
  | v => [v]

theorem cells_eq (v : Value) : v.cells = (vcells v).toArray := by cases v <;> simp [Value.cells, vcells]
theorem vcells_ren (ρ : Ren) (v : Value) : vcells (ren ρ v) = (vcells v).map (ren ρ) := by
  cases v with
  | agg a => simp [ren, renA_eq, vcells]
  | pointer a => cases a <;> rfl
  | slice a l c => cases a <;> rfl
  | map a => cases a <;> rfl
  | chan a => cases a <;> rfl
  | _ => rfl

def afill (place : Nat → Option (Nat × Nat)) (cells : List Value) : List (Nat × Value) → Option (List Value)
  | [] => some cells
  | (i, v) :: rest =>
    match place i with
    | none => none
    | some (off, size) =>
      if (vcells v).length ≠ size ∨ off + (vcells v).length > cells.length then none
      else afill place (splice cells off (vcells v)) rest

theorem splice_get {c vs : List Value} {off : Nat} (h : off + vs.length ≤ c.length) (j : Nat) :
    (splice c off vs)[j]? = if j < off then c[j]? else if j < off + vs.length then vs[j - off]? else c[j]? := by
  unfold splice
  have e : (c.take off).length = off := by rw [List.length_take]; omega
  by_cases h1 : j < off
  · rw [if_pos h1, List.append_assoc, List.getElem?_append_left (by omega), List.getElem?_take_of_lt h1]
  · rw [if_neg h1, List.append_assoc, List.getElem?_append_right (by omega), e]
    by_cases h2 : j < off + vs.length
    · rw [if_pos h2, List.getElem?_append_left (by omega)]
    · rw [if_neg h2, List.getElem?_append_right (by omega), List.getElem?_drop]
      congr 1; omega

theorem splice_length {c vs : List Value} {off : Nat} (h : off + vs.length ≤ c.length) : (splice c off vs).length = c.length := by
  unfold splice; simp; omega

theorem foldl_list (vs : List Value) : ∀ (c : List Value) (off k : Nat), off + k + vs.length ≤ c.length →
    (vs.zipIdx k).foldl (fun cs (x : Value × Nat) => cs.set (off + x.2) x.1) c = splice c (off + k) vs := by
  induction vs with
  | nil => intro c off k h; simp [splice]
  | cons v vs ih =>
    intro c off k h
    simp only [List.length_cons] at h
    simp only [List.zipIdx_cons, List.foldl_cons]
    rw [ih _ _ _ (by rw [List.length_set]; omega)]
    apply List.ext_getElem?
    intro j
    rw [splice_get (by rw [List.length_set]; omega), splice_get (by rw [List.length_cons]; omega)]
    simp only [List.length_cons]
    by_cases h1 : j < off + k
    · rw [if_pos (by omega), if_pos h1, List.getElem?_set_ne (by omega)]
    · by_cases h2 : j = off + k
      · subst h2
        rw [if_pos (by omega), if_neg (by omega), if_pos (by omega), List.getElem?_set_self (by omega)]
        simp
      · rw [if_neg (by omega), if_neg h1]
        by_cases h3 : j < off + k + (vs.length + 1)
        · rw [if_pos (by omega), if_pos h3]
          obtain ⟨i, rfl⟩ : ∃ i, j = off + k + 1 + i := ⟨j - (off + k + 1), by omega⟩
          rw [show off + k + 1 + i - (off + (k + 1)) = i by omega, show off + k + 1 + i - (off + k) = i + 1 by omega, List.getElem?_cons_succ]
        · rw [if_neg (by omega), if_neg h3, List.getElem?_set_ne (by omega)]

theorem foldl_arr (off : Nat) : ∀ (l : List (Value × Nat)) (c : Array Value),
    (l.foldl (fun cs (x : Value × Nat) => cs.setIfInBounds (off + x.2) x.1) c).toList = l.foldl (fun cs (x : Value × Nat) => cs.set (off + x.2) x.1) c.toList
  | [], c => rfl
  | x :: l, c => by
    simp only [List.foldl_cons]
    rw [foldl_arr off l]; simp

theorem foldl_set (vs : List Value) (c : Array Value) (off k : Nat) (h : off + k + vs.length ≤ c.size) :
    ((vs.zipIdx k).foldl (fun cs (x : Value × Nat) => cs.setIfInBounds (off + x.2) x.1) c).toList = splice c.toList (off + k) vs := by
  rw [foldl_arr, foldl_list vs _ _ _ (by simpa using h)]

theorem run_afill {ρ : Ren} {place : Nat → Option (Nat × Nat)} : ∀ (parts : List (Nat × Value)) (cells r : List Value), afill place cells parts = some r →
    Instr.fill place (cells.map (ren ρ)).toArray (parts.map fun p => (p.1, ren ρ p.2)) = some (r.map (ren ρ)).toArray
  | [], cells, r, h => by simp [afill] at h; subst h; rfl
  | (i, v) :: rest, cells, r, h => by
    simp only [afill] at h
    simp only [List.map_cons, Instr.fill]
    cases hp : place i with
    | none => simp [hp] at h
    | some os =>
      obtain ⟨off, size⟩ := os
      simp only [hp] at h ⊢
      have hl : (ren ρ v).cells.size = (vcells v).length := by rw [cells_eq, vcells_ren]; simp
      split at h
      · cases h
      · rename_i hc
        have hc1 : (vcells v).length = size := by omega
        have hc2 : off + (vcells v).length ≤ cells.length := by omega
        rw [hl, if_neg (by simp [hc1]; omega)]
        have ih := run_afill (ρ := ρ) rest _ r h
        have he : Array.foldl (fun (cs : Array Value) (x : Value × Nat) => cs.setIfInBounds (off + x.2) x.1) (cells.map (ren ρ)).toArray (ren ρ v).cells.zipIdx = ((splice cells off (vcells v)).map (ren ρ)).toArray := by
          apply Array.ext'
          have := foldl_set ((vcells v).map (ren ρ)) (cells.map (ren ρ)).toArray off 0 (by simpa using hc2)
          simp only [Nat.add_zero] at this
          rw [← Array.foldl_toList]
          rw [cells_eq, vcells_ren]
          simp only [Array.toList_zipIdx]
          rw [this]
          simp [splice, List.map_take, List.map_drop]
        exact he ▸ ih
end Go.Tm
