/- The engine, eighth part: reading and writing memory, on both sides. -/
/- Merged by a program of ours: Eng5 Eng6 Eng7 Eng8. -/
import Derived.Test.YthfopcdammlmfaaGreatDoorA1
set_option maxRecDepth 10000
set_option linter.all false
set_option linter.unusedSimpArgs false
set_option linter.unusedVariables false
/- The engine, fifth part: all operations that neither read nor write memory, as one. -/
namespace Go.Tm
def afieldAddr (P : Program) (s : TypeId) (x : Value) (f : Nat) : Option Value :=
 match P.underlying s, x with
 | some (.struct fields), .pointer (some a) =>
   match fields[f]? with
   | some fl => match asz P fl.type, a.spot with
     | some (_ + 1), none => some (.pointer (some (addo a fl.offset)))
     | _, _ => none
   | none => none
 | _, _ => none
theorem run_afieldAddr {P : Program} {ρ : Ren} {s : TypeId} {x v : Value} {f : Nat} (h : afieldAddr P s x f = some v) (w : World) :
 (Instr.fieldAt s (ren ρ x) f).run P w = .ok (ren ρ v) w := by
 unfold afieldAddr at h
 split at h
 ·rename_i fields a hu
  split at h
  ·rename_i fl hf
   split at h
   ·rename_i k hz hsp
    injection h with h; subst h
    simp only [Instr.fieldAt, Sem.run_bind, run_underlying hu, Result.andThen_ok, hf, ren, Instr.sureAddr, Sem.run_pure, fieldPlace, run_sizeOf hz]
    simp [rena_add hsp]
   ·cases h
  ·cases h
 ·cases h
def afield (P : Program) (t : TypeId) (x : Value) (f : Nat) : Option Value :=
 match P.underlying t, x with
 | some (.struct fields), .agg cs =>
   match fields[f]? with
   | some fl => apart P fl.type cs.toList fl.offset
   | none => none
 | _, _ => none
theorem run_afield {P : Program} {ρ : Ren} {s : TypeId} {x v : Value} {f : Nat} (h : afield P s x f = some v) (w : World) :
 (Instr.field s (ren ρ x) f).run P w = .ok (ren ρ v) w := by
 unfold afield at h
 split at h
 ·rename_i fields cs hu
  split at h
  ·rename_i fl hf
   have := run_apart (ρ := ρ) h w
   simp only [Instr.field, Sem.run_bind, run_underlying hu, Result.andThen_ok, hf, ren, renA_eq, asAgg, Sem.run_pure]
   rw [← this]; congr 2
   apply Array.ext'; simp
  ·cases h
 ·cases h
def aindexAddr (P : Program) (t : TypeId) (x i : Value) : Option Value :=
 match P.underlying t, x, i with
 | some (.slice e), .slice (some a) len _, .int _ n =>
   if 0 ≤ n ∧ n < len then
    match asz P e, a.spot with
    | some size, none => some (.pointer (some (addo a (n.toNat * size))))
    | some size, some 0 => some (.pointer (some ⟨a.block, a.off + n.toNat * size, none⟩))
    | _, _ => none
   else none
 | some (.array len e), .pointer (some a), .int _ n =>
   if 0 ≤ n ∧ n < len then
    match asz P e, a.spot with
    | some size, none => some (.pointer (some (addo a (n.toNat * size))))
    | _, _ => none
   else none
 | _, _, _ => none
theorem run_aindexAddr {P : Program} {ρ : Ren} {t : TypeId} {x i v : Value} (h : aindexAddr P t x i = some v) (w : World) :
 (Instr.indexAt t (ren ρ x) (ren ρ i)).run P w = .ok (ren ρ v) w := by
 unfold aindexAddr at h
 split at h
 ·rename_i e a len cap k n hu
  split at h
  ·rename_i hn
   split at h
   ·rename_i size hz hsp
    injection h with h; subst h
    simp only [Instr.indexAt, Sem.run_bind, run_underlying hu, Result.andThen_ok, ren, asIntOf, Sem.run_pure, rens_none hsp]
    simp [hn, run_sizeOf hz, rena_add hsp]
   ·rename_i size hz hsp
    injection h with h; subst h
    simp only [Instr.indexAt, Sem.run_bind, run_underlying hu, Result.andThen_ok, ren, asIntOf, Sem.run_pure]
    simp [hn, run_sizeOf hz, rens, hsp, rena, add_of_none, addo]
    omega
   ·cases h
  ·cases h
 ·rename_i len e a k n hu
  split at h
  ·rename_i hn
   split at h
   ·rename_i size hz hsp
    injection h with h; subst h
    simp only [Instr.indexAt, Sem.run_bind, run_underlying hu, Result.andThen_ok, ren, asIntOf, Sem.run_pure, Instr.sureAddr]
    simp [hn, run_sizeOf hz, rena_add hsp]
   ·cases h
  ·cases h
 ·cases h
def aindex (P : Program) (t : TypeId) (x i : Value) : Option Value :=
 match P.underlying t, x, i with
 | some .string, .string s, .int _ n =>
   if 0 ≤ n then match s.data.toList[n.toNat]? with
    | some b => some (.int .u8 b.toNat)
    | none => none
   else none
 | some (.array len e), .agg cs, .int _ n =>
   if 0 ≤ n ∧ n < len then
    match asz P e with
    | some size => apart P e cs.toList (n.toNat * size)
    | none => none
   else none
 | _, _, _ => none
theorem run_aindex {P : Program} {ρ : Ren} {t : TypeId} {x i v : Value} (h : aindex P t x i = some v) (w : World) :
 (Instr.index t (ren ρ x) (ren ρ i)).run P w = .ok (ren ρ v) w := by
 unfold aindex at h
 split at h
 ·rename_i s k n hu
  split at h
  ·rename_i hn
   split at h
   ·rename_i b hb
    injection h with h; subst h
    have hg : s[n.toNat]? = some b := by
     have hlt : n.toNat < s.size := by
      have := (List.getElem?_eq_some_iff.1 hb).1
      cases s; exact this
     rw [ByteArray.getElem?_lt' s _ hlt]
     have h2 := (List.getElem?_eq_some_iff.1 hb).2
     congr 1
    simp only [Instr.index, Sem.run_bind, run_underlying hu, Result.andThen_ok, ren, asIntOf, Sem.run_pure]
    simp [hn, hg]
   ·cases h
  ·cases h
 ·rename_i len e cs k n hu
  split at h
  ·rename_i hn
   split at h
   ·rename_i size hz
    have := run_apart (ρ := ρ) h w
    simp only [Instr.index, Sem.run_bind, run_underlying hu, Result.andThen_ok, ren, renA_eq, asIntOf, Sem.run_pure]
    rw [if_pos hn]
    simp only [Sem.run_bind, run_sizeOf hz, Result.andThen_ok]
    rw [← this]; congr 2
    apply Array.ext'; simp
   ·cases h
  ·cases h
 ·cases h
def aextract (x : Value) (i : Nat) : Option Value :=
 match x with
 | .tuple vs => vs.toList[i]?
 | _ => none
theorem run_aextract {P : Program} {ρ : Ren} {x v : Value} {i : Nat} (h : aextract x i = some v) (w : World) :
 (Instr.extract (ren ρ x) i).run P w = .ok (ren ρ v) w := by
 unfold aextract at h
 split at h
 ·rename_i vs
  simp only [ren, renA_eq, Instr.extract]
  have : (vs.map (ren ρ))[i]? = some (ren ρ v) := by
   simp at h; simp [h]
  simp [this]
 ·cases h
def alen (P : Program) (t : TypeId) (x : Value) : Option Value :=
 match P.underlying t, x with
 | some .string, .string s => some (.int .i64 s.size)
 | some (.slice _), .slice _ n _ => some (.int .i64 n)
 | some (.array n _), .agg _ => some (.int .i64 n)
 | some (.array n _), .pointer _ => some (.int .i64 n)
 | some (.map _ _), .map none => some (.int .i64 0)
 | _, _ => none
theorem run_alen {P : Program} {ρ : Ren} {t ty : TypeId} {x v : Value} (h : alen P t x = some v) (w : World) :
 (Builtin.len_ #[t] ty #[ren ρ x]).run P w = .ok v w := by
 unfold alen at h
 split at h
 ·rename_i s hu; injection h with h; subst h
  simp [Builtin.len_, run_underlying hu, ren, goInt]
 ·rename_i a n c d hu; injection h with h; subst h
  cases n <;> simp [Builtin.len_, run_underlying hu, ren, goInt]
 ·rename_i n _ cs hu; injection h with h; subst h
  simp [Builtin.len_, run_underlying hu, ren, goInt]
 ·rename_i n _ a hu; injection h with h; subst h
  cases a <;> simp [Builtin.len_, run_underlying hu, ren, goInt]
 ·rename_i hu; injection h with h; subst h
  simp [Builtin.len_, run_underlying hu, ren, goInt]
 ·cases h
def afold (f : Int → Int → Int) (x : Int) : List Value → Option Int
 | [] => some x
 | .int _ y :: l => afold f (f x y) l
 | _ => none
def amm (f : Int → Int → Int) : List Value → Option Value
 | .int k x :: l => (afold f x l).map (.int k)
 | _ => none
def fmax (x y : Int) : Int := if y > x then y else x
def fmin (x y : Int) : Int := if y < x then y else x
theorem run_afold {P : Program} {ρ : Ren} {k : IntKind} {f : Int → Int → Int} {g : Value → Value → Sem Value} (hg : ∀ x j y, g (.int k x) (.int j y) = pure (.int k (f x y))) (w : World) :
 ∀ (l : List Value) (x r : Int), afold f x l = some r → ((l.map (ren ρ)).foldlM g (.int k x)).run P w = .ok (.int k r) w
 | [], x, r, h => by simp [afold] at h; simp [h]
 | v :: l, x, r, h => by
   cases v <;> simp only [afold] at h <;> first | (cases h; done) | skip
   rename_i j y
   simp only [List.map_cons, ren, List.foldlM_cons, hg]
   exact run_afold hg w l _ r h
theorem run_amm {P : Program} {ρ : Ren} {l : List Value} {v : Value} {ts : Array TypeId} {t : TypeId} (w : World) :
 (amm fmax l = some v → (Builtin.max_ ts t (l.map (ren ρ)).toArray).run P w = .ok v w) ∧ (amm fmin l = some v → (Builtin.min_ ts t (l.map (ren ρ)).toArray).run P w = .ok v w) := by
 constructor
 ·intro h
  cases l with
  | nil => simp [amm] at h
  | cons x l =>
    cases x <;> simp only [amm] at h <;> first | (cases h; done) | skip
    rename_i k x
    cases hf : afold fmax x l with
    | none => simp [hf] at h
    | some r =>
      simp [hf] at h; subst h
      simp only [Builtin.max_, List.map_cons, ren]
      exact run_afold (fun _ _ _ => rfl) w l x r hf
 ·intro h
  cases l with
  | nil => simp [amm] at h
  | cons x l =>
    cases x <;> simp only [amm] at h <;> first | (cases h; done) | skip
    rename_i k x
    cases hf : afold fmin x l with
    | none => simp [hf] at h
    | some r =>
      simp [hf] at h; subst h
      simp only [Builtin.min_, List.map_cons, ren]
      exact run_afold (fun _ _ _ => rfl) w l x r hf
theorem flat_amm {f : Int → Int → Int} {l : List Value} {v : Value} (h : amm f l = some v) : ∃ k n, v = .int k n := by
 cases l with
 | nil => simp [amm] at h
 | cons x l =>
   cases x <;> simp only [amm] at h <;> first | (cases h; done) | skip
   rename_i k x
   cases hf : afold f x l with
   | none => simp [hf] at h
   | some r => simp [hf] at h; exact ⟨_, _, h.symm⟩
def aconv (P : Program) (s d : TypeId) (x : Value) : Option Value :=
 match P.underlying s, P.underlying d, x with
 | some (.int _), some (.int k), .int _ n => some (.int k (k.wrap n))
 | some .string, some .string, .string b => some (.string b)
 | _, _, _ => none
theorem run_aconv {P : Program} {ρ : Ren} {s d : TypeId} {x v : Value} (h : aconv P s d x = some v) (w : World) :
 (convert s d (ren ρ x)).run P w = .ok v w := by
 unfold aconv at h
 split at h
 ·rename_i hs hd
  injection h with h; subst h
  simp [convert, run_underlying hs, run_underlying hd, ren, Conv.intToInt]
 ·rename_i hs hd
  injection h with h; subst h
  simp [convert, run_underlying hs, run_underlying hd, ren]
 ·cases h
def aun (op : UnOp) (x : Value) : Option Value :=
 match op, x with
 | .neg, .int k n => some (.int k (k.wrap (0 - n)))
 | .xor, .int k n => some (.int k (bits .xor k (if k.signed then -1 else k.max) n))
 | .not, .bool b => some (.bool !b)
 | _, _ => none
theorem run_aun {P : Program} {ρ : Ren} {op : UnOp} {x v : Value} (h : aun op x = some v) (w : World) :
 (Op.unary op (ren ρ x)).run P w = .ok v w := by
 unfold aun at h
 split at h
 ·injection h with h; subst h; simp [Op.unary, ren, Op.intArith]
 ·injection h with h; subst h; simp [Op.unary, ren, intBits_xor]
 ·injection h with h; subst h; simp [Op.unary, ren]
 ·cases h
def splice (c : List Value) (off : Nat) (vs : List Value) : List Value := c.take off ++ vs ++ c.drop (off + vs.length)
def vcells : Value → List Value
 | .agg cs => cs.toList
 | v => [v]
theorem cells_eq (v : Value) : v.cells = (vcells v).toArray := by cases v <;> simp [Value.cells, vcells]
theorem vcells_ren (ρ : Ren) (v : Value) : vcells (ren ρ v) = (vcells v).map (ren ρ) := by
 cases v with
 | agg a => simp [ren, renA_eq, vcells]
 | pointer a => cases a <;> rfl
 | slice a l c => cases a <;> rfl
 | map a => cases a <;> rfl
 | chan a => cases a <;> rfl
 | _ => rfl
def afill (place : Nat → Option (Nat × Nat)) (cells : List Value) : List (Nat × Value) → Option (List Value)
 | [] => some cells
 | (i, v) :: rest =>
   match place i with
   | none => none
   | some (off, size) =>
     if (vcells v).length ≠ size ∨ off + (vcells v).length > cells.length then none
     else afill place (splice cells off (vcells v)) rest
theorem splice_get {c vs : List Value} {off : Nat} (h : off + vs.length ≤ c.length) (j : Nat) :
 (splice c off vs)[j]? = if j < off then c[j]? else if j < off + vs.length then vs[j - off]? else c[j]? := by
 unfold splice
 have e : (c.take off).length = off := by rw [List.length_take]; omega
 by_cases h1 : j < off
 ·rw [if_pos h1, List.append_assoc, List.getElem?_append_left (by omega), List.getElem?_take_of_lt h1]
 ·rw [if_neg h1, List.append_assoc, List.getElem?_append_right (by omega), e]
  by_cases h2 : j < off + vs.length
  ·rw [if_pos h2, List.getElem?_append_left (by omega)]
  ·rw [if_neg h2, List.getElem?_append_right (by omega), List.getElem?_drop]
   congr 1; omega
theorem splice_length {c vs : List Value} {off : Nat} (h : off + vs.length ≤ c.length) : (splice c off vs).length = c.length := by
 unfold splice; simp; omega
theorem foldl_list (vs : List Value) : ∀ (c : List Value) (off k : Nat), off + k + vs.length ≤ c.length →
 (vs.zipIdx k).foldl (fun cs (x : Value × Nat) => cs.set (off + x.2) x.1) c = splice c (off + k) vs := by
 induction vs with
 | nil => intro c off k h; simp [splice]
 | cons v vs ih =>
   intro c off k h
   simp only [List.length_cons] at h
   simp only [List.zipIdx_cons, List.foldl_cons]
   rw [ih _ _ _ (by rw [List.length_set]; omega)]
   apply List.ext_getElem?
   intro j
   rw [splice_get (by rw [List.length_set]; omega), splice_get (by rw [List.length_cons]; omega)]
   simp only [List.length_cons]
   by_cases h1 : j < off + k
   ·rw [if_pos (by omega), if_pos h1, List.getElem?_set_ne (by omega)]
   ·by_cases h2 : j = off + k
    ·subst h2
     rw [if_pos (by omega), if_neg (by omega), if_pos (by omega), List.getElem?_set_self (by omega)]
     simp
    ·rw [if_neg (by omega), if_neg h1]
     by_cases h3 : j < off + k + (vs.length + 1)
     ·rw [if_pos (by omega), if_pos h3]
      obtain ⟨i, rfl⟩ : ∃ i, j = off + k + 1 + i := ⟨j - (off + k + 1), by omega⟩
      rw [show off + k + 1 + i - (off + (k + 1)) = i by omega, show off + k + 1 + i - (off + k) = i + 1 by omega, List.getElem?_cons_succ]
     ·rw [if_neg (by omega), if_neg h3, List.getElem?_set_ne (by omega)]
theorem foldl_arr (off : Nat) : ∀ (l : List (Value × Nat)) (c : Array Value),
 (l.foldl (fun cs (x : Value × Nat) => cs.setIfInBounds (off + x.2) x.1) c).toList = l.foldl (fun cs (x : Value × Nat) => cs.set (off + x.2) x.1) c.toList
 | [], c => rfl
 | x :: l, c => by
   simp only [List.foldl_cons]
   rw [foldl_arr off l]; simp
theorem foldl_set (vs : List Value) (c : Array Value) (off k : Nat) (h : off + k + vs.length ≤ c.size) :
 ((vs.zipIdx k).foldl (fun cs (x : Value × Nat) => cs.setIfInBounds (off + x.2) x.1) c).toList = splice c.toList (off + k) vs := by
 rw [foldl_arr, foldl_list vs _ _ _ (by simpa using h)]
theorem run_afill {ρ : Ren} {place : Nat → Option (Nat × Nat)} : ∀ (parts : List (Nat × Value)) (cells r : List Value), afill place cells parts = some r →
 Instr.fill place (cells.map (ren ρ)).toArray (parts.map fun p => (p.1, ren ρ p.2)) = some (r.map (ren ρ)).toArray
 | [], cells, r, h => by simp [afill] at h; subst h; rfl
 | (i, v) :: rest, cells, r, h => by
   simp only [afill] at h
   simp only [List.map_cons, Instr.fill]
   cases hp : place i with
   | none => simp [hp] at h
   | some os =>
     obtain ⟨off, size⟩ := os
     simp only [hp] at h ⊢
     have hl : (ren ρ v).cells.size = (vcells v).length := by rw [cells_eq, vcells_ren]; simp
     split at h
     ·cases h
     ·rename_i hc
      have hc1 : (vcells v).length = size := by omega
      have hc2 : off + (vcells v).length ≤ cells.length := by omega
      rw [hl, if_neg (by simp [hc1]; omega)]
      have ih := run_afill (ρ := ρ) rest _ r h
      have he : Array.foldl (fun (cs : Array Value) (x : Value × Nat) => cs.setIfInBounds (off + x.2) x.1) (cells.map (ren ρ)).toArray (ren ρ v).cells.zipIdx = ((splice cells off (vcells v)).map (ren ρ)).toArray := by
       apply Array.ext'
       have := foldl_set ((vcells v).map (ren ρ)) (cells.map (ren ρ)).toArray off 0 (by simpa using hc2)
       simp only [Nat.add_zero] at this
       rw [← Array.foldl_toList]
       rw [cells_eq, vcells_ren]
       simp only [Array.toList_zipIdx]
       rw [this]
       simp [splice, List.map_take, List.map_drop]
      exact he ▸ ih
end Go.Tm
/- The engine, sixth part: what an operation that leaves memory alone gives. -/
namespace Go.Tm
def aplaces (P : Program) : List Field → Option (List (Nat × Nat))
 | [] => some []
 | f :: l =>
   match asz P f.type, aplaces P l with
   | some n, some r => some ((f.offset, n) :: r)
   | _, _ => none
theorem run_aplaces {P : Program} (w : World) : ∀ (l : List Field) (r : List (Nat × Nat)), aplaces P l = some r →
 (l.mapM fun f => do pure (f.offset, ← sizeOf f.type) : Sem (List (Nat × Nat))).run P w = .ok r w
 | [], r, h => by simp [aplaces] at h; subst h; rfl
 | f :: l, r, h => by
   simp only [aplaces] at h
   cases h1 : asz P f.type with
   | none => simp [h1] at h
   | some n =>
     cases h2 : aplaces P l with
     | none => simp [h1, h2] at h
     | some r' =>
       simp [h1, h2] at h; subst h
       have ih := run_aplaces w l r' h2
       simp only [List.mapM_cons, Sem.run_bind, run_sizeOf h1, Result.andThen_ok, Sem.run_pure, ih]
def azero (P : Program) (t : TypeId) : Option Value :=
 match P.info? t with
 | some i => match i.zero with
   | some z => if cl 0 z then some z else none
   | none => none
 | none => none
theorem run_azero {P : Program} {t : TypeId} {z : Value} (h : azero P t = some z) (w : World) : (zeroValue t).run P w = .ok z w ∧ cl 0 z = true ∧ (P.info? t).bind (·.zero) = some z := by
 unfold azero at h
 cases hi : P.info? t with
 | none => simp [hi] at h
 | some i =>
   simp only [hi] at h
   cases hz : i.zero with
   | none => simp [hz] at h
   | some z' =>
     simp only [hz] at h
     split at h
     ·rename_i hc
      injection h with h; subst h
      exact ⟨by simp [zeroValue, typeInfo, hi, hz], hc, by simp [hz]⟩
     ·cases h
theorem azero_vcells {ρ : Ren} {P : Program} {t : TypeId} {z : Value} (h : azero P t = some z) : ren ρ z = z ∧ ∀ n, sc n z = true := by
 have hc := (run_azero h default).2.1
 exact ⟨ren_id ρ 0 (fun _ hb => by omega) z hc, fun n => sc_mono 0 n (Nat.zero_le _) z (sc_of_cl 0 z hc)⟩
theorem sc_vcells {n : Nat} {v : Value} (h : sc n v = true) : ∀ x, x ∈ vcells v → sc n x = true := by
 cases v <;> simp only [vcells] <;> first
  | (intro x hx; simp only [List.mem_singleton] at hx; subst hx; exact h)
  | skip
 rename_i a
 simp only [sc] at h
 cases a with | mk l => simpa [scA, scL_iff] using h
def abuild (P : Program) (t : TypeId) (parts : List (Nat × Value)) : Option Value :=
 match azero P t with
 | some z => match P.underlying t with
   | some (.struct fields) => match aplaces P fields.toList with
     | some ps => (afill (ps[·]?) (vcells z) parts).map fun l => .agg l.toArray
     | none => none
   | some (.array _ e) => match asz P e with
     | some size => (afill (fun i => some (i * size, size)) (vcells z) parts).map fun l => .agg l.toArray
     | none => none
   | _ => none
 | none => none
theorem sc_splice {n : Nat} {c vs : List Value} {off : Nat} (h1 : ∀ x, x ∈ c → sc n x = true) (h2 : ∀ x, x ∈ vs → sc n x = true) : ∀ x, x ∈ splice c off vs → sc n x = true := by
 intro x hx
 unfold splice at hx
 simp only [List.mem_append] at hx
 rcases hx with (hx | hx) | hx
 ·exact h1 x (List.mem_of_mem_take hx)
 ·exact h2 x hx
 ·exact h1 x (List.mem_of_mem_drop hx)
theorem sc_afill {n : Nat} {place : Nat → Option (Nat × Nat)} : ∀ (parts : List (Nat × Value)) (cells r : List Value), afill place cells parts = some r →
 (∀ x, x ∈ cells → sc n x = true) → (∀ p, p ∈ parts → sc n p.2 = true) → ∀ x, x ∈ r → sc n x = true
 | [], cells, r, h, h1, _ => by simp [afill] at h; subst h; exact h1
 | (i, v) :: rest, cells, r, h, h1, h2 => by
   simp only [afill] at h
   cases hp : place i with
   | none => simp [hp] at h
   | some os =>
     obtain ⟨off, size⟩ := os
     simp only [hp] at h
     split at h
     ·cases h
     ·exact sc_afill rest _ r h (sc_splice h1 (sc_vcells (h2 (i, v) (by simp)))) (fun p hp => h2 p (by simp [hp]))
theorem run_abuild {P : Program} {ρ : Ren} {t : TypeId} {parts : List (Nat × Value)} {v : Value} (h : abuild P t parts = some v) (w : World) :
 (Instr.build t (parts.map fun p => (p.1, ren ρ p.2)).toArray).run P w = .ok (ren ρ v) w := by
 unfold abuild at h
 cases hz : azero P t with
 | none => simp [hz] at h
 | some z =>
   simp only [hz] at h
   obtain ⟨r0, _⟩ := run_azero hz w
   have e0 := (azero_vcells (ρ := ρ) hz).1
   have e1 : z.cells = ((vcells z).map (ren ρ)).toArray := by rw [← vcells_ren, e0, cells_eq]
   split at h
   ·rename_i fields hu
    cases hp : aplaces P fields.toList with
    | none => simp [hp] at h
    | some ps =>
      simp only [hp] at h
      cases hf : afill (ps[·]?) (vcells z) parts with
      | none => simp [hf] at h
      | some l =>
        simp [hf] at h; subst h
        have rf := run_afill (ρ := ρ) parts (vcells z) l hf
        have rp := run_aplaces w fields.toList ps hp
        simp only [Instr.build, Sem.run_bind, r0, Result.andThen_ok, run_underlying hu, Array.mapM_eq_mapM_toList, Sem.run_map, rp, e1]
        have : (fun (x : Nat) => (ps.toArray : Array (Nat × Nat))[x]?) = (ps[·]?) := by funext x; simp
        rw [this, rf]
        simp [ren_agg]
   ·rename_i k e hu
    cases hs : asz P e with
    | none => simp [hs] at h
    | some size =>
      simp only [hs] at h
      cases hf : afill (fun i => some (i * size, size)) (vcells z) parts with
      | none => simp [hf] at h
      | some l =>
        simp [hf] at h; subst h
        have rf := run_afill (ρ := ρ) parts (vcells z) l hf
        simp only [Instr.build, Sem.run_bind, r0, Result.andThen_ok, run_underlying hu, run_sizeOf hs, e1]
        rw [rf]
        simp [ren_agg]
   ·cases h
theorem sc_abuild {P : Program} {n : Nat} {t : TypeId} {parts : List (Nat × Value)} {v : Value} (h : abuild P t parts = some v) (hs : ∀ p, p ∈ parts → sc n p.2 = true) : sc n v = true := by
 unfold abuild at h
 cases hz : azero P t with
 | none => simp [hz] at h
 | some z =>
   simp only [hz] at h
   have hz' := (azero_vcells (ρ := fun b => ⟨b, 0, 0⟩) hz).2 n
   split at h
   ·rename_i fields hu
    cases hp : aplaces P fields.toList with
    | none => simp [hp] at h
    | some ps =>
      simp only [hp] at h
      cases hf : afill (ps[·]?) (vcells z) parts with
      | none => simp [hf] at h
      | some l =>
        simp [hf] at h; subst h
        simp only [sc, scA, scL_iff]
        exact sc_afill parts _ l hf (sc_vcells hz') hs
   ·rename_i k e hu
    cases hs' : asz P e with
    | none => simp [hs'] at h
    | some size =>
      simp only [hs'] at h
      cases hf : afill (fun i => some (i * size, size)) (vcells z) parts with
      | none => simp [hf] at h
      | some l =>
        simp [hf] at h; subst h
        simp only [sc, scA, scL_iff]
        exact sc_afill parts _ l hf (sc_vcells hz') hs
   ·cases h
def apure (P : Program) (ev : Operand → Value) : Op → Option Value
 | .move x => some (ev x)
 | .assign x => some (ev x)
 | .pick c a b => match ev c with
   | .bool t => some (if t then ev a else ev b)
   | _ => none
 | .build t parts => abuild P t (parts.toList.map fun p => (p.1, ev p.2))
 | .nilCheck x => match ev x with
   | .pointer (some a) => some (.pointer (some a))
   | .func (.func f) x y => some (.func (.func f) x y)
   | .iface t v => some (.iface t v)
   | _ => none
 | .binOp op t x y _ => abin P (isConst x || isConst y) op t (ev x) (ev y)
 | .unOp op _ x => aun op (ev x)
 | .convert s d x => aconv P s d (ev x)
 | .makeInterface t x => match P.underlying t with
   | some (.interface _) => none
   | some _ => some (.iface t (ev x))
   | none => none
 | .makeFunc (.func f) first cap => some (.func (.func f) (first.toList.map ev).toArray (cap.toList.map ev).toArray)
 | .slice t x lo hi none => asl P t (ev x) (lo.map ev) (hi.map ev)
 | .fieldAddr t x f => afieldAddr P t (ev x) f
 | .field t x f => afield P t (ev x) f
 | .indexAddr t x i => aindexAddr P t (ev x) (ev i)
 | .index t x i => aindex P t (ev x) (ev i)
 | .extract x i => aextract (ev x) i
 | .call { callee := .builtin .len, args, argTypes } =>
   match args.toList, argTypes.toList with
   | [x], [t] => alen P t (ev x)
   | _, _ => none
 | .call { callee := .builtin .max, args, argTypes := _ } => amm fmax (args.toList.map ev)
 | .call { callee := .builtin .min, args, argTypes := _ } => amm fmin (args.toList.map ev)
 | _ => none
theorem run_apure {P : Program} {ρ : Ren} {ev : Operand → Value} {o : Oper} {v : Value} (h : apure P ev o.op = some v) (w : World) :
 (execOp (fun x => ren ρ (ev x)) o).run P w = .ok (.value (ren ρ v)) w := by
 obtain ⟨dst, op, ty, pos, after, guard⟩ := o
 simp only at h
 unfold apure at h
 split at h
 ·injection h with h; subst h; rfl
 ·injection h with h; subst h; rfl
 ·rename_i c a b
  split at h
  ·rename_i t hc
   injection h with h; subst h
   simp only [execOp, hc, ren, asBool, Sem.run_bind, Sem.run_pure, Result.andThen_ok]
   cases t <;> rfl
  ·cases h
 ·rename_i t parts
  have := run_abuild (ρ := ρ) h w
  simp only [execOp, Sem.run_bind]
  have e : (parts.map fun x => (x.1, ren ρ (ev x.2))) = (List.map (fun p => (p.1, ren ρ p.2)) (List.map (fun p => (p.1, ev p.2)) parts.toList)).toArray := by
   apply Array.ext'; simp
  rw [show (parts.map fun (x : Nat × Operand) => match x with | (i, x) => (i, ren ρ (ev x))) = (parts.map fun x => (x.1, ren ρ (ev x.2))) from rfl, e, this]
  rfl
 ·rename_i x
  split at h
  all_goals first
   | (rename_i hx; injection h with h; subst h; simp only [execOp, hx, ren]; rfl)
   | (cases h; done)
 ·rename_i op t x y yt
  have hg := run_eqGuard (ρ := ρ) (x := x) (y := y) h
  have hb := run_abin (ρ := ρ) h w
  have hf := (flat_abin h ρ 0).1
  simp only [execOp, Sem.run_bind, hg, Sem.run_pure, Result.andThen_ok, hb, hf]
 ·have hb := run_aun (P := P) (ρ := ρ) h w
  have hf : ren ρ v = v := by
   unfold aun at h
   split at h <;> first | (injection h with h; subst h; rfl) | (cases h; done)
  simp only [execOp, Sem.run_bind, Sem.run_pure, Result.andThen_ok, hb, hf]
 ·have hb := run_aconv (P := P) (ρ := ρ) h w
  have hf : ren ρ v = v := by
   unfold aconv at h
   split at h <;> first | (injection h with h; subst h; rfl) | (cases h; done)
  simp only [execOp, Sem.run_bind, Sem.run_pure, Result.andThen_ok, hb, hf]
 ·rename_i t x
  split at h
  ·cases h
  ·rename_i d hd hu
   injection h with h; subst h
   simp only [execOp, Instr.makeInterface, Sem.run_bind, run_underlying hu, Result.andThen_ok, ren]
   cases d <;> first | rfl | exact absurd rfl (hd _)
  ·cases h
 ·rename_i f first cap
  injection h with h; subst h
  simp only [execOp, Instr.makeFunc, Sem.run_bind, Sem.run_pure, Result.andThen_ok, ren, renA_eq]
  congr 2
  simp only [Value.func.injEq, true_and]
  constructor <;> (apply Array.ext'; simp)
 ·rename_i t x lo hi
  have := run_asl (ρ := ρ) h w
  simp only [Option.map_map] at this
  simp only [execOp, Sem.run_bind, Option.map_none]
  rw [show (Option.map (fun x => ren ρ (ev x)) lo) = Option.map (ren ρ ∘ ev) lo from rfl, show (Option.map (fun x => ren ρ (ev x)) hi) = Option.map (ren ρ ∘ ev) hi from rfl, this]
  rfl
 ·simp only [execOp, Sem.run_bind, run_afieldAddr (ρ := ρ) h w]; rfl
 ·simp only [execOp, Sem.run_bind, run_afield (ρ := ρ) h w]; rfl
 ·simp only [execOp, Sem.run_bind, run_aindexAddr (ρ := ρ) h w]; rfl
 ·simp only [execOp, Sem.run_bind, run_aindex (ρ := ρ) h w]; rfl
 ·simp only [execOp, Sem.run_bind, run_aextract (ρ := ρ) h w]; rfl
 ·rename_i args argTypes
  split at h
  ·rename_i x t hx ht
   obtain ⟨args⟩ := args
   obtain ⟨argTypes⟩ := argTypes
   simp only at hx ht; subst hx ht
   have hl := run_alen (ρ := ρ) (ty := ty) h w
   have hf : ren ρ v = v := by
    unfold alen at h
    split at h <;> first | (injection h with h; subst h; rfl) | (cases h; done)
   simp [execOp, resolve, invoke, builtin, hl, hf]
  ·cases h
 ·rename_i args argTypes
  obtain ⟨args⟩ := args
  have hl := (run_amm (P := P) (ρ := ρ) (ts := argTypes) (t := ty) w).1 h
  have hf : ren ρ v = v := by obtain ⟨k, n, rfl⟩ := flat_amm h; rfl
  simp only [List.map_map] at hl
  simp [execOp, resolve, invoke, builtin, hf]
  rw [show (fun x => ren ρ (ev x)) = ren ρ ∘ ev from rfl, hl]; rfl
 ·rename_i args argTypes
  obtain ⟨args⟩ := args
  have hl := (run_amm (P := P) (ρ := ρ) (ts := argTypes) (t := ty) w).2 h
  have hf : ren ρ v = v := by obtain ⟨k, n, rfl⟩ := flat_amm h; rfl
  simp only [List.map_map] at hl
  simp [execOp, resolve, invoke, builtin, hf]
  rw [show (fun x => ren ρ (ev x)) = ren ρ ∘ ev from rfl, hl]; rfl
 ·cases h
end Go.Tm
/- The engine, seventh part: operations on memory, and the run of code. (Definitions.) -/
namespace Go.Tm
def acells (E : Env) (h : Heap) (a : Addr) (n : Nat) : Option (List Value) :=
 match a.spot with
 | some _ => none
 | none =>
   if a.block < E.base then
    match E.ro a.block with
    | some (.cells c _ _) => if a.off + n ≤ c.size ∧ ((c.toList.drop a.off).take n).all (cl1 E.base) = true then some (((c.toList.drop a.off).take n).map enc1) else none
    | _ => none
   else match h.get a.block with
    | some (.cells c _ _) => if a.off + n ≤ c.length then some ((c.drop a.off).take n) else none
    | _ => none
def aload (E : Env) (h : Heap) (t : TypeId) (x : Value) : Option Value :=
 match x with
 | .pointer (some a) =>
   match aagg E.P t, asz E.P t with
   | some true, some n => (acells E h a n).map fun l => .agg l.toArray
   | some false, _ => (acells E h a 1).bind fun l => l[0]?
   | _, _ => none
 | _ => none
def acan (h : Heap) (a : Addr) (n : Nat) : Bool :=
 match a.spot with
 | some _ => false
 | none => match h.get a.block with
   | some (.cells c _ _) => decide (a.off + n ≤ c.length)
   | _ => false
def awrite (h : Heap) (a : Addr) (vs : List Value) : Option Heap :=
 match a.spot with
 | some _ => none
 | none => match h.get a.block with
   | some (.cells c e fx) => if a.off + vs.length ≤ c.length ∧ vs.all Value.oneCell' = true then some (h.put a.block (.cells (splice c a.off vs) e fx)) else none
   | _ => none
def astore (E : Env) (h : Heap) (t : TypeId) (x v : Value) : Option Heap :=
 match x with
 | .pointer (some a) => if asz E.P t = some (vcells v).length then awrite h a (vcells v) else none
 | _ => none
def anew (h : Heap) : Addr := ⟨h.next, 0, none⟩
def arep : Nat → List Value → List Value
 | 0, _ => []
 | n + 1, z => z ++ arep n z
def aalloc (P : Program) (ev : Operand → Value) : Op → Option ((Nat → Value) × AObj)
 | .alloc e => (azero P e).map fun z => (fun b => .pointer (some ⟨b, 0, none⟩), .cells (vcells z) e true)
 | .box e x => some (fun b => .pointer (some ⟨b, 0, none⟩), .cells (vcells (ev x)) e true)
 | .buildSlice t len parts =>
   match P.underlying t with
   | some (.slice e) =>
     match asz P e, azero P e with
     | some (size + 1), some z =>
       if len * (size + 1) ≤ 16777216 ∧ (vcells z).length = size + 1 then
        (afill (fun i => some (i * (size + 1), size + 1)) (arep len (vcells z)) (parts.toList.map fun p => (p.1, ev p.2))).map fun l =>
         (fun b => .slice (some ⟨b, 0, none⟩) len len, .cells l e true)
       else none
     | _, _ => none
   | _ => none
 | .makeSlice t l c =>
   match P.underlying t, ev l, ev c with
   | some (.slice e), .int _ l, .int _ c =>
     match P.info? e, azero P e with
     | some i, some z =>
       if 0 ≤ l ∧ l ≤ c ∧ c ≤ 9223372036854775807 ∧ (i.bytes : Int) * c ≤ 281474976710656 ∧ (vcells z).length = i.size ∧ 0 < i.size then
        some (fun b => .slice (some ⟨b, 0, none⟩) l.toNat c.toNat, .cells (arep c.toNat (vcells z)) e true)
       else none
     | _, _ => none
   | _, _, _ => none
 | .makeMap _ none => some (fun b => .map (some b), .map [] 0)
 | .range t x =>
   match P.underlying t, ev x with
   | some .string, .string s => some (fun b => .pointer (some ⟨b, 0, none⟩), .iter s 0)
   | _, _ => none
 | _ => none
def afindKey (k : Value) : List MapEntry → Option Nat
 | [] => none
 | e :: es =>
   match k, e.key with
   | .int _ a, .int _ b => if a = b then some 0 else (afindKey k es).map (· + 1)
   | .string a, .string b => if a.data.toList == b.data.toList then some 0 else (afindKey k es).map (· + 1)
   | _, _ => none
def akeyOk (P : Program) (kt : TypeId) (k : Value) (es : List MapEntry) : Bool :=
 match P.underlying kt, k with
 | some (.int _), .int j _ => es.all fun e => match e.key with | .int j' _ => decide (j' = j) | _ => false
 | some .string, .string _ => es.all fun e => match e.key with | .string _ => true | _ => false
 | _, _ => false
def isU8 (P : Program) (e : TypeId) : Bool :=
 match P.underlying e with
 | some (.int .u8) => true
 | _ => false
def ament (h : Heap) (m : Value) : Option (List MapEntry) :=
 match m with
 | .map none => some []
 | .map (some r) => match h.get r with
   | some (.map es _) => some es
   | _ => none
 | _ => none
def alookup (E : Env) (h : Heap) (t : TypeId) (m k : Value) (ok : Bool) : Option Value :=
 match E.P.underlying t, ament h m with
 | some (.map kt et), some es =>
   if akeyOk E.P kt k es then
    match afindKey k es with
    | some i => match es[i]? with
      | some e => some (if ok then .tuple #[e.val, .bool true] else e.val)
      | none => none
    | none => match azero E.P et with
      | some z => some (if ok then .tuple #[z, .bool false] else z)
      | none => none
   else none
 | _, _ => none
def aread (E : Env) (h : Heap) (ev : Operand → Value) : Op → Option Value
 | .load t a => aload E h t (ev a)
 | .lookup t m k ok => alookup E h t (ev m) (ev k) ok
 | .convert s d x =>
   match E.P.underlying s, E.P.underlying d, ev x with
   | some (.slice e), some .string, .slice none _ _ => if isU8 E.P e = true then some (.string .empty) else none
   | some (.slice e), some .string, .slice (some a) n _ =>
     if isU8 E.P e = true then
      match acells E h a n with
      | some l => if l.all (fun | .int .u8 _ => true | _ => false) then some (.string ⟨(l.map fun | .int _ b => UInt8.ofNat b.toNat | _ => 0).toArray⟩) else none
      | none => none
     else none
   | _, _, _ => none
 | _ => none
inductive Eff where
 | val (v : Value) (h : Heap)
 | enter (f : FuncId) (args : List Value)
def asrc (E : Env) (h : Heap) (size : Nat) (x : Value) (n : Nat) : Option (List Value) :=
 match x with
 | .slice none _ _ => if n = 0 then some [] else none
 | .slice (some a) _ _ => if n * size = 0 then some [] else acells E h a (n * size)
 | .string s => some ((s.data.toList.take n).map fun b => .int .u8 b.toNat)
 | _ => none
def alenOf : Value → Option Nat
 | .slice _ n _ => some n
 | .string s => some s.size
 | _ => none
def isIntD : TypeDesc → Bool
 | .slice _ => false
 | .string => false
 | _ => true
def aend (a : Addr) : Nat :=
 match a.spot with
 | none => a.off
 | some d => a.off + d / 2
def evenS (a : Addr) : Bool :=
 match a.spot with
 | none => true
 | some d => !(d % 2 == 1)
def agrow (E : Env) (h : Heap) (e : TypeId) (i : TypeInfo) (base : Option Addr) (sLen sCap n : Nat) (news : List Value) : Option (Value × Heap) :=
 if (sLen + n) * i.bytes ≤ 140737488355328 ∧ news.length = n * i.size ∧ 0 < i.size ∧ sLen + n ≤ 9223372036854775807 ∧ news.all Value.oneCell' = true then
  match azero E.P e with
  | none => none
  | some z => if (vcells z).length = i.size then
   match base with
   | none => if sLen = 0 ∧ sCap = 0 then some (.slice (some (anew h)) n n, h.push (.cells news e false)) else none
   | some a =>
     match h.get a.block with
     | some (.cells c e' fx) =>
       if e' = e ∧ aend a + sCap * i.size = c.length ∧ (a.spot.isSome = true → sLen = 0 ∧ sCap = 0 ∧ evenS a = true) ∧ sLen ≤ sCap then
        if fx then some (.slice (some (anew h)) (sLen + n) (sLen + n), h.push (.cells ((c.drop a.off).take (sLen * i.size) ++ news) e false))
        else some (.slice (some (anew h)) (sLen + n) (sLen + n), (h.kill a.block).push (.cells ((c.drop a.off).take (sLen * i.size) ++ news) e false))
       else none
     | _ => none
    else none
 else none
def aappendE (E : Env) (h : Heap) (e : TypeId) (i : TypeInfo) (base : Option Addr) (sLen sCap n : Nat) (x : Value) : Option (Value × Heap) :=
 if n = 0 ∧ sLen ≤ sCap then some (.slice base sLen sCap, h) else
 match asrc E h i.size x n with
 | none => none
 | some news =>
   if sLen + n ≤ sCap then
    match base with
    | none => none
    | some a => match a.spot with
      | some _ => none
      | none => (awrite h (addo a (sLen * i.size)) news).map fun h' => (.slice base (sLen + n) sCap, h')
   else agrow E h e i base sLen sCap n news
def aappend (E : Env) (h : Heap) (t t1 : TypeId) (s x : Value) : Option (Value × Heap) :=
 match E.P.underlying t, E.P.underlying t1, s, alenOf x with
 | some (.slice e), some d1, .slice base sLen sCap, some n =>
   if isIntD d1 then none else
   match E.P.info? e with
   | none => none
   | some i => aappendE E h e i base sLen sCap n x
 | _, _, _, _ => none
def acopy (E : Env) (h : Heap) (t : TypeId) (d x : Value) : Option (Value × Heap) :=
 match E.P.underlying t, d, alenOf x with
 | some (.slice e), .slice base dLen _, some sn =>
   match asz E.P e with
   | none => none
   | some size =>
     let n := Nat.min sn dLen
     if n = 0 then some (.int .i64 0, h) else
     match asrc E h size x n, base with
     | some l, some a => if l.length = n * size then (awrite h a l).map fun h' => (.int .i64 n, h') else none
     | _, _ => none
 | _, _, _ => none
def aclear (E : Env) (h : Heap) (t : TypeId) (x : Value) : Option Heap :=
 match E.P.underlying t, x with
 | some (.slice _), .slice (some _) 0 _ => some h
 | some (.slice _), .slice none _ _ => some h
 | some (.slice e), .slice (some a) (n + 1) _ =>
   match azero E.P e with
   | some z => awrite h a (arep (n + 1) (vcells z))
   | none => none
 | _, _ => none
def aupdate (E : Env) (h : Heap) (t : TypeId) (m k v : Value) : Option Heap :=
 match E.P.underlying t, m with
 | some (.map kt _), .map (some r) =>
   match h.get r with
   | some (.map es clock) =>
     if akeyOk E.P kt k es then
      match afindKey k es with
      | some i => some (h.put r (.map (es.modify i fun e => { e with key := k, val := v }) clock))
      | none => some (h.put r (.map (es ++ [{ key := k, val := v, born := clock }]) (clock + 1)))
     else none
   | _ => none
 | _, _ => none
def adelete (E : Env) (h : Heap) (t : TypeId) (m k : Value) : Option Heap :=
 match E.P.underlying t, m with
 | some (.map kt _), .map (some r) =>
   match h.get r with
   | some (.map es clock) =>
     if akeyOk E.P kt k es then
      match afindKey k es with
      | some i => some (h.put r (.map (es.eraseIdx i) clock))
      | none => some h
     else none
   | _ => none
 | _, _ => none
def anext (h : Heap) (it : Value) (isS : Bool) : Option (Value × Heap) :=
 match it, isS with
 | .pointer (some ⟨b, 0, none⟩), true =>
   match h.get b with
   | some (.iter s pos) =>
     if pos < s.size then
      let x := Utf8.decode s pos
      some (.tuple #[.bool true, .int .i64 pos, .int .i32 x.1], h.put b (.iter s (pos + x.2)))
     else some (.tuple #[.bool false], h)
   | _ => none
 | _, _ => none
def aeff (E : Env) (h : Heap) (ev : Operand → Value) : Op → Option Eff
 | .store t a v => (astore E h t (ev a) (ev v)).map (.val undef)
 | .next it isS => (anext h (ev it) isS).map fun p => .val p.1 p.2
 | .insert t m k v => (aupdate E h t (ev m) (ev k) (ev v)).map (.val undef)
 | .mapUpdate t m k v => (aupdate E h t (ev m) (ev k) (ev v)).map (.val undef)
 | .call { callee := .builtin b, args, argTypes } =>
   match b, args.toList, argTypes.toList with
   | .append, [s, x], [t, t1] => (aappend E h t t1 (ev s) (ev x)).map fun p => .val p.1 p.2
   | .copy, [d, x], [t, _] => (acopy E h t (ev d) (ev x)).map fun p => .val p.1 p.2
   | .clear, [x], [t] => (aclear E h t (ev x)).map (.val (.tuple #[]))
   | _, _, _ => none
 | .call { callee := .value f, args, argTypes := _ } =>
   match ev f with
   | .func (.func g) first cap => some (.enter g (first.toList ++ args.toList.map ev ++ cap.toList))
   | _ => none
 | .call { callee := .invoke r name, args, argTypes := _ } =>
   match ev r with
   | .iface t v =>
     match E.P.info? t with
     | none => none
     | some i => match i.methods.toList.find? (·.name == name) with
       | some m => match m.path.toList, m.func, E.P.underlying t with
         | [], some (f, true), some (.pointer _) => some (.enter f (v :: args.toList.map ev))
         | _, _, _ => none
       | none => none
   | _ => none
 | _ => none
inductive Ex where
 | normal
 | ret
 | exit (id : Nat)
 | goto (l : Nat)
structure St where
 tm : Tr Value
 h : Heap
def fget (tm : Tr Value) (t : Nat) : Value :=
 match tm.get t with
 | some v => v
 | none => undef
def opd (tm : Tr Value) : Operand → Value
 | .tmp t => fget tm t
 | .const v => v
 | .global g => .pointer (some ⟨g, 0, none⟩)
 | .func f => .func (.func f) #[] #[]
def aput (tm : Tr Value) (d : Option Nat) (v : Value) : Tr Value :=
 match d with
 | some d => tm.set d (some v)
 | none => tm
def afrom : Nat → List Value → Tr Value → Tr Value
 | _, [], tm => tm
 | k, v :: l, tm => afrom (k + 1) l (tm.set k (some v))
inductive Kind where
 | pure
 | read
 | alloc
 | eff
def kindOf (P : Program) : Op → Kind
 | .alloc _ | .box _ _ | .buildSlice _ _ _ | .makeSlice _ _ _ | .makeMap _ _ | .range _ _ => .alloc
 | .load _ _ | .lookup _ _ _ _ => .read
 | .store _ _ _ | .mapUpdate _ _ _ _ | .insert _ _ _ _ | .next _ _ => .eff
 | .convert s _ _ => match P.underlying s with
   | some (.slice _) => .read
   | _ => .pure
 | .call { callee := .builtin .len, argTypes, .. } => match argTypes.toList with
   | [t] => match P.underlying t with
     | some (.map _ _) => .read
     | _ => .pure
   | _ => .pure
 | .call { callee := .builtin .max, .. } | .call { callee := .builtin .min, .. } => .pure
 | .call _ => .eff
 | _ => .pure
def awanted (ops : List Oper) (tm : Tr Value) (o : Oper) : Bool :=
 match o.guard with
 | none => true
 | some (j, want) => match (ops[j]?).bind (·.dst) with
   | some d => match fget tm d with
     | .bool b => b == want
     | _ => false
   | none => false
abbrev Caller := FuncId → List Value → Heap → Option (Value × Heap)
def aop (E : Env) (call : Caller) (op : Op) (s : St) : Option (Value × Heap) :=
 match kindOf E.P op with
 | .pure => (apure E.P (opd s.tm) op).map fun v => (v, s.h)
 | .read => (aread E s.h (opd s.tm) op).map fun v => (v, s.h)
 | .alloc => (aalloc E.P (opd s.tm) op).map fun p => (p.1 s.h.next, s.h.push p.2)
 | .eff => match aeff E s.h (opd s.tm) op with
   | some (.val v h) => some (v, h)
   | some (.enter f args) => call f args s.h
   | none => none
def aop1 (E : Env) (call : Caller) (ops : List Oper) (o : Oper) (s : St) : Option St :=
 if awanted ops s.tm o then
  match aop E call o.op s with
  | some (v, h) => some ⟨aput s.tm o.dst v, h⟩
  | none => none
 else some ⟨aput s.tm o.dst undef, s.h⟩
def aops (E : Env) (call : Caller) (ops : List Oper) : List Oper → St → Option St
 | [], s => some s
 | o :: l, s => match aop1 E call ops o s with
   | some s' => aops E call ops l s'
   | none => none
def arounds (body : St → Option (Ex × St)) : Nat → St → Option (Ex × St)
 | 0, _ => none
 | n + 1, s => match body s with
   | some (.normal, s') => arounds body n s'
   | r => r
def aresults (E : Env) (s : St) : List ResultVar → Option (List Value)
 | [] => some []
 | .tmp t :: l => (aresults E s l).map (fget s.tm t :: ·)
 | .cell a t :: l => match aload E s.h t (fget s.tm a), aresults E s l with
   | some v, some r => some (v :: r)
   | _, _ => none
def aret : List Value → Value
 | [v] => v
 | l => .tuple l.toArray
def ascope (run : Code → St → Option (Ex × St)) (body : Code) : Nat → Code → St → Option (Ex × St)
 | 0, _, _ => none
 | n + 1, c, s => match run c s with
   | some (.goto l, s') => match findLabel body l with
     | some rest => ascope run body n rest s'
     | none => none
   | r => r
def aleave (E : Env) (fn : Func) : Option (Ex × St) → Option (Value × Heap)
 | some (.normal, s') => (aresults E s' fn.results.toList).map fun l => (aret l, s'.h)
 | some (.ret, s') => (aresults E s' fn.results.toList).map fun l => (aret l, s'.h)
 | _ => none
def acallText (E : Env) (run : Code → St → Option (Ex × St)) (f : FuncId) (args : List Value) (h : Heap) : Option (Value × Heap) :=
 match E.P.funcs.toList[f]? with
 | some fn => match fn.body with
   | some b => if args.length ≤ fn.ntmps ∧ (fn.name == "runtime.NumGoroutine") = false then aleave E fn (run b ⟨afrom 0 args .leaf, h⟩) else none
   | none => none
 | none => none
def acallBy (E : Env) (run : Code → St → Option (Ex × St)) (f : FuncId) (args : List Value) (h : Heap) : Option (Value × Heap) :=
 match E.known f args with
 | some v => some (v, h)
 | none => acallText E run f args h
end Go.Tm
namespace Go.Tm
theorem cell_at {w : World} {r o : Nat} {c : List Value} {e : TypeId} {fr : Nat × Nat} (h : w.heap[r]? = some (.cells c.toArray e fr)) : w.cell? ⟨r, o, none⟩ = c[o]? := by
 simp [World.cell?, h]
theorem acells_run {E : Env} {B : Nat} {ρ : Ren} {h : Heap} {w : World} (H : HR E B ρ h w) {a : Addr} {n : Nat} {l : List Value} (hl : acells E h a n = some l) :
 (∀ j v, (l.map (ren ρ))[j]? = some v → w.cell? ((rena ρ a).add j) = some v) ∧ l.length = n ∧ (∀ v, v ∈ l → sc h.next v = true) ∧ a.spot = none := by
 unfold acells at hl
 split at hl
 ·cases hl
 ·rename_i hsp
  have hadd : ∀ j, (rena ρ a).add j = ⟨(ρ a.block).r, a.off + (ρ a.block).sh + j, none⟩ := fun j => by rw [rena_add hsp, rena_addo]
  split at hl
  ·rename_i hb
   split at hl
   ·rename_i c e fr hro
    split at hl
    ·rename_i hc
     injection hl with hl
     obtain ⟨h1, h2⟩ := hc
     have hw := H.ro _ _ hb hro
     have hx := H.fix _ hb
     rw [List.all_eq_true] at h2
     have hid : ∀ v, v ∈ l → sc h.next v = true := by
      intro v hv
      rw [← hl] at hv
      obtain ⟨u, hu, rfl⟩ := List.mem_map.1 hv
      exact sc_mono _ _ H.base_le _ (sc_enc1 _ u (h2 u hu))
     refine ⟨?_, by rw [← hl]; simp; omega, fun v hv => hid v hv, hsp⟩
     intro j v hj
     rw [hadd, hx]
     have hm : l.map (ren ρ) = (c.toList.drop a.off).take n := by
      rw [← hl, List.map_map]
      conv => rhs; rw [← List.map_id ((c.toList.drop a.off).take n)]
      exact List.map_congr_left fun v hv => ren_enc1 ρ E.base H.fix v (h2 v hv)
     rw [hm, List.getElem?_take] at hj
     split at hj
     ·rw [List.getElem?_drop] at hj
      simp [World.cell?, hw]
      simpa using hj
     ·cases hj
    ·cases hl
   ·cases hl
  ·split at hl
   ·rename_i c e fx hg
    split at hl
    ·rename_i hc
     injection hl with hl
     obtain ⟨_, _, _, hs, c', hw, ho⟩ := H.live _ _ hg
     cases c' <;> simp only [objR] at ho
     rename_i c' e' fr
     obtain ⟨rfl, _, pre, hid, rfl, hp, _, _⟩ := ho
     refine ⟨?_, by rw [← hl]; simp; omega, fun v hv => hs v (by rw [← hl] at hv; exact List.mem_of_mem_drop (List.mem_of_mem_take hv)), hsp⟩
     intro j v hj
     rw [hadd, cell_at hw]
     rw [← hl, List.map_take, List.map_drop, List.getElem?_take] at hj
     split at hj
     ·rename_i hjn
      rw [List.getElem?_drop] at hj
      rw [List.append_assoc, List.getElem?_append_right (by omega), List.getElem?_append_left (by simp; omega)]
      rw [← hj]; congr 1; omega
     ·cases hj
    ·cases hl
   ·cases hl
theorem run_aload {E : Env} {B : Nat} {ρ : Ren} {h : Heap} {w : World} (H : HR E B ρ h w) {t : TypeId} {x v : Value} (hl : aload E h t x = some v) :
 (Instr.loadAt t (ren ρ x)).run E.P w = .ok (ren ρ v) w ∧ sc h.next v = true ∧ ∃ a, x = .pointer (some a) := by
 unfold aload at hl
 split at hl
 ·rename_i a
  refine ⟨?_, ?_, _, rfl⟩
  ·split at hl
   ·rename_i n ha hz
    cases hc : acells E h a n with
    | none => simp [hc] at hl
    | some l =>
      simp [hc] at hl; subst hl
      obtain ⟨h1, h2, _, _⟩ := acells_run H hc
      simp only [Instr.loadAt, ren, Instr.sureAddr, Sem.run_bind, Sem.run_pure, Result.andThen_ok, loadVar, run_isAgg ha, if_true, run_sizeOf hz]
      have := run_loadCells_list (P := E.P) w (rena ρ a) (l.map (ren ρ)) h1
      rw [List.length_map, h2] at this
      rw [this]
      simp [renA, renL_eq]
   ·rename_i ha
    cases hc : acells E h a 1 with
    | none => simp [hc] at hl
    | some l =>
      simp [hc] at hl
      obtain ⟨h1, h2, _, _⟩ := acells_run H hc
      simp only [Instr.loadAt, ren, Instr.sureAddr, Sem.run_bind, Sem.run_pure, Result.andThen_ok, loadVar, run_isAgg ha]
      have := h1 0 (ren ρ v) (by simp [hl])
      rw [Addr.add_zero'] at this
      simp [this]
   ·cases hl
  ·split at hl
   ·rename_i n ha hz
    cases hc : acells E h a n with
    | none => simp [hc] at hl
    | some l =>
      simp [hc] at hl; subst hl
      obtain ⟨_, _, h3, _⟩ := acells_run H hc
      simp only [sc, scA, scL_iff]; exact h3
   ·cases hc : acells E h a 1 with
    | none => simp [hc] at hl
    | some l =>
      simp [hc] at hl
      exact (acells_run H hc).2.2.1 v (List.mem_of_getElem? hl)
   ·cases hl
 ·cases hl
theorem oneCell_ren (ρ : Ren) (v : Value) : (ren ρ v).oneCell' = v.oneCell' := by
 cases v with
 | pointer a => cases a <;> rfl
 | slice a l c => cases a <;> rfl
 | map a => cases a <;> rfl
 | chan a => cases a <;> rfl
 | _ => rfl
theorem splice_cons {c : List Value} {off : Nat} {v : Value} {vs : List Value} (h : off + (vs.length + 1) ≤ c.length) : splice (c.set off v) (off + 1) vs = splice c off (v :: vs) := by
 have := foldl_list vs (c.set off v) off 1 (by rw [List.length_set]; omega)
 rw [← this]
 have h2 := foldl_list (v :: vs) c off 0 (by rw [List.length_cons]; omega)
 rw [Nat.add_zero] at h2
 rw [← h2]
 simp [List.zipIdx_cons]
theorem setCell_setBlk {w : World} {r o : Nat} {c : List Value} {e : TypeId} {fr : Nat × Nat} {v : Value} (h : w.heap[r]? = some (.cells c.toArray e fr)) :
 w.setCell ⟨r, o, none⟩ v = setBlk w r (.cells (c.set o v).toArray e fr) := by
 unfold World.setCell setBlk
 congr 1
 apply Array.ext_getElem?
 intro j
 rw [Array.getElem?_modify, Array.getElem?_setIfInBounds]
 have hr : r < w.heap.size := by
  rcases Nat.lt_or_ge r w.heap.size with h' | h'
  ·exact h'
  ·simp [Array.getElem?_eq_none h'] at h
 by_cases e : r = j
 ·subst e
  rw [if_pos rfl, if_pos rfl, if_pos hr, h]
  simp
 ·simp [e]
theorem setBlk_same {w : World} {r : Nat} {c : Obj} (h : w.heap[r]? = some c) : setBlk w r c = w := by
 unfold setBlk
 have : w.heap.setIfInBounds r c = w.heap := by
  apply Array.ext_getElem?
  intro j
  rw [Array.getElem?_setIfInBounds]
  by_cases e : r = j
  ·subst e
   have hr : r < w.heap.size := by
    rcases Nat.lt_or_ge r w.heap.size with h' | h'
    ·exact h'
    ·simp [Array.getElem?_eq_none h'] at h
   rw [if_pos rfl, if_pos hr, h]
  ·simp [e]
 rw [this]
theorem setBlk_setBlk {w : World} {r : Nat} {c d : Obj} : setBlk (setBlk w r c) r d = setBlk w r d := by
 unfold setBlk; simp
theorem run_storeCells_blk {P : Program} {r off : Nat} {e : TypeId} {fr : Nat × Nat} : ∀ (vs : List Value) (w : World) (c : List Value) (k : Nat), w.heap[r]? = some (.cells c.toArray e fr) →
 (∀ i, i < c.length → ¬ (fr.1 ≤ i ∧ i < fr.2)) → off + k + vs.length ≤ c.length → vs.all Value.oneCell' = true →
 (storeCells ⟨r, off, none⟩ vs k).run P w = .ok () (setBlk w r (.cells (splice c (off + k) vs).toArray e fr))
 | [], w, c, k, hw, _, _, _ => by
   simp only [storeCells, Sem.run_pure]
   have : splice c (off + k) [] = c := by simp [splice]
   rw [this, setBlk_same hw]
 | v :: vs, w, c, k, hw, hf, hl, ho => by
   simp only [List.length_cons] at hl
   simp only [List.all_cons, Bool.and_eq_true] at ho
   have hcell : w.cell? ⟨r, off + k, none⟩ = c[off + k]? := cell_at hw
   have hlt : off + k < c.length := by omega
   have hfz : w.frozen? ⟨r, off + k, none⟩ = false := by
    have := hf (off + k) hlt
    simp [World.frozen?, hw]
    intro h1
    have := fun h2 => this ⟨h1, h2⟩
    omega
   simp only [storeCells, Sem.run_bind]
   rw [show (Addr.add ⟨r, off, none⟩ k) = ⟨r, off + k, none⟩ from Addr.add_lit r off k, run_store _ _ _ _ _ ho.1, hcell, List.getElem?_eq_getElem hlt]
   simp only [hfz, Bool.false_eq_true, if_false, Result.andThen_ok]
   rw [setCell_setBlk hw]
   have hr : r < w.heap.size := by
    rcases Nat.lt_or_ge r w.heap.size with h' | h'
    ·exact h'
    ·simp [Array.getElem?_eq_none h'] at hw
   rw [run_storeCells_blk (e := e) (fr := fr) vs _ (c.set (off + k) v) (k + 1) (by rw [heap_setBlk _ _ _ _ hr]; simp) (by simpa using hf) (by rw [List.length_set]; omega) ho.2]
   rw [setBlk_setBlk, show off + (k + 1) = off + k + 1 by omega, splice_cons (by omega)]
theorem splice_mid {pre c hid vs : List Value} {off : Nat} (h : off + vs.length ≤ c.length) : splice (pre ++ c ++ hid) (pre.length + off) vs = pre ++ splice c off vs ++ hid := by
 unfold splice
 rw [List.append_assoc pre c hid, List.take_length_add_append, Nat.add_assoc, List.drop_length_add_append]
 rw [List.take_append_of_le_length (by omega), List.drop_append_of_le_length (by omega)]
 simp
theorem map_splice (f : Value → Value) (c vs : List Value) (off : Nat) : (splice c off vs).map f = splice (c.map f) off (vs.map f) := by
 simp [splice, List.map_take, List.map_drop]
theorem run_awrite {E : Env} {B : Nat} {ρ : Ren} {h h' : Heap} {w : World} (H : HR E B ρ h w) {a : Addr} {vs : List Value} (hw : awrite h a vs = some h') (hs : ∀ v, v ∈ vs → sc h.next v = true) :
 ∃ w', (storeCells (rena ρ a) (vs.map (ren ρ)) 0).run E.P w = .ok () w' ∧ Step E B ρ h w ρ h' w' := by
 unfold awrite at hw
 split at hw
 ·cases hw
 ·rename_i hsp
  split at hw
  ·rename_i c e fx hg
   split at hw
   ·rename_i hc
    injection hw with hw; subst hw
    obtain ⟨hlen, hone⟩ := hc
    obtain ⟨_, _, _, hsc, c', hblk, ho⟩ := H.live _ _ hg
    cases c' <;> simp only [objR] at ho
    rename_i c' e' fr
    obtain ⟨rfl, hfx, pre, hid, rfl, hp, hh, hfr⟩ := ho
    have hra : rena ρ a = ⟨(ρ a.block).r, pre.length + a.off, none⟩ := by simp [rena, hsp, hp]; omega
    refine ⟨_, by
     rw [hra]
     refine run_storeCells_blk (vs.map (ren ρ)) w (pre ++ c.map (ren ρ) ++ hid) 0 hblk (fun i hi => hfr i (by simpa using hi)) (by simp; omega) ?_
     rw [List.all_eq_true] at hone ⊢
     intro x hx
     obtain ⟨y, hy, rfl⟩ := List.mem_map.1 hx
     rw [oneCell_ren]; exact hone y hy, ?_⟩
    rw [Nat.add_zero, splice_mid (by simpa using hlen)]
    refine Step.put H hg (sc_splice hsc hs) ?_
    refine ⟨rfl, hfx, pre, hid, by rw [map_splice], hp, hh, ?_⟩
    intro i hi
    refine hfr i ?_
    have : (splice (List.map (ren ρ) c) a.off (List.map (ren ρ) vs)).length = c.length := by rw [splice_length (by simpa using hlen)]; simp
    simp only [List.size_toArray, List.length_append, this, List.length_map] at hi ⊢
    exact hi
   ·cases hw
  ·cases hw
theorem run_astore {E : Env} {B : Nat} {ρ : Ren} {h h' : Heap} {w : World} (H : HR E B ρ h w) {t : TypeId} {x v : Value} (hw : astore E h t x v = some h') (hs : sc h.next v = true) :
 ∃ w', (Instr.storeAt t (ren ρ x) (ren ρ v)).run E.P w = .ok () w' ∧ Step E B ρ h w ρ h' w' := by
 unfold astore at hw
 split at hw
 ·rename_i a
  split at hw
  ·rename_i hz
   obtain ⟨w', r1, r2⟩ := run_awrite H hw (sc_vcells hs)
   refine ⟨w', ?_, r2⟩
   have hl : (ren ρ v).cells.size = (vcells v).length := by rw [cells_eq, vcells_ren]; simp
   have hl2 : (ren ρ v).cells.toList = (vcells v).map (ren ρ) := by rw [cells_eq, vcells_ren]
   simp only [Instr.storeAt, ren, Instr.sureAddr, Sem.run_bind, Sem.run_pure, Result.andThen_ok, storeVar, run_sizeOf hz, hl]
   simp [hl2, r1]
  ·cases hw
 ·cases hw
end Go.Tm
