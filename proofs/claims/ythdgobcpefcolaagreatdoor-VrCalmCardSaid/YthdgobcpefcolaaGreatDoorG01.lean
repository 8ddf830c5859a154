/- The engine, sixth part: what an operation that leaves memory alone gives. -/
/- Merged by a program of ours: Eng4 Eng5 Eng6. -/
import Derived.Test.YthdgobcpefcolaaGreatDoorG00
set_option maxRecDepth 10000
set_option linter.all false
set_option linter.unusedSimpArgs false
set_option linter.unusedVariables false
/- The engine, fourth part: the other operations that neither read nor write memory. -/
namespace Go.Tm

def asz (P : Program) (t : TypeId) : Option Nat := (P.info? t).map (·.size)
def aagg (P : Program) (t : TypeId) : Option Bool :=
  match P.underlying t with
  | some (.struct _) => some true
  | some (.array _ _) => some true
  | some _ => some false
  | none => none

theorem run_sizeOf {P : Program} {t : TypeId} {n : Nat} (h : asz P t = some n) (w : World) : (sizeOf t).run P w = .ok n w := by
  unfold asz at h
  cases hi : P.info? t with
  | none => simp [hi] at h
  | some i => simp [hi] at h; simp [sizeOf, typeInfo, hi, h]
theorem run_isAgg {P : Program} {t : TypeId} {b : Bool} (h : aagg P t = some b) (w : World) : (isAgg t).run P w = .ok b w := by
  unfold aagg at h
  unfold isAgg
  cases hu : P.underlying t with
  | none => simp [hu] at h
  | some d =>
    simp only [Sem.run_bind, run_underlying hu, Result.andThen_ok]
    rw [hu] at h
    cases d <;> simp at h <;> subst h <;> rfl

/- A part of a struct's or an array's value. -/
def apart (P : Program) (t : TypeId) (cs : List Value) (off : Nat) : Option Value :=
  match aagg P t, asz P t with
  | some true, some n => some (.agg ((cs.drop off).take n).toArray)
  | some false, _ => cs[off]?
  | _, _ => none

theorem ren_agg (ρ : Ren) (l : List Value) : ren ρ (.agg l.toArray) = .agg (l.map (ren ρ)).toArray := by simp [ren, renA_eq]

theorem run_apart {P : Program} {ρ : Ren} {t : TypeId} {cs : List Value} {off : Nat} {v : Value} (h : apart P t cs off = some v) (w : World) :
    (part t (cs.map (ren ρ)).toArray off).run P w = .ok (ren ρ v) w := by
  unfold apart at h
  split at h
  · rename_i n ha hz
    injection h with h; subst h
    unfold part
    simp only [Sem.run_bind, run_isAgg ha, Result.andThen_ok, if_true, run_sizeOf hz, Sem.run_pure]
    rw [ren_agg]
    congr 2
    apply Array.ext'
    simp [List.map_take, List.map_drop]
  · rename_i ha
    unfold part
    simp only [Sem.run_bind, run_isAgg ha, Result.andThen_ok]
    simp [h]
  · cases h

theorem sc_apart {P : Program} {n : Nat} {t : TypeId} {cs : List Value} {off : Nat} {v : Value} (h : apart P t cs off = some v) (hs : ∀ x, x ∈ cs → sc n x = true) : sc n v = true := by
  unfold apart at h
  split at h
  · injection h with h; subst h
    simp only [sc, scA, scL_iff]
    intro x hx
    exact hs x (List.mem_of_mem_drop (List.mem_of_mem_take hx))
  · exact hs v (List.mem_of_getElem? h)
  · cases h

def addo (a : Addr) (n : Nat) : Addr := ⟨a.block, a.off + n, none⟩

theorem add_of_none {a : Addr} (h : a.spot = none) (n : Nat) : a.add n = addo a n := by
  unfold Addr.add addo
  split
  · subst_vars; cases a; simp_all
  · rfl
theorem rena_addo (ρ : Ren) (a : Addr) (n : Nat) : rena ρ (addo a n) = ⟨(ρ a.block).r, a.off + (ρ a.block).sh + n, none⟩ := by
  simp [rena, addo]; omega
theorem rena_add {ρ : Ren} {a : Addr} (h : a.spot = none) (n : Nat) : (rena ρ a).add n = rena ρ (addo a n) := by
  rw [rena_addo, add_of_none (by simpa [rena] using h)]; rfl
theorem rens_none {ρ : Ren} {a : Addr} (h : a.spot = none) : rens ρ a = rena ρ a := by
  simp [rens, rena, h]

def abnd (v : Option Value) (dflt y : Nat) : Option Nat :=
  match v with
  | none => some dflt
  | some (.int _ i) => if 0 ≤ i ∧ i ≤ y then some i.toNat else none
  | _ => none

def asl (P : Program) (t : TypeId) (x : Value) (lo hi : Option Value) : Option Value :=
  match P.underlying t, x with
  | some .string, .string s =>
    match abnd hi s.size s.size with
    | none => none
    | some h => match abnd lo 0 h with
      | none => none
      | some l => some (.string (s.extract l h))
  | some (.slice e), .slice a len cap =>
    match abnd hi len cap, asz P e with
    | some h, some size => match abnd lo 0 h with
      | none => none
      | some l =>
        match a with
        | none => some (.slice none (h - l) (cap - l))
        | some a =>
          match a.spot with
          | none => if l < cap then some (.slice (some (addo a (l * size))) (h - l) (cap - l)) else if h ≤ cap then some (.slice (some ⟨a.block, a.off, some (2 * (l * size))⟩) (h - l) (cap - l)) else none
          | some _ => if l = 0 ∧ h = 0 ∧ cap = 0 ∧ len = 0 then some (.slice (some a) 0 0) else none
    | _, _ => none
  | _, _ => none

theorem run_abnd {P : Program} {ρ : Ren} {v : Value} {d y y' l : Nat} {code : BoundsCode} (h : abnd (some v) d y = some l) (hy : y ≤ y') (w : World) :
    (Instr.sliceBound (ren ρ v) y' code).run P w = .ok l w := by
  unfold abnd at h
  split at h
  · rename_i e; cases e
  · rename_i k i e
    injection e with e; subst e
    split at h
    · rename_i hi
      injection h with h
      have : 0 ≤ i ∧ i ≤ y' := ⟨hi.1, by have := hi.2; omega⟩
      simp [Instr.sliceBound, ren, asIntOf, this, h]
    · cases h
  · cases h

theorem abnd_le {v : Option Value} {d y l : Nat} (h : abnd v d y = some l) (hd : d ≤ y) : l ≤ y := by
  unfold abnd at h
  split at h
  · injection h with h; omega
  · split at h
    · rename_i hi; injection h with h; have := hi.2; omega
    · cases h
  · cases h

theorem run_bounds {P : Program} {ρ : Ren} {isS : Bool} {len cap cap' : Nat} {lo hi : Option Value} {h l : Nat} (hl : abnd hi len cap = some h) (ll : abnd lo 0 h = some l) (hc : cap ≤ cap') (w : World) :
    (Instr.sliceBounds isS len cap' (lo.map (ren ρ)) (hi.map (ren ρ)) none).run P w = .ok (l, h, cap') w := by
  unfold Instr.sliceBounds
  have r1 : ∀ v, hi = some v → (Instr.sliceBound (ren ρ v) cap' (if isS then .sliceAcap else .sliceAlen)).run P w = .ok h w := fun v e => run_abnd (d := len) (by rw [← e]; exact hl) hc w
  have r2 : ∀ v, lo = some v → (Instr.sliceBound (ren ρ v) h .sliceB).run P w = .ok l w := fun v e => run_abnd (d := 0) (by rw [← e]; exact ll) (Nat.le_refl _) w
  cases hi with
  | none =>
    simp only [abnd, Option.some.injEq] at hl; subst hl
    cases lo with
    | none => simp only [abnd, Option.some.injEq] at ll; subst ll; simp
    | some v => simp [r2 v rfl]
  | some u =>
    cases lo with
    | none => simp only [abnd, Option.some.injEq] at ll; subst ll; simp [r1 u rfl]
    | some v => simp [r1 u rfl, r2 v rfl]

theorem run_asl {P : Program} {ρ : Ren} {t : TypeId} {x v : Value} {lo hi : Option Value} (h : asl P t x lo hi = some v) (w : World) :
    (Instr.sliceAt t (ren ρ x) (lo.map (ren ρ)) (hi.map (ren ρ)) none).run P w = .ok (ren ρ v) w := by
  unfold asl at h
  split at h
  · rename_i s hu
    split at h
    · cases h
    · rename_i hh hb
      split at h
      · cases h
      · rename_i l lb
        injection h with h; subst h
        simp only [Instr.sliceAt, Sem.run_bind, run_underlying hu, Result.andThen_ok, Instr.slice, ren]
        simp [run_bounds hb lb (Nat.le_refl _)]
  · rename_i e a len cap hu
    split at h
    · rename_i hh size hb hz
      split at h
      · cases h
      · rename_i l lb
        have key : ∀ b cap', cap ≤ cap' → (Instr.sliceAt t (.slice b len cap') (lo.map (ren ρ)) (hi.map (ren ρ)) none).run P w = .ok (.slice (if cap' = l then b else b.map (·.add (l * size))) (hh - l) (cap' - l)) w := by
          intro b cap' hc
          simp only [Instr.sliceAt, Sem.run_bind, run_underlying hu, Result.andThen_ok, Instr.slice]
          simp [run_bounds hb lb hc, run_sizeOf hz]
        split at h
        · injection h with h; subst h
          simp only [ren]
          rw [key _ _ (Nat.le_refl _)]
          simp
        · rename_i a0
          simp only [ren]
          rw [key _ _ (le_capx _ _ _ _)]
          split at h
          · rename_i hsp
            split at h
            · rename_i hlt
              injection h with h; subst h
              simp only [ren]
              rw [capx_none _ _ _ _ hsp, capx_none _ (addo a0 (l * size)) _ _ rfl]
              rw [if_neg (by omega), rens_none hsp, rens_none (a := addo a0 (l * size)) rfl]
              simp only [Option.map_some, rena_add hsp]
              congr 2
              simp [addo]; omega
            · rename_i hge
              have hlh : l ≤ hh := abnd_le lb (Nat.zero_le _)
              split at h
              · rename_i hc
                injection h with h; subst h
                have ev : ¬ (2 * (l * size) % 2 = 1) := by omega
                have ev2 : 2 * (l * size) / 2 = l * size := by omega
                rw [capx_none _ _ _ _ hsp]
                have el : l = cap := by omega
                have eh : hh - l = 0 := by omega
                have ecx : capx ρ ⟨a0.block, a0.off, some (2 * (l * size))⟩ (hh - l) (cap - l) = cap - l + (ρ a0.block).ex := by simp [capx, eh]
                simp only [ren, rens, hsp, if_neg ev, ev2, ecx]
                subst el
                by_cases ex : (ρ a0.block).ex = 0
                · simp [ex, hsp]
                · have : ¬ (l + (ρ a0.block).ex = l) := by omega
                  rw [if_neg this]
                  simp [ex, hsp, add_of_none, addo]
                  omega
              · cases h
          · rename_i d hsp
            split at h
            · rename_i hc
              obtain ⟨rfl, rfl, rfl, rfl⟩ := hc
              injection h with h; subst h
              have ecx : capx ρ a0 0 0 = (ρ a0.block).ex := by simp [capx]
              simp only [ren, ecx]
              by_cases ex : (ρ a0.block).ex = 0
              · simp [ex]
              · simp [Addr.add]
            · cases h
    · cases h
  · cases h
end Go.Tm
/- The engine, fifth part: all operations that neither read nor write memory, as one. -/
namespace Go.Tm

def afieldAddr (P : Program) (s : TypeId) (x : Value) (f : Nat) : Option Value :=
  match P.underlying s, x with
  | some (.struct fields), .pointer (some a) =>
    match fields[f]? with
    | some fl => match asz P fl.type, a.spot with
      | some (_ + 1), none => some (.pointer (some (addo a fl.offset)))
      | _, _ => none
    | none => none
  | _, _ => none

theorem run_afieldAddr {P : Program} {ρ : Ren} {s : TypeId} {x v : Value} {f : Nat} (h : afieldAddr P s x f = some v) (w : World) :
    (Instr.fieldAt s (ren ρ x) f).run P w = .ok (ren ρ v) w := by
  unfold afieldAddr at h
  split at h
  · rename_i fields a hu
    split at h
    · rename_i fl hf
      split at h
      · rename_i k hz hsp
        injection h with h; subst h
        simp only [Instr.fieldAt, Sem.run_bind, run_underlying hu, Result.andThen_ok, hf, ren, Instr.sureAddr, Sem.run_pure, fieldPlace, run_sizeOf hz]
        simp [rena_add hsp]
      · cases h
    · cases h
  · cases h

def afield (P : Program) (t : TypeId) (x : Value) (f : Nat) : Option Value :=
  match P.underlying t, x with
  | some (.struct fields), .agg cs =>
    match fields[f]? with
    | some fl => apart P fl.type cs.toList fl.offset
    | none => none
  | _, _ => none

theorem run_afield {P : Program} {ρ : Ren} {s : TypeId} {x v : Value} {f : Nat} (h : afield P s x f = some v) (w : World) :
    (Instr.field s (ren ρ x) f).run P w = .ok (ren ρ v) w := by
  unfold afield at h
  split at h
  · rename_i fields cs hu
    split at h
    · rename_i fl hf
      have := run_apart (ρ := ρ) h w
      simp only [Instr.field, Sem.run_bind, run_underlying hu, Result.andThen_ok, hf, ren, renA_eq, asAgg, Sem.run_pure]
      rw [← this]; congr 2
      apply Array.ext'; simp
    · cases h
  · cases h

def aindexAddr (P : Program) (t : TypeId) (x i : Value) : Option Value :=
  match P.underlying t, x, i with
  | some (.slice e), .slice (some a) len _, .int _ n =>
    if 0 ≤ n ∧ n < len then
      match asz P e, a.spot with
      | some size, none => some (.pointer (some (addo a (n.toNat * size))))
      | some size, some 0 => some (.pointer (some ⟨a.block, a.off + n.toNat * size, none⟩))
      | _, _ => none
    else none
  | some (.array len e), .pointer (some a), .int _ n =>
    if 0 ≤ n ∧ n < len then
      match asz P e, a.spot with
      | some size, none => some (.pointer (some (addo a (n.toNat * size))))
      | _, _ => none
    else none
  | _, _, _ => none

theorem run_aindexAddr {P : Program} {ρ : Ren} {t : TypeId} {x i v : Value} (h : aindexAddr P t x i = some v) (w : World) :
    (Instr.indexAt t (ren ρ x) (ren ρ i)).run P w = .ok (ren ρ v) w := by
  unfold aindexAddr at h
  split at h
  · rename_i e a len cap k n hu
    split at h
    · rename_i hn
      split at h
      · rename_i size hz hsp
        injection h with h; subst h
        simp only [Instr.indexAt, Sem.run_bind, run_underlying hu, Result.andThen_ok, ren, asIntOf, Sem.run_pure, rens_none hsp]
        simp [hn, run_sizeOf hz, rena_add hsp]
      · rename_i size hz hsp
        injection h with h; subst h
        simp only [Instr.indexAt, Sem.run_bind, run_underlying hu, Result.andThen_ok, ren, asIntOf, Sem.run_pure]
        simp [hn, run_sizeOf hz, rens, hsp, rena, add_of_none, addo]
        omega
      · cases h
    · cases h
  · rename_i len e a k n hu
    split at h
    · rename_i hn
      split at h
      · rename_i size hz hsp
        injection h with h; subst h
        simp only [Instr.indexAt, Sem.run_bind, run_underlying hu, Result.andThen_ok, ren, asIntOf, Sem.run_pure, Instr.sureAddr]
        simp [hn, run_sizeOf hz, rena_add hsp]
      · cases h
    · cases h
  · cases h

def aindex (P : Program) (t : TypeId) (x i : Value) : Option Value :=
  match P.underlying t, x, i with
  | some .string, .string s, .int _ n =>
    if 0 ≤ n then match s.data.toList[n.toNat]? with
      | some b => some (.int .u8 b.toNat)
      | none => none
    else none
  | some (.array len e), .agg cs, .int _ n =>
    if 0 ≤ n ∧ n < len then
      match asz P e with
      | some size => apart P e cs.toList (n.toNat * size)
      | none => none
    else none
  | _, _, _ => none

theorem run_aindex {P : Program} {ρ : Ren} {t : TypeId} {x i v : Value} (h : aindex P t x i = some v) (w : World) :
    (Instr.index t (ren ρ x) (ren ρ i)).run P w = .ok (ren ρ v) w := by
  unfold aindex at h
  split at h
  · rename_i s k n hu
    split at h
    · rename_i hn
      split at h
      · rename_i b hb
        injection h with h; subst h
        have hg : s[n.toNat]? = some b := by
          have hlt : n.toNat < s.size := by
            have := (List.getElem?_eq_some_iff.1 hb).1
            cases s; exact this
          rw [ByteArray.getElem?_lt' s _ hlt]
          have h2 := (List.getElem?_eq_some_iff.1 hb).2
          congr 1
        simp only [Instr.index, Sem.run_bind, run_underlying hu, Result.andThen_ok, ren, asIntOf, Sem.run_pure]
        simp [hn, hg]
      · cases h
    · cases h
  · rename_i len e cs k n hu
    split at h
    · rename_i hn
      split at h
      · rename_i size hz
        have := run_apart (ρ := ρ) h w
        simp only [Instr.index, Sem.run_bind, run_underlying hu, Result.andThen_ok, ren, renA_eq, asIntOf, Sem.run_pure]
        rw [if_pos hn]
        simp only [Sem.run_bind, run_sizeOf hz, Result.andThen_ok]
        rw [← this]; congr 2
        apply Array.ext'; simp
      · cases h
    · cases h
  · cases h

def aextract (x : Value) (i : Nat) : Option Value :=
  match x with
  | .tuple vs => vs.toList[i]?
  | _ => none

theorem run_aextract {P : Program} {ρ : Ren} {x v : Value} {i : Nat} (h : aextract x i = some v) (w : World) :
    (Instr.extract (ren ρ x) i).run P w = .ok (ren ρ v) w := by
  unfold aextract at h
  split at h
  · rename_i vs
    simp only [ren, renA_eq, Instr.extract]
    have : (vs.map (ren ρ))[i]? = some (ren ρ v) := by
      simp at h; simp [h]
    simp [this]
  · cases h

def alen (P : Program) (t : TypeId) (x : Value) : Option Value :=
  match P.underlying t, x with
  | some .string, .string s => some (.int .i64 s.size)
  | some (.slice _), .slice _ n _ => some (.int .i64 n)
  | some (.array n _), .agg _ => some (.int .i64 n)
  | some (.array n _), .pointer _ => some (.int .i64 n)
  | some (.map _ _), .map none => some (.int .i64 0)
  | _, _ => none

theorem run_alen {P : Program} {ρ : Ren} {t ty : TypeId} {x v : Value} (h : alen P t x = some v) (w : World) :
    (Builtin.len_ #[t] ty #[ren ρ x]).run P w = .ok v w := by
  unfold alen at h
  split at h
  · rename_i s hu; injection h with h; subst h
    simp [Builtin.len_, run_underlying hu, ren, goInt]
  · rename_i a n c d hu; injection h with h; subst h
    cases n <;> simp [Builtin.len_, run_underlying hu, ren, goInt]
  · rename_i n _ cs hu; injection h with h; subst h
    simp [Builtin.len_, run_underlying hu, ren, goInt]
  · rename_i n _ a hu; injection h with h; subst h
    cases a <;> simp [Builtin.len_, run_underlying hu, ren, goInt]
  · rename_i hu; injection h with h; subst h
    simp [Builtin.len_, run_underlying hu, ren, goInt]
  · cases h

/- min and max of integers. -/
def afold (f : Int → Int → Int) (x : Int) : List Value → Option Int
  | [] => some x
  | .int _ y :: l => afold f (f x y) l
  | _ => none
def amm (f : Int → Int → Int) : List Value → Option Value
  | .int k x :: l => (afold f x l).map (.int k)
  | _ => none
def fmax (x y : Int) : Int := if y > x then y else x
def fmin (x y : Int) : Int := if y < x then y else x

theorem run_afold {P : Program} {ρ : Ren} {k : IntKind} {f : Int → Int → Int} {g : Value → Value → Sem Value} (hg : ∀ x j y, g (.int k x) (.int j y) = pure (.int k (f x y))) (w : World) :
    ∀ (l : List Value) (x r : Int), afold f x l = some r → ((l.map (ren ρ)).foldlM g (.int k x)).run P w = .ok (.int k r) w
  | [], x, r, h => by simp [afold] at h; simp [h]
  | v :: l, x, r, h => by
    cases v <;> simp only [afold] at h <;> first | (cases h; done) | skip
    rename_i j y
    simp only [List.map_cons, ren, List.foldlM_cons, hg]
    exact run_afold hg w l _ r h

theorem run_amm {P : Program} {ρ : Ren} {l : List Value} {v : Value} {ts : Array TypeId} {t : TypeId} (w : World) :
    (amm fmax l = some v → (Builtin.max_ ts t (l.map (ren ρ)).toArray).run P w = .ok v w) ∧ (amm fmin l = some v → (Builtin.min_ ts t (l.map (ren ρ)).toArray).run P w = .ok v w) := by
  constructor
  · intro h
    cases l with
    | nil => simp [amm] at h
    | cons x l =>
      cases x <;> simp only [amm] at h <;> first | (cases h; done) | skip
      rename_i k x
      cases hf : afold fmax x l with
      | none => simp [hf] at h
      | some r =>
        simp [hf] at h; subst h
        simp only [Builtin.max_, List.map_cons, ren]
        exact run_afold (fun _ _ _ => rfl) w l x r hf
  · intro h
    cases l with
    | nil => simp [amm] at h
    | cons x l =>
      cases x <;> simp only [amm] at h <;> first | (cases h; done) | skip
      rename_i k x
      cases hf : afold fmin x l with
      | none => simp [hf] at h
      | some r =>
        simp [hf] at h; subst h
        simp only [Builtin.min_, List.map_cons, ren]
        exact run_afold (fun _ _ _ => rfl) w l x r hf

theorem flat_amm {f : Int → Int → Int} {l : List Value} {v : Value} (h : amm f l = some v) : ∃ k n, v = .int k n := by
  cases l with
  | nil => simp [amm] at h
  | cons x l =>
    cases x <;> simp only [amm] at h <;> first | (cases h; done) | skip
    rename_i k x
    cases hf : afold f x l with
    | none => simp [hf] at h
    | some r => simp [hf] at h; exact ⟨_, _, h.symm⟩

def aconv (P : Program) (s d : TypeId) (x : Value) : Option Value :=
  match P.underlying s, P.underlying d, x with
  | some (.int _), some (.int k), .int _ n => some (.int k (k.wrap n))
  | some .string, some .string, .string b => some (.string b)
  | _, _, _ => none

theorem run_aconv {P : Program} {ρ : Ren} {s d : TypeId} {x v : Value} (h : aconv P s d x = some v) (w : World) :
    (convert s d (ren ρ x)).run P w = .ok v w := by
  unfold aconv at h
  split at h
  · rename_i hs hd
    injection h with h; subst h
    simp [convert, run_underlying hs, run_underlying hd, ren, Conv.intToInt]
  · rename_i hs hd
    injection h with h; subst h
    simp [convert, run_underlying hs, run_underlying hd, ren]
  · cases h

def aun (op : UnOp) (x : Value) : Option Value :=
  match op, x with
  | .neg, .int k n => some (.int k (k.wrap (0 - n)))
  | .xor, .int k n => some (.int k (bits .xor k (if k.signed then -1 else k.max) n))
  | .not, .bool b => some (.bool !b)
  | _, _ => none

theorem run_aun {P : Program} {ρ : Ren} {op : UnOp} {x v : Value} (h : aun op x = some v) (w : World) :
    (Op.unary op (ren ρ x)).run P w = .ok v w := by
  unfold aun at h
  split at h
  · injection h with h; subst h; simp [Op.unary, ren, Op.intArith]
  · injection h with h; subst h; simp [Op.unary, ren, intBits_xor]
  · injection h with h; subst h; simp [Op.unary, ren]
  · cases h

/- A struct or an array put together. -/
def splice (c : List Value) (off : Nat) (vs : List Value) : List Value := c.take off ++ vs ++ c.drop (off + vs.length)

def vcells : Value → List Value
  | .agg cs => cs.toList
  | v => [v]

theorem cells_eq (v : Value) : v.cells = (vcells v).toArray := by cases v <;> simp [Value.cells, vcells]
theorem vcells_ren (ρ : Ren) (v : Value) : vcells (ren ρ v) = (vcells v).map (ren ρ) := by
  cases v with
  | agg a => simp [ren, renA_eq, vcells]
  | pointer a => cases a <;> rfl
  | slice a l c => cases a <;> rfl
  | map a => cases a <;> rfl
  | chan a => cases a <;> rfl
  | _ => rfl

def afill (place : Nat → Option (Nat × Nat)) (cells : List Value) : List (Nat × Value) → Option (List Value)
  | [] => some cells
  | (i, v) :: rest =>
    match place i with
    | none => none
    | some (off, size) =>
      if (vcells v).length ≠ size ∨ off + (vcells v).length > cells.length then none
      else afill place (splice cells off (vcells v)) rest

theorem splice_get {c vs : List Value} {off : Nat} (h : off + vs.length ≤ c.length) (j : Nat) :
    (splice c off vs)[j]? = if j < off then c[j]? else if j < off + vs.length then vs[j - off]? else c[j]? := by
  unfold splice
  have e : (c.take off).length = off := by rw [List.length_take]; omega
  by_cases h1 : j < off
  · rw [if_pos h1, List.append_assoc, List.getElem?_append_left (by omega), List.getElem?_take_of_lt h1]
  · rw [if_neg h1, List.append_assoc, List.getElem?_append_right (by omega), e]
    by_cases h2 : j < off + vs.length
    · rw [if_pos h2, List.getElem?_append_left (by omega)]
    · rw [if_neg h2, List.getElem?_append_right (by omega), List.getElem?_drop]
      congr 1; omega

theorem splice_length {c vs : List Value} {off : Nat} (h : off + vs.length ≤ c.length) : (splice c off vs).length = c.length := by
  unfold splice; simp; omega

theorem foldl_list (vs : List Value) : ∀ (c : List Value) (off k : Nat), off + k + vs.length ≤ c.length →
    (vs.zipIdx k).foldl (fun cs (x : Value × Nat) => cs.set (off + x.2) x.1) c = splice c (off + k) vs := by
  induction vs with
  | nil => intro c off k h; simp [splice]
  | cons v vs ih =>
    intro c off k h
    simp only [List.length_cons] at h
    simp only [List.zipIdx_cons, List.foldl_cons]
    rw [ih _ _ _ (by rw [List.length_set]; omega)]
    apply List.ext_getElem?
    intro j
    rw [splice_get (by rw [List.length_set]; omega), splice_get (by rw [List.length_cons]; omega)]
    simp only [List.length_cons]
    by_cases h1 : j < off + k
    · rw [if_pos (by omega), if_pos h1, List.getElem?_set_ne (by omega)]
    · by_cases h2 : j = off + k
      · subst h2
        rw [if_pos (by omega), if_neg (by omega), if_pos (by omega), List.getElem?_set_self (by omega)]
        simp
      · rw [if_neg (by omega), if_neg h1]
        by_cases h3 : j < off + k + (vs.length + 1)
        · rw [if_pos (by omega), if_pos h3]
          obtain ⟨i, rfl⟩ : ∃ i, j = off + k + 1 + i := ⟨j - (off + k + 1), by omega⟩
          rw [show off + k + 1 + i - (off + (k + 1)) = i by omega, show off + k + 1 + i - (off + k) = i + 1 by omega, List.getElem?_cons_succ]
        · rw [if_neg (by omega), if_neg h3, List.getElem?_set_ne (by omega)]

theorem foldl_arr (off : Nat) : ∀ (l : List (Value × Nat)) (c : Array Value),
    (l.foldl (fun cs (x : Value × Nat) => cs.setIfInBounds (off + x.2) x.1) c).toList = l.foldl (fun cs (x : Value × Nat) => cs.set (off + x.2) x.1) c.toList
  | [], c => rfl
  | x :: l, c => by
    simp only [List.foldl_cons]
    rw [foldl_arr off l]; simp

theorem foldl_set (vs : List Value) (c : Array Value) (off k : Nat) (h : off + k + vs.length ≤ c.size) :
    ((vs.zipIdx k).foldl (fun cs (x : Value × Nat) => cs.setIfInBounds (off + x.2) x.1) c).toList = splice c.toList (off + k) vs := by
  rw [foldl_arr, foldl_list vs _ _ _ (by simpa using h)]

theorem run_afill {ρ : Ren} {place : Nat → Option (Nat × Nat)} : ∀ (parts : List (Nat × Value)) (cells r : List Value), afill place cells parts = some r →
    Instr.fill place (cells.map (ren ρ)).toArray (parts.map fun p => (p.1, ren ρ p.2)) = some (r.map (ren ρ)).toArray
  | [], cells, r, h => by simp [afill] at h; subst h; rfl
  | (i, v) :: rest, cells, r, h => by
    simp only [afill] at h
    simp only [List.map_cons, Instr.fill]
    cases hp : place i with
    | none => simp [hp] at h
    | some os =>
      obtain ⟨off, size⟩ := os
      simp only [hp] at h ⊢
      have hl : (ren ρ v).cells.size = (vcells v).length := by rw [cells_eq, vcells_ren]; simp
      split at h
      · cases h
      · rename_i hc
        have hc1 : (vcells v).length = size := by omega
        have hc2 : off + (vcells v).length ≤ cells.length := by omega
        rw [hl, if_neg (by simp [hc1]; omega)]
        have ih := run_afill (ρ := ρ) rest _ r h
        have he : Array.foldl (fun (cs : Array Value) (x : Value × Nat) => cs.setIfInBounds (off + x.2) x.1) (cells.map (ren ρ)).toArray (ren ρ v).cells.zipIdx = ((splice cells off (vcells v)).map (ren ρ)).toArray := by
          apply Array.ext'
          have := foldl_set ((vcells v).map (ren ρ)) (cells.map (ren ρ)).toArray off 0 (by simpa using hc2)
          simp only [Nat.add_zero] at this
          rw [← Array.foldl_toList]
          rw [cells_eq, vcells_ren]
          simp only [Array.toList_zipIdx]
          rw [this]
          simp [splice, List.map_take, List.map_drop]
        exact he ▸ ih
end Go.Tm
namespace Go.Tm

def aplaces (P : Program) : List Field → Option (List (Nat × Nat))
  | [] => some []
  | f :: l =>
    match asz P f.type, aplaces P l with
    | some n, some r => some ((f.offset, n) :: r)
    | _, _ => none

theorem run_aplaces {P : Program} (w : World) : ∀ (l : List Field) (r : List (Nat × Nat)), aplaces P l = some r →
    (l.mapM fun f => do pure (f.offset, ← sizeOf f.type) : Sem (List (Nat × Nat))).run P w = .ok r w
  | [], r, h => by simp [aplaces] at h; subst h; rfl
  | f :: l, r, h => by
    simp only [aplaces] at h
    cases h1 : asz P f.type with
    | none => simp [h1] at h
    | some n =>
      cases h2 : aplaces P l with
      | none => simp [h1, h2] at h
      | some r' =>
        simp [h1, h2] at h; subst h
        have ih := run_aplaces w l r' h2
        simp only [List.mapM_cons, Sem.run_bind, run_sizeOf h1, Result.andThen_ok, Sem.run_pure, ih]

def azero (P : Program) (t : TypeId) : Option Value :=
  match P.info? t with
  | some i => match i.zero with
    | some z => if cl 0 z then some z else none
    | none => none
  | none => none

theorem run_azero {P : Program} {t : TypeId} {z : Value} (h : azero P t = some z) (w : World) : (zeroValue t).run P w = .ok z w ∧ cl 0 z = true ∧ (P.info? t).bind (·.zero) = some z := by
  unfold azero at h
  cases hi : P.info? t with
  | none => simp [hi] at h
  | some i =>
    simp only [hi] at h
    cases hz : i.zero with
    | none => simp [hz] at h
    | some z' =>
      simp only [hz] at h
      split at h
      · rename_i hc
        injection h with h; subst h
        exact ⟨by simp [zeroValue, typeInfo, hi, hz], hc, by simp [hz]⟩
      · cases h

theorem azero_vcells {ρ : Ren} {P : Program} {t : TypeId} {z : Value} (h : azero P t = some z) : ren ρ z = z ∧ ∀ n, sc n z = true := by
  have hc := (run_azero h default).2.1
  exact ⟨ren_id ρ 0 (fun _ hb => by omega) z hc, fun n => sc_mono 0 n (Nat.zero_le _) z (sc_of_cl 0 z hc)⟩

theorem sc_vcells {n : Nat} {v : Value} (h : sc n v = true) : ∀ x, x ∈ vcells v → sc n x = true := by
  cases v <;> simp only [vcells] <;> first
    | (intro x hx; simp only [List.mem_singleton] at hx; subst hx; exact h)
    | skip
  rename_i a
  simp only [sc] at h
  cases a with | mk l => simpa [scA, scL_iff] using h

def abuild (P : Program) (t : TypeId) (parts : List (Nat × Value)) : Option Value :=
  match azero P t with
  | some z => match P.underlying t with
    | some (.struct fields) => match aplaces P fields.toList with
      | some ps => (afill (ps[·]?) (vcells z) parts).map fun l => .agg l.toArray
      | none => none
    | some (.array _ e) => match asz P e with
      | some size => (afill (fun i => some (i * size, size)) (vcells z) parts).map fun l => .agg l.toArray
      | none => none
    | _ => none
  | none => none

theorem sc_splice {n : Nat} {c vs : List Value} {off : Nat} (h1 : ∀ x, x ∈ c → sc n x = true) (h2 : ∀ x, x ∈ vs → sc n x = true) : ∀ x, x ∈ splice c off vs → sc n x = true := by
  intro x hx
  unfold splice at hx
  simp only [List.mem_append] at hx
  rcases hx with (hx | hx) | hx
  · exact h1 x (List.mem_of_mem_take hx)
  · exact h2 x hx
  · exact h1 x (List.mem_of_mem_drop hx)

theorem sc_afill {n : Nat} {place : Nat → Option (Nat × Nat)} : ∀ (parts : List (Nat × Value)) (cells r : List Value), afill place cells parts = some r →
    (∀ x, x ∈ cells → sc n x = true) → (∀ p, p ∈ parts → sc n p.2 = true) → ∀ x, x ∈ r → sc n x = true
  | [], cells, r, h, h1, _ => by simp [afill] at h; subst h; exact h1
  | (i, v) :: rest, cells, r, h, h1, h2 => by
    simp only [afill] at h
    cases hp : place i with
    | none => simp [hp] at h
    | some os =>
      obtain ⟨off, size⟩ := os
      simp only [hp] at h
      split at h
      · cases h
      · exact sc_afill rest _ r h (sc_splice h1 (sc_vcells (h2 (i, v) (by simp)))) (fun p hp => h2 p (by simp [hp]))

theorem run_abuild {P : Program} {ρ : Ren} {t : TypeId} {parts : List (Nat × Value)} {v : Value} (h : abuild P t parts = some v) (w : World) :
    (Instr.build t (parts.map fun p => (p.1, ren ρ p.2)).toArray).run P w = .ok (ren ρ v) w := by
  unfold abuild at h
  cases hz : azero P t with
  | none => simp [hz] at h
  | some z =>
    simp only [hz] at h
    obtain ⟨r0, _⟩ := run_azero hz w
    have e0 := (azero_vcells (ρ := ρ) hz).1
    have e1 : z.cells = ((vcells z).map (ren ρ)).toArray := by rw [← vcells_ren, e0, cells_eq]
    split at h
    · rename_i fields hu
      cases hp : aplaces P fields.toList with
      | none => simp [hp] at h
      | some ps =>
        simp only [hp] at h
        cases hf : afill (ps[·]?) (vcells z) parts with
        | none => simp [hf] at h
        | some l =>
          simp [hf] at h; subst h
          have rf := run_afill (ρ := ρ) parts (vcells z) l hf
          have rp := run_aplaces w fields.toList ps hp
          simp only [Instr.build, Sem.run_bind, r0, Result.andThen_ok, run_underlying hu, Array.mapM_eq_mapM_toList, Sem.run_map, rp, e1]
          have : (fun (x : Nat) => (ps.toArray : Array (Nat × Nat))[x]?) = (ps[·]?) := by funext x; simp
          rw [this, rf]
          simp [ren_agg]
    · rename_i k e hu
      cases hs : asz P e with
      | none => simp [hs] at h
      | some size =>
        simp only [hs] at h
        cases hf : afill (fun i => some (i * size, size)) (vcells z) parts with
        | none => simp [hf] at h
        | some l =>
          simp [hf] at h; subst h
          have rf := run_afill (ρ := ρ) parts (vcells z) l hf
          simp only [Instr.build, Sem.run_bind, r0, Result.andThen_ok, run_underlying hu, run_sizeOf hs, e1]
          rw [rf]
          simp [ren_agg]
    · cases h

theorem sc_abuild {P : Program} {n : Nat} {t : TypeId} {parts : List (Nat × Value)} {v : Value} (h : abuild P t parts = some v) (hs : ∀ p, p ∈ parts → sc n p.2 = true) : sc n v = true := by
  unfold abuild at h
  cases hz : azero P t with
  | none => simp [hz] at h
  | some z =>
    simp only [hz] at h
    have hz' := (azero_vcells (ρ := fun b => ⟨b, 0, 0⟩) hz).2 n
    split at h
    · rename_i fields hu
      cases hp : aplaces P fields.toList with
      | none => simp [hp] at h
      | some ps =>
        simp only [hp] at h
        cases hf : afill (ps[·]?) (vcells z) parts with
        | none => simp [hf] at h
        | some l =>
          simp [hf] at h; subst h
          simp only [sc, scA, scL_iff]
          exact sc_afill parts _ l hf (sc_vcells hz') hs
    · rename_i k e hu
      cases hs' : asz P e with
      | none => simp [hs'] at h
      | some size =>
        simp only [hs'] at h
        cases hf : afill (fun i => some (i * size, size)) (vcells z) parts with
        | none => simp [hf] at h
        | some l =>
          simp [hf] at h; subst h
          simp only [sc, scA, scL_iff]
          exact sc_afill parts _ l hf (sc_vcells hz') hs
    · cases h

/-- AN OPERATION THAT NEITHER READS NOR WRITES: its value. -/
def apure (P : Program) (ev : Operand → Value) : Op → Option Value
  | .move x => some (ev x)
  | .assign x => some (ev x)
  | .pick c a b => match ev c with
    | .bool t => some (if t then ev a else ev b)
    | _ => none
  | .build t parts => abuild P t (parts.toList.map fun p => (p.1, ev p.2))
  | .nilCheck x => match ev x with
    | .pointer (some a) => some (.pointer (some a))
    | .func (.func f) x y => some (.func (.func f) x y)
    | .iface t v => some (.iface t v)
    | _ => none
  | .binOp op t x y _ => abin P (isConst x || isConst y) op t (ev x) (ev y)
  | .unOp op _ x => aun op (ev x)
  | .convert s d x => aconv P s d (ev x)
  | .makeInterface t x => match P.underlying t with
    | some (.interface _) => none
    | some _ => some (.iface t (ev x))
    | none => none
  | .makeFunc (.func f) first cap => some (.func (.func f) (first.toList.map ev).toArray (cap.toList.map ev).toArray)
  | .slice t x lo hi none => asl P t (ev x) (lo.map ev) (hi.map ev)
  | .fieldAddr t x f => afieldAddr P t (ev x) f
  | .field t x f => afield P t (ev x) f
  | .indexAddr t x i => aindexAddr P t (ev x) (ev i)
  | .index t x i => aindex P t (ev x) (ev i)
  | .extract x i => aextract (ev x) i
  | .call { callee := .builtin .len, args, argTypes } =>
    match args.toList, argTypes.toList with
    | [x], [t] => alen P t (ev x)
    | _, _ => none
  | .call { callee := .builtin .max, args, argTypes := _ } => amm fmax (args.toList.map ev)
  | .call { callee := .builtin .min, args, argTypes := _ } => amm fmin (args.toList.map ev)
  | _ => none

theorem run_apure {P : Program} {ρ : Ren} {ev : Operand → Value} {o : Oper} {v : Value} (h : apure P ev o.op = some v) (w : World) :
    (execOp (fun x => ren ρ (ev x)) o).run P w = .ok (.value (ren ρ v)) w := by
  obtain ⟨dst, op, ty, pos, after, guard⟩ := o
  simp only at h
  unfold apure at h
  split at h
  · injection h with h; subst h; rfl
  · injection h with h; subst h; rfl
  · rename_i c a b
    split at h
    · rename_i t hc
      injection h with h; subst h
      simp only [execOp, hc, ren, asBool, Sem.run_bind, Sem.run_pure, Result.andThen_ok]
      cases t <;> rfl
    · cases h
  · rename_i t parts
    have := run_abuild (ρ := ρ) h w
    simp only [execOp, Sem.run_bind]
    have e : (parts.map fun x => (x.1, ren ρ (ev x.2))) = (List.map (fun p => (p.1, ren ρ p.2)) (List.map (fun p => (p.1, ev p.2)) parts.toList)).toArray := by
      apply Array.ext'; simp
    rw [show (parts.map fun (x : Nat × Operand) => match x with | (i, x) => (i, ren ρ (ev x))) = (parts.map fun x => (x.1, ren ρ (ev x.2))) from rfl, e, this]
    rfl
  · rename_i x
    split at h
    all_goals first
      | (rename_i hx; injection h with h; subst h; simp only [execOp, hx, ren]; rfl)
      | (cases h; done)
  · rename_i op t x y yt
    have hg := run_eqGuard (ρ := ρ) (x := x) (y := y) h
    have hb := run_abin (ρ := ρ) h w
    have hf := (flat_abin h ρ 0).1
    simp only [execOp, Sem.run_bind, hg, Sem.run_pure, Result.andThen_ok, hb, hf]
  · have hb := run_aun (P := P) (ρ := ρ) h w
    have hf : ren ρ v = v := by
      unfold aun at h
      split at h <;> first | (injection h with h; subst h; rfl) | (cases h; done)
    simp only [execOp, Sem.run_bind, Sem.run_pure, Result.andThen_ok, hb, hf]
  · have hb := run_aconv (P := P) (ρ := ρ) h w
    have hf : ren ρ v = v := by
      unfold aconv at h
      split at h <;> first | (injection h with h; subst h; rfl) | (cases h; done)
    simp only [execOp, Sem.run_bind, Sem.run_pure, Result.andThen_ok, hb, hf]
  · rename_i t x
    split at h
    · cases h
    · rename_i d hd hu
      injection h with h; subst h
      simp only [execOp, Instr.makeInterface, Sem.run_bind, run_underlying hu, Result.andThen_ok, ren]
      cases d <;> first | rfl | exact absurd rfl (hd _)
    · cases h
  · rename_i f first cap
    injection h with h; subst h
    simp only [execOp, Instr.makeFunc, Sem.run_bind, Sem.run_pure, Result.andThen_ok, ren, renA_eq]
    congr 2
    simp only [Value.func.injEq, true_and]
    constructor <;> (apply Array.ext'; simp)
  · rename_i t x lo hi
    have := run_asl (ρ := ρ) h w
    simp only [Option.map_map] at this
    simp only [execOp, Sem.run_bind, Option.map_none]
    rw [show (Option.map (fun x => ren ρ (ev x)) lo) = Option.map (ren ρ ∘ ev) lo from rfl, show (Option.map (fun x => ren ρ (ev x)) hi) = Option.map (ren ρ ∘ ev) hi from rfl, this]
    rfl
  · simp only [execOp, Sem.run_bind, run_afieldAddr (ρ := ρ) h w]; rfl
  · simp only [execOp, Sem.run_bind, run_afield (ρ := ρ) h w]; rfl
  · simp only [execOp, Sem.run_bind, run_aindexAddr (ρ := ρ) h w]; rfl
  · simp only [execOp, Sem.run_bind, run_aindex (ρ := ρ) h w]; rfl
  · simp only [execOp, Sem.run_bind, run_aextract (ρ := ρ) h w]; rfl
  · rename_i args argTypes
    split at h
    · rename_i x t hx ht
      obtain ⟨args⟩ := args
      obtain ⟨argTypes⟩ := argTypes
      simp only at hx ht; subst hx ht
      have hl := run_alen (ρ := ρ) (ty := ty) h w
      have hf : ren ρ v = v := by
        unfold alen at h
        split at h <;> first | (injection h with h; subst h; rfl) | (cases h; done)
      simp [execOp, resolve, invoke, builtin, hl, hf]
    · cases h
  · rename_i args argTypes
    obtain ⟨args⟩ := args
    have hl := (run_amm (P := P) (ρ := ρ) (ts := argTypes) (t := ty) w).1 h
    have hf : ren ρ v = v := by obtain ⟨k, n, rfl⟩ := flat_amm h; rfl
    simp only [List.map_map] at hl
    simp [execOp, resolve, invoke, builtin, hf]
    rw [show (fun x => ren ρ (ev x)) = ren ρ ∘ ev from rfl, hl]; rfl
  · rename_i args argTypes
    obtain ⟨args⟩ := args
    have hl := (run_amm (P := P) (ρ := ρ) (ts := argTypes) (t := ty) w).2 h
    have hf : ren ρ v = v := by obtain ⟨k, n, rfl⟩ := flat_amm h; rfl
    simp only [List.map_map] at hl
    simp [execOp, resolve, invoke, builtin, hf]
    rw [show (fun x => ren ρ (ev x)) = ren ρ ∘ ev from rfl, hl]; rfl
  · cases h
end Go.Tm
