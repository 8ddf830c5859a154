/- The engine, fourth part: the other operations that neither read nor write memory. -/
import Derived.Test.YtigifaghgnbgoaaGreatEng3
namespace Go.Tm

def asz (P : Program) (t : TypeId) : Option Nat := (P.info? t).map (·.size)
def aagg (P : Program) (t : TypeId) : Option Bool :=
  match P.underlying t with
  | some (.struct _) => some true
  | some (.array _ _) => some true
  | some _ => some false
  | none => none

theorem run_sizeOf {P : Program} {t : TypeId} {n : Nat} (h : asz P t = some n) (w : World) : (sizeOf t).run P w = .ok n w := by
  unfold asz at h
  cases hi : P.info? t with
  | none => simp [hi] at h
  | some i => simp [hi] at h; simp [sizeOf, typeInfo, hi, h]
theorem run_isAgg {P : Program} {t : TypeId} {b : Bool} (h : aagg P t = some b) (w : World) : (isAgg t).run P w = .ok b w := by
  unfold aagg at h
  unfold isAgg
  cases hu : P.underlying t with
  | none => simp [hu] at h
  | some d =>
    simp only [Sem.run_bind, run_underlying hu, Result.andThen_ok]
    rw [hu] at h
    cases d <;> simp at h <;> subst h <;> rfl

/- A part of a struct's or an array's value. -/
def apart (P : Program) (t : TypeId) (cs : List Value) (off : Nat) : Option Value :=
  match aagg P t, asz P t with
  | some true, some n => some (.agg ((cs.drop off).take n).toArray)
  | some false, _ => cs[off]?
  | _, _ => none

theorem ren_agg (ρ : Ren) (l : List Value) : ren ρ (.agg l.toArray) = .agg (l.map (ren ρ)).toArray := by simp [ren, renA_eq]

theorem run_apart {P : Program} {ρ : Ren} {t : TypeId} {cs : List Value} {off : Nat} {v : Value} (h : apart P t cs off = some v) (w : World) :
    (part t (cs.map (ren ρ)).toArray off).run P w = .ok (ren ρ v) w := by
  unfold apart at h
  split at h
  · rename_i n ha hz
    injection h with h; subst h
    unfold part
    simp only [Sem.run_bind, run_isAgg ha, Result.andThen_ok, if_true, run_sizeOf hz, Sem.run_pure]
    rw [ren_agg]
    congr 2
    apply Array.ext'
    simp [List.map_take, List.map_drop]
  · rename_i ha
    unfold part
    simp only [Sem.run_bind, run_isAgg ha, Result.andThen_ok]
    simp [h]
  · cases h

theorem sc_apart {P : Program} {n : Nat} {t : TypeId} {cs : List Value} {off : Nat} {v : Value} (h : apart P t cs off = some v) (hs : ∀ x, x ∈ cs → sc n x = true) : sc n v = true := by
  unfold apart at h
  split at h
  · injection h with h; subst h
    simp only [sc, scA, scL_iff]
    intro x hx
    exact hs x (List.mem_of_mem_drop (List.mem_of_mem_take hx))
  · exact hs v (List.mem_of_getElem? h)
  · cases h

def addo (a : Addr) (n : Nat) : Addr := ⟨a.block, a.off + n, none⟩

theorem add_of_none {a : Addr} (h : a.spot = none) (n : Nat) : a.add n = addo a n := by
  unfold Addr.add addo
  split
  · subst_vars; cases a; simp_all
  · rfl
theorem rena_addo (ρ : Ren) (a : Addr) (n : Nat) : rena ρ (addo a n) = ⟨(ρ a.block).r, a.off + (ρ a.block).sh + n, none⟩ := by
  simp [rena, addo]; omega
theorem rena_add {ρ : Ren} {a : Addr} (h : a.spot = none) (n : Nat) : (rena ρ a).add n = rena ρ (addo a n) := by
  rw [rena_addo, add_of_none (by simpa [rena] using h)]; rfl
theorem rens_none {ρ : Ren} {a : Addr} (h : a.spot = none) : rens ρ a = rena ρ a := by
  simp [rens, rena, h]

def abnd (v : Option Value) (dflt y : Nat) : Option Nat :=
  match v with
  | none => some dflt
  | some (.int _ i) => if 0 ≤ i ∧ i ≤ y then some i.toNat else none
  | _ => none

def asl (P : Program) (t : TypeId) (x : Value) (lo hi : Option Value) : Option Value :=
  match P.underlying t, x with
  | some .string, .string s =>
    match abnd hi s.size s.size with
    | none => none
    | some h => match abnd lo 0 h with
      | none => none
      | some l => some (.string (s.extract l h))
  | some (.slice e), .slice a len cap =>
    match abnd hi len cap, asz P e with
    | some h, some size => match abnd lo 0 h with
      | none => none
      | some l =>
        match a with
        | none => some (.slice none (h - l) (cap - l))
        | some a =>
          match a.spot with
          | none => if l < cap then some (.slice (some (addo a (l * size))) (h - l) (cap - l)) else if h ≤ cap then some (.slice (some ⟨a.block, a.off, some (l * size)⟩) (h - l) (cap - l)) else none
          | some _ => if l = 0 ∧ h = 0 ∧ cap = 0 then some (.slice (some a) 0 0) else none
    | _, _ => none
  | _, _ => none

theorem run_abnd {P : Program} {ρ : Ren} {v : Value} {d y y' l : Nat} {code : BoundsCode} (h : abnd (some v) d y = some l) (hy : y ≤ y') (w : World) :
    (Instr.sliceBound (ren ρ v) y' code).run P w = .ok l w := by
  unfold abnd at h
  split at h
  · rename_i e; cases e
  · rename_i k i e
    injection e with e; subst e
    split at h
    · rename_i hi
      injection h with h
      have : 0 ≤ i ∧ i ≤ y' := ⟨hi.1, by have := hi.2; omega⟩
      simp [Instr.sliceBound, ren, asIntOf, this, h]
    · cases h
  · cases h

theorem abnd_le {v : Option Value} {d y l : Nat} (h : abnd v d y = some l) (hd : d ≤ y) : l ≤ y := by
  unfold abnd at h
  split at h
  · injection h with h; omega
  · split at h
    · rename_i hi; injection h with h; have := hi.2; omega
    · cases h
  · cases h

theorem run_bounds {P : Program} {ρ : Ren} {isS : Bool} {len cap cap' : Nat} {lo hi : Option Value} {h l : Nat} (hl : abnd hi len cap = some h) (ll : abnd lo 0 h = some l) (hc : cap ≤ cap') (w : World) :
    (Instr.sliceBounds isS len cap' (lo.map (ren ρ)) (hi.map (ren ρ)) none).run P w = .ok (l, h, cap') w := by
  unfold Instr.sliceBounds
  have r1 : ∀ v, hi = some v → (Instr.sliceBound (ren ρ v) cap' (if isS then .sliceAcap else .sliceAlen)).run P w = .ok h w := fun v e => run_abnd (d := len) (by rw [← e]; exact hl) hc w
  have r2 : ∀ v, lo = some v → (Instr.sliceBound (ren ρ v) h .sliceB).run P w = .ok l w := fun v e => run_abnd (d := 0) (by rw [← e]; exact ll) (Nat.le_refl _) w
  cases hi with
  | none =>
    simp only [abnd, Option.some.injEq] at hl; subst hl
    cases lo with
    | none => simp only [abnd, Option.some.injEq] at ll; subst ll; simp
    | some v => simp [r2 v rfl]
  | some u =>
    cases lo with
    | none => simp only [abnd, Option.some.injEq] at ll; subst ll; simp [r1 u rfl]
    | some v => simp [r1 u rfl, r2 v rfl]

theorem run_asl {P : Program} {ρ : Ren} {t : TypeId} {x v : Value} {lo hi : Option Value} (h : asl P t x lo hi = some v) (w : World) :
    (Instr.sliceAt t (ren ρ x) (lo.map (ren ρ)) (hi.map (ren ρ)) none).run P w = .ok (ren ρ v) w := by
  unfold asl at h
  split at h
  · rename_i s hu
    split at h
    · cases h
    · rename_i hh hb
      split at h
      · cases h
      · rename_i l lb
        injection h with h; subst h
        simp only [Instr.sliceAt, Sem.run_bind, run_underlying hu, Result.andThen_ok, Instr.slice, ren]
        simp [run_bounds hb lb (Nat.le_refl _)]
  · rename_i e a len cap hu
    split at h
    · rename_i hh size hb hz
      split at h
      · cases h
      · rename_i l lb
        have key : ∀ b cap', cap ≤ cap' → (Instr.sliceAt t (.slice b len cap') (lo.map (ren ρ)) (hi.map (ren ρ)) none).run P w = .ok (.slice (if cap' = l then b else b.map (·.add (l * size))) (hh - l) (cap' - l)) w := by
          intro b cap' hc
          simp only [Instr.sliceAt, Sem.run_bind, run_underlying hu, Result.andThen_ok, Instr.slice]
          simp [run_bounds hb lb hc, run_sizeOf hz]
        split at h
        · injection h with h; subst h
          simp only [ren]
          rw [key _ _ (Nat.le_refl _)]
          simp
        · rename_i a0
          simp only [ren]
          rw [key _ _ (Nat.le_add_right _ _)]
          split at h
          · rename_i hsp
            split at h
            · rename_i hlt
              injection h with h; subst h
              simp only [ren]
              rw [if_neg (by omega), rens_none hsp, rens_none (a := addo a0 (l * size)) rfl]
              simp only [Option.map_some, rena_add hsp]
              congr 2
              simp [addo]; omega
            · rename_i hge
              have hlh : l ≤ hh := abnd_le lb (Nat.zero_le _)
              split at h
              · rename_i hc
                injection h with h; subst h
                simp only [ren, rens]
                have el : l = cap := by omega
                subst el
                by_cases ex : (ρ a0.block).ex = 0
                · simp [ex, hsp]
                · have : ¬ (l + (ρ a0.block).ex = l) := by omega
                  rw [if_neg this]
                  simp [ex, hsp, add_of_none, addo]
                  omega
              · cases h
          · rename_i d hsp
            split at h
            · rename_i hc
              obtain ⟨rfl, rfl, rfl⟩ := hc
              injection h with h; subst h
              simp only [ren]
              by_cases ex : (ρ a0.block).ex = 0
              · simp [ex]
              · simp [Addr.add]
            · cases h
    · cases h
  · cases h
end Go.Tm
