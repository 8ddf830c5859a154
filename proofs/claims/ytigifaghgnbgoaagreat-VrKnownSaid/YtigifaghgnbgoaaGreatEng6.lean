/- The engine, sixth part: what an operation that leaves memory alone gives. -/
import Derived.Test.YtigifaghgnbgoaaGreatEng5
namespace Go.Tm

def aplaces (P : Program) : List Field → Option (List (Nat × Nat))
  | [] => some []
  | f :: l =>
    match asz P f.type, aplaces P l with
    | some n, some r => some ((f.offset, n) :: r)
    | _, _ => none

theorem run_aplaces {P : Program} (w : World) : ∀ (l : List Field) (r : List (Nat × Nat)), aplaces P l = some r →
    (l.mapM fun f => do pure (f.offset, ← sizeOf f.type) : Sem (List (Nat × Nat))).run P w = .ok r w
  | [], r, h => by simp [aplaces] at h; subst h; rfl
  | f :: l, r, h => by
    simp only [aplaces] at h
    cases h1 : asz P f.type with
    | none => simp [h1] at h
    | some n =>
      cases h2 : aplaces P l with
      | none => simp [h1, h2] at h
      | some r' =>
        simp [h1, h2] at h; subst h
        have ih := run_aplaces w l r' h2
        simp only [List.mapM_cons, Sem.run_bind, run_sizeOf h1, Result.andThen_ok, Sem.run_pure, ih]

def azero (P : Program) (t : TypeId) : Option Value :=
  match P.info? t with
  | some i => match i.zero with
    | some z => if cl 0 z then some z else none
    | none => none
  | none => none

theorem run_azero {P : Program} {t : TypeId} {z : Value} (h : azero P t = some z) (w : World) : (zeroValue t).run P w = .ok z w ∧ cl 0 z = true ∧ (P.info? t).bind (·.zero) = some z := by
  unfold azero at h
  cases hi : P.info? t with
  | none => simp [hi] at h
  | some i =>
    simp only [hi] at h
    cases hz : i.zero with
    | none => simp [hz] at h
    | some z' =>
      simp only [hz] at h
      split at h
      · rename_i hc
        injection h with h; subst h
        exact ⟨by simp [zeroValue, typeInfo, hi, hz], hc, by simp [hz]⟩
      · cases h

theorem azero_vcells {ρ : Ren} {P : Program} {t : TypeId} {z : Value} (h : azero P t = some z) : ren ρ z = z ∧ ∀ n, sc n z = true := by
  have hc := (run_azero h default).2.1
  exact ⟨ren_id ρ 0 (fun _ hb => by omega) z hc, fun n => sc_mono 0 n (Nat.zero_le _) z (sc_of_cl 0 z hc)⟩

theorem sc_vcells {n : Nat} {v : Value} (h : sc n v = true) : ∀ x, x ∈ vcells v → sc n x = true := by
  cases v <;> simp only [vcells] <;> first
    | (intro x hx; simp only [List.mem_singleton] at hx; subst hx; exact h)
    | skip
  rename_i a
  simp only [sc] at h
  cases a with | mk l => simpa [scA, scL_iff] using h

def abuild (P : Program) (t : TypeId) (parts : List (Nat × Value)) : Option Value :=
  match azero P t with
  | some z => match P.underlying t with
    | some (.struct fields) => match aplaces P fields.toList with
      | some ps => (afill (ps[·]?) (vcells z) parts).map fun l => .agg l.toArray
      | none => none
    | some (.array _ e) => match asz P e with
      | some size => (afill (fun i => some (i * size, size)) (vcells z) parts).map fun l => .agg l.toArray
      | none => none
    | _ => none
  | none => none

theorem sc_splice {n : Nat} {c vs : List Value} {off : Nat} (h1 : ∀ x, x ∈ c → sc n x = true) (h2 : ∀ x, x ∈ vs → sc n x = true) : ∀ x, x ∈ splice c off vs → sc n x = true := by
  intro x hx
  unfold splice at hx
  simp only [List.mem_append] at hx
  rcases hx with (hx | hx) | hx
  · exact h1 x (List.mem_of_mem_take hx)
  · exact h2 x hx
  · exact h1 x (List.mem_of_mem_drop hx)

theorem sc_afill {n : Nat} {place : Nat → Option (Nat × Nat)} : ∀ (parts : List (Nat × Value)) (cells r : List Value), afill place cells parts = some r →
    (∀ x, x ∈ cells → sc n x = true) → (∀ p, p ∈ parts → sc n p.2 = true) → ∀ x, x ∈ r → sc n x = true
  | [], cells, r, h, h1, _ => by simp [afill] at h; subst h; exact h1
  | (i, v) :: rest, cells, r, h, h1, h2 => by
    simp only [afill] at h
    cases hp : place i with
    | none => simp [hp] at h
    | some os =>
      obtain ⟨off, size⟩ := os
      simp only [hp] at h
      split at h
      · cases h
      · exact sc_afill rest _ r h (sc_splice h1 (sc_vcells (h2 (i, v) (by simp)))) (fun p hp => h2 p (by simp [hp]))

theorem run_abuild {P : Program} {ρ : Ren} {t : TypeId} {parts : List (Nat × Value)} {v : Value} (h : abuild P t parts = some v) (w : World) :
    (Instr.build t (parts.map fun p => (p.1, ren ρ p.2)).toArray).run P w = .ok (ren ρ v) w := by
  unfold abuild at h
  cases hz : azero P t with
  | none => simp [hz] at h
  | some z =>
    simp only [hz] at h
    obtain ⟨r0, _⟩ := run_azero hz w
    have e0 := (azero_vcells (ρ := ρ) hz).1
    have e1 : z.cells = ((vcells z).map (ren ρ)).toArray := by rw [← vcells_ren, e0, cells_eq]
    split at h
    · rename_i fields hu
      cases hp : aplaces P fields.toList with
      | none => simp [hp] at h
      | some ps =>
        simp only [hp] at h
        cases hf : afill (ps[·]?) (vcells z) parts with
        | none => simp [hf] at h
        | some l =>
          simp [hf] at h; subst h
          have rf := run_afill (ρ := ρ) parts (vcells z) l hf
          have rp := run_aplaces w fields.toList ps hp
          simp only [Instr.build, Sem.run_bind, r0, Result.andThen_ok, run_underlying hu, Array.mapM_eq_mapM_toList, Sem.run_map, rp, e1]
          have : (fun (x : Nat) => (ps.toArray : Array (Nat × Nat))[x]?) = (ps[·]?) := by funext x; simp
          rw [this, rf]
          simp [ren_agg]
    · rename_i k e hu
      cases hs : asz P e with
      | none => simp [hs] at h
      | some size =>
        simp only [hs] at h
        cases hf : afill (fun i => some (i * size, size)) (vcells z) parts with
        | none => simp [hf] at h
        | some l =>
          simp [hf] at h; subst h
          have rf := run_afill (ρ := ρ) parts (vcells z) l hf
          simp only [Instr.build, Sem.run_bind, r0, Result.andThen_ok, run_underlying hu, run_sizeOf hs, e1]
          rw [rf]
          simp [ren_agg]
    · cases h

theorem sc_abuild {P : Program} {n : Nat} {t : TypeId} {parts : List (Nat × Value)} {v : Value} (h : abuild P t parts = some v) (hs : ∀ p, p ∈ parts → sc n p.2 = true) : sc n v = true := by
  unfold abuild at h
  cases hz : azero P t with
  | none => simp [hz] at h
  | some z =>
    simp only [hz] at h
    have hz' := (azero_vcells (ρ := fun b => ⟨b, 0, 0⟩) hz).2 n
    split at h
    · rename_i fields hu
      cases hp : aplaces P fields.toList with
      | none => simp [hp] at h
      | some ps =>
        simp only [hp] at h
        cases hf : afill (ps[·]?) (vcells z) parts with
        | none => simp [hf] at h
        | some l =>
          simp [hf] at h; subst h
          simp only [sc, scA, scL_iff]
          exact sc_afill parts _ l hf (sc_vcells hz') hs
    · rename_i k e hu
      cases hs' : asz P e with
      | none => simp [hs'] at h
      | some size =>
        simp only [hs'] at h
        cases hf : afill (fun i => some (i * size, size)) (vcells z) parts with
        | none => simp [hf] at h
        | some l =>
          simp [hf] at h; subst h
          simp only [sc, scA, scL_iff]
          exact sc_afill parts _ l hf (sc_vcells hz') hs
    · cases h

/-- AN OPERATION THAT NEITHER READS NOR WRITES: its value. -/
def apure (P : Program) (ev : Operand → Value) : Op → Option Value
  | .move x => some (ev x)
  | .assign x => some (ev x)
  | .pick c a b => match ev c with
    | .bool t => some (if t then ev a else ev b)
    | _ => none
  | .build t parts => abuild P t (parts.toList.map fun p => (p.1, ev p.2))
  | .nilCheck x => match ev x with
    | .pointer (some a) => some (.pointer (some a))
    | .func (.func f) x y => some (.func (.func f) x y)
    | .iface t v => some (.iface t v)
    | _ => none
  | .binOp op t x y _ => abin P (isConst x || isConst y) op t (ev x) (ev y)
  | .unOp op _ x => aun op (ev x)
  | .convert s d x => aconv P s d (ev x)
  | .makeInterface t x => match P.underlying t with
    | some (.interface _) => none
    | some _ => some (.iface t (ev x))
    | none => none
  | .makeFunc (.func f) first cap => some (.func (.func f) (first.toList.map ev).toArray (cap.toList.map ev).toArray)
  | .slice t x lo hi none => asl P t (ev x) (lo.map ev) (hi.map ev)
  | .fieldAddr t x f => afieldAddr P t (ev x) f
  | .field t x f => afield P t (ev x) f
  | .indexAddr t x i => aindexAddr P t (ev x) (ev i)
  | .index t x i => aindex P t (ev x) (ev i)
  | .extract x i => aextract (ev x) i
  | .call { callee := .builtin .len, args, argTypes } =>
    match args.toList, argTypes.toList with
    | [x], [t] => alen P t (ev x)
    | _, _ => none
  | .call { callee := .builtin .max, args, argTypes := _ } => amm fmax (args.toList.map ev)
  | .call { callee := .builtin .min, args, argTypes := _ } => amm fmin (args.toList.map ev)
  | _ => none

theorem run_apure {P : Program} {ρ : Ren} {ev : Operand → Value} {o : Oper} {v : Value} (h : apure P ev o.op = some v) (w : World) :
    (execOp (fun x => ren ρ (ev x)) o).run P w = .ok (.value (ren ρ v)) w := by
  obtain ⟨dst, op, ty, pos, after, guard⟩ := o
  simp only at h
  unfold apure at h
  split at h
  · injection h with h; subst h; rfl
  · injection h with h; subst h; rfl
  · rename_i c a b
    split at h
    · rename_i t hc
      injection h with h; subst h
      simp only [execOp, hc, ren, asBool, Sem.run_bind, Sem.run_pure, Result.andThen_ok]
      cases t <;> rfl
    · cases h
  · rename_i t parts
    have := run_abuild (ρ := ρ) h w
    simp only [execOp, Sem.run_bind]
    have e : (parts.map fun x => (x.1, ren ρ (ev x.2))) = (List.map (fun p => (p.1, ren ρ p.2)) (List.map (fun p => (p.1, ev p.2)) parts.toList)).toArray := by
      apply Array.ext'; simp
    rw [show (parts.map fun (x : Nat × Operand) => match x with | (i, x) => (i, ren ρ (ev x))) = (parts.map fun x => (x.1, ren ρ (ev x.2))) from rfl, e, this]
    rfl
  · rename_i x
    split at h
    all_goals first
      | (rename_i hx; injection h with h; subst h; simp only [execOp, hx, ren]; rfl)
      | (cases h; done)
  · rename_i op t x y yt
    have hg := run_eqGuard (ρ := ρ) (x := x) (y := y) h
    have hb := run_abin (ρ := ρ) h w
    have hf := (flat_abin h ρ 0).1
    simp only [execOp, Sem.run_bind, hg, Sem.run_pure, Result.andThen_ok, hb, hf]
  · have hb := run_aun (P := P) (ρ := ρ) h w
    have hf : ren ρ v = v := by
      unfold aun at h
      split at h <;> first | (injection h with h; subst h; rfl) | (cases h; done)
    simp only [execOp, Sem.run_bind, Sem.run_pure, Result.andThen_ok, hb, hf]
  · have hb := run_aconv (P := P) (ρ := ρ) h w
    have hf : ren ρ v = v := by
      unfold aconv at h
      split at h <;> first | (injection h with h; subst h; rfl) | (cases h; done)
    simp only [execOp, Sem.run_bind, Sem.run_pure, Result.andThen_ok, hb, hf]
  · rename_i t x
    split at h
    · cases h
    · rename_i d hd hu
      injection h with h; subst h
      simp only [execOp, Instr.makeInterface, Sem.run_bind, run_underlying hu, Result.andThen_ok, ren]
      cases d <;> first | rfl | exact absurd rfl (hd _)
    · cases h
  · rename_i f first cap
    injection h with h; subst h
    simp only [execOp, Instr.makeFunc, Sem.run_bind, Sem.run_pure, Result.andThen_ok, ren, renA_eq]
    congr 2
    simp only [Value.func.injEq, true_and]
    constructor <;> (apply Array.ext'; simp)
  · rename_i t x lo hi
    have := run_asl (ρ := ρ) h w
    simp only [Option.map_map] at this
    simp only [execOp, Sem.run_bind, Option.map_none]
    rw [show (Option.map (fun x => ren ρ (ev x)) lo) = Option.map (ren ρ ∘ ev) lo from rfl, show (Option.map (fun x => ren ρ (ev x)) hi) = Option.map (ren ρ ∘ ev) hi from rfl, this]
    rfl
  · simp only [execOp, Sem.run_bind, run_afieldAddr (ρ := ρ) h w]; rfl
  · simp only [execOp, Sem.run_bind, run_afield (ρ := ρ) h w]; rfl
  · simp only [execOp, Sem.run_bind, run_aindexAddr (ρ := ρ) h w]; rfl
  · simp only [execOp, Sem.run_bind, run_aindex (ρ := ρ) h w]; rfl
  · simp only [execOp, Sem.run_bind, run_aextract (ρ := ρ) h w]; rfl
  · rename_i args argTypes
    split at h
    · rename_i x t hx ht
      obtain ⟨args⟩ := args
      obtain ⟨argTypes⟩ := argTypes
      simp only at hx ht; subst hx ht
      have hl := run_alen (ρ := ρ) (ty := ty) h w
      have hf : ren ρ v = v := by
        unfold alen at h
        split at h <;> first | (injection h with h; subst h; rfl) | (cases h; done)
      simp [execOp, resolve, invoke, builtin, hl, hf]
    · cases h
  · rename_i args argTypes
    obtain ⟨args⟩ := args
    have hl := (run_amm (P := P) (ρ := ρ) (ts := argTypes) (t := ty) w).1 h
    have hf : ren ρ v = v := by obtain ⟨k, n, rfl⟩ := flat_amm h; rfl
    simp only [List.map_map] at hl
    simp [execOp, resolve, invoke, builtin, hf]
    rw [show (fun x => ren ρ (ev x)) = ren ρ ∘ ev from rfl, hl]; rfl
  · rename_i args argTypes
    obtain ⟨args⟩ := args
    have hl := (run_amm (P := P) (ρ := ρ) (ts := argTypes) (t := ty) w).2 h
    have hf : ren ρ v = v := by obtain ⟨k, n, rfl⟩ := flat_amm h; rfl
    simp only [List.map_map] at hl
    simp [execOp, resolve, invoke, builtin, hf]
    rw [show (fun x => ren ρ (ev x)) = ren ρ ∘ ev from rfl, hl]; rfl
  · cases h
end Go.Tm
