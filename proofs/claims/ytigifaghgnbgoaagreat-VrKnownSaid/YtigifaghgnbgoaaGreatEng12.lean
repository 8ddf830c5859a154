/- The engine, twelfth part: the other operations on memory. -/
import Derived.Test.YtigifaghgnbgoaaGreatEng11
import Derived.Laws.RangeAny
import Derived.Laws.BytesString
namespace Go.Tm

theorem storeCells_zero {P : Program} {w : World} (a : Addr) : (storeCells a [] 0).run P w = .ok () w := rfl

theorem run_acopy {E : Env} {B : Nat} {ρ : Ren} {h h' : Heap} {w : World} (H : HR E B ρ h w) {t : TypeId} {ts : Array TypeId} {ty : TypeId} (hts : ts[0]? = some t) {d x v : Value} (hx : acopy E h t d x = some (v, h')) :
    ∃ w', (Builtin.copy_ ts ty #[ren ρ d, ren ρ x]).run E.P w = .ok v w' ∧ Step E B ρ h w ρ h' w' ∧ ∃ k n, v = .int k n := by
  unfold acopy at hx
  split at hx
  · rename_i e base dLen dCap sn hu hn
    split at hx
    · cases hx
    · rename_i size hz
      have hlen := run_lenOf (P := E.P) (ρ := ρ) hn w
      obtain ⟨b', c', hren⟩ : ∃ b' c', ren ρ (.slice base dLen dCap) = .slice b' dLen c' := by
        cases base <;> exact ⟨_, _, rfl⟩
      simp only at hx
      split at hx
      · rename_i h0
        simp only [Option.some.injEq, Prod.mk.injEq] at hx
        obtain ⟨rfl, rfl⟩ := hx
        refine ⟨w, ?_, Step.refl H, _, _, rfl⟩
        have hf : (Builtin.firstCells size 0 (ren ρ x)).run E.P w = .ok #[] w := by
          unfold alenOf at hn
          split at hn
          · rename_i a _ _
            cases a <;> simp [ren, Builtin.firstCells, loadCells, loadCellsFrom]
          · simp [ren, Builtin.firstCells]
          · cases hn
        rw [hren]
        cases b' <;> simp [Builtin.copy_, hts, run_underlying hu, run_sizeOf hz, hlen, h0, hf, storeCells, goInt]
      · split at hx
        · rename_i l a hsrc
          split at hx
          · rename_i hl
            cases hw : awrite h a l with
            | none => simp [hw] at hx
            | some h2 =>
              simp [hw] at hx
              obtain ⟨rfl, rfl⟩ := hx
              obtain ⟨hf, hnews⟩ := run_asrc H hsrc
              obtain ⟨w', r1, r2⟩ := run_awrite H hw hnews
              have hsp : a.spot = none := by
                unfold awrite at hw
                split at hw
                · cases hw
                · assumption
              refine ⟨w', ?_, r2, _, _, rfl⟩
              simp only [ren, rens_none hsp]
              simp [Builtin.copy_, hts, run_underlying hu, run_sizeOf hz, hlen, hf, r1, goInt]
          · cases hx
        · cases hx
  · cases hx

theorem run_aclear {E : Env} {B : Nat} {ρ : Ren} {h h' : Heap} {w : World} (H : HR E B ρ h w) {t : TypeId} {ty : TypeId} {x : Value} (hx : aclear E h t x = some h') :
    ∃ w', (Builtin.clear_ #[t] ty #[ren ρ x]).run E.P w = .ok (.tuple #[]) w' ∧ Step E B ρ h w ρ h' w' := by
  unfold aclear at hx
  split at hx
  · rename_i hu
    injection hx with hx; subst hx
    exact ⟨w, by simp [Builtin.clear_, run_underlying hu, ren], Step.refl H⟩
  · rename_i hu
    injection hx with hx; subst hx
    exact ⟨w, by simp [Builtin.clear_, run_underlying hu, ren], Step.refl H⟩
  · rename_i e a n c hu
    split at hx
    · rename_i z hz
      obtain ⟨w', r1, r2⟩ := run_awrite H hx (fun v hv => sc_vcells ((azero_vcells (ρ := ρ) hz).2 h.next) v (arep_mem hv))
      have hsp : a.spot = none := by
        unfold awrite at hx
        split at hx
        · cases hx
        · assumption
      refine ⟨w', ?_, r2⟩
      have hzc : (Builtin.zeroCells z.cells (n + 1)).toList = (arep (n + 1) (vcells z)).map (ren ρ) := by
        rw [arep_map, azero_map hz, cells_eq]
        by_cases h0 : (vcells z).length = 0
        · have : vcells z = [] := List.length_eq_zero_iff.1 h0
          have e2 : ∀ m, arep m ([] : List Value) = [] := by
            intro m; induction m with
            | zero => rfl
            | succ m ih => simp [arep, ih]
          rw [this, e2]; simp [Builtin.zeroCells]
        · have := arep_range (vcells z) (by omega) (n + 1)
          simp only [Builtin.zeroCells]
          rw [show (vcells z).toArray.size = (vcells z).length by simp] at *
          rw [this]
      simp only [ren, rens_none hsp]
      have e1 : (Builtin.clear_ #[t] ty #[.slice (some (rena ρ a)) (n + 1) (c + (ρ a.block).ex)]).run E.P w = ((do storeCells (rena ρ a) (Builtin.zeroCells z.cells (n + 1)).toList : Sem Unit).run E.P w).andThen fun _ w' => .ok (.tuple #[]) w' := by
        simp [Builtin.clear_, run_underlying hu, (run_azero hz w).1]
      rw [e1, hzc, r1]; rfl
    · cases hx
  · cases hx

theorem run_anext {E : Env} {B : Nat} {ρ : Ren} {h h' : Heap} {w : World} (H : HR E B ρ h w) {it v : Value} {isS : Bool} {ty : TypeId} (hx : anext h it isS = some (v, h')) :
    ∃ w', (Instr.next (ren ρ it) isS ty).run E.P w = .ok (ren ρ v) w' ∧ Step E B ρ h w ρ h' w' ∧ sc h'.next v = true := by
  unfold anext at hx
  split at hx
  · rename_i b
    split at hx
    · rename_i s pos hg
      obtain ⟨_, _, _, _, c, hc, ho⟩ := H.live _ _ hg
      cases c <;> simp only [objR] at ho
      rename_i s' p'
      obtain ⟨rfl, rfl, hsh⟩ := ho
      have hr : ren ρ (.pointer (some ⟨b, 0, none⟩)) = .pointer (some ⟨(ρ b).r, 0, none⟩) := by simp [ren, rena, hsh]
      have hlt := H.lt hg
      have hget : (getObj (ρ b).r).run E.P w = .ok (.stringIter s' p') w := by simp [getObj, Sem.run, hc]
      rw [hr]
      split at hx
      · rename_i hp
        simp only [Option.some.injEq, Prod.mk.injEq] at hx
        obtain ⟨rfl, rfl⟩ := hx
        have hset : ∀ o, (setObj (ρ b).r o).run E.P w = .ok () (setBlk w (ρ b).r o) := by intro o; simp [setObj, Sem.run, hc, setBlk]
        refine ⟨setBlk w (ρ b).r (.stringIter s' (p' + (Utf8.decode s' p').2)), ?_, Step.put H hg trivial ⟨rfl, rfl, hsh⟩, by simp [sc, scA, scL]⟩
        simp only [Instr.next, Sem.run_bind, hget, Result.andThen_ok, if_pos hp, hset, Sem.run_pure]
        simp [ren, renA_eq, goInt]
      · rename_i hp
        simp only [Option.some.injEq, Prod.mk.injEq] at hx
        obtain ⟨rfl, rfl⟩ := hx
        refine ⟨w, ?_, Step.refl H, by simp [sc, scA, scL]⟩
        simp only [Instr.next, Sem.run_bind, hget, Result.andThen_ok, if_neg hp, Sem.run_pure]
        simp [ren, renA_eq]
    · cases hx
  · cases hx
end Go.Tm
