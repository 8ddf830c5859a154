/- The engine, eighth part: reading and writing memory, on both sides. -/
import Derived.Test.YtigifaghgnbgoaaGreatEng7
namespace Go.Tm

theorem cell_at {w : World} {r o : Nat} {c : List Value} {e : TypeId} {fr : Nat × Nat} (h : w.heap[r]? = some (.cells c.toArray e fr)) : w.cell? ⟨r, o, none⟩ = c[o]? := by
  simp [World.cell?, h]

theorem acells_run {E : Env} {B : Nat} {ρ : Ren} {h : Heap} {w : World} (H : HR E B ρ h w) {a : Addr} {n : Nat} {l : List Value} (hl : acells E h a n = some l) :
    (∀ j v, (l.map (ren ρ))[j]? = some v → w.cell? ((rena ρ a).add j) = some v) ∧ l.length = n ∧ (∀ v, v ∈ l → sc h.next v = true) ∧ a.spot = none := by
  unfold acells at hl
  split at hl
  · cases hl
  · rename_i hsp
    have hadd : ∀ j, (rena ρ a).add j = ⟨(ρ a.block).r, a.off + (ρ a.block).sh + j, none⟩ := fun j => by rw [rena_add hsp, rena_addo]
    split at hl
    · rename_i hb
      split at hl
      · rename_i c e fr hro
        split at hl
        · rename_i hc
          injection hl with hl
          obtain ⟨h1, h2⟩ := hc
          rw [hl] at h2
          have hw := H.ro _ _ hb hro
          have hx := H.fix _ hb
          have hid : ∀ v, v ∈ l → ren ρ v = v ∧ sc h.next v = true := by
            intro v hv
            have := (clL_iff _ _).1 h2 v hv
            exact ⟨ren_id ρ E.base H.fix v this, sc_mono _ _ H.base_le v (sc_of_cl _ v this)⟩
          refine ⟨?_, by rw [← hl]; simp; omega, fun v hv => (hid v hv).2, hsp⟩
          intro j v hj
          rw [hadd, hx]
          have hm : l.map (ren ρ) = l := by
            conv => rhs; rw [← List.map_id l]
            exact List.map_congr_left fun v hv => (hid v hv).1
          rw [hm, ← hl, List.getElem?_take] at hj
          split at hj
          · rw [List.getElem?_drop] at hj
            simp [World.cell?, hw]
            simpa using hj
          · cases hj
        · cases hl
      · cases hl
    · split at hl
      · rename_i c e fx hg
        split at hl
        · rename_i hc
          injection hl with hl
          obtain ⟨_, _, _, hs, c', hw, ho⟩ := H.live _ _ hg
          cases c' <;> simp only [objR] at ho
          rename_i c' e' fr
          obtain ⟨rfl, _, pre, hid, rfl, hp, _, _⟩ := ho
          refine ⟨?_, by rw [← hl]; simp; omega, fun v hv => hs v (by rw [← hl] at hv; exact List.mem_of_mem_drop (List.mem_of_mem_take hv)), hsp⟩
          intro j v hj
          rw [hadd, cell_at hw]
          rw [← hl, List.map_take, List.map_drop, List.getElem?_take] at hj
          split at hj
          · rename_i hjn
            rw [List.getElem?_drop] at hj
            rw [List.append_assoc, List.getElem?_append_right (by omega), List.getElem?_append_left (by simp; omega)]
            rw [← hj]; congr 1; omega
          · cases hj
        · cases hl
      · cases hl

theorem run_aload {E : Env} {B : Nat} {ρ : Ren} {h : Heap} {w : World} (H : HR E B ρ h w) {t : TypeId} {x v : Value} (hl : aload E h t x = some v) :
    (Instr.loadAt t (ren ρ x)).run E.P w = .ok (ren ρ v) w ∧ sc h.next v = true ∧ ∃ a, x = .pointer (some a) := by
  unfold aload at hl
  split at hl
  · rename_i a
    refine ⟨?_, ?_, _, rfl⟩
    · split at hl
      · rename_i n ha hz
        cases hc : acells E h a n with
        | none => simp [hc] at hl
        | some l =>
          simp [hc] at hl; subst hl
          obtain ⟨h1, h2, _, _⟩ := acells_run H hc
          simp only [Instr.loadAt, ren, Instr.sureAddr, Sem.run_bind, Sem.run_pure, Result.andThen_ok, loadVar, run_isAgg ha, if_true, run_sizeOf hz]
          have := run_loadCells_list (P := E.P) w (rena ρ a) (l.map (ren ρ)) h1
          rw [List.length_map, h2] at this
          rw [this]
          simp [renA, renL_eq]
      · rename_i ha
        cases hc : acells E h a 1 with
        | none => simp [hc] at hl
        | some l =>
          simp [hc] at hl
          obtain ⟨h1, h2, _, _⟩ := acells_run H hc
          simp only [Instr.loadAt, ren, Instr.sureAddr, Sem.run_bind, Sem.run_pure, Result.andThen_ok, loadVar, run_isAgg ha]
          have := h1 0 (ren ρ v) (by simp [hl])
          rw [Addr.add_zero'] at this
          simp [this]
      · cases hl
    · split at hl
      · rename_i n ha hz
        cases hc : acells E h a n with
        | none => simp [hc] at hl
        | some l =>
          simp [hc] at hl; subst hl
          obtain ⟨_, _, h3, _⟩ := acells_run H hc
          simp only [sc, scA, scL_iff]; exact h3
      · cases hc : acells E h a 1 with
        | none => simp [hc] at hl
        | some l =>
          simp [hc] at hl
          exact (acells_run H hc).2.2.1 v (List.mem_of_getElem? hl)
      · cases hl
  · cases hl

theorem oneCell_ren (ρ : Ren) (v : Value) : (ren ρ v).oneCell' = v.oneCell' := by
  cases v with
  | pointer a => cases a <;> rfl
  | slice a l c => cases a <;> rfl
  | map a => cases a <;> rfl
  | chan a => cases a <;> rfl
  | _ => rfl

theorem splice_cons {c : List Value} {off : Nat} {v : Value} {vs : List Value} (h : off + (vs.length + 1) ≤ c.length) : splice (c.set off v) (off + 1) vs = splice c off (v :: vs) := by
  have := foldl_list vs (c.set off v) off 1 (by rw [List.length_set]; omega)
  rw [← this]
  have h2 := foldl_list (v :: vs) c off 0 (by rw [List.length_cons]; omega)
  rw [Nat.add_zero] at h2
  rw [← h2]
  simp [List.zipIdx_cons]

theorem setCell_setBlk {w : World} {r o : Nat} {c : List Value} {e : TypeId} {fr : Nat × Nat} {v : Value} (h : w.heap[r]? = some (.cells c.toArray e fr)) :
    w.setCell ⟨r, o, none⟩ v = setBlk w r (.cells (c.set o v).toArray e fr) := by
  unfold World.setCell setBlk
  congr 1
  apply Array.ext_getElem?
  intro j
  rw [Array.getElem?_modify, Array.getElem?_setIfInBounds]
  have hr : r < w.heap.size := by
    rcases Nat.lt_or_ge r w.heap.size with h' | h'
    · exact h'
    · simp [Array.getElem?_eq_none h'] at h
  by_cases e : r = j
  · subst e
    rw [if_pos rfl, if_pos rfl, if_pos hr, h]
    simp
  · simp [e]

theorem setBlk_same {w : World} {r : Nat} {c : Obj} (h : w.heap[r]? = some c) : setBlk w r c = w := by
  unfold setBlk
  have : w.heap.setIfInBounds r c = w.heap := by
    apply Array.ext_getElem?
    intro j
    rw [Array.getElem?_setIfInBounds]
    by_cases e : r = j
    · subst e
      have hr : r < w.heap.size := by
        rcases Nat.lt_or_ge r w.heap.size with h' | h'
        · exact h'
        · simp [Array.getElem?_eq_none h'] at h
      rw [if_pos rfl, if_pos hr, h]
    · simp [e]
  rw [this]

theorem setBlk_setBlk {w : World} {r : Nat} {c d : Obj} : setBlk (setBlk w r c) r d = setBlk w r d := by
  unfold setBlk; simp

theorem run_storeCells_blk {P : Program} {r off : Nat} {e : TypeId} {fr : Nat × Nat} : ∀ (vs : List Value) (w : World) (c : List Value) (k : Nat), w.heap[r]? = some (.cells c.toArray e fr) →
    (∀ i, i < c.length → ¬ (fr.1 ≤ i ∧ i < fr.2)) → off + k + vs.length ≤ c.length → vs.all Value.oneCell' = true →
    (storeCells ⟨r, off, none⟩ vs k).run P w = .ok () (setBlk w r (.cells (splice c (off + k) vs).toArray e fr))
  | [], w, c, k, hw, _, _, _ => by
    simp only [storeCells, Sem.run_pure]
    have : splice c (off + k) [] = c := by simp [splice]
    rw [this, setBlk_same hw]
  | v :: vs, w, c, k, hw, hf, hl, ho => by
    simp only [List.length_cons] at hl
    simp only [List.all_cons, Bool.and_eq_true] at ho
    have hcell : w.cell? ⟨r, off + k, none⟩ = c[off + k]? := cell_at hw
    have hlt : off + k < c.length := by omega
    have hfz : w.frozen? ⟨r, off + k, none⟩ = false := by
      have := hf (off + k) hlt
      simp [World.frozen?, hw]
      intro h1
      have := fun h2 => this ⟨h1, h2⟩
      omega
    simp only [storeCells, Sem.run_bind]
    rw [show (Addr.add ⟨r, off, none⟩ k) = ⟨r, off + k, none⟩ from Addr.add_lit r off k, run_store _ _ _ _ _ ho.1, hcell, List.getElem?_eq_getElem hlt]
    simp only [hfz, Bool.false_eq_true, if_false, Result.andThen_ok]
    rw [setCell_setBlk hw]
    have hr : r < w.heap.size := by
      rcases Nat.lt_or_ge r w.heap.size with h' | h'
      · exact h'
      · simp [Array.getElem?_eq_none h'] at hw
    rw [run_storeCells_blk (e := e) (fr := fr) vs _ (c.set (off + k) v) (k + 1) (by rw [heap_setBlk _ _ _ _ hr]; simp) (by simpa using hf) (by rw [List.length_set]; omega) ho.2]
    rw [setBlk_setBlk, show off + (k + 1) = off + k + 1 by omega, splice_cons (by omega)]

theorem splice_mid {pre c hid vs : List Value} {off : Nat} (h : off + vs.length ≤ c.length) : splice (pre ++ c ++ hid) (pre.length + off) vs = pre ++ splice c off vs ++ hid := by
  unfold splice
  rw [List.append_assoc pre c hid, List.take_length_add_append, Nat.add_assoc, List.drop_length_add_append]
  rw [List.take_append_of_le_length (by omega), List.drop_append_of_le_length (by omega)]
  simp

theorem map_splice (f : Value → Value) (c vs : List Value) (off : Nat) : (splice c off vs).map f = splice (c.map f) off (vs.map f) := by
  simp [splice, List.map_take, List.map_drop]

theorem run_awrite {E : Env} {B : Nat} {ρ : Ren} {h h' : Heap} {w : World} (H : HR E B ρ h w) {a : Addr} {vs : List Value} (hw : awrite h a vs = some h') (hs : ∀ v, v ∈ vs → sc h.next v = true) :
    ∃ w', (storeCells (rena ρ a) (vs.map (ren ρ)) 0).run E.P w = .ok () w' ∧ Step E B ρ h w ρ h' w' := by
  unfold awrite at hw
  split at hw
  · cases hw
  · rename_i hsp
    split at hw
    · rename_i c e fx hg
      split at hw
      · rename_i hc
        injection hw with hw; subst hw
        obtain ⟨hlen, hone⟩ := hc
        obtain ⟨_, _, _, hsc, c', hblk, ho⟩ := H.live _ _ hg
        cases c' <;> simp only [objR] at ho
        rename_i c' e' fr
        obtain ⟨rfl, hfx, pre, hid, rfl, hp, hh, hfr⟩ := ho
        have hra : rena ρ a = ⟨(ρ a.block).r, pre.length + a.off, none⟩ := by simp [rena, hsp, hp]; omega
        refine ⟨_, by
          rw [hra]
          refine run_storeCells_blk (vs.map (ren ρ)) w (pre ++ c.map (ren ρ) ++ hid) 0 hblk (fun i hi => hfr i (by simpa using hi)) (by simp; omega) ?_
          rw [List.all_eq_true] at hone ⊢
          intro x hx
          obtain ⟨y, hy, rfl⟩ := List.mem_map.1 hx
          rw [oneCell_ren]; exact hone y hy, ?_⟩
        rw [Nat.add_zero, splice_mid (by simpa using hlen)]
        refine Step.put H hg (sc_splice hsc hs) ?_
        refine ⟨rfl, hfx, pre, hid, by rw [map_splice], hp, hh, ?_⟩
        intro i hi
        refine hfr i ?_
        have : (splice (List.map (ren ρ) c) a.off (List.map (ren ρ) vs)).length = c.length := by rw [splice_length (by simpa using hlen)]; simp
        simp only [List.size_toArray, List.length_append, this, List.length_map] at hi ⊢
        exact hi
      · cases hw
    · cases hw

theorem run_astore {E : Env} {B : Nat} {ρ : Ren} {h h' : Heap} {w : World} (H : HR E B ρ h w) {t : TypeId} {x v : Value} (hw : astore E h t x v = some h') (hs : sc h.next v = true) :
    ∃ w', (Instr.storeAt t (ren ρ x) (ren ρ v)).run E.P w = .ok () w' ∧ Step E B ρ h w ρ h' w' := by
  unfold astore at hw
  split at hw
  · rename_i a
    split at hw
    · rename_i hz
      obtain ⟨w', r1, r2⟩ := run_awrite H hw (sc_vcells hs)
      refine ⟨w', ?_, r2⟩
      have hl : (ren ρ v).cells.size = (vcells v).length := by rw [cells_eq, vcells_ren]; simp
      have hl2 : (ren ρ v).cells.toList = (vcells v).map (ren ρ) := by rw [cells_eq, vcells_ren]
      simp only [Instr.storeAt, ren, Instr.sureAddr, Sem.run_bind, Sem.run_pure, Result.andThen_ok, storeVar, run_sizeOf hz, hl]
      simp [hl2, r1]
    · cases hw
  · cases hw
end Go.Tm
