/- The engine, the part of maps: keys that are numbers or texts. -/
/- Merged by a program of ours: Eng11 Eng12 EngM. -/
import Derived.Test.YthdgobcpefcolaaGreatDoorG02
import Derived.Laws.RangeAny
import Derived.Laws.BytesString
set_option maxRecDepth 10000
set_option linter.all false
set_option linter.unusedSimpArgs false
set_option linter.unusedVariables false
/- The engine, eleventh part: append, whatever the tape says of room. -/
namespace Go.Tm

def App (E : Env) (B : Nat) (ρ : Ren) (h : Heap) (w : World) (t t1 ty : TypeId) (s x v : Value) (h' : Heap) : Prop :=
  ∃ ρ' w', (Builtin.append_ #[t, t1] ty #[ren ρ s, ren ρ x]).run E.P w = .ok (ren ρ' v) w' ∧ Step E B ρ h w ρ' h' w' ∧ sc h'.next v = true

theorem live_acells {E : Env} {B : Nat} {ρ : Ren} {h : Heap} {w : World} (H : HR E B ρ h w) {a : Addr} {c : List Value} {e : TypeId} {fx : Bool} (hg : h.get a.block = some (.cells c e fx)) (hsp : a.spot = none) {n : Nat} (hn : a.off + n ≤ c.length) :
    acells E h a n = some ((c.drop a.off).take n) := by
  unfold acells
  have := (H.live _ _ hg).1
  rw [hsp]
  simp only [hg]
  rw [if_neg (by omega), if_pos hn]

theorem run_agrow {E : Env} {B : Nat} {ρ : Ren} {h h' : Heap} {w : World} (H : HR E B ρ h w) {t t1 ty e : TypeId} {d1 : TypeDesc} {i : TypeInfo} (hu : E.P.underlying t = some (.slice e)) (hu1 : E.P.underlying t1 = some d1) (hd : isIntD d1 = false)
    (hi : E.P.info? e = some i) {base : Option Addr} {sLen sCap n : Nat} {x v : Value} {news : List Value} (hn : alenOf x = some n) (hsrc : asrc E h i.size x n = some news) (hlt : ¬ (sLen + n ≤ sCap))
    (hx : agrow E h e i base sLen sCap n news = some (v, h')) : App E B ρ h w t t1 ty (.slice base sLen sCap) x v h' := by
  have hsz : asz E.P e = some i.size := by simp [asz, hi]
  have hcell : E.P.cellsOf e = i.size := by simp [Program.cellsOf, hi]
  have hlen := run_lenOf (P := E.P) (ρ := ρ) hn w
  obtain ⟨hf, hnews⟩ := run_asrc H hsrc
  obtain ⟨hf2, _⟩ := run_asrc H.drew hsrc
  unfold agrow at hx
  split at hx
  · rename_i hc
    obtain ⟨hb, hnl, hpos, h63, hone⟩ := hc
    split at hx
    · cases hx
    · rename_i z hz
      split at hx
      · rename_i hzl
        have hz0 : i.zero = some z := by have := (run_azero hz w).2.2; rw [hi] at this; simpa using this
        have hzc : z.cells = (vcells z).toArray := cells_eq z
        split at hx
        · split at hx
          · rename_i h0
            obtain ⟨rfl, rfl⟩ := h0
            simp only [Option.some.injEq, Prod.mk.injEq] at hx
            obtain ⟨rfl, rfl⟩ := hx
            have hg := run_append_grows (w := w) (ty := ty) hu hu1 hd hi hz0 (b := none) (sLen := 0) (c := 0) hlen (olds := []) (by simp [Builtin.firstCells]) hf2 (by omega) hb h63
            obtain ⟨hid, e1, e2⟩ := zeroCells_list (vcells z) (grownCap w (0 + n) 0 e - (0 + n))
            refine ⟨_, _, ?_, (Step.drew H).trans (Step.alloc H.drew (ex := grownCap w (0 + n) 0 e - (0 + n)) (sh := 0) (c := .cells (news.map (ren ρ) ++ hid).toArray e) hnews (objR_grown (by rw [e2, hzl, hcell]))), by simp [sc, anew]⟩
            have hle := grownCap_le w (0 + n) 0 e
            simp only [ren]
            rw [hg, hzc, e1]
            simp only [rens, anew, upd_same, capx_none]
            congr 2
            · omega
            · simp at hle ⊢; omega
            · simp
          · cases hx
        · rename_i a
          split at hx
          · rename_i c e' fx hg
            split at hx
            · rename_i hcond
              obtain ⟨rfl, hend, htail, hsl⟩ := hcond
              obtain ⟨hb1, hb2, hb3, hsc, cc, hblk, hobj⟩ := H.live _ _ hg
              cases cc <;> simp only [objR] at hobj
              rename_i cc ee fr
              obtain ⟨rfl, hfx, pre, hid, rfl, hpre, hhid, hfr⟩ := hobj
              rw [hcell] at hhid
              have hcx : capx ρ a sLen sCap = sCap + (ρ a.block).ex := by
                unfold capx
                split
                · rename_i hh; exact absurd (htail (by rw [hh.1]; rfl)).1 hh.2
                · rfl
              have holen : ((c.drop a.off).take (sLen * i.size)).length = sLen * i.size ∧ a.off + sLen * i.size ≤ c.length ∨ sLen * i.size = 0 := by
                by_cases hs0 : a.spot = none
                · left
                  simp only [aend, hs0] at hend
                  have := Nat.mul_le_mul_right i.size hsl
                  constructor
                  · simp; omega
                  · omega
                · right
                  have : a.spot.isSome = true := by cases h1 : a.spot <;> simp_all
                  rw [(htail this).1]; simp
              have holds : (Builtin.firstCells i.size sLen (ren ρ (.slice (some a) sLen sCap))).run E.P w = .ok (((c.drop a.off).take (sLen * i.size)).map (ren ρ)).toArray w ∧
                  (Builtin.firstCells i.size sLen (ren ρ (.slice (some a) sLen sCap))).run E.P w.drew = .ok (((c.drop a.off).take (sLen * i.size)).map (ren ρ)).toArray w.drew := by
                rcases holen with ⟨hol, hol2⟩ | h0
                · by_cases hs0 : a.spot = none
                  · have hac := live_acells H hg hs0 hol2
                    have key : ∀ W, HR E B ρ h W → (Builtin.firstCells i.size sLen (ren ρ (.slice (some a) sLen sCap))).run E.P W = .ok (((c.drop a.off).take (sLen * i.size)).map (ren ρ)).toArray W := by
                      intro W HW
                      obtain ⟨h1, h2, _, _⟩ := acells_run HW hac
                      have := run_loadCells_list (P := E.P) W (rena ρ a) _ h1
                      rw [List.length_map, h2] at this
                      simp only [ren, Builtin.firstCells, rens_none hs0]
                      exact this
                    exact ⟨key w H, key w.drew H.drew⟩
                  · have : a.spot.isSome = true := by cases h1 : a.spot <;> simp_all
                    have h0 := (htail this).1
                    subst h0
                    simp [ren, Builtin.firstCells, loadCells, loadCellsFrom]
                · simp [ren, Builtin.firstCells, h0, loadCells, loadCellsFrom]
              have hosc : ∀ v, v ∈ (c.drop a.off).take (sLen * i.size) → sc h.next v = true := fun v hv => hsc v (List.mem_of_mem_drop (List.mem_of_mem_take hv))
              have hallsc : ∀ v, v ∈ (c.drop a.off).take (sLen * i.size) ++ news → sc h.next v = true := by
                intro v hv
                rcases List.mem_append.1 hv with hv | hv
                · exact hosc v hv
                · exact hnews v hv
              by_cases hroom : sLen + n ≤ sCap + (ρ a.block).ex
              · -- in place
                have hex : 0 < (ρ a.block).ex := by omega
                have hfxf : fx = false := by
                  cases fx
                  · rfl
                  · have := hfx rfl; omega
                subst hfxf
                simp only [Bool.false_eq_true, if_false, Option.some.injEq, Prod.mk.injEq] at hx
                obtain ⟨rfl, rfl⟩ := hx
                have hra : rens ρ a = ⟨(ρ a.block).r, pre.length + aend a, none⟩ := by
                  unfold rens aend
                  cases hsp : a.spot with
                  | none => simp [hpre]; omega
                  | some d =>
                    have hev := (htail (by rw [hsp]; rfl)).2.2
                    have hod : ¬ (d % 2 = 1) := by unfold evenS at hev; rw [hsp] at hev; simpa using hev
                    simp [hpre, Nat.ne_of_gt hex, hod]; omega
                have hmul := Nat.mul_le_mul_right i.size hroom
                rw [Nat.add_mul, Nat.add_mul] at hmul
                have hrowlen : (pre ++ c.map (ren ρ) ++ hid).length = pre.length + aend a + sCap * i.size + (ρ a.block).ex * i.size := by simp; omega
                have hstore := run_storeCells_blk (P := E.P) (r := (ρ a.block).r) (off := pre.length + aend a + sLen * i.size) (e := ee) (fr := fr) (news.map (ren ρ)) w (pre ++ c.map (ren ρ) ++ hid) 0 hblk
                  (fun j hj => hfr j (by simpa using hj)) (by rw [hrowlen]; simp; omega) (by
                    rw [List.all_eq_true] at hone ⊢
                    intro x hx
                    obtain ⟨y, hy, rfl⟩ := List.mem_map.1 hx
                    rw [oneCell_ren]; exact hone y hy)
                have happ := run_append_room (ty := ty) hu hu1 hd hsz (b := some (rens ρ a)) (sLen := sLen) (c := sCap + (ρ a.block).ex) hlen hf hroom (w' := _) (by
                  simp only
                  rw [hra, Addr.add_lit]
                  exact hstore)
                have hobj' : objR E.P ρ ⟨(ρ a.block).r, sCap + (ρ a.block).ex - (sLen + n), pre.length + aend a⟩ (.cells ((c.drop a.off).take (sLen * i.size) ++ news) ee false)
                    (.cells (splice (pre ++ c.map (ren ρ) ++ hid) (pre.length + aend a + sLen * i.size + 0) (news.map (ren ρ))).toArray ee fr) := by
                  refine ⟨rfl, fun h => (by cases h), (pre ++ c.map (ren ρ) ++ hid).take (pre.length + aend a), (pre ++ c.map (ren ρ) ++ hid).drop (pre.length + aend a + (sLen + n) * i.size), ?_, ?_, ?_, ?_⟩
                  · congr 1
                    unfold splice
                    simp only [Nat.add_zero, List.length_map, hnl, List.map_append]
                    have e1 : (pre ++ c.map (ren ρ) ++ hid).take (pre.length + aend a + sLen * i.size) = (pre ++ c.map (ren ρ) ++ hid).take (pre.length + aend a) ++ ((c.drop a.off).take (sLen * i.size)).map (ren ρ) := by
                      rw [List.take_add]
                      congr 1
                      rw [List.append_assoc, List.drop_length_add_append]
                      rcases holen with ⟨hol, hol2⟩ | h0
                      · by_cases hs0 : a.spot = none
                        · have hae : aend a = a.off := by simp [aend, hs0]
                          rw [hae, List.drop_append_of_le_length (by simp; omega), List.take_append_of_le_length (by simp; omega)]
                          simp [List.map_take, List.map_drop]
                        · have : a.spot.isSome = true := by cases h1 : a.spot <;> simp_all
                          simp [(htail this).1]
                      · simp [h0]
                    rw [e1]
                    simp only [List.append_assoc]
                    congr 3
                    rw [Nat.add_mul, ← Nat.add_assoc]
                  · rw [List.length_take, hrowlen]; simp only; omega
                  · rw [List.length_drop, hrowlen, hcell]
                    simp only
                    rw [Nat.sub_mul, Nat.add_mul, Nat.add_mul]; omega
                  · intro j hj
                    refine hfr j ?_
                    have := splice_length (c := pre ++ c.map (ren ρ) ++ hid) (vs := news.map (ren ρ)) (off := pre.length + aend a + sLen * i.size + 0) (by rw [hrowlen]; simp; omega)
                    simp only [List.size_toArray] at hj ⊢
                    rw [this] at hj; exact hj
                refine ⟨_, _, ?_, Step.move H hg hallsc hobj', by simp [sc, anew]⟩
                simp only [ren, hcx]
                rw [happ, hra]
                simp only [rens, anew, upd_same, capx_none]
                congr 2
                · simp
                · omega
              · -- a new array
                have hg2 := run_append_grows (w := w) (ty := ty) hu hu1 hd hi hz0 (b := some (rens ρ a)) (sLen := sLen) (c := sCap + (ρ a.block).ex) hlen (by have := holds.2; simpa only [ren, hcx] using this) hf2 hroom hb h63
                obtain ⟨hid2, e1, e2⟩ := zeroCells_list (vcells z) (grownCap w (sLen + n) (sCap + (ρ a.block).ex) ee - (sLen + n))
                have hle := grownCap_le w (sLen + n) (sCap + (ρ a.block).ex) ee
                have hval : ∀ ρ', ρ' h.next = ⟨w.heap.size, grownCap w (sLen + n) (sCap + (ρ a.block).ex) ee - (sLen + n), 0⟩ →
                    (Builtin.append_ #[t, t1] ty #[ren ρ (.slice (some a) sLen sCap), ren ρ x]).run E.P w =
                      .ok (ren ρ' (.slice (some (anew h)) (sLen + n) (sLen + n))) (w.drew.alloc (.cells (((c.drop a.off).take (sLen * i.size) ++ news).map (ren ρ) ++ hid2).toArray ee)) := by
                  intro ρ' hρ
                  simp only [ren, rens, anew, hρ, hcx, capx_none]
                  have := hg2
                  simp only [rens] at this
                  rw [this, hzc, e1]
                  congr 2
                  · omega
                  · simp
                cases fx with
                | true =>
                  simp only [if_true, Option.some.injEq, Prod.mk.injEq] at hx
                  obtain ⟨rfl, rfl⟩ := hx
                  refine ⟨_, _, hval _ (upd_same _ _ _), (Step.drew H).trans (Step.alloc H.drew hallsc (objR_grown (by rw [e2, hzl, hcell]))), by simp [sc, anew]⟩
                | false =>
                  simp only [Bool.false_eq_true, if_false, Option.some.injEq, Prod.mk.injEq] at hx
                  obtain ⟨rfl, rfl⟩ := hx
                  refine ⟨_, _, hval _ (upd_same _ _ _), (Step.drew H).trans ((HR.kill H.drew a.block).trans (Step.alloc (HR.kill H.drew a.block).hr hallsc (objR_grown (by rw [e2, hzl, hcell])))), by simp [sc, anew]⟩
            · cases hx
          · cases hx
      · cases hx
  · cases hx

theorem run_aappend {E : Env} {B : Nat} {ρ : Ren} {h h' : Heap} {w : World} (H : HR E B ρ h w) {t t1 ty : TypeId} {s x v : Value} (hx : aappend E h t t1 s x = some (v, h'))
    (hs : sc h.next s = true) : App E B ρ h w t t1 ty s x v h' := by
  unfold aappend at hx
  split at hx
  · rename_i e d1 base sLen sCap n hu hu1 hn
    split at hx
    · cases hx
    · rename_i hd
      simp only [Bool.not_eq_true] at hd
      split at hx
      · cases hx
      · rename_i i hi
        have hsz : asz E.P e = some i.size := by simp [asz, hi]
        have hlen := run_lenOf (P := E.P) (ρ := ρ) hn w
        unfold aappendE at hx
        split at hx
        · rename_i h0
          obtain ⟨rfl, hle⟩ := h0
          simp only [Option.some.injEq, Prod.mk.injEq] at hx
          obtain ⟨rfl, rfl⟩ := hx
          refine ⟨ρ, w, ?_, Step.refl H, hs⟩
          have hf : (Builtin.firstCells i.size 0 (ren ρ x)).run E.P w = .ok ([] : List Value).toArray w := by
            unfold alenOf at hn
            split at hn
            · rename_i a _ _
              cases a <;> simp [ren, Builtin.firstCells, loadCells, loadCellsFrom]
            · simp [ren, Builtin.firstCells]
            · cases hn
          cases base with
          | none =>
            have := run_append_room (ty := ty) (w' := w) hu hu1 hd hsz (b := none) (sLen := sLen) (c := sCap) hlen hf (by omega) rfl
            simpa only [ren, Nat.add_zero] using this
          | some a =>
            have := run_append_room (ty := ty) (w' := w) hu hu1 hd hsz (b := some (rens ρ a)) (sLen := sLen) (c := capx ρ a sLen sCap) hlen hf (by have := le_capx ρ a sLen sCap; omega) rfl
            simpa only [ren, Nat.add_zero] using this
        · split at hx
          · cases hx
          · rename_i news hsrc
            obtain ⟨hf, hnews⟩ := run_asrc H hsrc
            split at hx
            · rename_i hle
              split at hx
              · cases hx
              · rename_i a
                split at hx
                · cases hx
                · rename_i hsp
                  cases hw : awrite h (addo a (sLen * i.size)) news with
                  | none => simp [hw] at hx
                  | some h2 =>
                    simp [hw] at hx
                    obtain ⟨rfl, rfl⟩ := hx
                    obtain ⟨w', r1, r2⟩ := run_awrite H hw hnews
                    refine ⟨ρ, w', ?_, r2, ?_⟩
                    · have ha : (rena ρ a).add (sLen * i.size) = rena ρ (addo a (sLen * i.size)) := rena_add hsp _
                      have := run_append_room (ty := ty) (w' := w') hu hu1 hd hsz (b := some (rena ρ a)) (sLen := sLen) (c := sCap + (ρ a.block).ex) hlen hf (by omega) (by simp only; rw [ha]; exact r1)
                      simpa only [ren, rens_none hsp, capx_none _ _ _ _ hsp] using this
                    · have := r2.le
                      simp only [sc, decide_eq_true_eq] at hs ⊢; omega
            · rename_i hlt
              exact run_agrow H hu hu1 hd hi hn hsrc hlt hx
  · cases hx
end Go.Tm
/- The engine, twelfth part: the other operations on memory. -/
namespace Go.Tm

theorem storeCells_zero {P : Program} {w : World} (a : Addr) : (storeCells a [] 0).run P w = .ok () w := rfl

theorem run_acopy {E : Env} {B : Nat} {ρ : Ren} {h h' : Heap} {w : World} (H : HR E B ρ h w) {t : TypeId} {ts : Array TypeId} {ty : TypeId} (hts : ts[0]? = some t) {d x v : Value} (hx : acopy E h t d x = some (v, h')) :
    ∃ w', (Builtin.copy_ ts ty #[ren ρ d, ren ρ x]).run E.P w = .ok v w' ∧ Step E B ρ h w ρ h' w' ∧ ∃ k n, v = .int k n := by
  unfold acopy at hx
  split at hx
  · rename_i e base dLen dCap sn hu hn
    split at hx
    · cases hx
    · rename_i size hz
      have hlen := run_lenOf (P := E.P) (ρ := ρ) hn w
      obtain ⟨b', c', hren⟩ : ∃ b' c', ren ρ (.slice base dLen dCap) = .slice b' dLen c' := by
        cases base <;> exact ⟨_, _, rfl⟩
      simp only at hx
      split at hx
      · rename_i h0
        simp only [Option.some.injEq, Prod.mk.injEq] at hx
        obtain ⟨rfl, rfl⟩ := hx
        refine ⟨w, ?_, Step.refl H, _, _, rfl⟩
        have hf : (Builtin.firstCells size 0 (ren ρ x)).run E.P w = .ok #[] w := by
          unfold alenOf at hn
          split at hn
          · rename_i a _ _
            cases a <;> simp [ren, Builtin.firstCells, loadCells, loadCellsFrom]
          · simp [ren, Builtin.firstCells]
          · cases hn
        rw [hren]
        cases b' <;> simp [Builtin.copy_, hts, run_underlying hu, run_sizeOf hz, hlen, h0, hf, storeCells, goInt]
      · split at hx
        · rename_i l a hsrc
          split at hx
          · rename_i hl
            cases hw : awrite h a l with
            | none => simp [hw] at hx
            | some h2 =>
              simp [hw] at hx
              obtain ⟨rfl, rfl⟩ := hx
              obtain ⟨hf, hnews⟩ := run_asrc H hsrc
              obtain ⟨w', r1, r2⟩ := run_awrite H hw hnews
              have hsp : a.spot = none := by
                unfold awrite at hw
                split at hw
                · cases hw
                · assumption
              refine ⟨w', ?_, r2, _, _, rfl⟩
              simp only [ren, rens_none hsp]
              simp [Builtin.copy_, hts, run_underlying hu, run_sizeOf hz, hlen, hf, r1, goInt]
          · cases hx
        · cases hx
  · cases hx

theorem run_aclear {E : Env} {B : Nat} {ρ : Ren} {h h' : Heap} {w : World} (H : HR E B ρ h w) {t : TypeId} {ty : TypeId} {x : Value} (hx : aclear E h t x = some h') :
    ∃ w', (Builtin.clear_ #[t] ty #[ren ρ x]).run E.P w = .ok (.tuple #[]) w' ∧ Step E B ρ h w ρ h' w' := by
  unfold aclear at hx
  split at hx
  · rename_i hu
    injection hx with hx; subst hx
    exact ⟨w, by simp [Builtin.clear_, run_underlying hu, ren], Step.refl H⟩
  · rename_i hu
    injection hx with hx; subst hx
    exact ⟨w, by simp [Builtin.clear_, run_underlying hu, ren], Step.refl H⟩
  · rename_i e a n c hu
    split at hx
    · rename_i z hz
      obtain ⟨w', r1, r2⟩ := run_awrite H hx (fun v hv => sc_vcells ((azero_vcells (ρ := ρ) hz).2 h.next) v (arep_mem hv))
      have hsp : a.spot = none := by
        unfold awrite at hx
        split at hx
        · cases hx
        · assumption
      refine ⟨w', ?_, r2⟩
      have hzc : (Builtin.zeroCells z.cells (n + 1)).toList = (arep (n + 1) (vcells z)).map (ren ρ) := by
        rw [arep_map, azero_map hz, cells_eq]
        by_cases h0 : (vcells z).length = 0
        · have : vcells z = [] := List.length_eq_zero_iff.1 h0
          have e2 : ∀ m, arep m ([] : List Value) = [] := by
            intro m; induction m with
            | zero => rfl
            | succ m ih => simp [arep, ih]
          rw [this, e2]; simp [Builtin.zeroCells]
        · have := arep_range (vcells z) (by omega) (n + 1)
          simp only [Builtin.zeroCells]
          rw [show (vcells z).toArray.size = (vcells z).length by simp] at *
          rw [this]
      simp only [ren, rens_none hsp, capx_none _ _ _ _ hsp]
      have e1 : (Builtin.clear_ #[t] ty #[.slice (some (rena ρ a)) (n + 1) (c + (ρ a.block).ex)]).run E.P w = ((do storeCells (rena ρ a) (Builtin.zeroCells z.cells (n + 1)).toList : Sem Unit).run E.P w).andThen fun _ w' => .ok (.tuple #[]) w' := by
        simp [Builtin.clear_, run_underlying hu, (run_azero hz w).1]
      rw [e1, hzc, r1]; rfl
    · cases hx
  · cases hx

theorem run_anext {E : Env} {B : Nat} {ρ : Ren} {h h' : Heap} {w : World} (H : HR E B ρ h w) {it v : Value} {isS : Bool} {ty : TypeId} (hx : anext h it isS = some (v, h')) :
    ∃ w', (Instr.next (ren ρ it) isS ty).run E.P w = .ok (ren ρ v) w' ∧ Step E B ρ h w ρ h' w' ∧ sc h'.next v = true := by
  unfold anext at hx
  split at hx
  · rename_i b
    split at hx
    · rename_i s pos hg
      obtain ⟨_, _, _, _, c, hc, ho⟩ := H.live _ _ hg
      cases c <;> simp only [objR] at ho
      rename_i s' p'
      obtain ⟨rfl, rfl, hsh⟩ := ho
      have hr : ren ρ (.pointer (some ⟨b, 0, none⟩)) = .pointer (some ⟨(ρ b).r, 0, none⟩) := by simp [ren, rena, hsh]
      have hlt := H.lt hg
      have hget : (getObj (ρ b).r).run E.P w = .ok (.stringIter s' p') w := by simp [getObj, Sem.run, hc]
      rw [hr]
      split at hx
      · rename_i hp
        simp only [Option.some.injEq, Prod.mk.injEq] at hx
        obtain ⟨rfl, rfl⟩ := hx
        have hset : ∀ o, (setObj (ρ b).r o).run E.P w = .ok () (setBlk w (ρ b).r o) := by intro o; simp [setObj, Sem.run, hc, setBlk]
        refine ⟨setBlk w (ρ b).r (.stringIter s' (p' + (Utf8.decode s' p').2)), ?_, Step.put H hg trivial ⟨rfl, rfl, hsh⟩, by simp [sc, scA, scL]⟩
        simp only [Instr.next, Sem.run_bind, hget, Result.andThen_ok, if_pos hp, hset, Sem.run_pure]
        simp [ren, renA_eq, goInt]
      · rename_i hp
        simp only [Option.some.injEq, Prod.mk.injEq] at hx
        obtain ⟨rfl, rfl⟩ := hx
        refine ⟨w, ?_, Step.refl H, by simp [sc, scA, scL]⟩
        simp only [Instr.next, Sem.run_bind, hget, Result.andThen_ok, if_neg hp, Sem.run_pure]
        simp [ren, renA_eq]
    · cases hx
  · cases hx
end Go.Tm
namespace Go.Tm

theorem akey_ren {P : Program} {ρ : Ren} {kt : TypeId} {k : Value} {es : List MapEntry} (h : akeyOk P kt k es = true) : ren ρ k = k := by
  unfold akeyOk at h
  split at h
  · rfl
  · rfl
  · cases h

theorem akey_sc {P : Program} {n : Nat} {kt : TypeId} {k : Value} {es : List MapEntry} (h : akeyOk P kt k es = true) : sc n k = true := by
  unfold akeyOk at h
  split at h
  · rfl
  · rfl
  · cases h

theorem run_checkKey {P : Program} {w : World} {kt : TypeId} {k : Value} {es : List MapEntry} {b : Bool} (h : akeyOk P kt k es = true) : (Instr.checkKey b 10000 kt k).run P w = .ok () w := by
  unfold akeyOk at h
  split at h
  · rename_i hu
    show (Instr.checkKey b (9999 + 1) kt _).run P w = _
    rw [Instr.checkKey]
    simp only [Sem.run_bind, run_underlying hu, Result.andThen_ok]; rfl
  · rename_i hu
    show (Instr.checkKey b (9999 + 1) kt _).run P w = _
    rw [Instr.checkKey]
    simp only [Sem.run_bind, run_underlying hu, Result.andThen_ok]; rfl
  · cases h

theorem findNow_int {ρ : Ren} {k0 j : IntKind} {a : Int} : ∀ (es : List MapEntry) (i : Nat), (es.all fun e => match e.key with | .int j' _ => decide (j' = j) | _ => false) = true →
    Instr.findNow (.int k0) (.int j a) (es.map (renE ρ)) i = some ((afindKey (.int j a) es).bind fun n => (es[n]?).map fun e => (i + n, ren ρ e.val))
  | [], i, _ => rfl
  | e :: es, i, h => by
    simp only [List.all_cons, Bool.and_eq_true] at h
    obtain ⟨h1, h2⟩ := h
    have ih := findNow_int (ρ := ρ) (k0 := k0) (a := a) es (i + 1) h2
    split at h1
    · rename_i j' b hk
      simp only [decide_eq_true_eq] at h1
      subst h1
      simp only [List.map_cons, Instr.findNow, renE, hk, ren, Instr.sameNow, if_true, afindKey]
      by_cases e1 : a = b
      · subst e1; simp
      · simp only [beq_eq_false_iff_ne.2 e1, if_neg e1]
        rw [ih]
        cases afindKey (.int j' a) es with
        | none => rfl
        | some n => simp [Nat.add_assoc, Nat.add_comm 1]
    · cases h1

theorem bytes_beq (a b : ByteArray) : (a == b) = (a.data.toList == b.data.toList) := by
  cases a with | mk a => cases b with | mk b =>
  show (a == b) = _
  rw [Bool.eq_iff_iff]
  simp only [beq_iff_eq, ← Array.toList_inj]

theorem findNow_str {ρ : Ren} {a : ByteArray} : ∀ (es : List MapEntry) (i : Nat), (es.all fun e => match e.key with | .string _ => true | _ => false) = true →
    Instr.findNow .string (.string a) (es.map (renE ρ)) i = some ((afindKey (.string a) es).bind fun n => (es[n]?).map fun e => (i + n, ren ρ e.val))
  | [], i, _ => rfl
  | e :: es, i, h => by
    simp only [List.all_cons, Bool.and_eq_true] at h
    obtain ⟨h1, h2⟩ := h
    have ih := findNow_str (ρ := ρ) (a := a) es (i + 1) h2
    split at h1
    · rename_i b hk
      simp only [List.map_cons, Instr.findNow, renE, hk, ren, Instr.sameNow, afindKey, bytes_beq]
      cases hb : (a.data.toList == b.data.toList) with
      | true => simp
      | false =>
        simp only [Bool.false_eq_true, if_false]
        rw [ih]
        cases afindKey (.string a) es with
        | none => rfl
        | some n => simp [Nat.add_assoc, Nat.add_comm 1]
    · cases h1

theorem run_findKey {P : Program} {ρ : Ren} {w : World} {kt : TypeId} {k : Value} {es : List MapEntry} (h : akeyOk P kt k es = true) :
    (Instr.findKey kt k (es.map (renE ρ))).run P w = .ok ((afindKey k es).bind fun n => (es[n]?).map fun e => (n, ren ρ e.val)) w := by
  unfold akeyOk at h
  split at h
  · rename_i _ hu
    simp only [Instr.findKey, Sem.run_bind, run_underlying hu, Result.andThen_ok, findNow_int es 0 h, Nat.zero_add, Sem.run_pure]
  · rename_i hu
    simp only [Instr.findKey, Sem.run_bind, run_underlying hu, Result.andThen_ok, findNow_str es 0 h, Nat.zero_add, Sem.run_pure]
  · cases h

theorem afindKey_lt {k : Value} : ∀ (es : List MapEntry) (n : Nat), afindKey k es = some n → n < es.length
  | [], n, h => by simp [afindKey] at h
  | e :: es, n, h => by
    have ih := afindKey_lt (k := k) es
    unfold afindKey at h
    split at h
    · split at h
      · injection h with h; subst h; simp
      · rw [Option.map_eq_some_iff] at h
        obtain ⟨m, hm, rfl⟩ := h
        have := ih m hm
        simp; omega
    · split at h
      · injection h with h; subst h; simp
      · rw [Option.map_eq_some_iff] at h
        obtain ⟨m, hm, rfl⟩ := h
        have := ih m hm
        simp; omega
    · cases h

/-- The entries, in the world. -/
theorem run_ament {E : Env} {B : Nat} {ρ : Ren} {h : Heap} {w : World} (H : HR E B ρ h w) {m : Value} {es : List MapEntry} (hm : ament h m = some es) :
    (∀ e, e ∈ es → sc h.next e.key = true ∧ sc h.next e.val = true) ∧
    ((m = .map none ∧ es = []) ∨ ∃ r c, m = .map (some r) ∧ h.get r = some (.map es c) ∧ w.heap[(ρ r).r]? = some (.map (es.map (renE ρ)).toArray c)) := by
  unfold ament at hm
  split at hm
  · injection hm with hm; subst hm; exact ⟨fun e he => by simp at he, .inl ⟨rfl, rfl⟩⟩
  · rename_i r
    split at hm
    · rename_i es' c hg
      injection hm with hm; subst hm
      obtain ⟨_, _, _, hs, o, hw, ho⟩ := H.live _ _ hg
      cases o <;> simp only [objR] at ho
      obtain ⟨rfl, rfl⟩ := ho
      exact ⟨hs, .inr ⟨r, _, rfl, hg, hw⟩⟩
    · cases hm
  · cases hm

theorem run_getObj {P : Program} {w : World} {r : Nat} {es : Array MapEntry} {c : Nat} (h : w.heap[r]? = some (.map es c)) : (getObj r).run P w = .ok (.map es c) w := by simp [getObj, Sem.run, h]

theorem run_alookup {E : Env} {B : Nat} {ρ : Ren} {h : Heap} {w : World} (H : HR E B ρ h w) {t : TypeId} {m k v : Value} {ok : Bool} (hx : alookup E h t m k ok = some v) :
    (Instr.lookup t (ren ρ m) (ren ρ k) ok).run E.P w = .ok (ren ρ v) w ∧ sc h.next v = true := by
  unfold alookup at hx
  split at hx
  · rename_i kt et es hu hm
    split at hx
    · rename_i hk
      obtain ⟨hs, hcase⟩ := run_ament H hm
      have hkr := akey_ren (ρ := ρ) hk
      have tail : ∀ x, (Instr.lookup t (ren ρ m) k ok).run E.P w = x → (Instr.lookup t (ren ρ m) (ren ρ k) ok).run E.P w = x := by rw [hkr]; exact fun _ h => h
      have body : (Instr.lookup t (ren ρ m) k ok).run E.P w = (do
          let (v, ok') ← match ((afindKey k es).bind fun n => (es[n]?).map fun e => (n, ren ρ e.val)) with
            | some (_, v) => pure (v, true)
            | none => pure (← zeroValue et, false)
          pure (if ok then .tuple #[v, .bool ok'] else v) : Sem Value).run E.P w := by
        rcases hcase with ⟨rfl, rfl⟩ | ⟨r, c, rfl, hg, hw⟩
        · simp only [Instr.lookup, ren, Sem.run_bind, run_underlying hu, Result.andThen_ok, Sem.run_pure, run_checkKey hk]
          have := run_findKey (P := E.P) (ρ := ρ) (w := w) hk
          simp only [List.map_nil] at this
          rw [this]
          simp only [Result.andThen_ok]
          rfl
        · simp only [Instr.lookup, ren, Sem.run_bind, run_underlying hu, Result.andThen_ok, Sem.run_pure, run_getObj hw, run_checkKey hk, run_findKey (P := E.P) (ρ := ρ) (w := w) hk]
          rfl
      refine ⟨tail _ (body.trans ?_), ?_⟩
      · split at hx
        · rename_i i hi
          split at hx
          · rename_i e he
            injection hx with hx; subst hx
            cases ok <;> simp [hi, he, ren, renA_eq]
          · cases hx
        · rename_i hi
          split at hx
          · rename_i z hz
            injection hx with hx; subst hx
            have e0 := (azero_vcells (ρ := ρ) hz).1
            cases ok <;> simp [hi, (run_azero hz w).1, ren, renA_eq, e0]
          · cases hx
      · split at hx
        · split at hx
          · rename_i e he
            have hv := (hs e (List.mem_of_getElem? he)).2
            injection hx with hx; subst hx
            cases ok <;> simp [sc, scA, scL, hv]
          · cases hx
        · split at hx
          · rename_i z hz
            injection hx with hx; subst hx
            have e0 := (azero_vcells (ρ := ρ) hz).2 h.next
            cases ok <;> simp [sc, scA, scL, e0]
          · cases hx
    · cases hx
  · cases hx

theorem run_setObj {P : Program} {w : World} {r : Nat} {es : Array MapEntry} {c : Nat} {o' : Obj} (h : w.heap[r]? = some (.map es c)) : (setObj r o').run P w = .ok () (setBlk w r o') := by simp [setObj, Sem.run, h, setBlk]

def keyLike (k k' : Value) : Prop :=
  match k, k' with
  | .int j _, .int j' _ => j' = j
  | .string _, .string _ => True
  | _, _ => False

theorem sameBits_aux {k : Value} (ρ : Ren) : ∀ (es : List MapEntry) (n : Nat), afindKey k es = some n → ∀ e, es[n]? = some e → (∀ e, e ∈ es → keyLike k e.key) → Instr.sameBits 10000 (ren ρ e.key) k = true
  | [], n, h => by simp [afindKey] at h
  | e0 :: es, n, hn => by
    intro e he hall
    have ih := sameBits_aux (k := k) ρ es
    have hall' : ∀ e, e ∈ es → keyLike k e.key := fun e h => hall e (List.mem_cons_of_mem _ h)
    have h0 := hall e0 (by simp)
    unfold afindKey at hn
    split at hn
    · rename_i hk
      simp only [hk, keyLike] at h0
      subst h0
      split at hn
      · rename_i hab
        injection hn with hn; subst hn
        simp only [List.getElem?_cons_zero, Option.some.injEq] at he
        subst he
        simp [hk, ren, Instr.sameBits, hab]
      · rw [Option.map_eq_some_iff] at hn
        obtain ⟨m, hm, rfl⟩ := hn
        simp only [List.getElem?_cons_succ] at he
        exact ih m hm e he hall'
    · rename_i a b hk
      split at hn
      · rename_i hab
        injection hn with hn; subst hn
        simp only [List.getElem?_cons_zero, Option.some.injEq] at he
        subst he
        rw [← bytes_beq] at hab
        simp only [hk, ren, Instr.sameBits]
        rw [bytes_beq] at hab ⊢
        simp only [beq_iff_eq] at hab ⊢
        exact hab.symm
      · rw [Option.map_eq_some_iff] at hn
        obtain ⟨m, hm, rfl⟩ := hn
        simp only [List.getElem?_cons_succ] at he
        exact ih m hm e he hall'
    · cases hn

theorem sameBits_key {P : Program} {kt : TypeId} {k : Value} {es : List MapEntry} (h : akeyOk P kt k es = true) {n : Nat} {e : MapEntry} (hn : afindKey k es = some n) (he : es[n]? = some e) (ρ : Ren) : Instr.sameBits 10000 (ren ρ e.key) k = true := by
  refine sameBits_aux ρ es n hn e he ?_
  intro e he
  unfold akeyOk at h
  split at h
  · rw [List.all_eq_true] at h
    have := h e he
    split at this
    · rename_i hk; simp only [hk, keyLike]; simpa using this
    · cases this
  · rw [List.all_eq_true] at h
    have := h e he
    split at this
    · rename_i hk; simp only [hk, keyLike]
    · cases this
  · cases h

theorem run_aupdate {E : Env} {B : Nat} {ρ : Ren} {h h' : Heap} {w : World} (H : HR E B ρ h w) {t : TypeId} {m k v : Value} (hx : aupdate E h t m k v = some h') (hv : sc h.next v = true) :
    ∃ w', (Instr.mapUpdate t (ren ρ m) (ren ρ k) (ren ρ v)).run E.P w = .ok () w' ∧ Step E B ρ h w ρ h' w' := by
  unfold aupdate at hx
  split at hx
  · rename_i kt et r hu
    split at hx
    · rename_i es c hg
      split at hx
      · rename_i hk
        obtain ⟨_, _, _, hs, o, hw, ho⟩ := H.live _ _ hg
        cases o <;> simp only [objR] at ho
        obtain ⟨rfl, hc⟩ := ho
        rw [hc] at hw
        have hkr := akey_ren (ρ := ρ) hk
        have hks := akey_sc (n := h.next) hk
        rw [hkr]
        split at hx
        · rename_i i hi
          injection hx with hx; subst hx
          have hlt := afindKey_lt _ _ hi
          have he : es[i]? = some es[i] := List.getElem?_eq_getElem hlt
          refine ⟨_, ?_, Step.put (o := .map (es.modify i fun e => { e with key := k, val := v }) c) (c := .map ((es.map (renE ρ)).toArray.modify i fun e => { e with key := k, val := ren ρ v }) c) H hg ?_ ⟨?_, rfl⟩⟩
          · have e1 : ((es.map (renE ρ)).toArray[i]?).map (·.key) = some (ren ρ es[i].key) := by simp [hlt, renE]
            simp only [Instr.mapUpdate, ren, Sem.run_bind, run_underlying hu, Result.andThen_ok, run_getObj hw, run_checkKey hk, run_findKey (P := E.P) (ρ := ρ) (w := w) hk, hi, he, Option.bind_some, Option.map_some, e1, Option.getD_some, Instr.keyThatStays, sameBits_key hk hi he ρ, if_true, Sem.run_pure, run_setObj hw]
          · intro e he
            rw [List.mem_iff_getElem?] at he
            obtain ⟨j, hj⟩ := he
            rw [List.getElem?_modify] at hj
            cases hej : es[j]? with
            | none => simp [hej] at hj
            | some e' =>
              have := hs e' (List.mem_of_getElem? hej)
              simp only [hej, Option.map_eq_map, Option.map_some, Option.some.injEq] at hj
              subst hj
              split
              · exact ⟨hks, hv⟩
              · exact this
          · apply Array.ext'
            rw [Array.toList_modify]
            simp only
            apply List.ext_getElem?
            intro j
            rw [List.getElem?_modify, List.getElem?_map, List.getElem?_map, List.getElem?_modify]
            cases es[j]? with
            | none => rfl
            | some e => 
              simp only [Option.map_eq_map, Option.map_some, Option.some.injEq]
              split <;> simp [renE, hkr]
        · rename_i hi
          injection hx with hx; subst hx
          refine ⟨_, ?_, Step.put (o := .map (es ++ [{ key := k, val := v, born := c }]) (c + 1)) (c := .map ((es.map (renE ρ)).toArray.push { key := k, val := ren ρ v, born := c }) (c + 1)) H hg ?_ ⟨?_, rfl⟩⟩
          · simp only [Instr.mapUpdate, ren, Sem.run_bind, run_underlying hu, Result.andThen_ok, run_getObj hw, run_checkKey hk, run_findKey (P := E.P) (ρ := ρ) (w := w) hk, hi, Option.bind_none, run_setObj hw]
          · intro e he
            simp only [List.mem_append, List.mem_singleton] at he
            rcases he with he | rfl
            · exact hs e he
            · exact ⟨hks, hv⟩
          · simp [renE, hkr]
      · cases hx
    · cases hx
  · cases hx
end Go.Tm
