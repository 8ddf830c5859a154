/- The engine, eleventh part: append, whatever the tape says of room. -/
import Derived.Test.YtigifaghgnbgoaaGreatEng10
namespace Go.Tm

def App (E : Env) (B : Nat) (ρ : Ren) (h : Heap) (w : World) (t t1 ty : TypeId) (s x v : Value) (h' : Heap) : Prop :=
  ∃ ρ' w', (Builtin.append_ #[t, t1] ty #[ren ρ s, ren ρ x]).run E.P w = .ok (ren ρ' v) w' ∧ Step E B ρ h w ρ' h' w' ∧ sc h'.next v = true

theorem live_acells {E : Env} {B : Nat} {ρ : Ren} {h : Heap} {w : World} (H : HR E B ρ h w) {a : Addr} {c : List Value} {e : TypeId} {fx : Bool} (hg : h.get a.block = some (.cells c e fx)) (hsp : a.spot = none) {n : Nat} (hn : a.off + n ≤ c.length) :
    acells E h a n = some ((c.drop a.off).take n) := by
  unfold acells
  have := (H.live _ _ hg).1
  rw [hsp]
  simp only [hg]
  rw [if_neg (by omega), if_pos hn]

theorem run_agrow {E : Env} {B : Nat} {ρ : Ren} {h h' : Heap} {w : World} (H : HR E B ρ h w) {t t1 ty e : TypeId} {d1 : TypeDesc} {i : TypeInfo} (hu : E.P.underlying t = some (.slice e)) (hu1 : E.P.underlying t1 = some d1) (hd : isIntD d1 = false)
    (hi : E.P.info? e = some i) {base : Option Addr} {sLen sCap n : Nat} {x v : Value} {news : List Value} (hn : alenOf x = some n) (hsrc : asrc E h i.size x n = some news) (hlt : ¬ (sLen + n ≤ sCap))
    (hx : agrow E h e i base sLen sCap n news = some (v, h')) : App E B ρ h w t t1 ty (.slice base sLen sCap) x v h' := by
  have hsz : asz E.P e = some i.size := by simp [asz, hi]
  have hcell : E.P.cellsOf e = i.size := by simp [Program.cellsOf, hi]
  have hlen := run_lenOf (P := E.P) (ρ := ρ) hn w
  obtain ⟨hf, hnews⟩ := run_asrc H hsrc
  obtain ⟨hf2, _⟩ := run_asrc H.drew hsrc
  unfold agrow at hx
  split at hx
  · rename_i hc
    obtain ⟨hb, hnl, hpos, h63, hone⟩ := hc
    split at hx
    · cases hx
    · rename_i z hz
      split at hx
      · rename_i hzl
        have hz0 : i.zero = some z := by have := (run_azero hz w).2.2; rw [hi] at this; simpa using this
        have hzc : z.cells = (vcells z).toArray := cells_eq z
        split at hx
        · split at hx
          · rename_i h0
            obtain ⟨rfl, rfl⟩ := h0
            simp only [Option.some.injEq, Prod.mk.injEq] at hx
            obtain ⟨rfl, rfl⟩ := hx
            have hg := run_append_grows (w := w) (ty := ty) hu hu1 hd hi hz0 (b := none) (sLen := 0) (c := 0) hlen (olds := []) (by simp [Builtin.firstCells]) hf2 (by omega) hb h63
            obtain ⟨hid, e1, e2⟩ := zeroCells_list (vcells z) (grownCap w (0 + n) 0 e - (0 + n))
            refine ⟨_, _, ?_, (Step.drew H).trans (Step.alloc H.drew (ex := grownCap w (0 + n) 0 e - (0 + n)) (sh := 0) (c := .cells (news.map (ren ρ) ++ hid).toArray e) hnews (objR_grown (by rw [e2, hzl, hcell]))), by simp [sc, anew]⟩
            have hle := grownCap_le w (0 + n) 0 e
            simp only [ren]
            rw [hg, hzc, e1]
            simp only [rens, anew, upd_same]
            congr 2
            · omega
            · simp at hle ⊢; omega
            · simp
          · cases hx
        · rename_i a
          split at hx
          · rename_i c e' fx hg
            split at hx
            · rename_i hcond
              obtain ⟨rfl, hend, htail, hsl⟩ := hcond
              obtain ⟨hb1, hb2, hb3, hsc, cc, hblk, hobj⟩ := H.live _ _ hg
              cases cc <;> simp only [objR] at hobj
              rename_i cc ee fr
              obtain ⟨rfl, hfx, pre, hid, rfl, hpre, hhid, hfr⟩ := hobj
              rw [hcell] at hhid
              have holen : ((c.drop a.off).take (sLen * i.size)).length = sLen * i.size ∧ a.off + sLen * i.size ≤ c.length ∨ sLen * i.size = 0 := by
                by_cases hs0 : a.spot = none
                · left
                  simp only [aend, hs0] at hend
                  have := Nat.mul_le_mul_right i.size hsl
                  constructor
                  · simp; omega
                  · omega
                · right
                  have : a.spot.isSome = true := by cases h1 : a.spot <;> simp_all
                  rw [(htail this).1]; simp
              have holds : (Builtin.firstCells i.size sLen (ren ρ (.slice (some a) sLen sCap))).run E.P w = .ok (((c.drop a.off).take (sLen * i.size)).map (ren ρ)).toArray w ∧
                  (Builtin.firstCells i.size sLen (ren ρ (.slice (some a) sLen sCap))).run E.P w.drew = .ok (((c.drop a.off).take (sLen * i.size)).map (ren ρ)).toArray w.drew := by
                rcases holen with ⟨hol, hol2⟩ | h0
                · by_cases hs0 : a.spot = none
                  · have hac := live_acells H hg hs0 hol2
                    have key : ∀ W, HR E B ρ h W → (Builtin.firstCells i.size sLen (ren ρ (.slice (some a) sLen sCap))).run E.P W = .ok (((c.drop a.off).take (sLen * i.size)).map (ren ρ)).toArray W := by
                      intro W HW
                      obtain ⟨h1, h2, _, _⟩ := acells_run HW hac
                      have := run_loadCells_list (P := E.P) W (rena ρ a) _ h1
                      rw [List.length_map, h2] at this
                      simp only [ren, Builtin.firstCells, rens_none hs0]
                      exact this
                    exact ⟨key w H, key w.drew H.drew⟩
                  · have : a.spot.isSome = true := by cases h1 : a.spot <;> simp_all
                    have h0 := (htail this).1
                    subst h0
                    simp [ren, Builtin.firstCells, loadCells, loadCellsFrom]
                · simp [ren, Builtin.firstCells, h0, loadCells, loadCellsFrom]
              have hosc : ∀ v, v ∈ (c.drop a.off).take (sLen * i.size) → sc h.next v = true := fun v hv => hsc v (List.mem_of_mem_drop (List.mem_of_mem_take hv))
              have hallsc : ∀ v, v ∈ (c.drop a.off).take (sLen * i.size) ++ news → sc h.next v = true := by
                intro v hv
                rcases List.mem_append.1 hv with hv | hv
                · exact hosc v hv
                · exact hnews v hv
              by_cases hroom : sLen + n ≤ sCap + (ρ a.block).ex
              · -- in place
                have hex : 0 < (ρ a.block).ex := by omega
                have hfxf : fx = false := by
                  cases fx
                  · rfl
                  · have := hfx rfl; omega
                subst hfxf
                simp only [Bool.false_eq_true, if_false, Option.some.injEq, Prod.mk.injEq] at hx
                obtain ⟨rfl, rfl⟩ := hx
                have hra : rens ρ a = ⟨(ρ a.block).r, pre.length + aend a, none⟩ := by
                  unfold rens aend
                  cases hsp : a.spot with
                  | none => simp [hpre]; omega
                  | some d => simp [hpre, Nat.ne_of_gt hex]; omega
                have hmul := Nat.mul_le_mul_right i.size hroom
                rw [Nat.add_mul, Nat.add_mul] at hmul
                have hrowlen : (pre ++ c.map (ren ρ) ++ hid).length = pre.length + aend a + sCap * i.size + (ρ a.block).ex * i.size := by simp; omega
                have hstore := run_storeCells_blk (P := E.P) (r := (ρ a.block).r) (off := pre.length + aend a + sLen * i.size) (e := ee) (fr := fr) (news.map (ren ρ)) w (pre ++ c.map (ren ρ) ++ hid) 0 hblk
                  (fun j hj => hfr j (by simpa using hj)) (by rw [hrowlen]; simp; omega) (by
                    rw [List.all_eq_true] at hone ⊢
                    intro x hx
                    obtain ⟨y, hy, rfl⟩ := List.mem_map.1 hx
                    rw [oneCell_ren]; exact hone y hy)
                have happ := run_append_room (ty := ty) hu hu1 hd hsz (b := some (rens ρ a)) (sLen := sLen) (c := sCap + (ρ a.block).ex) hlen hf hroom (w' := _) (by
                  simp only
                  rw [hra, Addr.add_lit]
                  exact hstore)
                have hobj' : objR E.P ρ ⟨(ρ a.block).r, sCap + (ρ a.block).ex - (sLen + n), pre.length + aend a⟩ (.cells ((c.drop a.off).take (sLen * i.size) ++ news) ee false)
                    (.cells (splice (pre ++ c.map (ren ρ) ++ hid) (pre.length + aend a + sLen * i.size + 0) (news.map (ren ρ))).toArray ee fr) := by
                  refine ⟨rfl, fun h => (by cases h), (pre ++ c.map (ren ρ) ++ hid).take (pre.length + aend a), (pre ++ c.map (ren ρ) ++ hid).drop (pre.length + aend a + (sLen + n) * i.size), ?_, ?_, ?_, ?_⟩
                  · congr 1
                    unfold splice
                    simp only [Nat.add_zero, List.length_map, hnl, List.map_append]
                    have e1 : (pre ++ c.map (ren ρ) ++ hid).take (pre.length + aend a + sLen * i.size) = (pre ++ c.map (ren ρ) ++ hid).take (pre.length + aend a) ++ ((c.drop a.off).take (sLen * i.size)).map (ren ρ) := by
                      rw [List.take_add]
                      congr 1
                      rw [List.append_assoc, List.drop_length_add_append]
                      rcases holen with ⟨hol, hol2⟩ | h0
                      · by_cases hs0 : a.spot = none
                        · have hae : aend a = a.off := by simp [aend, hs0]
                          rw [hae, List.drop_append_of_le_length (by simp; omega), List.take_append_of_le_length (by simp; omega)]
                          simp [List.map_take, List.map_drop]
                        · have : a.spot.isSome = true := by cases h1 : a.spot <;> simp_all
                          simp [(htail this).1]
                      · simp [h0]
                    rw [e1]
                    simp only [List.append_assoc]
                    congr 3
                    rw [Nat.add_mul, ← Nat.add_assoc]
                  · rw [List.length_take, hrowlen]; simp only; omega
                  · rw [List.length_drop, hrowlen, hcell]
                    simp only
                    rw [Nat.sub_mul, Nat.add_mul, Nat.add_mul]; omega
                  · intro j hj
                    refine hfr j ?_
                    have := splice_length (c := pre ++ c.map (ren ρ) ++ hid) (vs := news.map (ren ρ)) (off := pre.length + aend a + sLen * i.size + 0) (by rw [hrowlen]; simp; omega)
                    simp only [List.size_toArray] at hj ⊢
                    rw [this] at hj; exact hj
                refine ⟨_, _, ?_, Step.move H hg hallsc hobj', by simp [sc, anew]⟩
                simp only [ren]
                rw [happ, hra]
                simp only [rens, anew, upd_same]
                congr 2
                · simp
                · omega
              · -- a new array
                have hg2 := run_append_grows (w := w) (ty := ty) hu hu1 hd hi hz0 (b := some (rens ρ a)) (sLen := sLen) (c := sCap + (ρ a.block).ex) hlen (by have := holds.2; simpa only [ren] using this) hf2 hroom hb h63
                obtain ⟨hid2, e1, e2⟩ := zeroCells_list (vcells z) (grownCap w (sLen + n) (sCap + (ρ a.block).ex) ee - (sLen + n))
                have hle := grownCap_le w (sLen + n) (sCap + (ρ a.block).ex) ee
                have hval : ∀ ρ', ρ' h.next = ⟨w.heap.size, grownCap w (sLen + n) (sCap + (ρ a.block).ex) ee - (sLen + n), 0⟩ →
                    (Builtin.append_ #[t, t1] ty #[ren ρ (.slice (some a) sLen sCap), ren ρ x]).run E.P w =
                      .ok (ren ρ' (.slice (some (anew h)) (sLen + n) (sLen + n))) (w.drew.alloc (.cells (((c.drop a.off).take (sLen * i.size) ++ news).map (ren ρ) ++ hid2).toArray ee)) := by
                  intro ρ' hρ
                  simp only [ren, rens, anew, hρ]
                  have := hg2
                  simp only [rens] at this
                  rw [this, hzc, e1]
                  congr 2
                  · omega
                  · simp
                cases fx with
                | true =>
                  simp only [if_true, Option.some.injEq, Prod.mk.injEq] at hx
                  obtain ⟨rfl, rfl⟩ := hx
                  refine ⟨_, _, hval _ (upd_same _ _ _), (Step.drew H).trans (Step.alloc H.drew hallsc (objR_grown (by rw [e2, hzl, hcell]))), by simp [sc, anew]⟩
                | false =>
                  simp only [Bool.false_eq_true, if_false, Option.some.injEq, Prod.mk.injEq] at hx
                  obtain ⟨rfl, rfl⟩ := hx
                  refine ⟨_, _, hval _ (upd_same _ _ _), (Step.drew H).trans ((HR.kill H.drew a.block).trans (Step.alloc (HR.kill H.drew a.block).hr hallsc (objR_grown (by rw [e2, hzl, hcell])))), by simp [sc, anew]⟩
            · cases hx
          · cases hx
      · cases hx
  · cases hx

theorem run_aappend {E : Env} {B : Nat} {ρ : Ren} {h h' : Heap} {w : World} (H : HR E B ρ h w) {t t1 ty : TypeId} {s x v : Value} (hx : aappend E h t t1 s x = some (v, h'))
    (hs : sc h.next s = true) : App E B ρ h w t t1 ty s x v h' := by
  unfold aappend at hx
  split at hx
  · rename_i e d1 base sLen sCap n hu hu1 hn
    split at hx
    · cases hx
    · rename_i hd
      simp only [Bool.not_eq_true] at hd
      split at hx
      · cases hx
      · rename_i i hi
        have hsz : asz E.P e = some i.size := by simp [asz, hi]
        have hlen := run_lenOf (P := E.P) (ρ := ρ) hn w
        unfold aappendE at hx
        split at hx
        · rename_i h0
          obtain ⟨rfl, hle⟩ := h0
          simp only [Option.some.injEq, Prod.mk.injEq] at hx
          obtain ⟨rfl, rfl⟩ := hx
          refine ⟨ρ, w, ?_, Step.refl H, hs⟩
          have hf : (Builtin.firstCells i.size 0 (ren ρ x)).run E.P w = .ok ([] : List Value).toArray w := by
            unfold alenOf at hn
            split at hn
            · rename_i a _ _
              cases a <;> simp [ren, Builtin.firstCells, loadCells, loadCellsFrom]
            · simp [ren, Builtin.firstCells]
            · cases hn
          cases base with
          | none =>
            have := run_append_room (ty := ty) (w' := w) hu hu1 hd hsz (b := none) (sLen := sLen) (c := sCap) hlen hf (by omega) rfl
            simpa only [ren, Nat.add_zero] using this
          | some a =>
            have := run_append_room (ty := ty) (w' := w) hu hu1 hd hsz (b := some (rens ρ a)) (sLen := sLen) (c := sCap + (ρ a.block).ex) hlen hf (by omega) rfl
            simpa only [ren, Nat.add_zero] using this
        · split at hx
          · cases hx
          · rename_i news hsrc
            obtain ⟨hf, hnews⟩ := run_asrc H hsrc
            split at hx
            · rename_i hle
              split at hx
              · cases hx
              · rename_i a
                split at hx
                · cases hx
                · rename_i hsp
                  cases hw : awrite h (addo a (sLen * i.size)) news with
                  | none => simp [hw] at hx
                  | some h2 =>
                    simp [hw] at hx
                    obtain ⟨rfl, rfl⟩ := hx
                    obtain ⟨w', r1, r2⟩ := run_awrite H hw hnews
                    refine ⟨ρ, w', ?_, r2, ?_⟩
                    · have ha : (rena ρ a).add (sLen * i.size) = rena ρ (addo a (sLen * i.size)) := rena_add hsp _
                      have := run_append_room (ty := ty) (w' := w') hu hu1 hd hsz (b := some (rena ρ a)) (sLen := sLen) (c := sCap + (ρ a.block).ex) hlen hf (by omega) (by simp only; rw [ha]; exact r1)
                      simpa only [ren, rens_none hsp] using this
                    · have := r2.le
                      simp only [sc, decide_eq_true_eq] at hs ⊢; omega
            · rename_i hlt
              exact run_agrow H hu hu1 hd hi hn hsrc hlt hx
  · cases hx
end Go.Tm
