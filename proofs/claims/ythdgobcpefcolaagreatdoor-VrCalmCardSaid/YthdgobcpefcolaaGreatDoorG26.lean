/- Chapter 25: the model: which messages are good, a step. -/
/- Merged by a program of ours: U19 U20. -/
import Derived.Test.YthdgobcpefcolaaGreatDoorG25
set_option maxRecDepth 10000
set_option linter.all false
set_option linter.unusedSimpArgs false
set_option linter.unusedVariables false
/- Chapter 25: the model is told what others have. -/
open Go.Tm Vr in
theorem Go.Tm.intsC_at {L : List Nat} {i : Nat} (hi : i < L.length) : ((intsC L).drop (i * 1)).take 1 = [iv (L.getD i 0)] := by
  unfold intsC
  rw [Nat.mul_one, ← List.map_drop, List.drop_eq_getElem_cons hi, List.getD_eq_getElem?_getD, List.getElem?_eq_getElem hi]
  rfl
namespace Go.Proofs.YthdgobcpefcolaaGreatDoor
open Go.Tm Vr
set_option linter.unusedSectionVars false
variable {E : Env} (hE : EOk E)
include hE
section
variable {G : Mem} {h : Heap} (hW : WF E h) (hG : Frz E G h) {P : PR} {cs : List Value} (hP : PRR E G P cs)
include hW hG hP
set_option maxHeartbeats 4000000 in
theorem prepareOkR_at (z : P.Sz) {m : Mg} {ms : List Value} (hm : MgR E G m ms) (hst : P.st = 0) (hk : m.k = 3) (hv : m.vw = P.vw) (hp : P.prim = true) (hfr : m.fr < P.n) (hmo : m.op ≤ P.op) :
    CallsTo E 44 [.agg cs.toArray, .agg ms.toArray] h fun v h' => ∃ G' rc' co v2, Ext E G h G' h' ∧ PRR E G' (normalM P m).1 rc' ∧ Fz E G' 17 (normalM P m).2.length co v2 ∧ MgsR E G' (normalM P m).2 co ∧ v = .tuple #[.agg rc'.toArray, v2] := by
  obtain ⟨mx, hmx⟩ : ∃ mx, mx = max (P.told.getD m.fr 0) m.op := ⟨_, rfl⟩
  obtain ⟨T, hT⟩ : ∃ T, T = P.told.set m.fr mx := ⟨_, rfl⟩
  have hR : normalM P m = commit { P with told := T } (bestK { P with told := T } (P.op - P.cm) (P.cm + 1) 0) := by
    unfold normalM
    rw [if_neg (by omega), if_pos hk, hp, if_neg (by simp [hv]), ← hmx, ← hT]
  rw [hR]
  have hP0 := hP
  have hm0 := hm
  obtain ⟨a1, c1, a2, c2, a3, c3, a4, c4, a5, c5, a6, c6, a7, c7, ct, cc, ca, hcs, q1, ⟨q2, q3, q4⟩, q5, q6, q7, q8⟩ := hP.e
  obtain ⟨b1, d1, b2, d2, b3, d3, hms, m1, m2, m3⟩ := hm.e
  have w0 := hW.b0
  have w1 := hW.b1
  have w2 := hW.b2
  subst hcs; subst hms
  have zb := z.bs
  have zc := z.cm
  have zo := z.op
  have zn := z.n
  have zt := z.told
  have hll : P.log.length ≤ P.op := by unfold PR.op; omega
  have hn : 1 ≤ P.n ∧ P.n ≤ 1000 := ⟨by omega, by omega⟩
  have hvw : P.vw ≤ 1099511627776 := by have := z.vw; omega
  have hgn : ∀ b, h.next ≤ b → G b = none := fun b hb => by
    cases hg : G b with
    | none => rfl
    | some c =>
      obtain ⟨e, fx, hh⟩ := hG b c hg
      have := (hW.live _ _ hh).2; omega
  have hs1 : ((P.st : Int) != 0) = false := by simp [hst]
  refine calls_of_runs (fn := Tryz.f44) (by rw [hE.P]; exact Tryz.func44) rfl (by rw [hE.known]; rfl) (by rw [Tryz.ntmps44]; exact Nat.le_of_ble_eq_true rfl) (by decide +kernel) (rs := [.cell 4 48, .tmp 5]) rfl (wpc_runs _ _ _ _ ?_)
  simp only [push_cast, seval, hE.P, wpc_label, wpc_block, w0, w1, w2, hs1, awrite]
  have k0 := (((KW.refl hW).push (o := (.cells (rC P (.slice a1 P.log.length c1) (.slice a2 P.sv.l.length c2) (.slice a3 P.sv.tab.length c3) (.slice a4 P.told.length c4) (.slice a5 P.voted.length c5) (.slice a6 P.came.length c6) (.slice a7 P.ans.length c7)) 48 true))).push (o := (.cells (mgC m (.slice b1 m.log.length d1) (.slice b2 m.img.length d2) (.slice b3 0 d3)) 62 true))).push (o := (.cells [.int .i64 0, .int .i64 0, .int .i64 0, .int .i64 0, .int .i64 0, .int .i64 0, .int .i64 0, .int .i64 0, .slice none 0 0, .bool false, .slice none 0 0, .slice none 0 0, .slice none 0 0, .slice none 0 0, .slice none 0 0, .bool false, .slice none 0 0, .slice none 0 0] 48 true))
  have gR0 : (((h.push (.cells (rC P (.slice a1 P.log.length c1) (.slice a2 P.sv.l.length c2) (.slice a3 P.sv.tab.length c3) (.slice a4 P.told.length c4) (.slice a5 P.voted.length c5) (.slice a6 P.came.length c6) (.slice a7 P.ans.length c7)) 48 true)).push (.cells (mgC m (.slice b1 m.log.length d1) (.slice b2 m.img.length d2) (.slice b3 0 d3)) 62 true)).push (.cells [.int .i64 0, .int .i64 0, .int .i64 0, .int .i64 0, .int .i64 0, .int .i64 0, .int .i64 0, .int .i64 0, .slice none 0 0, .bool false, .slice none 0 0, .slice none 0 0, .slice none 0 0, .slice none 0 0, .slice none 0 0, .bool false, .slice none 0 0, .slice none 0 0] 48 true)).get h.next = some (.cells (rC P (.slice a1 P.log.length c1) (.slice a2 P.sv.l.length c2) (.slice a3 P.sv.tab.length c3) (.slice a4 P.told.length c4) (.slice a5 P.voted.length c5) (.slice a6 P.came.length c6) (.slice a7 P.ans.length c7)) 48 true) := by rw [get_push, if_neg (by simp; omega), get_push, if_neg (by simp), get_push, if_pos rfl]
  have gM0 : (((h.push (.cells (rC P (.slice a1 P.log.length c1) (.slice a2 P.sv.l.length c2) (.slice a3 P.sv.tab.length c3) (.slice a4 P.told.length c4) (.slice a5 P.voted.length c5) (.slice a6 P.came.length c6) (.slice a7 P.ans.length c7)) 48 true)).push (.cells (mgC m (.slice b1 m.log.length d1) (.slice b2 m.img.length d2) (.slice b3 0 d3)) 62 true)).push (.cells [.int .i64 0, .int .i64 0, .int .i64 0, .int .i64 0, .int .i64 0, .int .i64 0, .int .i64 0, .int .i64 0, .slice none 0 0, .bool false, .slice none 0 0, .slice none 0 0, .slice none 0 0, .slice none 0 0, .slice none 0 0, .bool false, .slice none 0 0, .slice none 0 0] 48 true)).get (h.next + 1) = some (.cells (mgC m (.slice b1 m.log.length d1) (.slice b2 m.img.length d2) (.slice b3 0 d3)) 62 true) := by rw [get_push, if_neg (by simp), get_push, if_pos (by simp)]
  have gZ0 : (((h.push (.cells (rC P (.slice a1 P.log.length c1) (.slice a2 P.sv.l.length c2) (.slice a3 P.sv.tab.length c3) (.slice a4 P.told.length c4) (.slice a5 P.voted.length c5) (.slice a6 P.came.length c6) (.slice a7 P.ans.length c7)) 48 true)).push (.cells (mgC m (.slice b1 m.log.length d1) (.slice b2 m.img.length d2) (.slice b3 0 d3)) 62 true)).push (.cells [.int .i64 0, .int .i64 0, .int .i64 0, .int .i64 0, .int .i64 0, .int .i64 0, .int .i64 0, .int .i64 0, .slice none 0 0, .bool false, .slice none 0 0, .slice none 0 0, .slice none 0 0, .slice none 0 0, .slice none 0 0, .bool false, .slice none 0 0, .slice none 0 0] 48 true)).get (h.next + 1 + 1) = some (.cells [.int .i64 0, .int .i64 0, .int .i64 0, .int .i64 0, .int .i64 0, .int .i64 0, .int .i64 0, .int .i64 0, .slice none 0 0, .bool false, .slice none 0 0, .slice none 0 0, .slice none 0 0, .slice none 0 0, .slice none 0 0, .bool false, .slice none 0 0, .slice none 0 0] 48 true) := by rw [get_push, if_pos (by simp)]

  have c1' : ((m.k : Int) == 3) = true := by simp; omega
  have c2' : ((m.vw : Int) != (P.vw : Int)) = false := by simp; omega
  simp only [push_cast, seval, hE.P, wpc_label, wpc_block, w0, w1, w2, c1', awrite]
  refine Go.Tm.kcall_gen [2, 3, 4] ?_
  intro t1 hf
  simp only [push_cast, seval, hE.P, wpc_label, wpc_block, List.mem_cons, List.not_mem_nil, or_false, forall_eq_or_imp, forall_eq] at hf
  obtain ⟨f2, f3, f4⟩ := hf
  refine gheap (motive := fun H => CallsTo E 39 _ H _) (fun H => KW E h H ∧ H.get h.next = some (.cells (rC P (.slice a1 P.log.length c1) (.slice a2 P.sv.l.length c2) (.slice a3 P.sv.tab.length c3) (.slice a4 P.told.length c4) (.slice a5 P.voted.length c5) (.slice a6 P.came.length c6) (.slice a7 P.ans.length c7)) 48 true) ∧ H.get (h.next + 1) = some (.cells (mgC m (.slice b1 m.log.length d1) (.slice b2 m.img.length d2) (.slice b3 0 d3)) 62 true) ∧ ∃ rz, H.get (h.next + 1 + 1) = some (.cells rz 48 true) ∧ rz.length = 18) ⟨k0, gR0, gM0, _, gZ0, rfl⟩ ?_
  clear k0 gR0 gM0 gZ0
  rintro H ⟨k0, gR, gM, rz, gZ, hrz⟩
  have hd : List.drop 18 rz = [] := List.drop_eq_nil_iff.2 (by omega)
  have hle : (18 ≤ rz.length) = True := by simp; omega
  have nR := k0.w.nlt gR
  have nM := k0.w.nlt gM
  have nZ := k0.w.nlt gZ
  have lR := (k0.w.live _ _ gR).2
  have lM := (k0.w.live _ _ gM).2
  have lZ := (k0.w.live _ _ gZ).2

  refine (primR_at hE k0.w hP0 hn hvw).mono ?_
  rintro v H1 ⟨rfl, k1⟩
  have gR1 := k1.k.get _ _ gR
  have gM1 := k1.k.get _ _ gM
  have gZ1 := k1.k.get _ _ gZ
  rw [hp]
  have e0 := k1.w.ne gR1
  simp only [push_cast, seval, hE.P, wpc_label, wpc_block, f2, f3, f4, gM1, nM, gR1, nR, c2']
  have k01 := k0.trans k1
  refine gtm (motive := kwv _ _ _) [2, 3, 4] fun t2 hf => ?_
  simp only [push_cast, seval, hE.P, wpc_label, wpc_block, List.mem_cons, List.not_mem_nil, or_false, forall_eq_or_imp, forall_eq, f2, f3, f4] at hf
  obtain ⟨f2, f3, f4⟩ := hf
  refine kwv_GS (el27 hE.P) k01.w (hG.keep k01.k) (lo := H1.next) (Nat.le_refl _) (Own.nil _ _ _ _) q5.1 (by rw [intsC_len, Nat.mul_one]) (intsC_one _) (by omega) (by omega) ?_
  intro v4 H4 a4'
  have o4 := a4'.own
  rw [Nat.zero_add, List.nil_append] at o4
  have k4 := k01.trans ((KW.refl k01.w).app k01.w (Own.nil _ _ _ _) a4')
  have gR4 := ((KW.refl k01.w).app k01.w (Own.nil _ _ _ _) a4').k.get _ _ gR1
  have gM4 := ((KW.refl k01.w).app k01.w (Own.nil _ _ _ _) a4').k.get _ _ gM1
  have gZ4 := ((KW.refl k01.w).app k01.w (Own.nil _ _ _ _) a4').k.get _ _ gZ1
  rcases o4 with ⟨_, hx, _⟩ | ⟨tb, tc, rest, fx, rfl, hg, hg1, hg2, hg3, hg4, hg5⟩
  · omega
  have lR1 := (k01.w.live _ _ gR1).2
  have lM1 := (k01.w.live _ _ gM1).2
  have lZ1 := (k01.w.live _ _ gZ1).2
  simp only [push_cast, seval, hE.P, wpc_label, wpc_block, f2, f3, f4, gR4, nR, awrite]
  have hgn4 : (H4.put h.next (.cells (rC P (.slice a1 P.log.length c1) (.slice a2 P.sv.l.length c2) (.slice a3 P.sv.tab.length c3) (.slice (some ⟨tb, 0, none⟩) P.told.length tc) (.slice a5 P.voted.length c5) (.slice a6 P.came.length c6) (.slice a7 P.ans.length c7)) 48 true)).get tb = some (.cells (intsC P.told ++ rest) 3 fx) := by rw [get_put, if_neg (by omega)]; exact hg
  have k5 := k4.put (o := .cells (rC P (.slice a1 P.log.length c1) (.slice a2 P.sv.l.length c2) (.slice a3 P.sv.tab.length c3) (.slice (some ⟨tb, 0, none⟩) P.told.length tc) (.slice a5 P.voted.length c5) (.slice a6 P.came.length c6) (.slice a7 P.ans.length c7)) 48 true) (b := h.next) (Nat.le_refl _) (by have := k4.w.live _ _ gR4; omega) hW
  refine gtm (motive := wdraw E _ _) [2, 3, 4] fun t3 hf => ?_
  simp only [push_cast, seval, hE.P, wpc_label, wpc_block, List.mem_cons, List.not_mem_nil, or_false, forall_eq_or_imp, forall_eq, f2, f3, f4] at hf
  obtain ⟨f2, f3, f4⟩ := hf
  refine gheap (motive := fun H => wdraw E _ _ _ H) (fun H => KW E h H ∧ H.get h.next = some (.cells (rC P (.slice a1 P.log.length c1) (.slice a2 P.sv.l.length c2) (.slice a3 P.sv.tab.length c3) (.slice (some ⟨tb, 0, none⟩) P.told.length tc) (.slice a5 P.voted.length c5) (.slice a6 P.came.length c6) (.slice a7 P.ans.length c7)) 48 true) ∧ H.get (h.next + 1) = some (.cells (mgC m (.slice b1 m.log.length d1) (.slice b2 m.img.length d2) (.slice b3 0 d3)) 62 true) ∧ H.get (h.next + 1 + 1) = some (.cells rz 48 true) ∧ H.get tb = some (.cells (intsC P.told ++ rest) 3 fx)) ⟨k5, by rw [get_put, if_pos rfl], by rw [get_put, if_neg (by omega)]; exact gM4, by rw [get_put, if_neg (by omega)]; exact gZ4, hgn4⟩ ?_
  clear k5 hgn4
  rintro H5 ⟨k5, gR5, gM5, gZ5, gT5⟩
  have r1 := int_read k5.w gT5 (i := m.fr) (by omega)
  have w1' := int_write gT5 (i := m.fr) (x := mx) (by omega)
  have ntR : (tb = h.next) = False := by simp; omega
  have hw : (Value.int .i64 (IntKind.i64.wrap ((P.cm : Int) + 1))) = iv (P.cm + 1) := iv_succ (by omega)
  have hmv : max ((P.told.getD m.fr 0 : Nat) : Int) (m.op : Int) = (mx : Int) := by omega
  refine wdraw_calm (by rw [hE.P]; decide +kernel) ?_
  simp only [push_cast, seval, hE.P, wpc_label, wpc_block, f2, f3, f4, gR5, nR, gM5, nM]
  rw [ia27 rfl (by omega) (by omega), kpure_some]
  simp only [push_cast, seval, hE.P, wpc_label, wpc_block, f2, f3, f4, gR5, nR, gM5, nM, Nat.zero_add, ↓r1, Int.toNat_natCast]
  rw [hmv, ia27 rfl (by omega) (by omega), kpure_some]
  simp only [push_cast, seval, hE.P, wpc_label, wpc_block, f2, f3, f4, gR5, nR, gM5, nM, Nat.zero_add, ↓w1', kwr_some, Int.toNat_natCast, ntR, hw]
  have hTl : T.length = P.told.length := by rw [hT]; simp
  have k6 := k5.put (o := .cells (intsC T ++ rest) 3 fx) (b := tb) (by omega) (k5.w.live _ _ gT5).2 hW
  rw [← hT]
  have oT : Own (H5.put tb (.cells (intsC T ++ rest) 3 fx)) 3 1 h.next T.length (intsC T) (.slice (some ⟨tb, 0, none⟩) T.length tc) :=
    .inr ⟨tb, tc, rest, fx, rfl, by rw [get_put, if_pos rfl], by simp [intsC], by rw [hTl]; exact hg2, by rw [hTl]; exact hg3, by omega, hg5⟩
  obtain ⟨G6, z6, x6, s6, g6⟩ := (k6.ext hG).frz2 oT
  have hn6 : ∀ b, h.next ≤ b → b ≠ tb → G6 b = none := fun b hb hne => by
    cases hgg : G6 b with
    | none => rfl
    | some c =>
      rcases g6 _ _ hgg with h5 | h5
      · rw [hgn b hb] at h5; cases h5
      · simp only [slB, List.mem_singleton] at h5; exact absurd h5 hne
  have gR6 : (H5.put tb (.cells (intsC T ++ rest) 3 fx)).get h.next = some (.cells (rC P (.slice a1 P.log.length c1) (.slice a2 P.sv.l.length c2) (.slice a3 P.sv.tab.length c3) (.slice (some ⟨tb, 0, none⟩) P.told.length tc) (.slice a5 P.voted.length c5) (.slice a6 P.came.length c6) (.slice a7 P.ans.length c7)) 48 true) := by rw [get_put, if_neg (by omega)]; exact gR5
  have gZ6 : (H5.put tb (.cells (intsC T ++ rest) 3 fx)).get (h.next + 1 + 1) = some (.cells rz 48 true) := by rw [get_put, if_neg (by omega)]; exact gZ5
  have zP : PRR E G6 { P with told := T } (rC { P with told := T } (.slice a1 P.log.length c1) (.slice a2 P.sv.l.length c2) (.slice a3 P.sv.tab.length c3) (.slice (some ⟨tb, 0, none⟩) P.told.length tc) (.slice a5 P.voted.length c5) (.slice a6 P.came.length c6) (.slice a7 P.ans.length c7)) := by
    refine PRR.of (P := { P with told := T }) (q1.sub s6) (q2.sub s6) (q3.sub s6) (q4.sub s6) ?_ (q6.sub s6) ⟨q7.1.sub s6, q7.2.sub s6⟩ ⟨q8.1.sub s6, q8.2.sub s6⟩
    show Fz E G6 1 T.length (intsC T) _
    rw [← hTl]; exact z6
  have hFP : PR.F { P with told := T } = P.F := rfl
  refine wpc_loop (fun q tm h2 => ∃ k b, q = P.op + 1 - k ∧ P.cm + 1 ≤ k ∧ k ≤ P.op + 1 ∧ fget tm 2 = ptr h.next ∧ fget tm 4 = ptr (h.next + 1 + 1) ∧ fget tm 7 = iv b ∧ fget tm 8 = iv k ∧ Ext E G h G6 h2 ∧
    h2.get h.next = some (.cells (rC { P with told := T } (.slice a1 P.log.length c1) (.slice a2 P.sv.l.length c2) (.slice a3 P.sv.tab.length c3) (.slice (some ⟨tb, 0, none⟩) P.told.length tc) (.slice a5 P.voted.length c5) (.slice a6 P.came.length c6) (.slice a7 P.ans.length c7)) 48 true) ∧ h2.get (h.next + 1 + 1) = some (.cells rz 48 true) ∧ bestK { P with told := T } (P.op - P.cm) (P.cm + 1) 0 = bestK { P with told := T } (P.op + 1 - k) k b) (P.op - P.cm) ?_ ?_
  · simp only [push_cast, seval, hE.P, wpc_label, wpc_block, f2, f3, f4]
    rw [get_put] at gR6 gZ6
    exact ⟨P.cm + 1, 0, by omega, by omega, by omega, rfl, rfl, x6, gR6, gZ6, by rw [show P.op + 1 - (P.cm + 1) = P.op - P.cm by omega]⟩
  · rintro q tm h2 ⟨k, b, rfl, hk1, hk2, f2, f4, f7, f8, x2, gR2, gZ2, hbq⟩
    have l2 := (x2.wf.live _ _ gR2).2
    simp only [push_cast, seval, hE.P, wpc_label, wpc_block, f2, f4, f7, f8, gR2, nR]
    refine (opR_at hE x2.wf zP (by show P.bs ≤ _; omega) (by show P.log.length ≤ _; omega)).mono ?_
    rintro v h3 ⟨rfl, k3⟩
    have hopT : PR.op { P with told := T } = P.op := rfl
    rw [hopT]
    have gR3 := k3.k.get _ _ gR2
    have gZ3 := k3.k.get _ _ gZ2
    have x3 := x2.kw k3
    by_cases hlt : k ≤ P.op
    · have hb1 : decide ((k : Int) ≤ (P.op : Int)) = true := by simp; omega
      simp only [push_cast, seval, hE.P, wpc_label, wpc_block, f2, f4, f7, f8, hb1]
      refine wpc_loop (fun q tm h4 => ∃ i c, q = P.n - i ∧ i ≤ P.n ∧ fget tm 2 = ptr h.next ∧ fget tm 4 = ptr (h.next + 1 + 1) ∧ fget tm 7 = iv b ∧ fget tm 8 = iv k ∧ fget tm 9 = iv c ∧ fget tm 10 = iv i ∧ h4 = h3 ∧ c ≤ i ∧
        c = ((List.range i).filter fun j => j != P.me && decide (k ≤ T.getD j 0)).length) P.n ?_ ?_
      · simp only [push_cast, seval, hE.P, wpc_label, wpc_block, f2, f4, f7, f8]
        exact ⟨0, 0, by omega, by omega, rfl, rfl, by omega, rfl⟩
      · rintro q tm h4 ⟨i, c, rfl, hi, f2, f4, f7, f8, f9, f10, rfl, hci, hcc⟩
        simp only [push_cast, seval, hE.P, wpc_label, wpc_block, f2, f4, f7, f8, f9, f10, gR3, nR]
        by_cases hin : i < P.n
        · have hb2 : decide ((i : Int) < (P.n : Int)) = true := by simp; omega
          obtain ⟨lb, lc, e1', hsp, hac⟩ := z6.1.elem x3.frz (show i < T.length by omega)
          injection e1' with e1' _ e3'
          injection e1' with e1'
          subst e1'; subst e3'
          rw [intsC_at (by omega)] at hac
          simp only [Nat.zero_add, Nat.mul_one] at hac
          have hrs : ∀ i : Nat, ((List.range (i + 1)).filter fun j => j != P.me && decide (k ≤ T.getD j 0)).length = ((List.range i).filter fun j => j != P.me && decide (k ≤ T.getD j 0)).length + if i != P.me && decide (k ≤ T.getD i 0) then 1 else 0 := by
            intro i
            rw [List.range_succ, List.filter_append, List.length_append]
            congr 1
            by_cases hbb : (i != P.me && decide (k ≤ T.getD i 0)) = true
            · rw [List.filter_cons_of_pos (p := fun j => j != P.me && decide (k ≤ T.getD j 0)) hbb, if_pos hbb]; rfl
            · rw [List.filter_cons_of_neg (p := fun j => j != P.me && decide (k ≤ T.getD j 0)) hbb, if_neg hbb]; rfl
          by_cases him : i = P.me
          · have hb3 : ((i : Int) != (P.me : Int)) = false := by simp [him]
            simp only [push_cast, seval, hE.P, wpc_label, wpc_block, f2, f4, f7, f8, f9, f10, gR3, nR, hb2, hb3, kguard_undef]
            exact ⟨P.n - (i + 1), by omega, i + 1, c, rfl, by omega, rfl, iv_succ (by omega), by omega, by rw [hrs, ← hcc]; simp [him]⟩
          · have hb3 : ((i : Int) != (P.me : Int)) = true := by simp; omega
            have hb3' : (i != P.me) = true := by simp [him]
            simp only [push_cast, seval, hE.P, wpc_label, wpc_block, f2, f4, f7, f8, f9, f10, gR3, nR, hb2, hb3]
            rw [ia27 rfl (by omega) (by omega), kpure_some]
            simp only [push_cast, seval, hE.P, wpc_label, wpc_block, f2, f4, f7, f8, f9, f10, gR3, nR, Nat.zero_add, ↓hac, Int.toNat_natCast]
            by_cases hkt : k ≤ T.getD i 0
            · have hb4 : decide ((k : Int) ≤ ((T.getD i 0 : Nat) : Int)) = true := by simp only [decide_eq_true_eq]; omega
              simp only [push_cast, seval, hE.P, wpc_label, wpc_block, f2, f4, f7, f8, f9, f10, hb4]
              exact ⟨P.n - (i + 1), by omega, i + 1, c + 1, rfl, by omega, iv_succ (by omega), iv_succ (by omega), by omega, by rw [hrs, ← hcc, hb3']; simp only [Bool.true_and, decide_eq_true_eq]; rw [if_pos hkt]⟩
            · have hb4 : decide ((k : Int) ≤ ((T.getD i 0 : Nat) : Int)) = false := by simp only [decide_eq_false_iff_not]; omega
              simp only [push_cast, seval, hE.P, wpc_label, wpc_block, f2, f4, f7, f8, f9, f10, hb4]
              exact ⟨P.n - (i + 1), by omega, i + 1, c, rfl, by omega, rfl, iv_succ (by omega), by omega, by rw [hrs, ← hcc, hb3']; simp only [Bool.true_and, decide_eq_true_eq]; rw [if_neg hkt]; rfl⟩
        · have hb2 : decide ((i : Int) < (P.n : Int)) = false := by simp; omega
          have hin : i = P.n := by omega
          subst hin
          have htn : toldN { P with told := T } k = c := by rw [hcc]; rfl
          simp only [push_cast, seval, hE.P, wpc_label, wpc_block, f2, f4, f7, f8, f9, f10, hb2, gR3, nR]
          refine (fR_at hE x3.wf zP hn).mono ?_
          rintro v h5 ⟨rfl, k5'⟩
          rw [hFP]
          have gR5' := k5'.k.get _ _ gR3
          have gZ5' := k5'.k.get _ _ gZ3
          have hbs : bestK { P with told := T } (P.op + 1 - k) k b = bestK { P with told := T } (P.op + 1 - (k + 1)) (k + 1) (if P.F ≤ c then k else b) := by
            rw [show P.op + 1 - k = (P.op + 1 - (k + 1)) + 1 by omega, bestK, htn, hFP]
          by_cases hF : P.F ≤ c
          · have hb5 : decide ((P.F : Int) ≤ (c : Int)) = true := by simp; omega
            rw [if_pos hF] at hbs
            simp only [push_cast, seval, hE.P, wpc_label, wpc_block, f2, f4, f7, f8, f9, f10, hb5]
            exact ⟨P.op + 1 - (k + 1), by omega, k + 1, k, rfl, by omega, by omega, rfl, iv_succ (by omega), x3.kw k5', gR5', gZ5', by rw [hbq, hbs]⟩
          · have hb5 : decide ((P.F : Int) ≤ (c : Int)) = false := by simp; omega
            rw [if_neg hF] at hbs
            simp only [push_cast, seval, hE.P, wpc_label, wpc_block, f2, f4, f7, f8, f9, f10, hb5]
            exact ⟨P.op + 1 - (k + 1), by omega, k + 1, b, rfl, by omega, by omega, rfl, iv_succ (by omega), x3.kw k5', gR5', gZ5', by rw [hbq, hbs]⟩
    · have hb1 : decide ((k : Int) ≤ (P.op : Int)) = false := by simp; omega
      have he : P.op + 1 - k = 0 := by omega
      rw [he] at hbq
      have hbq : bestK { P with told := T } (P.op - P.cm) (P.cm + 1) 0 = b := hbq
      rw [hbq]
      simp only [push_cast, seval, hE.P, wpc_label, wpc_block, f2, f4, f7, f8, hb1, gR3, nR]
      have zQ : PR.Sz { P with told := T } := ⟨z.n, z.odd, z.me, z.vw, z.bs, z.cm, z.op, by show T.length = P.n; omega, z.voted, z.came, z.ans, z.tab, z.svl, z.srt, z.ent⟩
      refine (commitR_at hE x3.wf x3.frz zP zQ b).mono ?_
      rintro v H7 ⟨G7, rc7, co7, v7, x7, hp7, o7, m7, g7, rfl⟩
      have hl3 := hp7.len
      obtain ⟨G8, z8, x8, s8, g8⟩ := x7.frz2 o7
      have x04 := x3.andthen x8
      have gZ7 := x7.keep.get _ _ gZ3
      have lZ3 := (x3.wf.live _ _ gZ3).2
      have hZ8 : G8 (h.next + 1 + 1) = none := x8.nn lZ3 (hn6 _ (by omega) (by omega))
      obtain ⟨A1, C1, A2, C2, A3, C3, A4, C4, A5, C5, A6, C6, A7, C7, CT, CC, CA, hcs3, _⟩ := hp7.e
      subst hcs3
      have x05 := x04.put hW (o := .cells (rC (commit { P with told := T } b).1 (.slice A1 (commit { P with told := T } b).1.log.length C1) (.slice A2 (commit { P with told := T } b).1.sv.l.length C2) (.slice A3 (commit { P with told := T } b).1.sv.tab.length C3) (.slice A4 (commit { P with told := T } b).1.told.length C4) (.slice A5 (commit { P with told := T } b).1.voted.length C5) (.slice A6 (commit { P with told := T } b).1.came.length C6) (.slice A7 (commit { P with told := T } b).1.ans.length C7)) 48 true) (by omega) hZ8 gZ7
      simp only [push_cast, seval, hE.P, wpc_label, wpc_block, f2, f4, f7, f8, gZ7, nZ, hd, hle, awrite]
      exact ⟨G8, _, co7, v7, x05, hp7.sub s8, z8, m7.sub s8, rfl⟩
end
end Go.Proofs.YthdgobcpefcolaaGreatDoor
namespace Go.Proofs.YthdgobcpefcolaaGreatDoor
open Go.Tm Vr
set_option linter.unusedSectionVars false
variable {E : Env} (hE : EOk E)
include hE
section
variable {G : Mem} {h : Heap} (hW : WF E h) (hG : Frz E G h) {P : PR} {cs : List Value} (hP : PRR E G P cs)
include hW hG hP
set_option maxHeartbeats 2000000 in
theorem goodR_at {m : Mg} {ms : List Value} (hm : MgR E G m ms) (hk1 : 1 ≤ m.k) (hk4 : m.k ≤ 4) (hto : m.to = P.me) (hfr : m.k = 1 ∨ m.fr < P.n ∧ m.fr ≠ P.me) : CallsTo E 42 [.agg cs.toArray, .agg ms.toArray] h fun v h' => v = .bool true ∧ KW E h h' := by
  obtain ⟨a1, c1, a2, c2, a3, c3, a4, c4, a5, c5, a6, c6, a7, c7, ct, cc, ca, hcs, hP'⟩ := hP.e
  obtain ⟨b1, d1, b2, d2, b3, d3, hms, m1, m2, m3⟩ := hm.e
  subst hcs; subst hms
  have w0 := hW.b0
  have w1 := hW.b1
  have c0' : ((m.to : Int) != (P.me : Int)) = false := by simp [hto]
  have c1' : decide ((m.k : Int) < 1) = false := by simp; omega
  have c2' : decide ((11 : Int) < (m.k : Int)) = false := by simp; omega
  have c6' : ((m.k : Int) == 6) = false := by simp; omega
  have c7' : ((m.k : Int) == 7) = false := by simp; omega
  have c9' : ((m.k : Int) == 9) = false := by simp; omega
  have ce' : ((m.k : Int) == 11) = false := by simp; omega
  have e1 : decide ((m.vw : Int) < 0) = false := by simp
  have e2 : decide ((m.op : Int) < 0) = false := by simp
  have e3 : decide ((m.cm : Int) < 0) = false := by simp
  have e4 : decide ((m.bs : Int) < 0) = false := by simp
  have e5 : decide ((m.nm : Int) < 0) = false := by simp
  have e6 : decide ((m.nc : Int) < 0) = false := by simp
  refine calls_of_runs (fn := Tryz.f42) (by rw [hE.P]; exact Tryz.func42) rfl (by rw [hE.known]; rfl) (by rw [Tryz.ntmps42]; exact Nat.le_of_ble_eq_true rfl) (by decide +kernel) (rs := [.tmp 4]) rfl (wpc_runs _ _ _ _ ?_)
  simp only [push_cast, seval, hE.P, awrite, wpc_label, wpc_block, w0, w1, c0', c1', c2']
  by_cases h1 : m.k = 1
  · have c3' : ((m.k : Int) != 1) = false := by simp [h1]
    simp only [push_cast, seval, hE.P, awrite, wpc_label, wpc_block, w0, w1, c0', c1', c2', c3', kguard_undef, e1, e2, e3, e4, e5, e6, c6', c7', c9', ce']
    exact (KW.refl hW).push.push
  · have c3' : ((m.k : Int) != 1) = true := by simp; omega
    have c4' : decide ((m.fr : Int) < 0) = false := by simp
    have c5' : decide ((P.n : Int) ≤ (m.fr : Int)) = false := by simp; omega
    have c8' : ((m.fr : Int) == (P.me : Int)) = false := by simp; omega
    simp only [push_cast, seval, hE.P, awrite, wpc_label, wpc_block, w0, w1, c0', c1', c2', c3', c4', c5', c8', e1, e2, e3, e4, e5, e6, c6', c7', c9', ce']
    exact (KW.refl hW).push.push
set_option maxHeartbeats 4000000 in
theorem stepR_at {m : Mg} {ms : List Value} {P' : PR} {out' : List Mg} (hm : MgR E G m ms) (hk1 : 1 ≤ m.k) (hk4 : m.k ≤ 4) (hto : m.to = P.me) (hfr : m.k = 1 ∨ m.fr < P.n ∧ m.fr ≠ P.me)
    (hf : ∀ H, KW E h H → CallsTo E (if m.k = 1 then 43 else 44) [.agg cs.toArray, .agg ms.toArray] H fun v h' => ∃ G' rc' co v2, Ext E G H G' h' ∧ PRR E G' P' rc' ∧ Fz E G' 17 out'.length co v2 ∧ MgsR E G' out' co ∧ v = .tuple #[.agg rc'.toArray, v2]) :
    CallsTo E 24 [.agg cs.toArray, .agg ms.toArray] h fun v h' => ∃ G' rc' co v2, Ext E G h G' h' ∧ PRR E G' P' rc' ∧ Fz E G' 17 out'.length co v2 ∧ MgsR E G' out' co ∧ v = .tuple #[.agg rc'.toArray, v2] := by
  have hP0 := hP
  have hm0 := hm
  have w0 := hW.b0
  have w1 := hW.b1
  have w2 := hW.b2
  have hgn : ∀ b, h.next ≤ b → G b = none := fun b hb => by
    cases hg : G b with
    | none => rfl
    | some c =>
      obtain ⟨e, fx, hh⟩ := hG b c hg
      have := (hW.live _ _ hh).2; omega
  obtain ⟨a1, c1, a2, c2, a3, c3, a4, c4, a5, c5, a6, c6, a7, c7, ct, cc, ca, hcs, hP'⟩ := hP.e
  obtain ⟨b1, d1, b2, d2, b3, d3, hms, m1, m2, m3⟩ := hm.e
  subst hcs; subst hms
  refine calls_of_runs (fn := Tryz.f24) (by rw [hE.P]; exact Tryz.func24) rfl (by rw [hE.known]; rfl) (by rw [Tryz.ntmps24]; exact Nat.le_of_ble_eq_true rfl) (by decide +kernel) (rs := [.cell 4 48, .tmp 5]) rfl (wpc_runs _ _ _ _ ?_)
  simp only [push_cast, seval, hE.P, awrite, wpc_label, wpc_block, w0, w1, w2]
  have k0 := (((KW.refl hW).push (o := (.cells (rC P (.slice a1 P.log.length c1) (.slice a2 P.sv.l.length c2) (.slice a3 P.sv.tab.length c3) (.slice a4 P.told.length c4) (.slice a5 P.voted.length c5) (.slice a6 P.came.length c6) (.slice a7 P.ans.length c7)) 48 true))).push (o := (.cells (mgC m (.slice b1 m.log.length d1) (.slice b2 m.img.length d2) (.slice b3 0 d3)) 62 true))).push (o := (.cells [.int .i64 0, .int .i64 0, .int .i64 0, .int .i64 0, .int .i64 0, .int .i64 0, .int .i64 0, .int .i64 0, .slice none 0 0, .bool false, .slice none 0 0, .slice none 0 0, .slice none 0 0, .slice none 0 0, .slice none 0 0, .bool false, .slice none 0 0, .slice none 0 0] 48 true))
  have gR0 : (((h.push (.cells (rC P (.slice a1 P.log.length c1) (.slice a2 P.sv.l.length c2) (.slice a3 P.sv.tab.length c3) (.slice a4 P.told.length c4) (.slice a5 P.voted.length c5) (.slice a6 P.came.length c6) (.slice a7 P.ans.length c7)) 48 true)).push (.cells (mgC m (.slice b1 m.log.length d1) (.slice b2 m.img.length d2) (.slice b3 0 d3)) 62 true)).push (.cells [.int .i64 0, .int .i64 0, .int .i64 0, .int .i64 0, .int .i64 0, .int .i64 0, .int .i64 0, .int .i64 0, .slice none 0 0, .bool false, .slice none 0 0, .slice none 0 0, .slice none 0 0, .slice none 0 0, .slice none 0 0, .bool false, .slice none 0 0, .slice none 0 0] 48 true)).get h.next = some (.cells (rC P (.slice a1 P.log.length c1) (.slice a2 P.sv.l.length c2) (.slice a3 P.sv.tab.length c3) (.slice a4 P.told.length c4) (.slice a5 P.voted.length c5) (.slice a6 P.came.length c6) (.slice a7 P.ans.length c7)) 48 true) := by rw [get_push, if_neg (by simp; omega), get_push, if_neg (by simp), get_push, if_pos rfl]
  have gM0 : (((h.push (.cells (rC P (.slice a1 P.log.length c1) (.slice a2 P.sv.l.length c2) (.slice a3 P.sv.tab.length c3) (.slice a4 P.told.length c4) (.slice a5 P.voted.length c5) (.slice a6 P.came.length c6) (.slice a7 P.ans.length c7)) 48 true)).push (.cells (mgC m (.slice b1 m.log.length d1) (.slice b2 m.img.length d2) (.slice b3 0 d3)) 62 true)).push (.cells [.int .i64 0, .int .i64 0, .int .i64 0, .int .i64 0, .int .i64 0, .int .i64 0, .int .i64 0, .int .i64 0, .slice none 0 0, .bool false, .slice none 0 0, .slice none 0 0, .slice none 0 0, .slice none 0 0, .slice none 0 0, .bool false, .slice none 0 0, .slice none 0 0] 48 true)).get (h.next + 1) = some (.cells (mgC m (.slice b1 m.log.length d1) (.slice b2 m.img.length d2) (.slice b3 0 d3)) 62 true) := by rw [get_push, if_neg (by simp), get_push, if_pos (by simp)]
  have gZ0 : (((h.push (.cells (rC P (.slice a1 P.log.length c1) (.slice a2 P.sv.l.length c2) (.slice a3 P.sv.tab.length c3) (.slice a4 P.told.length c4) (.slice a5 P.voted.length c5) (.slice a6 P.came.length c6) (.slice a7 P.ans.length c7)) 48 true)).push (.cells (mgC m (.slice b1 m.log.length d1) (.slice b2 m.img.length d2) (.slice b3 0 d3)) 62 true)).push (.cells [.int .i64 0, .int .i64 0, .int .i64 0, .int .i64 0, .int .i64 0, .int .i64 0, .int .i64 0, .int .i64 0, .slice none 0 0, .bool false, .slice none 0 0, .slice none 0 0, .slice none 0 0, .slice none 0 0, .slice none 0 0, .bool false, .slice none 0 0, .slice none 0 0] 48 true)).get (h.next + 1 + 1) = some (.cells [.int .i64 0, .int .i64 0, .int .i64 0, .int .i64 0, .int .i64 0, .int .i64 0, .int .i64 0, .int .i64 0, .slice none 0 0, .bool false, .slice none 0 0, .slice none 0 0, .slice none 0 0, .slice none 0 0, .slice none 0 0, .bool false, .slice none 0 0, .slice none 0 0] 48 true) := by rw [get_push, if_pos (by simp)]
  refine Go.Tm.kcall_gen [2, 3, 4] ?_
  intro t1 hf'
  simp only [push_cast, seval, hE.P, awrite, wpc_label, wpc_block, List.mem_cons, List.not_mem_nil, or_false, forall_eq_or_imp, forall_eq] at hf'
  obtain ⟨f2, f3, f4⟩ := hf'
  refine gheap (motive := fun H => CallsTo E 42 _ H _) (fun H => KW E h H ∧ H.get h.next = some (.cells (rC P (.slice a1 P.log.length c1) (.slice a2 P.sv.l.length c2) (.slice a3 P.sv.tab.length c3) (.slice a4 P.told.length c4) (.slice a5 P.voted.length c5) (.slice a6 P.came.length c6) (.slice a7 P.ans.length c7)) 48 true) ∧ H.get (h.next + 1) = some (.cells (mgC m (.slice b1 m.log.length d1) (.slice b2 m.img.length d2) (.slice b3 0 d3)) 62 true) ∧ ∃ rz, H.get (h.next + 1 + 1) = some (.cells rz 48 true) ∧ rz.length = 18) ⟨k0, gR0, gM0, _, gZ0, rfl⟩ ?_
  clear k0 gR0 gM0 gZ0
  rintro H ⟨k0, gR, gM, rz, gZ, hrz⟩
  have hd : List.drop 18 rz = [] := List.drop_eq_nil_iff.2 (by omega)
  have hle : (18 ≤ rz.length) = True := by simp; omega
  have nR := k0.w.nlt gR
  have nM := k0.w.nlt gM
  have nZ := k0.w.nlt gZ
  refine (goodR_at hE k0.w (hG.keep k0.k) hP0 hm0 hk1 hk4 hto hfr).mono ?_
  rintro v H1 ⟨rfl, k1⟩
  have k01 := k0.trans k1
  have gR1 := k1.k.get _ _ gR
  have gM1 := k1.k.get _ _ gM
  have gZ1 := k1.k.get _ _ gZ
  have lZ1 := (k01.w.live _ _ gZ1).2
  have hff := hf H1 k01
  by_cases h1 : m.k = 1
  · have d1' : ((m.k : Int) == 1) = true := by simp [h1]
    rw [if_pos h1] at hff
    simp only [push_cast, seval, hE.P, awrite, wpc_label, wpc_block, f2, f3, f4, gR1, nR, gM1, nM, d1']
    refine hff.mono ?_
    rintro v H2 ⟨G2, rc2, co2, v2, x2, hp2, z2, r2, rfl⟩
    obtain ⟨A1, C1, A2, C2, A3, C3, A4, C4, A5, C5, A6, C6, A7, C7, CT, CC, CA, hcs3, _⟩ := hp2.e
    subst hcs3
    have gZ2 := x2.keep.get _ _ gZ1
    have x3 := ((k01.ext hG).andthen x2).put hW (o := .cells (rC P' (.slice A1 P'.log.length C1) (.slice A2 P'.sv.l.length C2) (.slice A3 P'.sv.tab.length C3) (.slice A4 P'.told.length C4) (.slice A5 P'.voted.length C5) (.slice A6 P'.came.length C6) (.slice A7 P'.ans.length C7)) 48 true) (by omega) (x2.nn lZ1 (hgn _ (by omega))) gZ2
    simp only [push_cast, seval, hE.P, awrite, wpc_label, wpc_block, f2, f3, f4, gZ2, nZ, hd, hle]
    exact ⟨G2, _, co2, v2, x3, hp2, z2, r2, rfl⟩
  by_cases h2 : m.k = 2
  · have d1' : ((m.k : Int) == 1) = false := by simp; omega
    have d2' : ((m.k : Int) == 2) = true := by simp; omega
    rw [if_neg h1] at hff
    simp only [push_cast, seval, hE.P, awrite, wpc_label, wpc_block, f2, f3, f4, gR1, nR, gM1, nM, d1', d2']
    refine hff.mono ?_
    rintro v H2 ⟨G2, rc2, co2, v2, x2, hp2, z2, r2, rfl⟩
    obtain ⟨A1, C1, A2, C2, A3, C3, A4, C4, A5, C5, A6, C6, A7, C7, CT, CC, CA, hcs3, _⟩ := hp2.e
    subst hcs3
    have gZ2 := x2.keep.get _ _ gZ1
    have x3 := ((k01.ext hG).andthen x2).put hW (o := .cells (rC P' (.slice A1 P'.log.length C1) (.slice A2 P'.sv.l.length C2) (.slice A3 P'.sv.tab.length C3) (.slice A4 P'.told.length C4) (.slice A5 P'.voted.length C5) (.slice A6 P'.came.length C6) (.slice A7 P'.ans.length C7)) 48 true) (by omega) (x2.nn lZ1 (hgn _ (by omega))) gZ2
    simp only [push_cast, seval, hE.P, awrite, wpc_label, wpc_block, f2, f3, f4, gZ2, nZ, hd, hle]
    exact ⟨G2, _, co2, v2, x3, hp2, z2, r2, rfl⟩
  by_cases h3 : m.k = 3
  · have d1' : ((m.k : Int) == 1) = false := by simp; omega
    have d2' : ((m.k : Int) == 2) = false := by simp; omega
    have d3' : ((m.k : Int) == 3) = true := by simp; omega
    rw [if_neg h1] at hff
    simp only [push_cast, seval, hE.P, awrite, wpc_label, wpc_block, f2, f3, f4, gR1, nR, gM1, nM, d1', d2', d3']
    refine hff.mono ?_
    rintro v H2 ⟨G2, rc2, co2, v2, x2, hp2, z2, r2, rfl⟩
    obtain ⟨A1, C1, A2, C2, A3, C3, A4, C4, A5, C5, A6, C6, A7, C7, CT, CC, CA, hcs3, _⟩ := hp2.e
    subst hcs3
    have gZ2 := x2.keep.get _ _ gZ1
    have x3 := ((k01.ext hG).andthen x2).put hW (o := .cells (rC P' (.slice A1 P'.log.length C1) (.slice A2 P'.sv.l.length C2) (.slice A3 P'.sv.tab.length C3) (.slice A4 P'.told.length C4) (.slice A5 P'.voted.length C5) (.slice A6 P'.came.length C6) (.slice A7 P'.ans.length C7)) 48 true) (by omega) (x2.nn lZ1 (hgn _ (by omega))) gZ2
    simp only [push_cast, seval, hE.P, awrite, wpc_label, wpc_block, f2, f3, f4, gZ2, nZ, hd, hle]
    exact ⟨G2, _, co2, v2, x3, hp2, z2, r2, rfl⟩
  · have h4 : m.k = 4 := by omega
    have d1' : ((m.k : Int) == 1) = false := by simp; omega
    have d2' : ((m.k : Int) == 2) = false := by simp; omega
    have d3' : ((m.k : Int) == 3) = false := by simp; omega
    have d4' : ((m.k : Int) == 4) = true := by simp; omega
    rw [if_neg h1] at hff
    simp only [push_cast, seval, hE.P, awrite, wpc_label, wpc_block, f2, f3, f4, gR1, nR, gM1, nM, d1', d2', d3', d4']
    refine hff.mono ?_
    rintro v H2 ⟨G2, rc2, co2, v2, x2, hp2, z2, r2, rfl⟩
    obtain ⟨A1, C1, A2, C2, A3, C3, A4, C4, A5, C5, A6, C6, A7, C7, CT, CC, CA, hcs3, _⟩ := hp2.e
    subst hcs3
    have gZ2 := x2.keep.get _ _ gZ1
    have x3 := ((k01.ext hG).andthen x2).put hW (o := .cells (rC P' (.slice A1 P'.log.length C1) (.slice A2 P'.sv.l.length C2) (.slice A3 P'.sv.tab.length C3) (.slice A4 P'.told.length C4) (.slice A5 P'.voted.length C5) (.slice A6 P'.came.length C6) (.slice A7 P'.ans.length C7)) 48 true) (by omega) (x2.nn lZ1 (hgn _ (by omega))) gZ2
    simp only [push_cast, seval, hE.P, awrite, wpc_label, wpc_block, f2, f3, f4, gZ2, nZ, hd, hle]
    exact ⟨G2, _, co2, v2, x3, hp2, z2, r2, rfl⟩
set_option maxHeartbeats 2000000 in
theorem idleR_at (z : P.Sz) (hst : P.st = 0) (hp : P.prim = true) (hcm : P.op = P.cm) : CallsTo E 22 [.agg cs.toArray] h fun v h' => ∃ G' co, Ext E G h G' h' ∧ Fz E G' 17 (idle P).length co v ∧ MgsR E G' (idle P) co := by
  have hP0 := hP
  have w0 := hW.b0
  have zb := z.bs
  have zo := z.op
  have zn := z.n
  have hll : P.log.length ≤ P.op := by unfold PR.op; omega
  have hn : 1 ≤ P.n ∧ P.n ≤ 1000 := ⟨by omega, by omega⟩
  have hvw : P.vw ≤ 1099511627776 := by have := z.vw; omega
  have hR : idle P = P.allM { k := 4, vw := P.vw, cm := P.cm } := by unfold idle; rw [if_neg (by simp [hst, hp]), if_neg (by omega)]
  rw [hR]
  obtain ⟨a1, c1, a2, c2, a3, c3, a4, c4, a5, c5, a6, c6, a7, c7, ct, cc, ca, hcs, hP'⟩ := hP.e
  subst hcs
  have hs1 : ((P.st : Int) != 0) = false := by simp [hst]
  have hc1 : decide ((P.cm : Int) < (P.op : Int)) = false := by simp; omega
  refine calls_of_runs (fn := Tryz.f22) (by rw [hE.P]; exact Tryz.func22) rfl (by rw [hE.known]; rfl) (by rw [Tryz.ntmps22]; exact Nat.le_of_ble_eq_true rfl) (by decide +kernel) (rs := [.tmp 2]) rfl (wpc_runs _ _ _ _ ?_)
  simp only [push_cast, seval, hE.P, awrite, wpc_label, wpc_block, w0, hs1]
  have k0 := (KW.refl hW).push (o := (.cells (rC P (.slice a1 P.log.length c1) (.slice a2 P.sv.l.length c2) (.slice a3 P.sv.tab.length c3) (.slice a4 P.told.length c4) (.slice a5 P.voted.length c5) (.slice a6 P.came.length c6) (.slice a7 P.ans.length c7)) 48 true))
  have gR : (h.push (.cells (rC P (.slice a1 P.log.length c1) (.slice a2 P.sv.l.length c2) (.slice a3 P.sv.tab.length c3) (.slice a4 P.told.length c4) (.slice a5 P.voted.length c5) (.slice a6 P.came.length c6) (.slice a7 P.ans.length c7)) 48 true)).get h.next = some (.cells (rC P (.slice a1 P.log.length c1) (.slice a2 P.sv.l.length c2) (.slice a3 P.sv.tab.length c3) (.slice a4 P.told.length c4) (.slice a5 P.voted.length c5) (.slice a6 P.came.length c6) (.slice a7 P.ans.length c7)) 48 true) := by rw [get_push, if_pos rfl]
  have nR := k0.w.nlt gR
  refine (primR_at hE k0.w hP0 hn hvw).mono ?_
  rintro v H1 ⟨rfl, k1⟩
  have gR1 := k1.k.get _ _ gR
  have k01 := k0.trans k1
  rw [hp]
  simp only [push_cast, seval, hE.P, awrite, wpc_label, wpc_block, gR1, nR]
  refine wdraw_pairs [(3, 1)] (by rw [hE.P]; decide +kernel) (by rw [hE.P]; decide +kernel) (by rw [hE.P]; decide +kernel) ?_
  simp only [push_cast, seval, hE.P, awrite, wpc_label, wpc_block, gR1, nR]
  refine (opR_at hE k01.w hP0 (by omega) (by omega)).mono ?_
  rintro v H2 ⟨rfl, k2⟩
  have gR2 := k2.k.get _ _ gR1
  have k02 := k01.trans k2
  simp only [push_cast, seval, hE.P, awrite, wpc_label, wpc_block, gR1, gR2, nR, hc1, veq_int]
  refine (allR_at hE k02.w hP0 (hG.keep k02.k) (by omega) (m := { k := 4, vw := P.vw, cm := P.cm }) ⟨_, _, _, rfl, Fz.nil, Fz.nil, Fz.nil⟩).mono ?_
  rintro v H3 ⟨co, o3, r3, k3⟩
  simp only [push_cast, seval, hE.P, awrite, wpc_label, wpc_block]
  obtain ⟨G4, z4, x4, s4, _⟩ := ((k02.trans k3).ext hG).frz2 (o3.low (lo' := h.next) k02.k.next)
  exact ⟨G4, co, x4, z4, r3.sub s4⟩
end
end Go.Proofs.YthdgobcpefcolaaGreatDoor
