/- Chapter 25: the model takes a request. -/
import Derived.Test.YthdgobcpefcolaaGreatDoorG23
set_option maxRecDepth 10000
set_option linter.all false
set_option linter.unusedSimpArgs false
set_option linter.unusedVariables false
namespace Go.Proofs.YthdgobcpefcolaaGreatDoor
open Go.Tm Vr
set_option linter.unusedSectionVars false
variable {E : Env} (hE : EOk E)
include hE
section
variable {G : Mem} {h : Heap} (hW : WF E h) (hG : Frz E G h) {P : PR} {cs : List Value} (hP : PRR E G P cs)
include hW hG hP
set_option maxHeartbeats 4000000 in
theorem requestR_at (z : P.Sz) (hop : P.op < 1000000) {m : Mg} {ms : List Value} (hm : MgR E G m ms) (hc : m.en.c ≤ 1000000 ∧ m.en.n ≤ 1000000) (hne : ∀ x, lastOf P.sv.tab m.en.c = some x → m.en.n ≠ x.n) :
    CallsTo E 43 [.agg cs.toArray, .agg ms.toArray] h fun v h' => ∃ G' rc' co v2, Ext E G h G' h' ∧ PRR E G' (request P m).1 rc' ∧ Fz E G' 17 (request P m).2.length co v2 ∧ MgsR E G' (request P m).2 co ∧ v = .tuple #[.agg rc'.toArray, v2] := by
  have hP0 := hP
  have hm0 := hm
  obtain ⟨a1, c1, a2, c2, a3, c3, a4, c4, a5, c5, a6, c6, a7, c7, ct, cc, ca, hcs, q1, ⟨q2, q3, q4⟩, q5, q6, q7, q8⟩ := hP.e
  obtain ⟨b1, d1, b2, d2, b3, d3, hms, m1, m2, m3⟩ := hm.e
  have w0 := hW.b0
  have w1 := hW.b1
  have w2 := hW.b2
  have w3 := hW.b3
  subst hcs; subst hms
  have zb := z.bs
  have zc := z.cm
  have zo := z.op
  have hll : P.log.length ≤ P.op := by unfold PR.op; omega
  have hn : 1 ≤ P.n ∧ P.n ≤ 1000 := ⟨by have := z.n; omega, by have := z.n; omega⟩
  have hvw : P.vw ≤ 1099511627776 := by have := z.vw; omega
  refine calls_of_runs (fn := Tryz.f43) (by rw [hE.P]; exact Tryz.func43) rfl (by rw [hE.known]; rfl) (by rw [Tryz.ntmps43]; exact Nat.le_of_ble_eq_true rfl) (by decide +kernel) (rs := [.cell 4 48, .tmp 5]) rfl (wpc_runs _ _ _ _ ?_)
  simp only [push_cast, seval, hE.P, awrite, wpc_label, wpc_block, w0, w1, w2]
  have k0 := (((KW.refl hW).push (o := .cells (rC P (.slice a1 P.log.length c1) (.slice a2 P.sv.l.length c2) (.slice a3 P.sv.tab.length c3) (.slice a4 P.told.length c4) (.slice a5 P.voted.length c5) (.slice a6 P.came.length c6) (.slice a7 P.ans.length c7)) 48 true)).push (o := .cells (mgC m (.slice b1 m.log.length d1) (.slice b2 m.img.length d2) (.slice b3 0 d3)) 62 true)).push (o := .cells [.int .i64 0, .int .i64 0, .int .i64 0, .int .i64 0, .int .i64 0, .int .i64 0, .int .i64 0, .int .i64 0, .slice none 0 0, .bool false, .slice none 0 0, .slice none 0 0, .slice none 0 0, .slice none 0 0, .slice none 0 0, .bool false, .slice none 0 0, .slice none 0 0] 48 true)
  refine gtm (motive := kguard _ _ _ _) [2, 3, 4, 12, 13] fun t1 hf => ?_
  simp only [push_cast, seval, hE.P, awrite, wpc_label, wpc_block, List.mem_cons, List.not_mem_nil, or_false, forall_eq_or_imp, forall_eq] at hf
  obtain ⟨f2, f3, f4, f12, f13⟩ := hf
  refine gheap (motive := fun H => kguard _ _ _ _ _ H) (fun H => KW E h H ∧ H.get h.next = some (.cells (rC P (.slice a1 P.log.length c1) (.slice a2 P.sv.l.length c2) (.slice a3 P.sv.tab.length c3) (.slice a4 P.told.length c4) (.slice a5 P.voted.length c5) (.slice a6 P.came.length c6) (.slice a7 P.ans.length c7)) 48 true) ∧ H.get (h.next + 1) = some (.cells (mgC m (.slice b1 m.log.length d1) (.slice b2 m.img.length d2) (.slice b3 0 d3)) 62 true) ∧ ∃ rz, H.get (h.next + 1 + 1) = some (.cells rz 48 true) ∧ rz.length = 18) ⟨k0, by rw [get_push, if_neg (by simp; omega), get_push, if_neg (by simp), get_push, if_pos rfl], by rw [get_push, if_neg (by simp), get_push, if_pos (by simp)], _, by rw [get_push, if_pos (by simp)], rfl⟩ ?_
  clear k0
  rintro H ⟨k0, gR, gM, rz, gZ, hrz⟩
  have hd : List.drop 18 rz = [] := List.drop_eq_nil_iff.2 (by omega)
  have hle : (18 ≤ rz.length) = True := by simp; omega
  have nR := k0.w.nlt gR
  have nM := k0.w.nlt gM
  have nZ := k0.w.nlt gZ
  have lR := (k0.w.live _ _ gR).2
  have lM := (k0.w.live _ _ gM).2
  have lZ := (k0.w.live _ _ gZ).2
  generalize hR : request P m = R
  unfold request at hR
  have key : ∀ {tm : Tr Value} {H2 : Heap} {Q : Value → Heap → Prop}, True := trivial
  by_cases hst : P.st = 0
  · have hb : ((P.st : Int) != 0) = false := by simp [hst]
    simp only [push_cast, seval, hE.P, awrite, wpc_label, wpc_block, f2, f3, f4, f12, f13, hb, gR, nR]
    refine (primR_at hE k0.w hP0 hn hvw).mono ?_
    rintro v H1 ⟨rfl, k1⟩
    have gR1 := k1.k.get _ _ gR
    have gM1 := k1.k.get _ _ gM
    have gZ1 := k1.k.get _ _ gZ
    have k01 := k0.trans k1
    have e0 := k01.w.ne gR1
    have e1 := k01.w.ne gM1
    have e2 := k01.w.ne gZ1
    have e3 := k01.w.ne' gR1
    have e4 := k01.w.ne' gM1
    have e5 := k01.w.ne' gZ1
    have w4 := k01.w.b0
    cases hp : P.prim
    · rw [hp, if_pos (.inr rfl)] at hR
      subst hR
      simp only [push_cast, seval, hE.P, awrite, wpc_label, wpc_block, f2, f3, f4, f12, f13, hb, gR1, nR, gZ1, nZ, hd, hle]
      exact ⟨G, _, [], _, (k01.put (by omega) (by have := k1.k.next; omega) hW).ext hG, hP0, Fz.nil, rfl, rfl⟩
    · rw [hp, if_neg (by simp [hst])] at hR
      simp only [push_cast, seval, hE.P, awrite, wpc_label, wpc_block, f2, f3, f4, f12, f13, hb, gR1, nR, gM1, nM, e0, e1, e2, e3, e4, e5, w4]
      have hzL := z.tab
      refine Go.Tm.kcall_gen [2, 3, 4, 6] ?_
      intro t2 hf
      simp only [push_cast, seval, hE.P, awrite, wpc_label, wpc_block, List.mem_cons, List.not_mem_nil, or_false, forall_eq_or_imp, forall_eq, f2, f3, f4] at hf
      obtain ⟨f2, f3, f4, f6⟩ := hf
      have kE := k01.trans ((KW.refl k01.w).push (o := .cells [iv m.en.c, iv m.en.n, .string m.en.t] 56 true))
      have kp := (Keep.refl H1).push (o := .cells [iv m.en.c, iv m.en.n, .string m.en.t] 56 true) k01.w
      have hHn := k01.k.next
      have hlt1 : h.next + 1 + 1 < H1.next := (k01.w.live _ _ gZ1).2
      refine gheap (motive := fun H => CallsTo E 75 _ H _) (fun H => KW E h H ∧ H.get h.next = some (.cells (rC P (.slice a1 P.log.length c1) (.slice a2 P.sv.l.length c2) (.slice a3 P.sv.tab.length c3) (.slice a4 P.told.length c4) (.slice a5 P.voted.length c5) (.slice a6 P.came.length c6) (.slice a7 P.ans.length c7)) 48 true) ∧ H.get (h.next + 1 + 1) = some (.cells rz 48 true) ∧ H.get H1.next = some (.cells [iv m.en.c, iv m.en.n, .string m.en.t] 56 true)) ⟨kE, kp.get _ _ gR1, kp.get _ _ gZ1, by rw [get_push, if_pos rfl]⟩ ?_
      clear kE kp
      rintro H2 ⟨k2, gR2, gZ2, gE2⟩
      refine (lastR_at hE k2.w (hG.keep k2.k) (S := P.sv) ⟨_, _, _, rfl, q2, q3, q4⟩ m.en.c (by omega)).mono ?_
      rintro v H3 ⟨k3, rr, hrr, rfl⟩
      obtain ⟨sd, rfl, hsd⟩ := hrr
      obtain ⟨ra, rb, rfl, _, _⟩ := hsd.slice
      have k03 := k2.trans k3
      have gR3 := k3.k.get _ _ gR2
      have gZ3 := k3.k.get _ _ gZ2
      have gE3 := k3.k.get _ _ gE2
      have nE := k03.w.nlt gE3
      have x0 := k03.w.ne gR3
      have x1 := k03.w.ne gE3
      have x2 := k03.w.ne gZ3
      have w5 := k03.w.b0
      simp only [push_cast, seval, hE.P, awrite, wpc_label, wpc_block, f2, f3, f4, f6, gR3, nR, gE3, nE, x0, x1, w5]
      refine gtm (motive := kguard _ _ _ _) [2, 3, 4, 6, 7, 8, 29, 30] fun t3 hf => ?_
      simp only [push_cast, seval, hE.P, awrite, wpc_label, wpc_block, List.mem_cons, List.not_mem_nil, or_false, forall_eq_or_imp, forall_eq, f2, f3, f4, f6] at hf
      obtain ⟨f2, f3, f4, f6, f7, f8, f29, f30⟩ := hf
      have k4 := k03.push (o := (.cells [iv ((lastOf P.sv.tab m.en.c).getD ⟨0, 0, ⟨0, 0⟩⟩).c, iv ((lastOf P.sv.tab m.en.c).getD ⟨0, 0, ⟨0, 0⟩⟩).n, iv ((lastOf P.sv.tab m.en.c).getD ⟨0, 0, ⟨0, 0⟩⟩).r.e, iv ((lastOf P.sv.tab m.en.c).getD ⟨0, 0, ⟨0, 0⟩⟩).r.n, .slice ra 0 rb] 121 true))
      have kp := (Keep.refl H3).push (o := (.cells [iv ((lastOf P.sv.tab m.en.c).getD ⟨0, 0, ⟨0, 0⟩⟩).c, iv ((lastOf P.sv.tab m.en.c).getD ⟨0, 0, ⟨0, 0⟩⟩).n, iv ((lastOf P.sv.tab m.en.c).getD ⟨0, 0, ⟨0, 0⟩⟩).r.e, iv ((lastOf P.sv.tab m.en.c).getD ⟨0, 0, ⟨0, 0⟩⟩).r.n, .slice ra 0 rb] 121 true)) k03.w
      refine gheap (motive := fun H => kguard _ _ _ _ _ H) (fun H => KW E h H ∧ H.get h.next = some (.cells (rC P (.slice a1 P.log.length c1) (.slice a2 P.sv.l.length c2) (.slice a3 P.sv.tab.length c3) (.slice a4 P.told.length c4) (.slice a5 P.voted.length c5) (.slice a6 P.came.length c6) (.slice a7 P.ans.length c7)) 48 true) ∧ H.get (h.next + 1 + 1) = some (.cells rz 48 true) ∧ H.get H1.next = some (.cells [iv m.en.c, iv m.en.n, .string m.en.t] 56 true) ∧ H.get H3.next = some (.cells [iv ((lastOf P.sv.tab m.en.c).getD ⟨0, 0, ⟨0, 0⟩⟩).c, iv ((lastOf P.sv.tab m.en.c).getD ⟨0, 0, ⟨0, 0⟩⟩).n, iv ((lastOf P.sv.tab m.en.c).getD ⟨0, 0, ⟨0, 0⟩⟩).r.e, iv ((lastOf P.sv.tab m.en.c).getD ⟨0, 0, ⟨0, 0⟩⟩).r.n, .slice ra 0 rb] 121 true)) ⟨k4, kp.get _ _ gR3, kp.get _ _ gZ3, kp.get _ _ gE3, by rw [get_push, if_pos rfl]⟩ ?_
      clear k4 kp
      rintro H4 ⟨k4, gR4, gZ4, gE4, gL4⟩
      have nL := k4.w.nlt gL4
      rcases hlv : lastOf P.sv.tab m.en.c with _ | x
      · simp only [hlv, Option.isSome_none] at hR f8 f29 f30 ⊢
        simp only [push_cast, seval, hE.P, awrite, wpc_label, wpc_block, f2, f3, f4, f6, f7, f8, f29, f30, kguard_undef]
        have hw : (Value.int .i64 (IntKind.i64.wrap ((P.cm : Int) - (P.bs : Int)))) = iv (P.cm - P.bs) := iv_sub (by omega) zb
        simp only [push_cast, seval, hE.P, awrite, wpc_label, wpc_block, f2, f3, f4, f6, gR4, nR, hw]
        refine wpc_loop (fun k tm h2 => ∃ i, k = P.log.length - i ∧ i ≤ P.log.length ∧ h2 = H4 ∧ fget tm 2 = ptr h.next ∧ fget tm 4 = ptr (h.next + 1 + 1) ∧ fget tm 6 = ptr H1.next ∧ fget tm 9 = iv i ∧ (P.log.drop (P.cm - P.bs)).any (reqP m.en) = (P.log.drop i).any (reqP m.en)) (P.log.length - (P.cm - P.bs)) ?_ ?_
        · simp only [push_cast, seval, hE.P, awrite, wpc_label, wpc_block, f2, f3, f4, f6]
          exact ⟨P.cm - P.bs, rfl, by unfold PR.op at zc; omega, rfl, rfl⟩
        · rintro k tm h2 ⟨i, rfl, hi, rfl, f2, f4, f6, f9, hq⟩
          simp only [push_cast, seval, hE.P, awrite, wpc_label, wpc_block, f2, f4, f6, f9, gR4, nR]
          by_cases hlt : i < P.log.length
          · have hb1 : decide ((i : Int) < (P.log.length : Int)) = true := by simp; omega
            obtain ⟨lb, lc, e1', hsp, hac⟩ := q1.1.elem (hG.keep k4.k) hlt
            injection e1' with e1' _ e3'
            subst e1'; subst e3'
            rw [entsC_at (List.getElem?_eq_getElem hlt)] at hac
            unfold entC at hac
            have hac0 := acells_part hac 0 1 (by omega)
            have hac1 := acells_part hac 1 1 (by omega)
            simp only [Nat.add_zero, List.drop_zero, List.take_succ_cons, List.take_zero, List.drop_succ_cons] at hac0 hac1
            have hdr := List.drop_eq_getElem_cons hlt
            generalize P.log[i] = x at *
            simp only [push_cast, seval, hE.P, awrite, wpc_label, wpc_block, f2, f4, f6, f9, gR4, nR, hb1]
            refine wdraw_calm (by rw [hE.P]; decide +kernel) ?_
            by_cases hcx : x.c = m.en.c
            · have hb2 : ((x.c : Int) == (m.en.c : Int)) = true := by simp [hcx]
              simp only [push_cast, seval, hE.P, awrite, wpc_label, wpc_block, f2, f4, f6, f9, gR4, nR, gE4, nE]
              rw [ia36 hsp (by omega) (by omega), kpure_some]
              simp only [push_cast, seval, hE.P, awrite, wpc_label, wpc_block, f2, f4, f6, f9, gR4, nR, gE4, nE, ↓hac0, Int.toNat_natCast, hb2]
              rw [ia36 hsp (by omega) (by omega), kpure_some]
              simp only [push_cast, seval, hE.P, awrite, wpc_label, wpc_block, f2, f4, f6, f9, gR4, nR, gE4, nE, ↓hac1, Int.toNat_natCast, hb2]
              by_cases hnx : m.en.n ≤ x.n
              · have hb3 : decide ((m.en.n : Int) ≤ (x.n : Int)) = true := by simp; omega
                have hany : (P.log.drop (P.cm - P.bs)).any (reqP m.en) = true := by
                  rw [hq, hdr, List.any_cons]; unfold reqP; simp [hcx, hnx]
                have hR : (P, []) = R := by rw [← hR, if_pos]; exact hany
                subst hR
                simp only [push_cast, seval, hE.P, awrite, wpc_label, wpc_block, f2, f4, f6, f9, gR4, nR, gZ4, nZ, hd, hle, hb3]
                exact ⟨G, _, [], _, (k4.put (by omega) (by have := k4.w.live _ _ gZ4; omega) hW).ext hG, hP0, Fz.nil, rfl, rfl⟩
              · have hb3 : decide ((m.en.n : Int) ≤ (x.n : Int)) = false := by simp; omega
                simp only [push_cast, seval, hE.P, awrite, wpc_label, wpc_block, f2, f4, f6, f9, hb3]
                exact ⟨P.log.length - (i + 1), by omega, i + 1, rfl, by omega, iv_succ (by omega), by rw [hq, hdr, List.any_cons]; unfold reqP; simp [hnx]⟩
            · have hb2 : ((x.c : Int) == (m.en.c : Int)) = false := by simp; omega
              simp only [push_cast, seval, hE.P, awrite, wpc_label, wpc_block, f2, f4, f6, f9, gR4, nR, gE4, nE]
              rw [ia36 hsp (by omega) (by omega), kpure_some]
              simp only [push_cast, seval, hE.P, awrite, wpc_label, wpc_block, f2, f4, f6, f9, gR4, nR, gE4, nE, ↓hac0, Int.toNat_natCast, hb2, kguard_undef]
              exact ⟨P.log.length - (i + 1), by omega, i + 1, rfl, by omega, iv_succ (by omega), by rw [hq, hdr, List.any_cons]; unfold reqP; simp [hcx]⟩
          · have hb1 : decide ((i : Int) < (P.log.length : Int)) = false := by simp; omega
            have he : i = P.log.length := by omega
            subst he
            rw [List.drop_length] at hq
            have hR : ({ P with log := P.log ++ [m.en] }, PR.allM { P with log := P.log ++ [m.en] } { k := 2, vw := P.vw, op := PR.op { P with log := P.log ++ [m.en] }, cm := P.cm, en := m.en }) = R := by
              rw [← hR, if_neg]
              intro hc
              have : (P.log.drop (P.cm - P.bs)).any (reqP m.en) = true := hc
              rw [hq] at this; cases this
            subst hR
            simp only [push_cast, seval, hE.P, awrite, wpc_label, wpc_block, f2, f4, f6, f9, hb1]
            refine gtm (motive := wdraw E _ _) [2, 4, 6] fun t5 hf => ?_
            simp only [push_cast, seval, hE.P, awrite, wpc_label, wpc_block, List.mem_cons, List.not_mem_nil, or_false, forall_eq_or_imp, forall_eq, f2, f4, f6] at hf
            obtain ⟨f2, f4, f6⟩ := hf
            refine wdraw_two [(0, [0]), (2, [0]), (4, [0, 4])] [3, 5, 6, 8] [(5, [4])] [(0, (94, [0])), (1, (95, [1])), (2, (96, [2, 1])), (3, (97, [3, 0, 1, 2])), (4, (98, [4])), (5, (99, [5, 4])), (6, (100, [6, 0, 1, 2, 3, 4, 5])), (7, (101, [7, 0, 1, 2, 3, 4, 5, 6]))] [0, 1, 2, 3, 4, 5, 6, 7, 8] (by rw [hE.P]; decide +kernel) (by rw [hE.P]; decide +kernel) (by rw [hE.P]; decide +kernel) (by rw [hE.P]; decide +kernel) (by rw [hE.P]; decide +kernel) (by decide +kernel) rfl ?_
            simp only [push_cast, seval, hE.P, awrite, wpc_label, wpc_block, f2, f4, f6, gR4, nR]
            refine (logOfR_at hE k4.w hP0 (hG.keep k4.k) (k := P.bs) ⟨Nat.le_refl _, by omega⟩ (by omega)).mono ?_
            rintro v5 H5 ⟨o5, k5⟩
            have hlg : logOf P P.bs = P.log := by unfold logOf; rw [Nat.sub_self, List.drop_zero]
            have hln : P.op - P.bs = P.log.length := by unfold PR.op; omega
            rw [hlg, hln] at o5
            obtain ⟨va, vc, rfl, _⟩ := o5.isSl
            have k45 := k4.trans k5
            have gR5 := k5.k.get _ _ gR4
            have gZ5 := k5.k.get _ _ gZ4
            have gE5 := k5.k.get _ _ gE4
            have hn5 := k5.k.next
            have lR4 := (k4.w.live _ _ gR4).2
            have lE4 := (k4.w.live _ _ gE4).2
            simp only [push_cast, seval, hE.P, awrite, wpc_label, wpc_block, f2, f4, f6, gR4, nR, gE5, nE]
            rw [bs36 rfl, kalloc_some]
            simp only [push_cast, seval, hE.P, awrite, wpc_label, wpc_block, f2, f4, f6, gR4, nR, gE5, nE]
            refine kwv_G1 (el36 hE.P) k5.w (lo := h2.next) hn5 o5 rfl rfl (by omega) (by omega) ?_
            intro v6 H6 aA hnx6
            obtain ⟨ua, uc, rfl⟩ := aA.sl
            have k6 := k5.app k4.w o5 aA
            have o6 := aA.own
            have k46 := k4.trans k6
            have gR6 := k6.k.get _ _ gR4
            have gZ6 := k6.k.get _ _ gZ4
            have gE6 := k6.k.get _ _ gE4
            simp only [push_cast, seval, hE.P, awrite, wpc_label, wpc_block, f2, f4, f6, gR6, nR]
            have sv5 := o5.sc k5.w
            have sv6 := o6.sc k6.w
            have sa : ∀ (a : Option Addr) (n c m m' : Nat), Go.Tm.sc m (.slice a n c) = true → m ≤ m' → Go.Tm.sc m' (.slice a n c) = true := by
              intro a n c m m' h1 h2
              cases a with
              | none => rfl
              | some x => have := sc_slice h1 x rfl; simp [Go.Tm.sc]; omega
            have s1 := q1.1.sc k4.w (hG.keep k4.k)
            have s2 := q2.1.sc k4.w (hG.keep k4.k)
            have s3 := q3.1.sc k4.w (hG.keep k4.k)
            have s4 := q5.1.sc k4.w (hG.keep k4.k)
            have s5 := q6.1.sc k4.w (hG.keep k4.k)
            have s6 := q7.1.1.sc k4.w (hG.keep k4.k)
            have s7 := q8.1.1.sc k4.w (hG.keep k4.k)
            refine ⟨⟨?_, ?_, ?_, ?_, ?_⟩, ?_⟩
            · omega
            · simp only [push_cast, seval, hE.P, awrite, wpc_label, wpc_block, f2, f4, f6, gR4, nR, gE5, nE, gE4, rdOk, veq_int, veq_agg, veq_slice, veqL_cons, veqL_nil, veq_bool, veq_str]
            · simp only [push_cast, seval, hE.P, awrite, wpc_label, wpc_block, f2, f4, f6, gR4, nR, gE5, nE, faOk, Op.operands, ops_func, ops_builtin, Go.Tm.sc, scA, scL]
              rw [s1, s2, s3, s4, s5, s6, s7]
              exact ⟨rfl, ⟨sa _ _ _ _ _ sv5 (by omega), by simp⟩, by simp; omega, sv6⟩
            · simp only [push_cast, seval, hE.P, awrite, wpc_label, wpc_block, f2, f4, f6, gR4, nR, gE5, nE, aOk, aalloc_bs]
              rw [bs36 rfl]
              exact ⟨_, rfl, rfl⟩
            · simp only [push_cast, seval, hE.P, awrite, wpc_label, wpc_block, f2, f4, f6, gR4, nR, gE5, nE, dOk]
              refine ⟨?_, scQ_pt 0 (by omega) lR4, rfl, scQ_sl 4 (by decide) sv5, ?_, scQ_sl1 (K := 5) (by decide) (Nat.le_refl _) (Nat.lt_succ_self _), scQ_sl 7 (by decide) sv6, scQ_pt 0 (by omega) lR4⟩
              · unfold scQ scQA
                simp only [scQL_iff, List.forall_mem_cons, List.not_mem_nil, false_implies, implies_true, and_true]
                exact ⟨rfl, rfl, rfl, rfl, rfl, rfl, rfl, rfl, scQ_sl 0 (by omega) s1, rfl, scQ_sl 0 (by omega) s2, rfl, scQ_sl 0 (by omega) s3, scQ_sl 0 (by omega) s4, scQ_sl 0 (by omega) s5, rfl, scQ_sl 0 (by omega) s6, scQ_sl 0 (by omega) s7⟩
              · rfl
            · have hop' : PR.op { P with log := P.log ++ [m.en] } = P.op + 1 := by unfold PR.op; simp; omega
              have hgn : ∀ b, h.next ≤ b → G b = none := fun b hb => by
                cases hg : G b with
                | none => rfl
                | some c =>
                  obtain ⟨e, fx, hh⟩ := hG b c hg
                  have := (hW.live _ _ hh).2; omega
              obtain ⟨G', z', x', s', g'⟩ := (k46.ext hG).frz2 (o6.low (lo' := h.next) (by have := k4.k.next; omega))
              have hnn : ∀ b, h.next ≤ b → b < h2.next → G' b = none := fun b hb hb2 => by
                cases hg : G' b with
                | none => rfl
                | some c =>
                  rcases g' _ _ hg with h5 | h5
                  · rw [hgn b hb] at h5; cases h5
                  · have := (o6.lt k6.w _ h5).1; omega
              have zP : PRR E G' { P with log := P.log ++ [m.en] } (rC { P with log := P.log ++ [m.en] } (.slice ua (P.log.length + 1) uc) (.slice a2 P.sv.l.length c2) (.slice a3 P.sv.tab.length c3) (.slice a4 P.told.length c4) (.slice a5 P.voted.length c5) (.slice a6 P.came.length c6) (.slice a7 P.ans.length c7)) := by
                refine PRR.of (P := { P with log := P.log ++ [m.en] }) ?_ (q2.sub s') (q3.sub s') (q4.sub s') (q5.sub s') (q6.sub s') ⟨q7.1.sub s', q7.2.sub s'⟩ ⟨q8.1.sub s', q8.2.sub s'⟩
                rw [entsC_app, List.length_append]
                simpa [entsC, entC] using z'
              have x6 := x'.put hW (o := .cells (rC { P with log := P.log ++ [m.en] } (.slice ua (P.log.length + 1) uc) (.slice a2 P.sv.l.length c2) (.slice a3 P.sv.tab.length c3) (.slice a4 P.told.length c4) (.slice a5 P.voted.length c5) (.slice a6 P.came.length c6) (.slice a7 P.ans.length c7)) 48 true) (Nat.le_refl _) (hnn _ (Nat.le_refl _) lR4) gR6
              have lZ4 := (k4.w.live _ _ gZ4).2
              refine gtm (motive := wdraw E _ _) [2, 4, 6] fun t6 hf => ?_
              simp only [push_cast, seval, hE.P, awrite, wpc_label, wpc_block, List.mem_cons, List.not_mem_nil, or_false, forall_eq_or_imp, forall_eq, f2, f4, f6] at hf
              obtain ⟨f2, f4, f6⟩ := hf
              refine gheap (motive := fun H => wdraw E _ _ _ H) (fun H => Ext E G h G' H ∧ H.get h.next = some (.cells (rC { P with log := P.log ++ [m.en] } (.slice ua (P.log.length + 1) uc) (.slice a2 P.sv.l.length c2) (.slice a3 P.sv.tab.length c3) (.slice a4 P.told.length c4) (.slice a5 P.voted.length c5) (.slice a6 P.came.length c6) (.slice a7 P.ans.length c7)) 48 true) ∧ H.get (h.next + 1 + 1) = some (.cells rz 48 true) ∧ H.get H1.next = some (.cells [iv m.en.c, iv m.en.n, .string m.en.t] 56 true)) ⟨x6, by rw [get_put, if_pos rfl], by rw [get_put, if_neg (by omega)]; exact gZ6, by rw [get_put, if_neg (by omega)]; exact gE6⟩ ?_
              clear x6
              rintro H7 ⟨x7, gR7, gZ7, gE7⟩
              have hopq := opR_at hE x7.wf zP (by show P.bs ≤ _; omega) (by simp; omega)
              refine wdraw_pairs [(0, 5), (0, 10), (1, 5), (3, 5), (7, 5), (8, 5)] (by rw [hE.P]; decide +kernel) (by rw [hE.P]; decide +kernel) (by rw [hE.P]; decide +kernel) ?_
              simp only [push_cast, seval, hE.P, awrite, wpc_label, wpc_block, f2, f4, f6, gR7, nR, gE7, nE]
              refine hopq.mono ?_
              rintro v8 H8 ⟨rfl, k8⟩
              have gR8 := k8.k.get _ _ gR7
              have gZ8 := k8.k.get _ _ gZ7
              have gE8 := k8.k.get _ _ gE7
              have x8 := x7.kw k8
              simp only [push_cast, seval, hE.P, awrite, wpc_label, wpc_block, f2, f4, f6, gR7, nR, gE7, nE, gR8, gE8]
              refine (allR_at hE x8.wf zP x8.frz (by have := z.n; show P.n ≤ 1000; omega) (m := { k := 2, vw := P.vw, op := PR.op { P with log := P.log ++ [m.en] }, cm := P.cm, en := m.en }) ⟨_, _, _, rfl, Fz.nil, Fz.nil, Fz.nil⟩).mono ?_
              rintro v9 H9 ⟨co, o9, m9, k9⟩
              have gR9 := k9.k.get _ _ gR8
              have gZ9 := k9.k.get _ _ gZ8
              have gE9 := k9.k.get _ _ gE8
              have x9 := x8.kw k9
              obtain ⟨G'', z'', x'', s'', g''⟩ := x9.frz2 (o9.low (lo' := h.next) x8.keep.next)
              have hnn2 : G'' (h.next + 1 + 1) = none := by
                cases hg : G'' (h.next + 1 + 1) with
                | none => rfl
                | some c =>
                  rcases g'' _ _ hg with h5 | h5
                  · rw [hnn _ (by omega) (by omega)] at h5; cases h5
                  · have := (o9.lt k9.w _ h5).1
                    have := (x8.wf.live _ _ gZ8).2; omega
              have x10 := x''.put hW (o := .cells (rC { P with log := P.log ++ [m.en] } (.slice ua (P.log.length + 1) uc) (.slice a2 P.sv.l.length c2) (.slice a3 P.sv.tab.length c3) (.slice a4 P.told.length c4) (.slice a5 P.voted.length c5) (.slice a6 P.came.length c6) (.slice a7 P.ans.length c7)) 48 true) (by omega) hnn2 gZ9
              have n90 := x9.wf.nlt gR9
              simp only [push_cast, seval, hE.P, awrite, wpc_label, wpc_block, f2, f4, f6, gR7, nR, gE7, nE, gR8, gE8, gR9, gE9, gZ7, gZ8, gZ9, nZ, hd, hle, veq_agg, veq_slice, veqL_cons, veqL_nil, veq_bool, veq_int, veq_str]
              exact ⟨G'', _, co, v9, x10, zP.sub s'', z'', m9.sub s'', rfl⟩
      · simp only [hlv, Option.isSome_some, Option.getD_some] at hR gL4 f8 f29 f30 ⊢
        have hxn := hne x hlv
        have hb5 : ((m.en.n : Int) == (x.n : Int)) = false := by simp; omega
        by_cases hlx : m.en.n < x.n
        · have hb4 : decide ((m.en.n : Int) < (x.n : Int)) = true := by simp; omega
          rw [if_pos hlx] at hR
          subst hR
          simp only [push_cast, seval, hE.P, awrite, wpc_label, wpc_block, f2, f3, f4, f6, f7, f8, f29, f30, gE4, nE, gL4, nL, hb4, gR4, nR, gZ4, nZ, hd, hle]
          exact ⟨G, _, [], _, (k4.put (by omega) (by have := k4.w.live _ _ gZ4; omega) hW).ext hG, hP0, Fz.nil, rfl, rfl⟩
        · have hb4 : decide ((m.en.n : Int) < (x.n : Int)) = false := by simp; omega
          rw [if_neg hlx, if_neg hxn] at hR
          clear hlx hxn hlv
          simp only [push_cast, seval, hE.P, awrite, wpc_label, wpc_block, f2, f3, f4, f6, f7, f8, f29, f30, gE4, nE, gL4, nL, hb4, hb5]
          have hw : (Value.int .i64 (IntKind.i64.wrap ((P.cm : Int) - (P.bs : Int)))) = iv (P.cm - P.bs) := iv_sub (by omega) zb
          simp only [push_cast, seval, hE.P, awrite, wpc_label, wpc_block, f2, f3, f4, f6, gR4, nR, hw]
          refine wpc_loop (fun k tm h2 => ∃ i, k = P.log.length - i ∧ i ≤ P.log.length ∧ h2 = H4 ∧ fget tm 2 = ptr h.next ∧ fget tm 4 = ptr (h.next + 1 + 1) ∧ fget tm 6 = ptr H1.next ∧ fget tm 9 = iv i ∧ (P.log.drop (P.cm - P.bs)).any (reqP m.en) = (P.log.drop i).any (reqP m.en)) (P.log.length - (P.cm - P.bs)) ?_ ?_
          · simp only [push_cast, seval, hE.P, awrite, wpc_label, wpc_block, f2, f3, f4, f6]
            exact ⟨P.cm - P.bs, rfl, by unfold PR.op at zc; omega, rfl, rfl⟩
          · rintro k tm h2 ⟨i, rfl, hi, rfl, f2, f4, f6, f9, hq⟩
            simp only [push_cast, seval, hE.P, awrite, wpc_label, wpc_block, f2, f4, f6, f9, gR4, nR]
            by_cases hlt : i < P.log.length
            · have hb1 : decide ((i : Int) < (P.log.length : Int)) = true := by simp; omega
              obtain ⟨lb, lc, e1', hsp, hac⟩ := q1.1.elem (hG.keep k4.k) hlt
              injection e1' with e1' _ e3'
              subst e1'; subst e3'
              rw [entsC_at (List.getElem?_eq_getElem hlt)] at hac
              unfold entC at hac
              have hac0 := acells_part hac 0 1 (by omega)
              have hac1 := acells_part hac 1 1 (by omega)
              simp only [Nat.add_zero, List.drop_zero, List.take_succ_cons, List.take_zero, List.drop_succ_cons] at hac0 hac1
              have hdr := List.drop_eq_getElem_cons hlt
              generalize P.log[i] = x at *
              simp only [push_cast, seval, hE.P, awrite, wpc_label, wpc_block, f2, f4, f6, f9, gR4, nR, hb1]
              refine wdraw_calm (by rw [hE.P]; decide +kernel) ?_
              by_cases hcx : x.c = m.en.c
              · have hb2 : ((x.c : Int) == (m.en.c : Int)) = true := by simp [hcx]
                simp only [push_cast, seval, hE.P, awrite, wpc_label, wpc_block, f2, f4, f6, f9, gR4, nR, gE4, nE]
                rw [ia36 hsp (by omega) (by omega), kpure_some]
                simp only [push_cast, seval, hE.P, awrite, wpc_label, wpc_block, f2, f4, f6, f9, gR4, nR, gE4, nE, ↓hac0, Int.toNat_natCast, hb2]
                rw [ia36 hsp (by omega) (by omega), kpure_some]
                simp only [push_cast, seval, hE.P, awrite, wpc_label, wpc_block, f2, f4, f6, f9, gR4, nR, gE4, nE, ↓hac1, Int.toNat_natCast, hb2]
                by_cases hnx : m.en.n ≤ x.n
                · have hb3 : decide ((m.en.n : Int) ≤ (x.n : Int)) = true := by simp; omega
                  have hany : (P.log.drop (P.cm - P.bs)).any (reqP m.en) = true := by
                    rw [hq, hdr, List.any_cons]; unfold reqP; simp [hcx, hnx]
                  have hR : (P, []) = R := by rw [← hR, if_pos]; exact hany
                  subst hR
                  simp only [push_cast, seval, hE.P, awrite, wpc_label, wpc_block, f2, f4, f6, f9, gR4, nR, gZ4, nZ, hd, hle, hb3]
                  exact ⟨G, _, [], _, (k4.put (by omega) (by have := k4.w.live _ _ gZ4; omega) hW).ext hG, hP0, Fz.nil, rfl, rfl⟩
                · have hb3 : decide ((m.en.n : Int) ≤ (x.n : Int)) = false := by simp; omega
                  simp only [push_cast, seval, hE.P, awrite, wpc_label, wpc_block, f2, f4, f6, f9, hb3]
                  exact ⟨P.log.length - (i + 1), by omega, i + 1, rfl, by omega, iv_succ (by omega), by rw [hq, hdr, List.any_cons]; unfold reqP; simp [hnx]⟩
              · have hb2 : ((x.c : Int) == (m.en.c : Int)) = false := by simp; omega
                simp only [push_cast, seval, hE.P, awrite, wpc_label, wpc_block, f2, f4, f6, f9, gR4, nR, gE4, nE]
                rw [ia36 hsp (by omega) (by omega), kpure_some]
                simp only [push_cast, seval, hE.P, awrite, wpc_label, wpc_block, f2, f4, f6, f9, gR4, nR, gE4, nE, ↓hac0, Int.toNat_natCast, hb2, kguard_undef]
                exact ⟨P.log.length - (i + 1), by omega, i + 1, rfl, by omega, iv_succ (by omega), by rw [hq, hdr, List.any_cons]; unfold reqP; simp [hcx]⟩
            · have hb1 : decide ((i : Int) < (P.log.length : Int)) = false := by simp; omega
              have he : i = P.log.length := by omega
              subst he
              rw [List.drop_length] at hq
              have hR : ({ P with log := P.log ++ [m.en] }, PR.allM { P with log := P.log ++ [m.en] } { k := 2, vw := P.vw, op := PR.op { P with log := P.log ++ [m.en] }, cm := P.cm, en := m.en }) = R := by
                rw [← hR, if_neg]
                intro hc
                have : (P.log.drop (P.cm - P.bs)).any (reqP m.en) = true := hc
                rw [hq] at this; cases this
              subst hR
              simp only [push_cast, seval, hE.P, awrite, wpc_label, wpc_block, f2, f4, f6, f9, hb1]
              refine gtm (motive := wdraw E _ _) [2, 4, 6] fun t5 hf => ?_
              simp only [push_cast, seval, hE.P, awrite, wpc_label, wpc_block, List.mem_cons, List.not_mem_nil, or_false, forall_eq_or_imp, forall_eq, f2, f4, f6] at hf
              obtain ⟨f2, f4, f6⟩ := hf
              refine wdraw_two [(0, [0]), (2, [0]), (4, [0, 4])] [3, 5, 6, 8] [(5, [4])] [(0, (94, [0])), (1, (95, [1])), (2, (96, [2, 1])), (3, (97, [3, 0, 1, 2])), (4, (98, [4])), (5, (99, [5, 4])), (6, (100, [6, 0, 1, 2, 3, 4, 5])), (7, (101, [7, 0, 1, 2, 3, 4, 5, 6]))] [0, 1, 2, 3, 4, 5, 6, 7, 8] (by rw [hE.P]; decide +kernel) (by rw [hE.P]; decide +kernel) (by rw [hE.P]; decide +kernel) (by rw [hE.P]; decide +kernel) (by rw [hE.P]; decide +kernel) (by decide +kernel) rfl ?_
              simp only [push_cast, seval, hE.P, awrite, wpc_label, wpc_block, f2, f4, f6, gR4, nR]
              refine (logOfR_at hE k4.w hP0 (hG.keep k4.k) (k := P.bs) ⟨Nat.le_refl _, by omega⟩ (by omega)).mono ?_
              rintro v5 H5 ⟨o5, k5⟩
              have hlg : logOf P P.bs = P.log := by unfold logOf; rw [Nat.sub_self, List.drop_zero]
              have hln : P.op - P.bs = P.log.length := by unfold PR.op; omega
              rw [hlg, hln] at o5
              obtain ⟨va, vc, rfl, _⟩ := o5.isSl
              have k45 := k4.trans k5
              have gR5 := k5.k.get _ _ gR4
              have gZ5 := k5.k.get _ _ gZ4
              have gE5 := k5.k.get _ _ gE4
              have hn5 := k5.k.next
              have lR4 := (k4.w.live _ _ gR4).2
              have lE4 := (k4.w.live _ _ gE4).2
              simp only [push_cast, seval, hE.P, awrite, wpc_label, wpc_block, f2, f4, f6, gR4, nR, gE5, nE]
              rw [bs36 rfl, kalloc_some]
              simp only [push_cast, seval, hE.P, awrite, wpc_label, wpc_block, f2, f4, f6, gR4, nR, gE5, nE]
              refine kwv_G1 (el36 hE.P) k5.w (lo := h2.next) hn5 o5 rfl rfl (by omega) (by omega) ?_
              intro v6 H6 aA hnx6
              obtain ⟨ua, uc, rfl⟩ := aA.sl
              have k6 := k5.app k4.w o5 aA
              have o6 := aA.own
              have k46 := k4.trans k6
              have gR6 := k6.k.get _ _ gR4
              have gZ6 := k6.k.get _ _ gZ4
              have gE6 := k6.k.get _ _ gE4
              simp only [push_cast, seval, hE.P, awrite, wpc_label, wpc_block, f2, f4, f6, gR6, nR]
              have sv5 := o5.sc k5.w
              have sv6 := o6.sc k6.w
              have sa : ∀ (a : Option Addr) (n c m m' : Nat), Go.Tm.sc m (.slice a n c) = true → m ≤ m' → Go.Tm.sc m' (.slice a n c) = true := by
                intro a n c m m' h1 h2
                cases a with
                | none => rfl
                | some x => have := sc_slice h1 x rfl; simp [Go.Tm.sc]; omega
              have s1 := q1.1.sc k4.w (hG.keep k4.k)
              have s2 := q2.1.sc k4.w (hG.keep k4.k)
              have s3 := q3.1.sc k4.w (hG.keep k4.k)
              have s4 := q5.1.sc k4.w (hG.keep k4.k)
              have s5 := q6.1.sc k4.w (hG.keep k4.k)
              have s6 := q7.1.1.sc k4.w (hG.keep k4.k)
              have s7 := q8.1.1.sc k4.w (hG.keep k4.k)
              refine ⟨⟨?_, ?_, ?_, ?_, ?_⟩, ?_⟩
              · omega
              · simp only [push_cast, seval, hE.P, awrite, wpc_label, wpc_block, f2, f4, f6, gR4, nR, gE5, nE, gE4, rdOk, veq_int, veq_agg, veq_slice, veqL_cons, veqL_nil, veq_bool, veq_str]
              · simp only [push_cast, seval, hE.P, awrite, wpc_label, wpc_block, f2, f4, f6, gR4, nR, gE5, nE, faOk, Op.operands, ops_func, ops_builtin, Go.Tm.sc, scA, scL]
                rw [s1, s2, s3, s4, s5, s6, s7]
                exact ⟨rfl, ⟨sa _ _ _ _ _ sv5 (by omega), by simp⟩, by simp; omega, sv6⟩
              · simp only [push_cast, seval, hE.P, awrite, wpc_label, wpc_block, f2, f4, f6, gR4, nR, gE5, nE, aOk, aalloc_bs]
                rw [bs36 rfl]
                exact ⟨_, rfl, rfl⟩
              · simp only [push_cast, seval, hE.P, awrite, wpc_label, wpc_block, f2, f4, f6, gR4, nR, gE5, nE, dOk]
                refine ⟨?_, scQ_pt 0 (by omega) lR4, rfl, scQ_sl 4 (by decide) sv5, ?_, scQ_sl1 (K := 5) (by decide) (Nat.le_refl _) (Nat.lt_succ_self _), scQ_sl 7 (by decide) sv6, scQ_pt 0 (by omega) lR4⟩
                · unfold scQ scQA
                  simp only [scQL_iff, List.forall_mem_cons, List.not_mem_nil, false_implies, implies_true, and_true]
                  exact ⟨rfl, rfl, rfl, rfl, rfl, rfl, rfl, rfl, scQ_sl 0 (by omega) s1, rfl, scQ_sl 0 (by omega) s2, rfl, scQ_sl 0 (by omega) s3, scQ_sl 0 (by omega) s4, scQ_sl 0 (by omega) s5, rfl, scQ_sl 0 (by omega) s6, scQ_sl 0 (by omega) s7⟩
                · rfl
              · have hop' : PR.op { P with log := P.log ++ [m.en] } = P.op + 1 := by unfold PR.op; simp; omega
                have hgn : ∀ b, h.next ≤ b → G b = none := fun b hb => by
                  cases hg : G b with
                  | none => rfl
                  | some c =>
                    obtain ⟨e, fx, hh⟩ := hG b c hg
                    have := (hW.live _ _ hh).2; omega
                obtain ⟨G', z', x', s', g'⟩ := (k46.ext hG).frz2 (o6.low (lo' := h.next) (by have := k4.k.next; omega))
                have hnn : ∀ b, h.next ≤ b → b < h2.next → G' b = none := fun b hb hb2 => by
                  cases hg : G' b with
                  | none => rfl
                  | some c =>
                    rcases g' _ _ hg with h5 | h5
                    · rw [hgn b hb] at h5; cases h5
                    · have := (o6.lt k6.w _ h5).1; omega
                have zP : PRR E G' { P with log := P.log ++ [m.en] } (rC { P with log := P.log ++ [m.en] } (.slice ua (P.log.length + 1) uc) (.slice a2 P.sv.l.length c2) (.slice a3 P.sv.tab.length c3) (.slice a4 P.told.length c4) (.slice a5 P.voted.length c5) (.slice a6 P.came.length c6) (.slice a7 P.ans.length c7)) := by
                  refine PRR.of (P := { P with log := P.log ++ [m.en] }) ?_ (q2.sub s') (q3.sub s') (q4.sub s') (q5.sub s') (q6.sub s') ⟨q7.1.sub s', q7.2.sub s'⟩ ⟨q8.1.sub s', q8.2.sub s'⟩
                  rw [entsC_app, List.length_append]
                  simpa [entsC, entC] using z'
                have x6 := x'.put hW (o := .cells (rC { P with log := P.log ++ [m.en] } (.slice ua (P.log.length + 1) uc) (.slice a2 P.sv.l.length c2) (.slice a3 P.sv.tab.length c3) (.slice a4 P.told.length c4) (.slice a5 P.voted.length c5) (.slice a6 P.came.length c6) (.slice a7 P.ans.length c7)) 48 true) (Nat.le_refl _) (hnn _ (Nat.le_refl _) lR4) gR6
                have lZ4 := (k4.w.live _ _ gZ4).2
                refine gtm (motive := wdraw E _ _) [2, 4, 6] fun t6 hf => ?_
                simp only [push_cast, seval, hE.P, awrite, wpc_label, wpc_block, List.mem_cons, List.not_mem_nil, or_false, forall_eq_or_imp, forall_eq, f2, f4, f6] at hf
                obtain ⟨f2, f4, f6⟩ := hf
                refine gheap (motive := fun H => wdraw E _ _ _ H) (fun H => Ext E G h G' H ∧ H.get h.next = some (.cells (rC { P with log := P.log ++ [m.en] } (.slice ua (P.log.length + 1) uc) (.slice a2 P.sv.l.length c2) (.slice a3 P.sv.tab.length c3) (.slice a4 P.told.length c4) (.slice a5 P.voted.length c5) (.slice a6 P.came.length c6) (.slice a7 P.ans.length c7)) 48 true) ∧ H.get (h.next + 1 + 1) = some (.cells rz 48 true) ∧ H.get H1.next = some (.cells [iv m.en.c, iv m.en.n, .string m.en.t] 56 true)) ⟨x6, by rw [get_put, if_pos rfl], by rw [get_put, if_neg (by omega)]; exact gZ6, by rw [get_put, if_neg (by omega)]; exact gE6⟩ ?_
                clear x6
                rintro H7 ⟨x7, gR7, gZ7, gE7⟩
                have hopq := opR_at hE x7.wf zP (by show P.bs ≤ _; omega) (by simp; omega)
                refine wdraw_pairs [(0, 5), (0, 10), (1, 5), (3, 5), (7, 5), (8, 5)] (by rw [hE.P]; decide +kernel) (by rw [hE.P]; decide +kernel) (by rw [hE.P]; decide +kernel) ?_
                simp only [push_cast, seval, hE.P, awrite, wpc_label, wpc_block, f2, f4, f6, gR7, nR, gE7, nE]
                refine hopq.mono ?_
                rintro v8 H8 ⟨rfl, k8⟩
                have gR8 := k8.k.get _ _ gR7
                have gZ8 := k8.k.get _ _ gZ7
                have gE8 := k8.k.get _ _ gE7
                have x8 := x7.kw k8
                simp only [push_cast, seval, hE.P, awrite, wpc_label, wpc_block, f2, f4, f6, gR7, nR, gE7, nE, gR8, gE8]
                refine (allR_at hE x8.wf zP x8.frz (by have := z.n; show P.n ≤ 1000; omega) (m := { k := 2, vw := P.vw, op := PR.op { P with log := P.log ++ [m.en] }, cm := P.cm, en := m.en }) ⟨_, _, _, rfl, Fz.nil, Fz.nil, Fz.nil⟩).mono ?_
                rintro v9 H9 ⟨co, o9, m9, k9⟩
                have gR9 := k9.k.get _ _ gR8
                have gZ9 := k9.k.get _ _ gZ8
                have gE9 := k9.k.get _ _ gE8
                have x9 := x8.kw k9
                obtain ⟨G'', z'', x'', s'', g''⟩ := x9.frz2 (o9.low (lo' := h.next) x8.keep.next)
                have hnn2 : G'' (h.next + 1 + 1) = none := by
                  cases hg : G'' (h.next + 1 + 1) with
                  | none => rfl
                  | some c =>
                    rcases g'' _ _ hg with h5 | h5
                    · rw [hnn _ (by omega) (by omega)] at h5; cases h5
                    · have := (o9.lt k9.w _ h5).1
                      have := (x8.wf.live _ _ gZ8).2; omega
                have x10 := x''.put hW (o := .cells (rC { P with log := P.log ++ [m.en] } (.slice ua (P.log.length + 1) uc) (.slice a2 P.sv.l.length c2) (.slice a3 P.sv.tab.length c3) (.slice a4 P.told.length c4) (.slice a5 P.voted.length c5) (.slice a6 P.came.length c6) (.slice a7 P.ans.length c7)) 48 true) (by omega) hnn2 gZ9
                have n90 := x9.wf.nlt gR9
                simp only [push_cast, seval, hE.P, awrite, wpc_label, wpc_block, f2, f4, f6, gR7, nR, gE7, nE, gR8, gE8, gR9, gE9, gZ7, gZ8, gZ9, nZ, hd, hle, veq_agg, veq_slice, veqL_cons, veqL_nil, veq_bool, veq_int, veq_str]
                exact ⟨G'', _, co, v9, x10, zP.sub s'', z'', m9.sub s'', rfl⟩

  · have hb : ((P.st : Int) != 0) = true := by simp; omega
    rw [if_pos (.inl hst)] at hR
    subst hR
    simp only [push_cast, seval, hE.P, awrite, wpc_label, wpc_block, f2, f3, f4, f12, f13, hb, kguard_undef, gR, nR, gZ, nZ, hd, hle]
    exact ⟨G, _, [], _, (k0.put (by omega) (by omega) hW).ext hG, hP0, Fz.nil, rfl, rfl⟩
end
end Go.Proofs.YthdgobcpefcolaaGreatDoor
