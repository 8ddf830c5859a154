/- Chapter 25: the model is told of commits, prepares. -/
import Derived.Test.YthdgobcpefcolaaGreatDoorG24
set_option maxRecDepth 10000
set_option linter.all false
set_option linter.unusedSimpArgs false
set_option linter.unusedVariables false
namespace Vr
theorem commit_same (P : PR) (k : Nat) : (commit P k).1.bs = P.bs ∧ (commit P k).1.log = P.log ∧ (commit P k).1.op = P.op := by
  have key : ∀ (l : List Ent) (P : PR), (commitK l P).1.bs = P.bs ∧ (commitK l P).1.log = P.log := by
    intro l
    induction l with
    | nil => intro P; exact ⟨rfl, rfl⟩
    | cons e l ih => intro P; rw [commitK]; exact ih (commit1 P e).1
  obtain ⟨h1, h2⟩ := key (P.todo k) P
  exact ⟨h1, h2, by unfold PR.op; unfold commit; rw [h1, h2]⟩
end Vr
namespace Go.Proofs.YthdgobcpefcolaaGreatDoor
open Go.Tm Vr
set_option linter.unusedSectionVars false
variable {E : Env} (hE : EOk E)
include hE
section
variable {G : Mem} {h : Heap} (hW : WF E h) (hG : Frz E G h) {P : PR} {cs : List Value} (hP : PRR E G P cs)
include hW hG hP
set_option maxHeartbeats 4000000 in
theorem committedR_at (z : P.Sz) {m : Mg} {ms : List Value} (hm : MgR E G m ms) (hst : P.st = 0) (hk : m.k = 4) (hv : m.vw = P.vw) (hp : P.prim = false) (hcm : m.cm ≤ P.op) :
    CallsTo E 44 [.agg cs.toArray, .agg ms.toArray] h fun v h' => ∃ G' rc' co v2, Ext E G h G' h' ∧ PRR E G' (normalM P m).1 rc' ∧ Fz E G' 17 (normalM P m).2.length co v2 ∧ MgsR E G' (normalM P m).2 co ∧ v = .tuple #[.agg rc'.toArray, v2] := by
  have hR : normalM P m = commit P m.cm := by
    unfold normalM
    rw [if_neg (by omega), if_neg (by omega), if_neg (by omega), if_neg (by omega), hp, if_neg (by simp), if_pos hk, if_neg (by omega)]
  rw [hR]
  have hP0 := hP
  have hm0 := hm
  obtain ⟨a1, c1, a2, c2, a3, c3, a4, c4, a5, c5, a6, c6, a7, c7, ct, cc, ca, hcs, q1, ⟨q2, q3, q4⟩, q5, q6, q7, q8⟩ := hP.e
  obtain ⟨b1, d1, b2, d2, b3, d3, hms, m1, m2, m3⟩ := hm.e
  have w0 := hW.b0
  have w1 := hW.b1
  have w2 := hW.b2
  subst hcs; subst hms
  have zb := z.bs
  have zc := z.cm
  have zo := z.op
  have zn := z.n
  have zt := z.told
  have hll : P.log.length ≤ P.op := by unfold PR.op; omega
  have hn : 1 ≤ P.n ∧ P.n ≤ 1000 := ⟨by omega, by omega⟩
  have hvw : P.vw ≤ 1099511627776 := by have := z.vw; omega
  have hgn : ∀ b, h.next ≤ b → G b = none := fun b hb => by
    cases hg : G b with
    | none => rfl
    | some c =>
      obtain ⟨e, fx, hh⟩ := hG b c hg
      have := (hW.live _ _ hh).2; omega
  have hs1 : ((P.st : Int) != 0) = false := by simp [hst]
  refine calls_of_runs (fn := Tryz.f44) (by rw [hE.P]; exact Tryz.func44) rfl (by rw [hE.known]; rfl) (by rw [Tryz.ntmps44]; exact Nat.le_of_ble_eq_true rfl) (by decide +kernel) (rs := [.cell 4 48, .tmp 5]) rfl (wpc_runs _ _ _ _ ?_)
  simp only [push_cast, seval, hE.P, awrite, wpc_label, wpc_block, w0, w1, w2, hs1]
  have k0 := (((KW.refl hW).push (o := (.cells (rC P (.slice a1 P.log.length c1) (.slice a2 P.sv.l.length c2) (.slice a3 P.sv.tab.length c3) (.slice a4 P.told.length c4) (.slice a5 P.voted.length c5) (.slice a6 P.came.length c6) (.slice a7 P.ans.length c7)) 48 true))).push (o := (.cells (mgC m (.slice b1 m.log.length d1) (.slice b2 m.img.length d2) (.slice b3 0 d3)) 62 true))).push (o := (.cells [.int .i64 0, .int .i64 0, .int .i64 0, .int .i64 0, .int .i64 0, .int .i64 0, .int .i64 0, .int .i64 0, .slice none 0 0, .bool false, .slice none 0 0, .slice none 0 0, .slice none 0 0, .slice none 0 0, .slice none 0 0, .bool false, .slice none 0 0, .slice none 0 0] 48 true))
  have gR0 : (((h.push (.cells (rC P (.slice a1 P.log.length c1) (.slice a2 P.sv.l.length c2) (.slice a3 P.sv.tab.length c3) (.slice a4 P.told.length c4) (.slice a5 P.voted.length c5) (.slice a6 P.came.length c6) (.slice a7 P.ans.length c7)) 48 true)).push (.cells (mgC m (.slice b1 m.log.length d1) (.slice b2 m.img.length d2) (.slice b3 0 d3)) 62 true)).push (.cells [.int .i64 0, .int .i64 0, .int .i64 0, .int .i64 0, .int .i64 0, .int .i64 0, .int .i64 0, .int .i64 0, .slice none 0 0, .bool false, .slice none 0 0, .slice none 0 0, .slice none 0 0, .slice none 0 0, .slice none 0 0, .bool false, .slice none 0 0, .slice none 0 0] 48 true)).get h.next = some (.cells (rC P (.slice a1 P.log.length c1) (.slice a2 P.sv.l.length c2) (.slice a3 P.sv.tab.length c3) (.slice a4 P.told.length c4) (.slice a5 P.voted.length c5) (.slice a6 P.came.length c6) (.slice a7 P.ans.length c7)) 48 true) := by rw [get_push, if_neg (by simp; omega), get_push, if_neg (by simp), get_push, if_pos rfl]
  have gM0 : (((h.push (.cells (rC P (.slice a1 P.log.length c1) (.slice a2 P.sv.l.length c2) (.slice a3 P.sv.tab.length c3) (.slice a4 P.told.length c4) (.slice a5 P.voted.length c5) (.slice a6 P.came.length c6) (.slice a7 P.ans.length c7)) 48 true)).push (.cells (mgC m (.slice b1 m.log.length d1) (.slice b2 m.img.length d2) (.slice b3 0 d3)) 62 true)).push (.cells [.int .i64 0, .int .i64 0, .int .i64 0, .int .i64 0, .int .i64 0, .int .i64 0, .int .i64 0, .int .i64 0, .slice none 0 0, .bool false, .slice none 0 0, .slice none 0 0, .slice none 0 0, .slice none 0 0, .slice none 0 0, .bool false, .slice none 0 0, .slice none 0 0] 48 true)).get (h.next + 1) = some (.cells (mgC m (.slice b1 m.log.length d1) (.slice b2 m.img.length d2) (.slice b3 0 d3)) 62 true) := by rw [get_push, if_neg (by simp), get_push, if_pos (by simp)]
  have gZ0 : (((h.push (.cells (rC P (.slice a1 P.log.length c1) (.slice a2 P.sv.l.length c2) (.slice a3 P.sv.tab.length c3) (.slice a4 P.told.length c4) (.slice a5 P.voted.length c5) (.slice a6 P.came.length c6) (.slice a7 P.ans.length c7)) 48 true)).push (.cells (mgC m (.slice b1 m.log.length d1) (.slice b2 m.img.length d2) (.slice b3 0 d3)) 62 true)).push (.cells [.int .i64 0, .int .i64 0, .int .i64 0, .int .i64 0, .int .i64 0, .int .i64 0, .int .i64 0, .int .i64 0, .slice none 0 0, .bool false, .slice none 0 0, .slice none 0 0, .slice none 0 0, .slice none 0 0, .slice none 0 0, .bool false, .slice none 0 0, .slice none 0 0] 48 true)).get (h.next + 1 + 1) = some (.cells [.int .i64 0, .int .i64 0, .int .i64 0, .int .i64 0, .int .i64 0, .int .i64 0, .int .i64 0, .int .i64 0, .slice none 0 0, .bool false, .slice none 0 0, .slice none 0 0, .slice none 0 0, .slice none 0 0, .slice none 0 0, .bool false, .slice none 0 0, .slice none 0 0] 48 true) := by rw [get_push, if_pos (by simp)]

  have c1' : ((m.k : Int) == 3) = false := by simp; omega
  have c2' : decide ((m.vw : Int) < (P.vw : Int)) = false := by simp; omega
  have c3' : decide ((P.vw : Int) < (m.vw : Int)) = false := by simp; omega
  have c4' : ((m.k : Int) == 4) = true := by simp; omega
  have c5' : decide ((P.op : Int) < (m.cm : Int)) = false := by simp; omega
  simp only [push_cast, seval, hE.P, awrite, wpc_label, wpc_block, w0, w1, w2, c1', c2', c3']
  refine Go.Tm.kcall_gen [2, 3, 4] ?_
  intro t1 hf
  simp only [push_cast, seval, hE.P, awrite, wpc_label, wpc_block, List.mem_cons, List.not_mem_nil, or_false, forall_eq_or_imp, forall_eq] at hf
  obtain ⟨f2, f3, f4⟩ := hf
  refine gheap (motive := fun H => CallsTo E 39 _ H _) (fun H => KW E h H ∧ H.get h.next = some (.cells (rC P (.slice a1 P.log.length c1) (.slice a2 P.sv.l.length c2) (.slice a3 P.sv.tab.length c3) (.slice a4 P.told.length c4) (.slice a5 P.voted.length c5) (.slice a6 P.came.length c6) (.slice a7 P.ans.length c7)) 48 true) ∧ H.get (h.next + 1) = some (.cells (mgC m (.slice b1 m.log.length d1) (.slice b2 m.img.length d2) (.slice b3 0 d3)) 62 true) ∧ ∃ rz, H.get (h.next + 1 + 1) = some (.cells rz 48 true) ∧ rz.length = 18) ⟨k0, gR0, gM0, _, gZ0, rfl⟩ ?_
  clear k0 gR0 gM0 gZ0
  rintro H ⟨k0, gR, gM, rz, gZ, hrz⟩
  have hd : List.drop 18 rz = [] := List.drop_eq_nil_iff.2 (by omega)
  have hle : (18 ≤ rz.length) = True := by simp; omega
  have nR := k0.w.nlt gR
  have nM := k0.w.nlt gM
  have nZ := k0.w.nlt gZ
  have lR := (k0.w.live _ _ gR).2
  have lM := (k0.w.live _ _ gM).2
  have lZ := (k0.w.live _ _ gZ).2

  refine (primR_at hE k0.w hP0 hn hvw).mono ?_
  rintro v H1 ⟨rfl, k1⟩
  have gR1 := k1.k.get _ _ gR
  have gM1 := k1.k.get _ _ gM
  have gZ1 := k1.k.get _ _ gZ
  rw [hp]
  have hopq := opR_at hE (k0.trans k1).w hP0 (by omega) (by omega)
  simp only [push_cast, seval, hE.P, awrite, wpc_label, wpc_block, f2, f3, f4, gM1, nM, c4']
  refine wdraw_pairs [(1, 3)] (by rw [hE.P]; decide +kernel) (by rw [hE.P]; decide +kernel) (by rw [hE.P]; decide +kernel) ?_
  simp only [push_cast, seval, hE.P, awrite, wpc_label, wpc_block, f2, f3, f4, gM1, nM, gR1, nR]
  refine hopq.mono ?_
  rintro v H2 ⟨rfl, k2⟩
  have gR2 := k2.k.get _ _ gR1
  have gM2 := k2.k.get _ _ gM1
  have gZ2 := k2.k.get _ _ gZ1
  have k02 := (k0.trans k1).trans k2
  simp only [push_cast, seval, hE.P, awrite, wpc_label, wpc_block, f2, f3, f4, gM1, gM2, nM, gR2, nR, c5', veq_int]
  refine (commitR_at hE k02.w (hG.keep k02.k) hP0 z m.cm).mono ?_
  rintro v H3 ⟨G3, rc3, co3, v3, x3, hp3, o3, m3', g3, rfl⟩
  have hl3 := hp3.len
  obtain ⟨G4, z4, x4, s4, g4⟩ := x3.frz2 o3
  have x04 := (k02.ext hG).andthen x4
  have gZ3 := x3.keep.get _ _ gZ2
  have lZ2 := (k02.w.live _ _ gZ2).2
  have hZ4 : G4 (h.next + 1 + 1) = none := x4.nn lZ2 (hgn _ (by omega))
  obtain ⟨A1, C1, A2, C2, A3, C3, A4, C4, A5, C5, A6, C6, A7, C7, CT, CC, CA, hcs3, _⟩ := hp3.e
  subst hcs3
  have x05 := x04.put hW (o := .cells (rC (commit P m.cm).1 (.slice A1 (commit P m.cm).1.log.length C1) (.slice A2 (commit P m.cm).1.sv.l.length C2) (.slice A3 (commit P m.cm).1.sv.tab.length C3) (.slice A4 (commit P m.cm).1.told.length C4) (.slice A5 (commit P m.cm).1.voted.length C5) (.slice A6 (commit P m.cm).1.came.length C6) (.slice A7 (commit P m.cm).1.ans.length C7)) 48 true) (by omega) hZ4 gZ3
  simp only [push_cast, seval, hE.P, awrite, wpc_label, wpc_block, f2, f3, f4, gZ3, nZ, hd, hle]
  exact ⟨G4, _, co3, v3, x05, hp3.sub s4, z4, m3'.sub s4, rfl⟩
set_option maxHeartbeats 4000000 in
theorem prepareR_at {m : Mg} {ms : List Value} (z : P.Sz) (hop : P.op < 1000000) (hen : m.en.c ≤ 1000000 ∧ m.en.n ≤ 1000000) (hm : MgR E G m ms) (hst : P.st = 0) (hk : m.k = 2) (hv : m.vw = P.vw) (hp : P.prim = false) (hmo : m.op ≤ P.op + 1) :
    CallsTo E 44 [.agg cs.toArray, .agg ms.toArray] h fun v h' => ∃ G' rc' co v2, Ext E G h G' h' ∧ PRR E G' (normalM P m).1 rc' ∧ Fz E G' 17 (normalM P m).2.length co v2 ∧ MgsR E G' (normalM P m).2 co ∧ v = .tuple #[.agg rc'.toArray, v2] := by
  obtain ⟨Q, hQQ⟩ : ∃ Q, Q = (if m.op = P.op + 1 then { P with log := P.log ++ [m.en] } else P) := ⟨_, rfl⟩
  have hR : normalM P m = ((commit Q m.cm).1, (commit Q m.cm).2 ++ [(commit Q m.cm).1.toM { k := 3, vw := (commit Q m.cm).1.vw, op := (commit Q m.cm).1.op } m.fr]) := by
    unfold normalM
    rw [if_neg (by omega), if_neg (by omega), if_neg (by omega), if_neg (by omega), hp, if_neg (by simp), if_neg (by omega), if_neg (by omega), ← hQQ]
  rw [hR]
  have hP0 := hP
  have hm0 := hm
  obtain ⟨a1, c1, a2, c2, a3, c3, a4, c4, a5, c5, a6, c6, a7, c7, ct, cc, ca, hcs, q1, ⟨q2, q3, q4⟩, q5, q6, q7, q8⟩ := hP.e
  obtain ⟨b1, d1, b2, d2, b3, d3, hms, m1, m2, m3⟩ := hm.e
  have w0 := hW.b0
  have w1 := hW.b1
  have w2 := hW.b2
  subst hcs; subst hms
  have zb := z.bs
  have zc := z.cm
  have zo := z.op
  have zn := z.n
  have zt := z.told
  have hll : P.log.length ≤ P.op := by unfold PR.op; omega
  have hn : 1 ≤ P.n ∧ P.n ≤ 1000 := ⟨by omega, by omega⟩
  have hvw : P.vw ≤ 1099511627776 := by have := z.vw; omega
  have hgn : ∀ b, h.next ≤ b → G b = none := fun b hb => by
    cases hg : G b with
    | none => rfl
    | some c =>
      obtain ⟨e, fx, hh⟩ := hG b c hg
      have := (hW.live _ _ hh).2; omega
  have hs1 : ((P.st : Int) != 0) = false := by simp [hst]
  refine calls_of_runs (fn := Tryz.f44) (by rw [hE.P]; exact Tryz.func44) rfl (by rw [hE.known]; rfl) (by rw [Tryz.ntmps44]; exact Nat.le_of_ble_eq_true rfl) (by decide +kernel) (rs := [.cell 4 48, .tmp 5]) rfl (wpc_runs _ _ _ _ ?_)
  simp only [push_cast, seval, hE.P, awrite, wpc_label, wpc_block, w0, w1, w2, hs1]
  have k0 := (((KW.refl hW).push (o := (.cells (rC P (.slice a1 P.log.length c1) (.slice a2 P.sv.l.length c2) (.slice a3 P.sv.tab.length c3) (.slice a4 P.told.length c4) (.slice a5 P.voted.length c5) (.slice a6 P.came.length c6) (.slice a7 P.ans.length c7)) 48 true))).push (o := (.cells (mgC m (.slice b1 m.log.length d1) (.slice b2 m.img.length d2) (.slice b3 0 d3)) 62 true))).push (o := (.cells [.int .i64 0, .int .i64 0, .int .i64 0, .int .i64 0, .int .i64 0, .int .i64 0, .int .i64 0, .int .i64 0, .slice none 0 0, .bool false, .slice none 0 0, .slice none 0 0, .slice none 0 0, .slice none 0 0, .slice none 0 0, .bool false, .slice none 0 0, .slice none 0 0] 48 true))
  have gR0 : (((h.push (.cells (rC P (.slice a1 P.log.length c1) (.slice a2 P.sv.l.length c2) (.slice a3 P.sv.tab.length c3) (.slice a4 P.told.length c4) (.slice a5 P.voted.length c5) (.slice a6 P.came.length c6) (.slice a7 P.ans.length c7)) 48 true)).push (.cells (mgC m (.slice b1 m.log.length d1) (.slice b2 m.img.length d2) (.slice b3 0 d3)) 62 true)).push (.cells [.int .i64 0, .int .i64 0, .int .i64 0, .int .i64 0, .int .i64 0, .int .i64 0, .int .i64 0, .int .i64 0, .slice none 0 0, .bool false, .slice none 0 0, .slice none 0 0, .slice none 0 0, .slice none 0 0, .slice none 0 0, .bool false, .slice none 0 0, .slice none 0 0] 48 true)).get h.next = some (.cells (rC P (.slice a1 P.log.length c1) (.slice a2 P.sv.l.length c2) (.slice a3 P.sv.tab.length c3) (.slice a4 P.told.length c4) (.slice a5 P.voted.length c5) (.slice a6 P.came.length c6) (.slice a7 P.ans.length c7)) 48 true) := by rw [get_push, if_neg (by simp; omega), get_push, if_neg (by simp), get_push, if_pos rfl]
  have gM0 : (((h.push (.cells (rC P (.slice a1 P.log.length c1) (.slice a2 P.sv.l.length c2) (.slice a3 P.sv.tab.length c3) (.slice a4 P.told.length c4) (.slice a5 P.voted.length c5) (.slice a6 P.came.length c6) (.slice a7 P.ans.length c7)) 48 true)).push (.cells (mgC m (.slice b1 m.log.length d1) (.slice b2 m.img.length d2) (.slice b3 0 d3)) 62 true)).push (.cells [.int .i64 0, .int .i64 0, .int .i64 0, .int .i64 0, .int .i64 0, .int .i64 0, .int .i64 0, .int .i64 0, .slice none 0 0, .bool false, .slice none 0 0, .slice none 0 0, .slice none 0 0, .slice none 0 0, .slice none 0 0, .bool false, .slice none 0 0, .slice none 0 0] 48 true)).get (h.next + 1) = some (.cells (mgC m (.slice b1 m.log.length d1) (.slice b2 m.img.length d2) (.slice b3 0 d3)) 62 true) := by rw [get_push, if_neg (by simp), get_push, if_pos (by simp)]
  have gZ0 : (((h.push (.cells (rC P (.slice a1 P.log.length c1) (.slice a2 P.sv.l.length c2) (.slice a3 P.sv.tab.length c3) (.slice a4 P.told.length c4) (.slice a5 P.voted.length c5) (.slice a6 P.came.length c6) (.slice a7 P.ans.length c7)) 48 true)).push (.cells (mgC m (.slice b1 m.log.length d1) (.slice b2 m.img.length d2) (.slice b3 0 d3)) 62 true)).push (.cells [.int .i64 0, .int .i64 0, .int .i64 0, .int .i64 0, .int .i64 0, .int .i64 0, .int .i64 0, .int .i64 0, .slice none 0 0, .bool false, .slice none 0 0, .slice none 0 0, .slice none 0 0, .slice none 0 0, .slice none 0 0, .bool false, .slice none 0 0, .slice none 0 0] 48 true)).get (h.next + 1 + 1) = some (.cells [.int .i64 0, .int .i64 0, .int .i64 0, .int .i64 0, .int .i64 0, .int .i64 0, .int .i64 0, .int .i64 0, .slice none 0 0, .bool false, .slice none 0 0, .slice none 0 0, .slice none 0 0, .slice none 0 0, .slice none 0 0, .bool false, .slice none 0 0, .slice none 0 0] 48 true) := by rw [get_push, if_pos (by simp)]

  have c1' : ((m.k : Int) == 3) = false := by simp; omega
  have c2' : decide ((m.vw : Int) < (P.vw : Int)) = false := by simp; omega
  have c3' : decide ((P.vw : Int) < (m.vw : Int)) = false := by simp; omega
  have c4' : ((m.k : Int) == 4) = false := by simp; omega
  have c5' : decide (((P.op : Int) + 1) < (m.op : Int)) = false := by simp; omega
  have hw : (Value.int .i64 (IntKind.i64.wrap ((P.op : Int) + 1))) = iv (P.op + 1) := iv_succ (by omega)
  have hw2 : IntKind.i64.wrap ((P.op : Int) + 1) = (P.op : Int) + 1 := wr64 (by omega) (by omega)
  simp only [push_cast, seval, hE.P, awrite, wpc_label, wpc_block, w0, w1, w2, c1', c2', c3']
  refine Go.Tm.kcall_gen [2, 3, 4] ?_
  intro t1 hf
  simp only [push_cast, seval, hE.P, awrite, wpc_label, wpc_block, List.mem_cons, List.not_mem_nil, or_false, forall_eq_or_imp, forall_eq] at hf
  obtain ⟨f2, f3, f4⟩ := hf
  refine gheap (motive := fun H => CallsTo E 39 _ H _) (fun H => KW E h H ∧ H.get h.next = some (.cells (rC P (.slice a1 P.log.length c1) (.slice a2 P.sv.l.length c2) (.slice a3 P.sv.tab.length c3) (.slice a4 P.told.length c4) (.slice a5 P.voted.length c5) (.slice a6 P.came.length c6) (.slice a7 P.ans.length c7)) 48 true) ∧ H.get (h.next + 1) = some (.cells (mgC m (.slice b1 m.log.length d1) (.slice b2 m.img.length d2) (.slice b3 0 d3)) 62 true) ∧ ∃ rz, H.get (h.next + 1 + 1) = some (.cells rz 48 true) ∧ rz.length = 18) ⟨k0, gR0, gM0, _, gZ0, rfl⟩ ?_
  clear k0 gR0 gM0 gZ0
  rintro H ⟨k0, gR, gM, rz, gZ, hrz⟩
  have hd : List.drop 18 rz = [] := List.drop_eq_nil_iff.2 (by omega)
  have hle : (18 ≤ rz.length) = True := by simp; omega
  have nR := k0.w.nlt gR
  have nM := k0.w.nlt gM
  have nZ := k0.w.nlt gZ
  have lR := (k0.w.live _ _ gR).2
  have lM := (k0.w.live _ _ gM).2
  have lZ := (k0.w.live _ _ gZ).2

  refine (primR_at hE k0.w hP0 hn hvw).mono ?_
  rintro v H1 ⟨rfl, k1⟩
  have gR1 := k1.k.get _ _ gR
  have gM1 := k1.k.get _ _ gM
  have gZ1 := k1.k.get _ _ gZ
  have hopq := opR_at hE (k0.trans k1).w hP0 (by omega) (by omega)
  rw [hp]
  simp only [push_cast, seval, hE.P, awrite, wpc_label, wpc_block, f2, f3, f4, gM1, nM, c4']
  refine wdraw_pairs [(1, 3)] (by rw [hE.P]; decide +kernel) (by rw [hE.P]; decide +kernel) (by rw [hE.P]; decide +kernel) ?_
  simp only [push_cast, seval, hE.P, awrite, wpc_label, wpc_block, f2, f3, f4, gM1, nM, gR1, nR]
  refine hopq.mono ?_
  rintro v H2 ⟨rfl, k2⟩
  have gR2 := k2.k.get _ _ gR1
  have gM2 := k2.k.get _ _ gM1
  have gZ2 := k2.k.get _ _ gZ1
  have k02 := (k0.trans k1).trans k2
  simp only [push_cast, seval, hE.P, awrite, wpc_label, wpc_block, f2, f3, f4, gM1, gM2, nM, gR2, nR, hw2, c5', veq_int]
  refine wdraw_pairs [(1, 3)] (by rw [hE.P]; decide +kernel) (by rw [hE.P]; decide +kernel) (by rw [hE.P]; decide +kernel) ?_
  simp only [push_cast, seval, hE.P, awrite, wpc_label, wpc_block, f2, f3, f4, gM2, nM, gR2, nR]
  refine (opR_at hE k02.w hP0 (by omega) (by omega)).mono ?_
  rintro v H3 ⟨rfl, k3⟩
  have gR3 := k3.k.get _ _ gR2
  have gM3 := k3.k.get _ _ gM2
  have gZ3 := k3.k.get _ _ gZ2
  have k03 := k02.trans k3
  simp only [push_cast, seval, hE.P, awrite, wpc_label, wpc_block, f2, f3, f4, gM2, gM3, nM, gR3, nR, hw2, veq_int]
  have hH3 : h.next + 1 + 1 < H3.next := (k03.w.live _ _ gZ3).2
  refine kif_cutN (fun tm' h' => ∃ G4 rcQ, Ext E G h G4 h' ∧ PRR E G4 Q rcQ ∧ h'.get h.next = some (.cells rcQ 48 true) ∧ h'.get (h.next + 1) = some (.cells (mgC m (.slice b1 m.log.length d1) (.slice b2 m.img.length d2) (.slice b3 0 d3)) 62 true) ∧ h'.get (h.next + 1 + 1) = some (.cells rz 48 true) ∧ G4 h.next = none ∧ G4 (h.next + 1 + 1) = none ∧ Q.Sz ∧ fget tm' 2 = ptr h.next ∧ fget tm' 3 = ptr (h.next + 1) ∧ fget tm' 4 = ptr (h.next + 1 + 1)) ?_ ?_
  · rintro tm' H4 ⟨G4, rcQ, x4, hpQ, gR4, gM4, gZ4, hn4, hn6, zQ, f2, f3, f4⟩
    have hpQ0 := hpQ
    obtain ⟨A1, C1, A2, C2, A3, C3, A4, C4, A5, C5, A6, C6, A7, C7, CT, CC, CA, hcsQ, _⟩ := hpQ.e
    subst hcsQ
    have lR4 := (x4.wf.live _ _ gR4).2
    have lZ4 := (x4.wf.live _ _ gZ4).2
    have lM4 := (x4.wf.live _ _ gM4).2
    simp only [push_cast, seval, hE.P, awrite, wpc_label, wpc_block, f2, f3, f4, gR4, nR, gM4, nM]
    refine (commitR_at hE x4.wf x4.frz hpQ0 zQ m.cm).mono ?_
    rintro v H5 ⟨G5, rc5, co5, v5, x5, hp5, o5, m5, g5, rfl⟩
    have hp50 := hp5
    have x05 := x4.andthen x5
    have gR5 := x5.keep.get _ _ gR4
    have gM5 := x5.keep.get _ _ gM4
    have gZ5 := x5.keep.get _ _ gZ4
    have h5R := x5.nn lR4 hn4
    have h5Z := x5.nn lZ4 hn6
    obtain ⟨B1, D1, B2, D2, B3, D3, B4, D4, B5, D5, B6, D6, B7, D7, DT, DC, DA, hcs5, _⟩ := hp5.e
    subst hcs5
    have x6 := x05.put hW (o := .cells (rC (commit Q m.cm).1 (.slice B1 (commit Q m.cm).1.log.length D1) (.slice B2 (commit Q m.cm).1.sv.l.length D2) (.slice B3 (commit Q m.cm).1.sv.tab.length D3) (.slice B4 (commit Q m.cm).1.told.length D4) (.slice B5 (commit Q m.cm).1.voted.length D5) (.slice B6 (commit Q m.cm).1.came.length D6) (.slice B7 (commit Q m.cm).1.ans.length D7)) 48 true) (Nat.le_refl _) h5R gR5
    have hcl := commit_len Q m.cm
    have zQo := zQ.op
    have hck := commitK_keep (Q.todo m.cm) Q
    have hcop : (commit Q m.cm).1.op = Q.op := hck.1
    have o6 : Own (H5.put h.next (.cells (rC (commit Q m.cm).1 (.slice B1 (commit Q m.cm).1.log.length D1) (.slice B2 (commit Q m.cm).1.sv.l.length D2) (.slice B3 (commit Q m.cm).1.sv.tab.length D3) (.slice B4 (commit Q m.cm).1.told.length D4) (.slice B5 (commit Q m.cm).1.voted.length D5) (.slice B6 (commit Q m.cm).1.came.length D6) (.slice B7 (commit Q m.cm).1.ans.length D7)) 48 true)) 62 17 H4.next (commit Q m.cm).2.length co5 v5 := o5.at fun b o hb hg => by
      rw [get_put, if_neg (fun e => by have := (o5.lt x5.wf b hb).1; omega)]; exact hg
    simp only [push_cast, seval, hE.P, awrite, wpc_label, wpc_block, f2, f3, f4, gR5, nR, gM5, nM]
    refine gtm (motive := wdraw E _ _) [2, 3, 4, 11] fun t6 hf => ?_
    simp only [push_cast, seval, hE.P, awrite, wpc_label, wpc_block, List.mem_cons, List.not_mem_nil, or_false, forall_eq_or_imp, forall_eq, f2, f3, f4] at hf
    obtain ⟨f2, f3, f4, f11⟩ := hf
    refine gheap (motive := fun H => wdraw E _ _ _ H) (fun H => Ext E G h G5 H ∧ H.get h.next = some (.cells (rC (commit Q m.cm).1 (.slice B1 (commit Q m.cm).1.log.length D1) (.slice B2 (commit Q m.cm).1.sv.l.length D2) (.slice B3 (commit Q m.cm).1.sv.tab.length D3) (.slice B4 (commit Q m.cm).1.told.length D4) (.slice B5 (commit Q m.cm).1.voted.length D5) (.slice B6 (commit Q m.cm).1.came.length D6) (.slice B7 (commit Q m.cm).1.ans.length D7)) 48 true) ∧ H.get (h.next + 1) = some (.cells (mgC m (.slice b1 m.log.length d1) (.slice b2 m.img.length d2) (.slice b3 0 d3)) 62 true) ∧ H.get (h.next + 1 + 1) = some (.cells rz 48 true) ∧ Own H 62 17 H4.next (commit Q m.cm).2.length co5 v5 ∧ H4.next ≤ H.next) ⟨x6, by rw [get_put, if_pos rfl], by rw [get_put, if_neg (by omega)]; exact gM5, by rw [get_put, if_neg (by omega)]; exact gZ5, o6, by simpa using x5.keep.next⟩ ?_
    clear x6 o6
    rintro H6 ⟨x6, gR6, gM6, gZ6, o6, hl6⟩
    refine wdraw_pairs [(0, 6), (0, 10), (0, 11), (0, 12), (2, 6), (4, 6), (9, 6)] (by rw [hE.P]; decide +kernel) (by rw [hE.P]; decide +kernel) (by rw [hE.P]; decide +kernel) ?_
    simp only [push_cast, seval, hE.P, awrite, wpc_label, wpc_block, f2, f3, f4, f11, gR6, nR, gM6, nM]
    have hsm := commit_same Q m.cm
    refine (opR_at hE x6.wf hp50 (by rw [hsm.1]; have := zQ.bs; have := zQ.cm; omega) (by rw [hsm.2.1]; unfold PR.op at zQo; omega)).mono ?_
    rintro v H7 ⟨rfl, k7⟩
    have x7 := x6.kw k7
    have gR7 := k7.k.get _ _ gR6
    have gM7 := k7.k.get _ _ gM6
    have gZ7 := k7.k.get _ _ gZ6
    have o7 := o6.keep k7.k
    simp only [push_cast, seval, hE.P, awrite, wpc_label, wpc_block, f2, f3, f4, f11, gR7, nR, gM7, nM]
    refine (toR_at hE x7.wf hp50 (m := { k := 3, vw := (commit Q m.cm).1.vw, op := (commit Q m.cm).1.op }) ⟨_, _, _, rfl, Fz.nil, Fz.nil, Fz.nil⟩ m.fr).mono ?_
    rintro v H8 ⟨mc, rfl, hmc, k8⟩
    have x8 := x7.kw k8
    have gR8 := k8.k.get _ _ gR7
    have gM8 := k8.k.get _ _ gM7
    have gZ8 := k8.k.get _ _ gZ7
    have o8 := o7.keep k8.k
    have hmc0 := hmc
    obtain ⟨e1, e2, e3, e4, e5, e6, rfl, _⟩ := hmc.e
    simp only [push_cast, seval, hE.P, awrite, wpc_label, wpc_block, f2, f3, f4, f11, gR8, nR, gM8, nM]
    rw [bs26 rfl, kalloc_some]
    simp only [push_cast, seval, hE.P, awrite, wpc_label, wpc_block, f2, f3, f4, f11, gR8, nR, gM8, nM]
    have hl8 : H4.next ≤ H8.next := Nat.le_trans hl6 (Nat.le_trans k7.k.next k8.k.next)
    refine kwv_G1 (el26 hE.P) x8.wf (lo := H4.next) hl8 o8 rfl rfl (by omega) (by omega) ?_
    intro v9 H9 aI _
    have hl48 : h.next ≤ H4.next := x4.keep.next
    have x9 := x8.app hW aI fun b hb => ⟨by have := (o8.lt x8.wf b hb).1; omega, g5 b hb⟩
    have gR9 := aI.get _ _ gR8 (o8.tag gR8 (fun c fx e => by injection e with _ e; cases e))
    have gM9 := aI.get _ _ gM8 (fun hb => by have := (o8.lt x8.wf _ hb).1; omega)
    have gZ9 := aI.get _ _ gZ8 (o8.tag gZ8 (fun c fx e => by injection e with _ e; cases e))
    obtain ⟨G10, z10, x10, s10, g10⟩ := x9.frz2 (aI.own.low (lo' := h.next) (by omega))
    have h10 : G10 (h.next + 1 + 1) = none := by
      cases hg : G10 (h.next + 1 + 1) with
      | none => rfl
      | some c =>
        rcases g10 _ _ hg with h5 | h5
        · rw [h5Z] at h5; cases h5
        · have := (aI.own.lt aI.wf _ h5).1; omega
    have x11 := x10.put hW (o := .cells (rC (commit Q m.cm).1 (.slice B1 (commit Q m.cm).1.log.length D1) (.slice B2 (commit Q m.cm).1.sv.l.length D2) (.slice B3 (commit Q m.cm).1.sv.tab.length D3) (.slice B4 (commit Q m.cm).1.told.length D4) (.slice B5 (commit Q m.cm).1.voted.length D5) (.slice B6 (commit Q m.cm).1.came.length D6) (.slice B7 (commit Q m.cm).1.ans.length D7)) 48 true) (by omega) h10 gZ9
    have ⟨va, vc, hv9⟩ := o8.isSl
    obtain ⟨hv9, _⟩ := hv9
    subst hv9
    have e8 := x8.wf.ne gR8
    simp only [push_cast, seval, hE.P, awrite, wpc_label, wpc_block, e8, f2, f3, f4, f11, gR6, gR7, gR8, gR9, nR, gM6, gM7, gM8, gM9, nM, gZ9, nZ, hd, hle, veq_agg, veq_slice, veqL_cons, veqL_nil, veq_bool, veq_int, veq_str]
    exact ⟨G10, _, _, v9, x11, hp50.sub s10, by rw [List.length_append]; exact z10, (m5.sub s10).app (MgsR.one (hmc0.sub s10)), rfl⟩
  · by_cases heq : m.op = P.op + 1
    · have hb6 : ((m.op : Int) == (P.op : Int) + 1) = true := by simp; omega
      rw [if_pos heq] at hQQ
      subst hQQ
      simp only [push_cast, seval, hE.P, awrite, wpc_label, wpc_block, f2, f3, f4, hb6]
      refine gtm (motive := wdraw E _ _) [2, 3, 4] fun t5 hf => ?_
      simp only [push_cast, seval, hE.P, awrite, wpc_label, wpc_block, List.mem_cons, List.not_mem_nil, or_false, forall_eq_or_imp, forall_eq, f2, f3, f4] at hf
      obtain ⟨f2, f3, f4⟩ := hf
      refine wdraw_two [(0, [0]), (2, [0]), (5, [0, 4])] [3, 6, 7, 9] [(6, [4, 5])] [(0, (156, [0])), (1, (157, [1])), (2, (158, [2, 1])), (3, (159, [3, 0, 1, 2])), (4, (160, [4])), (5, (161, [5, 4])), (6, (162, [6, 4, 5])), (7, (163, [7, 0, 1, 2, 3, 4, 5, 6])), (8, (164, [8, 0, 1, 2, 3, 4, 5, 6, 7]))] [0, 1, 2, 3, 4, 5, 6, 7, 8, 9] (by rw [hE.P]; decide +kernel) (by rw [hE.P]; decide +kernel) (by rw [hE.P]; decide +kernel) (by rw [hE.P]; decide +kernel) (by rw [hE.P]; decide +kernel) (by decide +kernel) rfl ?_
      simp only [push_cast, seval, hE.P, awrite, wpc_label, wpc_block, f2, f3, f4, gR3, nR]
      refine (logOfR_at hE k03.w hP0 (hG.keep k03.k) (k := P.bs) ⟨Nat.le_refl _, by omega⟩ (by omega)).mono ?_
      rintro v5 H5 ⟨o5, k5⟩
      have hlg : logOf P P.bs = P.log := by unfold logOf; rw [Nat.sub_self, List.drop_zero]
      have hln : P.op - P.bs = P.log.length := by unfold PR.op; omega
      rw [hlg, hln] at o5
      obtain ⟨va, vc, rfl, _⟩ := o5.isSl
      have k45 := k03.trans k5
      have gR5 := k5.k.get _ _ gR3
      have gZ5 := k5.k.get _ _ gZ3
      have gM5 := k5.k.get _ _ gM3
      have hn5 := k5.k.next
      have lR4 := (k03.w.live _ _ gR3).2
      have lM4 := (k03.w.live _ _ gM3).2
      simp only [push_cast, seval, hE.P, awrite, wpc_label, wpc_block, f2, f3, f4, gR3, nR, gM5, nM]
      rw [bs36 rfl, kalloc_some]
      simp only [push_cast, seval, hE.P, awrite, wpc_label, wpc_block, f2, f3, f4, gR3, nR, gM5, nM]
      refine kwv_G1 (el36 hE.P) k5.w (lo := H3.next) hn5 o5 rfl rfl (by omega) (by omega) ?_
      intro v6 H6 aA hnx6
      obtain ⟨ua, uc, rfl⟩ := aA.sl
      have k6 := k5.app k03.w o5 aA
      have o6 := aA.own
      have k46 := k03.trans k6
      have gR6 := k6.k.get _ _ gR3
      have gZ6 := k6.k.get _ _ gZ3
      have gM6 := k6.k.get _ _ gM3
      simp only [push_cast, seval, hE.P, awrite, wpc_label, wpc_block, f2, f3, f4, gR6, nR]
      have sv5 := o5.sc k5.w
      have sv6 := o6.sc k6.w
      have sa : ∀ (a : Option Addr) (n c m m' : Nat), Go.Tm.sc m (.slice a n c) = true → m ≤ m' → Go.Tm.sc m' (.slice a n c) = true := by
        intro a n c m m' h1 h2
        cases a with
        | none => rfl
        | some x => have := sc_slice h1 x rfl; simp [Go.Tm.sc]; omega
      have s1 := q1.1.sc k03.w (hG.keep k03.k)
      have s2 := q2.1.sc k03.w (hG.keep k03.k)
      have s3 := q3.1.sc k03.w (hG.keep k03.k)
      have s4 := q5.1.sc k03.w (hG.keep k03.k)
      have s5 := q6.1.sc k03.w (hG.keep k03.k)
      have s6 := q7.1.1.sc k03.w (hG.keep k03.k)
      have s7 := q8.1.1.sc k03.w (hG.keep k03.k)
      refine ⟨⟨?_, ?_, ?_, ?_, ?_⟩, ?_⟩
      · omega
      · simp only [push_cast, seval, hE.P, awrite, wpc_label, wpc_block, f2, f3, f4, gR3, nR, gM5, gM3, nM, rdOk, veq_int, veq_agg, veq_slice, veqL_cons, veqL_nil, veq_bool, veq_str]
      · simp only [push_cast, seval, hE.P, awrite, wpc_label, wpc_block, f2, f3, f4, gR3, nR, gM5, nM, faOk, Op.operands, ops_func, ops_builtin, Go.Tm.sc, scA, scL]
        rw [s1, s2, s3, s4, s5, s6, s7]
        exact ⟨rfl, ⟨sa _ _ _ _ _ sv5 (by omega), by simp⟩, by simp; omega, sv6⟩
      · simp only [push_cast, seval, hE.P, awrite, wpc_label, wpc_block, f2, f3, f4, gR3, nR, gM5, nM, aOk, aalloc_bs]
        rw [bs36 rfl]
        exact ⟨_, rfl, rfl⟩
      · simp only [push_cast, seval, hE.P, awrite, wpc_label, wpc_block, f2, f3, f4, gR3, nR, gM5, nM, dOk]
        refine ⟨?_, scQ_pt 0 (by omega) lR4, rfl, scQ_sl 4 (by decide) sv5, scQ_pt 0 (by omega) lM4, ?_, scQ_sl1 (K := 6) (by decide) (Nat.le_refl _) (Nat.lt_succ_self _), scQ_sl 8 (by decide) sv6, scQ_pt 0 (by omega) lR4⟩
        · unfold scQ scQA
          simp only [scQL_iff, List.forall_mem_cons, List.not_mem_nil, false_implies, implies_true, and_true]
          exact ⟨rfl, rfl, rfl, rfl, rfl, rfl, rfl, rfl, scQ_sl 0 (by omega) s1, rfl, scQ_sl 0 (by omega) s2, rfl, scQ_sl 0 (by omega) s3, scQ_sl 0 (by omega) s4, scQ_sl 0 (by omega) s5, rfl, scQ_sl 0 (by omega) s6, scQ_sl 0 (by omega) s7⟩
        · rfl
      · obtain ⟨G', z', x', s', g'⟩ := (k46.ext hG).frz2 (o6.low (lo' := h.next) (by have := k03.k.next; omega))
        have hnn : ∀ b, h.next ≤ b → b < H3.next → G' b = none := fun b hb hb2 => by
          cases hg : G' b with
          | none => rfl
          | some c =>
            rcases g' _ _ hg with h5 | h5
            · rw [hgn b hb] at h5; cases h5
            · have := (o6.lt k6.w _ h5).1; omega
        have zP : PRR E G' { P with log := P.log ++ [m.en] } (rC { P with log := P.log ++ [m.en] } (.slice ua (P.log.length + 1) uc) (.slice a2 P.sv.l.length c2) (.slice a3 P.sv.tab.length c3) (.slice a4 P.told.length c4) (.slice a5 P.voted.length c5) (.slice a6 P.came.length c6) (.slice a7 P.ans.length c7)) := by
          refine PRR.of (P := { P with log := P.log ++ [m.en] }) ?_ (q2.sub s') (q3.sub s') (q4.sub s') (q5.sub s') (q6.sub s') ⟨q7.1.sub s', q7.2.sub s'⟩ ⟨q8.1.sub s', q8.2.sub s'⟩
          rw [entsC_app, List.length_append]
          simpa [entsC, entC] using z'
        have x6 := x'.put hW (o := .cells (rC { P with log := P.log ++ [m.en] } (.slice ua (P.log.length + 1) uc) (.slice a2 P.sv.l.length c2) (.slice a3 P.sv.tab.length c3) (.slice a4 P.told.length c4) (.slice a5 P.voted.length c5) (.slice a6 P.came.length c6) (.slice a7 P.ans.length c7)) 48 true) (Nat.le_refl _) (hnn _ (Nat.le_refl _) lR4) gR6
        exact ⟨G', _, x6, zP, rfl, gM6, gZ6, hnn _ (Nat.le_refl _) lR4, hnn _ (by omega) (by omega), z.push hop hen⟩
    · have hb6 : ((m.op : Int) == (P.op : Int) + 1) = false := by simp; omega
      rw [if_neg heq] at hQQ
      subst hQQ
      simp only [push_cast, seval, hE.P, awrite, wpc_label, wpc_block, f2, f3, f4, hb6]
      exact ⟨G, _, k03.ext hG, hP0, gR3, gM3, gZ3, hgn _ (Nat.le_refl _), hgn _ (by omega), z⟩
end
end Go.Proofs.YthdgobcpefcolaaGreatDoor
