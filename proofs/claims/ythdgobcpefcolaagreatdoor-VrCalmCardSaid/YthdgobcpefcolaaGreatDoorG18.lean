/- Chapter 25: the program's replica: answering, executing. -/
import Derived.Test.YthdgobcpefcolaaGreatDoorG17
set_option maxRecDepth 10000
set_option linter.all false
set_option linter.unusedSimpArgs false
set_option linter.unusedVariables false
namespace Go.Proofs.YthdgobcpefcolaaGreatDoor
open Go.Tm Vr
variable {E : Env} (hE : EOk E)
include hE
theorem ame_apply : ameth E.P 46 "Apply" = some 272 := by rw [hE.P]; decide +kernel
theorem ame_last : ameth E.P 46 "Last" = some 273 := by rw [hE.P]; decide +kernel
section
variable {G : Mem} {h : Heap} {X : Nat → Prop} (hS : SO E G h X) {P : PR} {out : List Mg} {r t : Nat} (hQ : QR E G h X P out r t)
include hS hQ
theorem ask_at (ho : out.length ≤ 10000000) {m : Mg} {ms : List Value} (hm : MgR E G m ms) (op : Nat) : CallsTo E 86 [ptr r, .agg ms.toArray, iv op] h fun v h' => v = .tuple #[] ∧ ∃ X', PX E G h X G h' X' ∧ QR E G h' X' P (out ++ Vr.ask P m.vw op m.fr) r t := by
  obtain ⟨b1, d1, b2, d2, b3, d3, rfl, m1, m2, m3⟩ := hm.e
  have nb := hS.wf.nb0
  refine calls_of_runs (fn := Tryz.f86) (by rw [hE.P]; exact Tryz.func86) rfl (by rw [hE.known]; rfl) (by rw [Tryz.ntmps86]; exact Nat.le_of_ble_eq_true rfl) (by decide +kernel) (rs := []) rfl (wpc_runs _ _ _ _ ?_)
  simp only [push_cast, seval, hE.P, awrite, wpc_label, wpc_block, nb]
  have k0 := (KW.refl hS.wf).push (o := .cells (mgC m (.slice b1 m.log.length d1) (.slice b2 m.img.length d2) (.slice b3 0 d3)) 62 true)
  refine (send_at hE (hS.kw k0) (hQ.ext (k0.ext hS.frz)) (by omega) (m := { k := 10, vw := m.vw, op := op }) ⟨_, _, _, rfl, Fz.nil, Fz.nil, Fz.nil⟩ m.fr).mono ?_
  rintro v h3 ⟨rfl, X3, px3, hQ3⟩
  simp only [push_cast, seval, hE.P, awrite, wpc_label, wpc_block]
  exact ⟨X3, (PX.kw hS k0).trans hS.wf px3, hQ3⟩
theorem answer_at (ho : out.length ≤ 10000000) {e : Ent} (hec : e.c ≤ 1000000) {rp : Rpl} {rc : List Value} (hr : RpR E G rp rc) : CallsTo E 83 [ptr r, .agg (entC e).toArray, .agg rc.toArray] h fun v h' => v = .tuple #[] ∧ ∃ X', PX E G h X G h' X' ∧ QR E G h' X' P (out ++ [P.toM { k := 12, en := ⟨e.c, e.n, .empty⟩, rp := rp } (100 + e.c)]) r t := by
  obtain ⟨ra, rb, rfl, hr⟩ := hr
  have w0 := hS.wf.b0
  have w1 := hS.wf.b1
  unfold entC
  refine calls_of_runs (fn := Tryz.f83) (by rw [hE.P]; exact Tryz.func83) rfl (by rw [hE.known]; rfl) (by rw [Tryz.ntmps83]; exact Nat.le_of_ble_eq_true rfl) (by decide +kernel) (rs := []) rfl (wpc_runs _ _ _ _ ?_)
  simp only [push_cast, seval, hE.P, awrite, wpc_label, wpc_block, w0, w1]
  have k0 := ((KW.refl hS.wf).push (o := .cells [iv e.c, iv e.n, .string e.t] 56 true)).push (o := .cells [iv rp.e, iv rp.n, .slice ra 0 rb] 60 true)
  have hi : (Value.int .i64 (IntKind.i64.wrap (100 + (e.c : Int)))) = iv (100 + e.c) := by rw [wr64 (by omega) (by omega)]; rfl
  rw [hi]
  refine (send_at hE (hS.kw k0) (hQ.ext (k0.ext hS.frz)) (by omega) (m := { k := 12, en := ⟨e.c, e.n, .empty⟩, rp := rp }) ⟨_, _, _, rfl, Fz.nil, Fz.nil, hr⟩ (100 + e.c)).mono ?_
  rintro v h3 ⟨rfl, X3, px3, hQ3⟩
  simp only [push_cast, seval, hE.P, awrite, wpc_label, wpc_block]
  exact ⟨X3, (PX.kw hS k0).trans hS.wf px3, hQ3⟩
set_option maxHeartbeats 1000000 in
theorem upTo_at (z : P.Sz) (ho : out.length ≤ 100000) (k : Nat) : CallsTo E 87 [ptr r, iv k] h fun v h' => v = .tuple #[] ∧ ∃ G' X', PX E G h X G' h' X' ∧ QR E G' h' X' (commit P k).1 (out ++ (commit P k).2) r t := by
  refine calls_of_runs (fn := Tryz.f87) (by rw [hE.P]; exact Tryz.func87) rfl (by rw [hE.known]; rfl) (by rw [Tryz.ntmps87]; exact Nat.le_of_ble_eq_true rfl) (by decide +kernel) (rs := []) rfl (wpc_runs _ _ _ _ ?_)
  simp only [push_cast, seval, hE.P, awrite, wpc_label, wpc_block]
  refine wpc_loop (fun j tm h2 => ∃ G2 X2 P2 o2, j = P.op - P2.cm ∧ fget tm 0 = ptr r ∧ fget tm 1 = iv k ∧ PX E G h X G2 h2 X2 ∧ QR E G2 h2 X2 P2 (out ++ o2) r t ∧ P2.Sz ∧ P2.op = P.op ∧ o2.length + P.cm ≤ P2.cm ∧
    commit P k = ((commit P2 k).1, o2 ++ (commit P2 k).2)) (P.op - P.cm) ?_ ?_
  · simp only [push_cast, seval, hE.P, awrite, wpc_label, wpc_block]
    exact ⟨G, X, P, [], rfl, PX.refl hS, by simpa using hQ, z, rfl, by simp, by simp⟩
  · rintro j tm h2 ⟨G2, X2, P2, o2, rfl, f0, f1, px, hQ2, z2, hop, hol, hcm⟩
    have hQ0 := hQ2
    obtain ⟨⟨dc, vl, vt, vv, vo⟩, q2⟩ := hQ2
    have hr2 := q2.hr
    have nr2 := px.so.wf.nlt hr2
    have e1 := px.so.wf.ne hr2
    have w0 := px.so.wf.b0
    simp only [push_cast, seval, hE.P, awrite, wpc_label, wpc_block]
    by_cases hlt : P2.cm < k ∧ P2.cm < P2.op
    · have hb1 : decide ((P2.cm : Int) < (k : Int)) = true := by simp; omega
      have hb2 : decide ((P2.cm : Int) < (P2.op : Int)) = true := by simp; omega
      have zb := z2.bs
      have zo := z2.op
      have hi : P2.cm - P2.bs < P2.log.length := by have := hlt.2; unfold PR.op at this; omega
      have hw : (Value.int .i64 (IntKind.i64.wrap ((P2.cm : Int) - (P2.bs : Int)))) = .int .i64 ((P2.cm - P2.bs : Nat) : Int) := iv_sub (by omega) zb
      obtain ⟨lb, lc, hvl, hel⟩ := q2.hl.elem px.so.wf hi
      simp only at hvl
      subst hvl
      have hce := entsC_at (List.getElem?_eq_getElem hi)
      rw [hce] at hel
      unfold entC at hel
      have kp := (Keep.refl h2).push (o := .cells [.int .i64 0, .int .i64 0, .string .empty] 56 true) px.so.wf
      have hel2 : acells E (h2.push (.cells [.int .i64 0, .int .i64 0, .string .empty] 56 true)) ⟨lb, (P2.cm - P2.bs) * 3, none⟩ 3 = some [iv (P2.log[P2.cm - P2.bs]).c, iv (P2.log[P2.cm - P2.bs]).n, .string (P2.log[P2.cm - P2.bs]).t] := by
        obtain ⟨lb', lc', hv', h5⟩ := (q2.hl.keep kp).elem (px.so.wf.push _) hi
        injection hv' with hv' _ _
        injection hv' with hv'
        injection hv' with hv'
        subst hv'
        rw [h5, hce]; rfl
      refine wdraw_calm (by rw [hE.P]; decide +kernel) ?_
      simp only [push_cast, seval, hE.P, awrite, wpc_label, wpc_block, hr2, nr2, f0, f1, hb1, hb2]
      refine wdraw_pairs [(3, 15), (7, 15), (11, 15), (14, 15)] (by rw [hE.P]; decide +kernel) (by rw [hE.P]; decide +kernel) (by rw [hE.P]; decide +kernel) ?_
      simp only [push_cast, seval, hE.P, awrite, wpc_label, wpc_block, hr2, nr2, f0, f1, hb1, hb2]
      rw [hw, ia36 rfl (by omega) (by omega), kpure_some]
      simp only [push_cast, seval, hE.P, awrite, wpc_label, wpc_block, hr2, nr2, f0, f1, hb1, hb2, hw, ↓hel, ↓hel2, Int.toNat_natCast, Nat.zero_add, e1, w0, veq_slice, veq_int, veqL_cons, veq_str]
      have k1 := (KW.refl px.so.wf).push (o := .cells [iv (P2.log[P2.cm - P2.bs]).c, iv (P2.log[P2.cm - P2.bs]).n, .string (P2.log[P2.cm - P2.bs]).t] 56 true)
      have hen := z2.ent _ (List.getElem_mem hi)
      have hst := fun h3 : P2.cm < k => commit_step h3 zb (List.getElem?_eq_getElem hi)
      generalize P2.log[P2.cm - P2.bs] = e at *
      have s1 := px.so.kw k1
      have q21 := q2.keep (Sub.refl _) k1.k
      have p1 := PX.kw px.so k1
      have ge : (h2.push (.cells [iv e.c, iv e.n, .string e.t] 56 true)).get h2.next = some (.cells [iv e.c, iv e.n, .string e.t] 56 true) := by rw [get_push, if_pos rfl]
      have hn1 : (h2.push (.cells [iv e.c, iv e.n, .string e.t] 56 true)).next = h2.next + 1 := by simp
      generalize h2.push (.cells [iv e.c, iv e.n, .string e.t] 56 true) = H at *
      refine gtm (motive := wdraw E _ _) [0, 1, 4] fun t1 hf => ?_
      simp only [push_cast, seval, hE.P, awrite, wpc_label, wpc_block, List.mem_cons, List.not_mem_nil, or_false, forall_eq_or_imp, forall_eq, f0, f1] at hf
      obtain ⟨f0, f1, f4⟩ := hf
      have hrH := q21.hr
      have nrH := s1.wf.nlt hrH
      have neH := s1.wf.nlt ge
      obtain ⟨ss, t1', t2'⟩ := q21.ht
      refine wdraw_two [(3, [0]), (5, [0]), (7, [0]), (9, [0])] [10, 11, 12] [(11, [])] [(0, (38, [0])), (1, (39, [1, 0])), (2, (40, [2, 0, 1])), (3, (41, [3, 0, 1, 2])), (4, (42, [4])), (5, (43, [5, 4])), (6, (44, [6])), (7, (45, [7, 6])), (8, (46, [8])), (9, (47, [9, 8])), (10, (48, [10, 0, 1, 2, 3, 4, 5, 6, 7, 8, 9])), (11, (5, [11]))] [0, 1, 2, 3, 4, 5, 6, 7, 8, 9, 10, 11, 12] (by rw [hE.P]; decide +kernel) (by rw [hE.P]; decide +kernel) (by rw [hE.P]; decide +kernel) (by rw [hE.P]; decide +kernel) (by rw [hE.P]; decide +kernel) (by decide +kernel) rfl ?_
      simp only [push_cast, seval, hE.P, awrite, wpc_label, wpc_block, hrH, nrH, ge, neH, f0, f1, f4]
      rw [kinv_iface (ame_apply hE)]
      refine (toyApply_at hE s1 t1' t2' (q21.hx t (by simp)) (by omega) (by have := z2.tab; omega) (by have := z2.svl; omega) z2.srt).mono ?_
      rintro v h3 ⟨G3, sc, rc, px3, hsc, hrc, gt3, g3, rfl⟩
      obtain ⟨ra, rb, rfl, hrd⟩ := hrc
      simp only [push_cast, seval, hE.P, awrite, wpc_label, wpc_block, hrH, nrH, ge, neH, f0, f1, f4]
      have hr0 : r < H.next := (s1.wf.live _ _ hrH).2
      have ht0 : t < H.next := (s1.wf.live _ _ t1').2
      have he0 : h2.next < H.next := (s1.wf.live _ _ ge).2
      have sr := hrd.1.sc px3.so.wf px3.so.frz
      have sr' : Go.Tm.sc (h3.next + 1) (.slice ra 0 rb) = true := by
        cases ra with
        | none => rfl
        | some x => have := sc_slice sr x rfl; simp [Go.Tm.sc]; omega
      refine ⟨⟨⟨px3.kx.next, Nat.le_succ _⟩, ?_, ?_, ?_, ?_⟩, ?_⟩
      · simp only [push_cast, seval, hE.P, awrite, wpc_label, wpc_block, hrH, nrH, ge, neH, f0, f1, f4, rdOk, veq_int, veq_str]
        simp [veq]
      · simp only [push_cast, seval, hE.P, awrite, wpc_label, wpc_block, hrH, nrH, ge, neH, f0, f1, f4, faOk, Op.operands, ops_invoke, Go.Tm.sc, scA, scL]
        exact ⟨decide_eq_true ht0, fun _ x => x.elim, by simp, sr'⟩
      · simp only [push_cast, seval, hE.P, awrite, wpc_label, wpc_block, hrH, nrH, ge, neH, f0, f1, f4, aOk]
        rfl
      · simp only [push_cast, seval, hE.P, awrite, wpc_label, wpc_block, hrH, nrH, ge, neH, f0, f1, f4, dOk]
        refine ⟨scQ_pt 0 (by omega) hr0, scQ_pt 0 (by omega) hr0, scQ_pt 0 (by omega) hr0, scQ_pt 0 (by omega) ht0, scQ_pt 0 (by omega) he0, rfl, scQ_pt 0 (by omega) he0, rfl, scQ_pt 0 (by omega) he0, rfl, ?_, live_one (k := 11) (by decide) (Nat.le_refl _) (Nat.lt_succ_self _)⟩
        exact scQ_agg3 (scQ_sl 11 (by decide) sr)
      · have hr3 := g3 r _ (fun e => by subst e; rw [t1'] at hrH; injection hrH with hrH; injection hrH with _ hrH; cases hrH) hrH
        have q3 := q21.toy px3.sub gt3 hsc g3 fun _ hx => hx
        have ge3 := g3 h2.next _ (fun e => by subst e; rw [t1'] at ge; injection ge with ge; injection ge with _ ge; cases ge) ge
        have k4 := (KW.refl px3.so.wf).push (o := .cells [iv (applyS P2.sv e).2.e, iv (applyS P2.sv e).2.n, .slice ra 0 rb] 60 true)
        have m1 := px3.so.wf.ne hr3
        have m2 := px3.so.wf.ne' hr3
        have m3 := px3.so.wf.ne ge3
        have m4 := px3.so.wf.ne' ge3
        have m5 := px3.so.wf.nlt hr3
        have m6 := px3.so.wf.nlt ge3
        have m7 := px3.so.wf.b0
        have m8 : (r = h2.next) = False := by simp; intro e; subst e; rw [hrH] at ge; injection ge with ge; injection ge with _ ge; cases ge
        have m9 : (h2.next = r) = False := by simp; intro e; rw [e, hrH] at ge; injection ge with ge; injection ge with _ ge; cases ge
        simp only [push_cast, seval, hE.P, awrite, wpc_label, wpc_block, hr3, ge3, m1, m2, m3, m4, m5, m6, m7, m8, m9, f0, f1, f4]
        have hw : (Value.int .i64 (IntKind.i64.wrap ((P2.cm : Int) + 1))) = iv (P2.cm + 1) := iv_succ (by omega)
        rw [hw]
        have px4 := (((px.trans hS.wf p1).trans hS.wf px3).trans hS.wf (PX.kw px3.so k4)).trans hS.wf (PX.put (o := .cells (qC (commit1 P2 e).1 t dc (.slice (some ⟨lb, 0, none⟩) P2.log.length lc) vt vv vo) 78 true) (px3.so.kw k4) (q3.hx r (by simp)) (k4.k.get _ _ hr3))
        have q4 : QR E G3 ((h3.push (.cells [iv (applyS P2.sv e).2.e, iv (applyS P2.sv e).2.n, .slice ra 0 rb] 60 true)).put r (.cells (qC (commit1 P2 e).1 t dc (.slice (some ⟨lb, 0, none⟩) P2.log.length lc) vt vv vo) 78 true)) X2 (commit1 P2 e).1 (out ++ o2) r t :=
          ⟨_, q3.hdr (P' := (commit1 P2 e).1) (Sub.refl _) (by rw [get_put, if_pos rfl]) (fun b o hb hg => by rw [get_put, if_neg (fun e => hb e.symm)]; exact k4.k.get _ _ hg) rfl rfl rfl rfl rfl (fun _ hx => hx)⟩
        have z4 := z2.commit1 hlt.2 (e := e)
        have hst := hst hlt.1
        have hol1 : (commit1 P2 e).2.length ≤ 1 := by unfold commit1; simp only; split <;> simp
        have hco : (commit1 P2 e).2 = if (P2.st == 0 && P2.prim) = true then [P2.toM { k := 12, en := ⟨e.c, e.n, .empty⟩, rp := (applyS P2.sv e).2 } (100 + e.c)] else [] := by
          unfold commit1; simp only
          by_cases h0 : P2.st = 0 <;> cases hp : P2.prim <;> simp [h0]
        have hpp : ((commit1 P2 e).1.st == 0 && (commit1 P2 e).1.prim) = (P2.st == 0 && P2.prim) := rfl
        have hg4 : ((h3.push (.cells [iv (applyS P2.sv e).2.e, iv (applyS P2.sv e).2.n, .slice ra 0 rb] 60 true)).put r (.cells (qC (commit1 P2 e).1 t dc (.slice (some ⟨lb, 0, none⟩) P2.log.length lc) vt vv vo) 78 true)).get h2.next = some (.cells [iv e.c, iv e.n, .string e.t] 56 true) := by
          rw [get_put, if_neg (by simpa using m8)]; exact k4.k.get _ _ ge3
        have hg5 : ((h3.push (.cells [iv (applyS P2.sv e).2.e, iv (applyS P2.sv e).2.n, .slice ra 0 rb] 60 true)).put r (.cells (qC (commit1 P2 e).1 t dc (.slice (some ⟨lb, 0, none⟩) P2.log.length lc) vt vv vo) 78 true)).get h3.next = some (.cells [iv (applyS P2.sv e).2.e, iv (applyS P2.sv e).2.n, .slice ra 0 rb] 60 true) := by
          rw [get_put, if_neg (by simpa using m2), get_push, if_pos rfl]
        refine gheap (motive := fun H => CallsTo E 66 [ptr r] H _) (fun H => PX E G h X G3 H X2 ∧ QR E G3 H X2 (commit1 P2 e).1 (out ++ o2) r t ∧ H.get h2.next = some (.cells [iv e.c, iv e.n, .string e.t] 56 true) ∧ H.get h3.next = some (.cells [iv (applyS P2.sv e).2.e, iv (applyS P2.sv e).2.n, .slice ra 0 rb] 60 true)) ⟨px4, q4, hg4, hg5⟩ ?_
        clear px4 q4 hg4 hg5
        rintro H4 ⟨px4, q4, hg4, hg5⟩
        refine (leads_at hE px4.so q4 ⟨by have := z2.n; show 1 ≤ P2.n; omega, by have := z2.n; show P2.n ≤ 1000; omega⟩ (by have := z2.vw; show P2.vw ≤ _; omega)).mono ?_
        intro v h5 hvh
        have hv5 := hvh.1
        have hh5 := hvh.2
        rw [hpp] at hv5
        rw [hv5, hh5]
        clear hvh hv5 hh5
        have n4 := px4.so.wf.nlt hg4
        have n5 := px4.so.wf.nlt hg5
        have hnx : P.op - (P2.cm + 1) < P.op - P2.cm := by omega
        cases hb : (P2.st == 0 && P2.prim)
        · rw [hb] at hco
          have hco : (commit1 P2 e).2 = [] := hco
          simp only [push_cast, seval, hE.P, awrite, wpc_label, wpc_block, f0, f1, f4]
          exact ⟨P.op - (P2.cm + 1), hnx, G3, X2, (commit1 P2 e).1, o2, rfl, px4, q4, z4, hop, by show o2.length + P.cm ≤ P2.cm + 1; omega, by rw [hcm, hst, hco]; rfl⟩
        · rw [hb] at hco
          have hco : (commit1 P2 e).2 = [P2.toM { k := 12, en := ⟨e.c, e.n, .empty⟩, rp := (applyS P2.sv e).2 } (100 + e.c)] := hco
          simp only [push_cast, seval, hE.P, awrite, wpc_label, wpc_block, f0, f1, f4, hg4, hg5, n4, n5]
          refine (answer_at hE px4.so q4 (by rw [List.length_append]; omega) hen.1 ⟨_, _, rfl, hrd⟩).mono ?_
          rintro v h6 ⟨rfl, X6, px6, q6⟩
          simp only [push_cast, seval, hE.P, awrite, wpc_label, wpc_block, f0, f1, f4]
          refine ⟨P.op - (P2.cm + 1), hnx, G3, X6, (commit1 P2 e).1, o2 ++ (commit1 P2 e).2, rfl, px4.trans hS.wf px6, ?_, z4, hop, by rw [List.length_append]; show _ + P.cm ≤ P2.cm + 1; omega, by rw [hcm, hst, List.append_assoc]⟩
          rw [hco, ← List.append_assoc]
          exact q6
    · have hd : commit P2 k = (P2, []) := commit_done z2.bs (by omega)
      rw [hd] at hcm
      refine wdraw_calm (by rw [hE.P]; decide +kernel) ?_
      by_cases h1 : P2.cm < k
      · have hb1 : decide ((P2.cm : Int) < (k : Int)) = true := by simp; omega
        have hb2 : decide ((P2.cm : Int) < (P2.op : Int)) = false := by simp; omega
        simp only [push_cast, seval, hE.P, awrite, wpc_label, wpc_block, hr2, nr2, f0, f1, hb1, hb2]
        exact ⟨G2, X2, px, by rw [hcm, List.append_nil]; exact hQ0⟩
      · have hb1 : decide ((P2.cm : Int) < (k : Int)) = false := by simp; omega
        simp only [push_cast, seval, hE.P, awrite, wpc_label, wpc_block, hr2, nr2, f0, f1, hb1, kguard_undef]
        exact ⟨G2, X2, px, by rw [hcm, List.append_nil]; exact hQ0⟩
end
end Go.Proofs.YthdgobcpefcolaaGreatDoor
