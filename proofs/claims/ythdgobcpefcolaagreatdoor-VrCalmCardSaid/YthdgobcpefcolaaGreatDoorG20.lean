/- Chapter 25: sorting what was told. -/
/- Merged by a program of ours: U9 US U10. -/
import Derived.Test.YthdgobcpefcolaaGreatDoorG19
import Derived.Test.YthdgobcpefcolaaGreatDoorG15
import Derived.Test.YthdgobcpefcolaaGreatDoorG16
set_option maxRecDepth 10000
set_option linter.all false
set_option linter.unusedSimpArgs false
set_option linter.unusedVariables false
/- Chapter 25: the program's replica: prepare, commit. -/
namespace Go.Proofs.YthdgobcpefcolaaGreatDoor
open Go.Tm Vr
variable {E : Env} (hE : EOk E)
include hE
section
variable {G : Mem} {h : Heap} {X : Nat → Prop} (hS : SO E G h X) {P : PR} {out : List Mg} {r t : Nat} (hQ : QR E G h X P out r t)
include hS hQ
set_option maxHeartbeats 1000000 in
theorem committed_at (z : P.Sz) (ho : out.length ≤ 100) {m : Mg} {ms : List Value} (hm : MgR E G m ms) (hk : m.k = 4) : CallsTo E 56 [ptr r, .agg ms.toArray] h fun v h' => v = .tuple #[] ∧ ∃ G' X', PX E G h X G' h' X' ∧ QR E G' h' X' (normalM P m).1 (out ++ (normalM P m).2) r t := by
  have hm0 := hm
  obtain ⟨b1, d1, b2, d2, b3, d3, rfl, m1, m2, m3⟩ := hm.e
  have nb := hS.wf.nb0
  refine calls_of_runs (fn := Tryz.f56) (by rw [hE.P]; exact Tryz.func56) rfl (by rw [hE.known]; rfl) (by rw [Tryz.ntmps56]; exact Nat.le_of_ble_eq_true rfl) (by decide +kernel) (rs := []) rfl (wpc_runs _ _ _ _ ?_)
  simp only [push_cast, seval, hE.P, awrite, wpc_label, wpc_block, nb]
  have k0 := (KW.refl hS.wf).push (o := .cells (mgC m (.slice b1 m.log.length d1) (.slice b2 m.img.length d2) (.slice b3 0 d3)) 62 true)
  have p0 := PX.kw hS k0
  have q0 := hQ.ext (k0.ext hS.frz)
  have ge : (h.push (.cells (mgC m (.slice b1 m.log.length d1) (.slice b2 m.img.length d2) (.slice b3 0 d3)) 62 true)).get h.next = some (.cells (mgC m (.slice b1 m.log.length d1) (.slice b2 m.img.length d2) (.slice b3 0 d3)) 62 true) := by rw [get_push, if_pos rfl]
  refine gtm (motive := wdraw E _ _) [0, 3] fun t1 hf => ?_
  simp only [push_cast, seval, hE.P, awrite, wpc_label, wpc_block, List.mem_cons, List.not_mem_nil, or_false, forall_eq_or_imp, forall_eq] at hf
  obtain ⟨f0, f3⟩ := hf
  refine gheap (motive := fun H => wdraw E _ _ _ H) (fun H => PX E G h X G H X ∧ QR E G H X P out r t ∧ H.get h.next = some (.cells (mgC m (.slice b1 m.log.length d1) (.slice b2 m.img.length d2) (.slice b3 0 d3)) 62 true)) ⟨p0, q0, ge⟩ ?_
  clear p0 q0 ge k0
  rintro H ⟨p0, q0, ge⟩
  have q0' := q0
  obtain ⟨D, q⟩ := q0'
  have hr := q.hr
  have nr := p0.so.wf.nlt hr
  have ne := p0.so.wf.nlt ge
  have hn : 1 ≤ P.n ∧ P.n ≤ 1000 := ⟨by have := z.n; omega, by have := z.n; omega⟩
  have hvw : P.vw ≤ 1099511627776 := by have := z.vw; omega
  generalize hR : normalM P m = R
  unfold normalM at hR
  refine wdraw_calm (by rw [hE.P]; decide +kernel) ?_
  by_cases hst : P.st = 0
  · have hb : ((P.st : Int) != 0) = false := by simp [hst]
    rw [if_neg (by omega), if_neg (by omega)] at hR
    by_cases hv : m.vw < P.vw
    · have hb2 : decide ((m.vw : Int) < (P.vw : Int)) = true := by simp; omega
      rw [if_pos hv] at hR
      subst hR
      simp only [push_cast, seval, hE.P, awrite, wpc_label, wpc_block, f0, f3, hr, nr, ge, ne, hb, hb2]
      exact ⟨G, X, p0, by simpa using q0⟩
    · have hb2 : decide ((m.vw : Int) < (P.vw : Int)) = false := by simp; omega
      rw [if_neg hv] at hR
      simp only [push_cast, seval, hE.P, awrite, wpc_label, wpc_block, f0, f3, hr, nr, ge, ne, hb, hb2]
      refine wdraw_calm (by rw [hE.P]; decide +kernel) ?_
      by_cases hv2 : P.vw < m.vw
      · have hb3 : decide ((P.vw : Int) < (m.vw : Int)) = true := by simp; omega
        rw [if_pos hv2] at hR
        subst hR
        simp only [push_cast, seval, hE.P, awrite, wpc_label, wpc_block, f0, f3, hr, nr, ge, ne, hb3]
        refine wdraw_calm (by rw [hE.P]; decide +kernel) ?_
        simp only [push_cast, seval, hE.P, awrite, wpc_label, wpc_block, f0, f3, hr, nr, ge, ne, hb3]
        refine (ask_at hE p0.so q0 (by omega) (hm0.sub p0.sub) P.cm).mono ?_
        rintro v h6 ⟨rfl, X6, px6, q6⟩
        simp only [push_cast, seval, hE.P, awrite, wpc_label, wpc_block]
        exact ⟨G, X6, p0.trans hS.wf px6, q6⟩
      · have hb3 : decide ((P.vw : Int) < (m.vw : Int)) = false := by simp; omega
        rw [if_neg hv2] at hR
        simp only [push_cast, seval, hE.P, awrite, wpc_label, wpc_block, f0, f3, hr, nr, ge, ne, hb3]
        refine (leads_at hE p0.so q0 hn hvw).mono ?_
        intro v h5 hvh
        rw [hvh.1, hvh.2]
        clear hvh
        cases hp : P.prim
        · have hb4 : (P.st == 0 && false) = false := by simp
          rw [hp] at hR
          rw [if_neg (by simp), if_pos hk] at hR
          simp only [push_cast, seval, hE.P, awrite, wpc_label, wpc_block, f0, f3, hr, nr, ge, ne, hb4]
          refine wdraw_calm (by rw [hE.P]; decide +kernel) ?_
          by_cases hc : P.op < m.cm
          · have hb5 : decide ((P.op : Int) < (m.cm : Int)) = true := by simp; omega
            rw [if_pos hc] at hR
            subst hR
            simp only [push_cast, seval, hE.P, awrite, wpc_label, wpc_block, f0, f3, hr, nr, ge, ne, hb5]
            refine wdraw_calm (by rw [hE.P]; decide +kernel) ?_
            simp only [push_cast, seval, hE.P, awrite, wpc_label, wpc_block, f0, f3, hr, nr, ge, ne, hb5]
            refine (ask_at hE p0.so q0 (by omega) (hm0.sub p0.sub) P.op).mono ?_
            rintro v h6 ⟨rfl, X6, px6, q6⟩
            simp only [push_cast, seval, hE.P, awrite, wpc_label, wpc_block]
            refine ⟨G, X6, p0.trans hS.wf px6, ?_⟩
            have : m.vw = P.vw := by omega
            rw [this] at q6
            exact q6
          · have hb5 : decide ((P.op : Int) < (m.cm : Int)) = false := by simp; omega
            rw [if_neg hc] at hR
            subst hR
            simp only [push_cast, seval, hE.P, awrite, wpc_label, wpc_block, f0, f3, hr, nr, ge, ne, hb5]
            refine (upTo_at hE p0.so q0 z (by omega) m.cm).mono ?_
            rintro v h6 ⟨rfl, G6, X6, px6, q6⟩
            simp only [push_cast, seval, hE.P, awrite, wpc_label, wpc_block]
            exact ⟨G6, X6, p0.trans hS.wf px6, q6⟩
        · have hb4 : (P.st == 0 && true) = true := by simp [hst]
          rw [hp] at hR
          rw [if_pos rfl] at hR
          subst hR
          simp only [push_cast, seval, hE.P, awrite, wpc_label, wpc_block, f0, f3, hr, nr, ge, ne, hb4]
          exact ⟨G, X, p0, by simpa using q0⟩
  · have hb : ((P.st : Int) != 0) = true := by simp; omega
    rw [if_pos hst] at hR
    subst hR
    simp only [push_cast, seval, hE.P, awrite, wpc_label, wpc_block, f0, f3, hr, nr, ge, ne, hb, kguard_undef]
    exact ⟨G, X, p0, by simpa using q0⟩
set_option maxHeartbeats 1000000 in
theorem prepare_at (z : P.Sz) (ho : out.length ≤ 100) (hop : P.op < 1000000) {m : Mg} {ms : List Value} (hm : MgR E G m ms) (hk : m.k = 2) (hen : m.en.c ≤ 1000000 ∧ m.en.n ≤ 1000000) : CallsTo E 54 [ptr r, .agg ms.toArray] h fun v h' => v = .tuple #[] ∧ ∃ G' X', PX E G h X G' h' X' ∧ QR E G' h' X' (normalM P m).1 (out ++ (normalM P m).2) r t := by
  have hm0 := hm
  obtain ⟨b1, d1, b2, d2, b3, d3, rfl, m1, m2, m3⟩ := hm.e
  have nb := hS.wf.nb0
  refine calls_of_runs (fn := Tryz.f54) (by rw [hE.P]; exact Tryz.func54) rfl (by rw [hE.known]; rfl) (by rw [Tryz.ntmps54]; exact Nat.le_of_ble_eq_true rfl) (by decide +kernel) (rs := []) rfl (wpc_runs _ _ _ _ ?_)
  simp only [push_cast, seval, hE.P, awrite, wpc_label, wpc_block, nb]
  have k0 := (KW.refl hS.wf).push (o := .cells (mgC m (.slice b1 m.log.length d1) (.slice b2 m.img.length d2) (.slice b3 0 d3)) 62 true)
  have p0 := PX.kw hS k0
  have q0 := hQ.ext (k0.ext hS.frz)
  have ge : (h.push (.cells (mgC m (.slice b1 m.log.length d1) (.slice b2 m.img.length d2) (.slice b3 0 d3)) 62 true)).get h.next = some (.cells (mgC m (.slice b1 m.log.length d1) (.slice b2 m.img.length d2) (.slice b3 0 d3)) 62 true) := by rw [get_push, if_pos rfl]
  refine gtm (motive := wdraw E _ _) [0, 3] fun t1 hf => ?_
  simp only [push_cast, seval, hE.P, awrite, wpc_label, wpc_block, List.mem_cons, List.not_mem_nil, or_false, forall_eq_or_imp, forall_eq] at hf
  obtain ⟨f0, f3⟩ := hf
  refine gheap (motive := fun H => wdraw E _ _ _ H) (fun H => PX E G h X G H X ∧ QR E G H X P out r t ∧ H.get h.next = some (.cells (mgC m (.slice b1 m.log.length d1) (.slice b2 m.img.length d2) (.slice b3 0 d3)) 62 true)) ⟨p0, q0, ge⟩ ?_
  clear p0 q0 ge k0
  rintro H ⟨p0, q0, ge⟩
  have q0' := q0
  obtain ⟨⟨dc, vl, vt, vv, vo⟩, q⟩ := q0'
  have hr := q.hr
  have nr := p0.so.wf.nlt hr
  have ne := p0.so.wf.nlt ge
  have hn : 1 ≤ P.n ∧ P.n ≤ 1000 := ⟨by have := z.n; omega, by have := z.n; omega⟩
  have hvw : P.vw ≤ 1099511627776 := by have := z.vw; omega
  have hw : (Value.int .i64 (IntKind.i64.wrap ((P.op : Int) + 1))) = iv (P.op + 1) := iv_succ (by omega)
  have hw2 : IntKind.i64.wrap ((P.op : Int) + 1) = ((P.op + 1 : Nat) : Int) := by injection hw
  generalize hR : normalM P m = R
  unfold normalM at hR
  refine wdraw_calm (by rw [hE.P]; decide +kernel) ?_
  by_cases hst : P.st = 0
  · have hb : ((P.st : Int) != 0) = false := by simp [hst]
    rw [if_neg (by omega), if_neg (by omega)] at hR
    by_cases hv : m.vw < P.vw
    · have hb2 : decide ((m.vw : Int) < (P.vw : Int)) = true := by simp; omega
      rw [if_pos hv] at hR
      subst hR
      simp only [push_cast, seval, hE.P, awrite, wpc_label, wpc_block, f0, f3, hr, nr, ge, ne, hb, hb2]
      exact ⟨G, X, p0, by simpa using q0⟩
    · have hb2 : decide ((m.vw : Int) < (P.vw : Int)) = false := by simp; omega
      rw [if_neg hv] at hR
      simp only [push_cast, seval, hE.P, awrite, wpc_label, wpc_block, f0, f3, hr, nr, ge, ne, hb, hb2]
      refine wdraw_calm (by rw [hE.P]; decide +kernel) ?_
      by_cases hv2 : P.vw < m.vw
      · have hb3 : decide ((P.vw : Int) < (m.vw : Int)) = true := by simp; omega
        rw [if_pos hv2] at hR
        subst hR
        simp only [push_cast, seval, hE.P, awrite, wpc_label, wpc_block, f0, f3, hr, nr, ge, ne, hb3]
        refine wdraw_calm (by rw [hE.P]; decide +kernel) ?_
        simp only [push_cast, seval, hE.P, awrite, wpc_label, wpc_block, f0, f3, hr, nr, ge, ne, hb3]
        refine (ask_at hE p0.so q0 (by omega) (hm0.sub p0.sub) P.cm).mono ?_
        rintro v h6 ⟨rfl, X6, px6, q6⟩
        simp only [push_cast, seval, hE.P, awrite, wpc_label, wpc_block]
        exact ⟨G, X6, p0.trans hS.wf px6, q6⟩
      · have hb3 : decide ((P.vw : Int) < (m.vw : Int)) = false := by simp; omega
        rw [if_neg hv2] at hR
        simp only [push_cast, seval, hE.P, awrite, wpc_label, wpc_block, f0, f3, hr, nr, ge, ne, hb3]
        refine (leads_at hE p0.so q0 hn hvw).mono ?_
        intro v h5 hvh
        rw [hvh.1, hvh.2]
        clear hvh
        cases hp : P.prim
        · have hb4 : (P.st == 0 && false) = false := by simp
          rw [hp] at hR
          rw [if_neg (by simp), if_neg (by omega)] at hR
          simp only [push_cast, seval, hE.P, awrite, wpc_label, wpc_block, f0, f3, hr, nr, ge, ne, hb4]
          refine wdraw_calm (by rw [hE.P]; decide +kernel) ?_
          by_cases hc : P.op + 1 < m.op
          · have hb5 : decide (((P.op : Int) + 1) < (m.op : Int)) = true := by simp; omega
            rw [if_pos hc] at hR
            subst hR
            simp only [push_cast, seval, hE.P, awrite, wpc_label, wpc_block, f0, f3, hr, nr, ge, ne, hw2, hb5]
            refine wdraw_calm (by rw [hE.P]; decide +kernel) ?_
            simp only [push_cast, seval, hE.P, awrite, wpc_label, wpc_block, f0, f3, hr, nr, ge, ne, hb5]
            refine (ask_at hE p0.so q0 (by omega) (hm0.sub p0.sub) P.op).mono ?_
            rintro v h6 ⟨rfl, X6, px6, q6⟩
            simp only [push_cast, seval, hE.P, awrite, wpc_label, wpc_block]
            refine ⟨G, X6, p0.trans hS.wf px6, ?_⟩
            have : m.vw = P.vw := by omega
            rw [this] at q6
            exact q6
          · have hb5 : decide (((P.op : Int) + 1) < (m.op : Int)) = false := by simp; omega
            rw [if_neg hc] at hR
            simp only [push_cast, seval, hE.P, awrite, wpc_label, wpc_block, f0, f3, hr, nr, ge, ne, hw2, hb5]
            refine wdraw_calm (by rw [hE.P]; decide +kernel) ?_
            simp only [push_cast, seval, hE.P, awrite, wpc_label, wpc_block, f0, f3, hr, nr, ge, ne, hw2]
            have zc := z.cm
            have zb := z.bs
            have hpl : P.log.length ≤ P.op := by unfold PR.op; omega
            generalize hQQ : (if m.op = P.op + 1 then { P with log := P.log ++ [m.en] } else P) = Q at hR
            refine kif_cutN (fun tm' h' => ∃ X2, PX E G h X G h' X2 ∧ QR E G h' X2 Q out r t ∧ Q.Sz ∧ fget tm' 0 = ptr r ∧ fget tm' 3 = ptr h.next ∧ ¬ X2 h.next ∧ h'.get h.next = some (.cells (mgC m (.slice b1 m.log.length d1) (.slice b2 m.img.length d2) (.slice b3 0 d3)) 62 true)) ?_ ?_
            · rintro tm' h' ⟨X2, px2, q2, zQ, f0, f3, nx2, g2⟩
              have n2 := px2.so.wf.nlt g2
              simp only [push_cast, seval, hE.P, awrite, wpc_label, wpc_block, f0, f3, g2, n2]
              refine (upTo_at hE px2.so q2 zQ (by omega) m.cm).mono ?_
              rintro v h6 ⟨rfl, G6, X6, px6, q6⟩
              have g6 := px6.kx.get _ _ (fun hx => nx2 hx) g2
              have n6 := px6.so.wf.nlt g6
              have q6' := q6
              obtain ⟨D6, qq⟩ := q6'
              have hr6 := qq.hr
              have nr6 := px6.so.wf.nlt hr6
              simp only [push_cast, seval, hE.P, awrite, wpc_label, wpc_block, f0, f3]
              refine wdraw_calm (by rw [hE.P]; decide +kernel) ?_
              simp only [push_cast, seval, hE.P, awrite, wpc_label, wpc_block, f0, f3, hr6, nr6, g6, n6]
              have hcl := commit_len Q m.cm
              have hck := commitK_keep (Q.todo m.cm) Q
              refine (send_at hE px6.so q6 (by rw [List.length_append]; have := zQ.op; omega) (m := { k := 3, vw := (commit Q m.cm).1.vw, op := (commit Q m.cm).1.op }) ⟨_, _, _, rfl, Fz.nil, Fz.nil, Fz.nil⟩ m.fr).mono ?_
              rintro v h8 ⟨rfl, X8, px8, q8⟩
              simp only [push_cast, seval, hE.P, awrite, wpc_label, wpc_block]
              subst hR
              exact ⟨G6, X8, (px2.trans hS.wf px6).trans hS.wf px8, by rw [← List.append_assoc]; exact q8⟩
            · by_cases heq : m.op = P.op + 1
              · have hb6 : ((m.op : Int) == (P.op : Int) + 1) = true := by simp; omega
                rw [if_pos heq] at hQQ
                subst hQQ
                simp only [push_cast, seval, hE.P, awrite, wpc_label, wpc_block, f0, f3, hr, nr, ge, ne, hb6, hw2]
                obtain ⟨la, lc, hvl, _⟩ := q.hl.isSl
                simp only at hvl
                subst hvl
                have hX : ∀ b, b ∈ slB (.slice la P.log.length lc) → X b := fun b hb => q.hx b (by simp [hb])
                have hop' : PR.op { P with log := P.log ++ [m.en] } = P.op + 1 := by unfold PR.op; simp; omega
                have m1 : (r = h.next) = False := by simp; intro e; rw [e, ge] at hr; injection hr with hr; injection hr with _ hr; cases hr
                have m2 : (h.next = r) = False := by simp; intro e; rw [← e, ge] at hr; injection hr with hr; injection hr with _ hr; cases hr
                have e1 := p0.so.wf.ne hr
                have e2 := p0.so.wf.ne ge
                have w0 := p0.so.wf.b0
                refine gtm (motive := wdraw E _ _) [0, 3] fun t3 hf => ?_
                simp only [push_cast, seval, hE.P, awrite, wpc_label, wpc_block, List.mem_cons, List.not_mem_nil, or_false, forall_eq_or_imp, forall_eq, f0, f3] at hf
                obtain ⟨f0, f3⟩ := hf
                have px6 := p0.trans hS.wf (PX.put (o := .cells [iv P.me, iv P.n, .iface 46 (ptr t), iv P.vw, iv P.st, iv P.nm, .int .i64 ((P.op : Int) + 1), iv P.cm, iv P.bs, iv P.nc, .slice la P.log.length lc, vt, vv, .bool P.pA, .map (some dc), vo] 78 true) p0.so (q.hx r (by simp)) hr)
                have k56 : ∀ b o, b ≠ r → H.get b = some o → (H.put r (.cells [iv P.me, iv P.n, .iface 46 (ptr t), iv P.vw, iv P.st, iv P.nm, .int .i64 ((P.op : Int) + 1), iv P.cm, iv P.bs, iv P.nc, .slice la P.log.length lc, vt, vv, .bool P.pA, .map (some dc), vo] 78 true)).get b = some o := fun b o hb hg => by rw [get_put, if_neg (fun e => hb e.symm)]; exact hg
                have o6 := QR'.own1 hr k56 (fun c fx e => by injection e with _ e; cases e) q.hl
                have hr6 : (H.put r (.cells [iv P.me, iv P.n, .iface 46 (ptr t), iv P.vw, iv P.st, iv P.nm, .int .i64 ((P.op : Int) + 1), iv P.cm, iv P.bs, iv P.nc, .slice la P.log.length lc, vt, vv, .bool P.pA, .map (some dc), vo] 78 true)).get r = some (.cells [iv P.me, iv P.n, .iface 46 (ptr t), iv P.vw, iv P.st, iv P.nm, .int .i64 ((P.op : Int) + 1), iv P.cm, iv P.bs, iv P.nc, .slice la P.log.length lc, vt, vv, .bool P.pA, .map (some dc), vo] 78 true) := by rw [get_put, if_pos rfl]
                have he6 := k56 _ _ (fun e => by simp [e] at m2) ge
                refine wdraw_pairs [(4, 7)] (by rw [hE.P]; decide +kernel) (by rw [hE.P]; decide +kernel) (by rw [hE.P]; decide +kernel) ?_
                simp only [push_cast, seval, hE.P, awrite, wpc_label, wpc_block, f0, f3, hr, nr, ge, ne, m1, m2, e1, e2, w0]
                rw [bs36 rfl, kalloc_some]
                simp only [push_cast, seval, hE.P, awrite, wpc_label, wpc_block, f0, f3, hr, nr, ge, ne, m1, m2, e1, e2, w0]
                refine kwv_G1 (el36 hE.P) px6.so.wf (lo := 0) (Nat.zero_le _) o6 rfl rfl (by omega) (by omega) ?_
                intro v7 h7 a _
                obtain ⟨va, vc, rfl⟩ := a.sl
                have gk : ∀ b o, b ∉ slB (.slice la P.log.length lc) → (H.put r (.cells [iv P.me, iv P.n, .iface 46 (ptr t), iv P.vw, iv P.st, iv P.nm, .int .i64 ((P.op : Int) + 1), iv P.cm, iv P.bs, iv P.nc, .slice la P.log.length lc, vt, vv, .bool P.pA, .map (some dc), vo] 78 true)).get b = some o → h7.get b = some o := fun b o hn hb => a.get b o hb hn
                have hr7 := gk _ _ (o6.tag hr6 fun c fx e => by injection e with _ e; cases e) hr6
                have nr7 := a.wf.nlt hr7
                simp only [push_cast, seval, hE.P, awrite, wpc_label, wpc_block, f0, f3, hr7, nr7, hr, e1, veq_slice]
                have hX7 := PX.app px6.so a hX
                have px7 := px6.trans hS.wf hX7
                have px8 := px7.trans hS.wf (PX.put (o := .cells (qC { P with log := P.log ++ [m.en] } t dc (.slice va (P.log.length + 1) vc) vt vv vo) 78 true) px7.so (.inl (q.hx r (by simp))) hr7)
                have q8 : QR E G (h7.put r (.cells (qC { P with log := P.log ++ [m.en] } t dc (.slice va (P.log.length + 1) vc) vt vv vo) 78 true)) (fun b => X b ∨ b ∈ slB (.slice va (P.log.length + 1) vc)) { P with log := P.log ++ [m.en] } out r t := by
                  refine ⟨_, q.lg (vl' := .slice va (P.log.length + 1) vc) (P' := { P with log := P.log ++ [m.en] }) (Sub.refl _) (by rw [get_put, if_pos rfl]) (fun b o hb hn hg => by rw [get_put, if_neg (fun e => hb e.symm)]; exact gk b o hn (k56 b o hb hg)) ?_ rfl rfl rfl rfl (fun b hb => .inl hb) (fun b hb => .inr hb)⟩
                  rw [entsC_app, List.length_append]
                  have := a.own.at (h' := h7.put r (.cells (qC { P with log := P.log ++ [m.en] } t dc (.slice va (P.log.length + 1) vc) vt vv vo) 78 true)) (fun b o hb hg => by
                    rw [get_put, if_neg (fun e => ?_)]
                    · exact hg
                    · subst e
                      exact a.own.tag hr7 (fun c fx e => by injection e with _ e; cases e) hb)
                  simpa [entsC, entC] using this
                have he8 : (h7.put r (.cells (qC { P with log := P.log ++ [m.en] } t dc (.slice va (P.log.length + 1) vc) vt vv vo) 78 true)).get h.next = some (.cells (mgC m (.slice b1 m.log.length d1) (.slice b2 m.img.length d2) (.slice b3 0 d3)) 62 true) := by
                  rw [get_put, if_neg (fun e => by simp [e] at m1)]
                  exact gk _ _ (fun hb => by have := hS.lt _ (hX _ hb); omega) he6
                have hcast : ((P.op : Int) + 1) = ((PR.op { P with log := P.log ++ [m.en] } : Nat) : Int) := by rw [hop']; rfl
                rw [hcast]
                rw [get_put] at he8
                refine ⟨_, px8, q8, z.push hop hen, fun hx => ?_, he8⟩
                rcases hx with hx | hx
                · have := hS.lt _ hx; omega
                · rcases a.blk _ hx with h5 | h5
                  · have := hS.lt _ (hX _ h5); omega
                  · have := (px6.so.wf.live _ _ he6).2
                    omega
              · have hb6 : ((m.op : Int) == (P.op : Int) + 1) = false := by simp; omega
                rw [if_neg heq] at hQQ
                subst hQQ
                simp only [push_cast, seval, hE.P, awrite, wpc_label, wpc_block, f0, f3, hb6]
                exact ⟨X, p0, q0, z, fun hx => by have := hS.lt _ hx; omega, ge⟩
        · have hb4 : (P.st == 0 && true) = true := by simp [hst]
          rw [hp] at hR
          rw [if_pos rfl] at hR
          subst hR
          simp only [push_cast, seval, hE.P, awrite, wpc_label, wpc_block, f0, f3, hr, nr, ge, ne, hb4]
          exact ⟨G, X, p0, by simpa using q0⟩
  · have hb : ((P.st : Int) != 0) = true := by simp; omega
    rw [if_pos hst] at hR
    subst hR
    simp only [push_cast, seval, hE.P, awrite, wpc_label, wpc_block, f0, f3, hr, nr, ge, ne, hb, kguard_undef]
    exact ⟨G, X, p0, by simpa using q0⟩
end
end Go.Proofs.YthdgobcpefcolaaGreatDoor
/- Sorting by insertion, plain; cells of numbers. -/
namespace Vr
/-- Sorted up to i but that what is at j may be too small for its place. -/
def insI (L : List Nat) (i j : Nat) : Prop := ∀ a b, a < b → b ≤ i → b ≠ j → L.getD a 0 ≤ L.getD b 0
theorem getD_swap {L : List Nat} {j k : Nat} (hj : j < L.length) (hk : k < L.length) (x : Nat) : ((L.set j (L.getD k 0)).set k (L.getD j 0)).getD x 0 = if x = k then L.getD j 0 else if x = j then L.getD k 0 else L.getD x 0 := by
  simp only [List.getD_eq_getElem?_getD, List.getElem?_set]
  by_cases h1 : x = k
  · subst h1; simp [hk]
  · rw [if_neg (fun e => h1 e.symm), if_neg h1]
    by_cases h2 : x = j
    · subst h2; simp [hj]
    · rw [if_neg (fun e => h2 e.symm), if_neg h2]
theorem insI_swap {L : List Nat} {i j : Nat} (h : insI L i (j + 1)) (hj : j + 1 < L.length) (hi : i < L.length) (hji : j + 1 ≤ i) (hlt : L.getD (j + 1) 0 < L.getD j 0) : insI ((L.set (j + 1) (L.getD j 0)).set j (L.getD (j + 1) 0)) i j := by
  intro a b hab hbi hbj
  rw [getD_swap (j := j + 1) (k := j) hj (by omega), getD_swap (j := j + 1) (k := j) hj (by omega)]
  rw [if_neg hbj]
  by_cases e1 : b = j + 1
  · rw [if_pos e1]
    by_cases e2 : a = j
    · rw [if_pos e2]; omega
    · rw [if_neg e2, if_neg (show ¬ a = j + 1 by omega)]
      exact h a j (by omega) (by omega) (by omega)
  · rw [if_neg e1]
    by_cases e2 : a = j
    · rw [if_pos e2]
      exact h (j + 1) b (by omega) hbi e1
    · rw [if_neg e2]
      by_cases e3 : a = j + 1
      · rw [if_pos e3]
        exact h j b (by omega) hbi e1
      · rw [if_neg e3]
        exact h a b hab hbi e1
/-- Sorted up to i. -/
def srtI (L : List Nat) (i : Nat) : Prop := ∀ a b, a < b → b < i → L.getD a 0 ≤ L.getD b 0
theorem insI_start {L : List Nat} {i : Nat} (h : srtI L i) : insI L i i := fun a b hab hbi hne => h a b hab (by omega)
theorem insI_end {L : List Nat} {i j : Nat} (h : insI L i j) (hle : j = 0 ∨ L.getD (j - 1) 0 ≤ L.getD j 0) : srtI L (i + 1) := by
  intro a b hab hbi
  by_cases e : b = j
  · subst e
    rcases hle with h0 | hle
    · omega
    · by_cases e2 : a = b - 1
      · subst e2; exact hle
      · exact Nat.le_trans (h a (b - 1) (by omega) (by omega) (by omega)) hle
  · exact h a b hab (by omega) e
theorem swap_perm {L : List Nat} {j k : Nat} (hj : j < L.length) (hk : k < L.length) : ((L.set j (L.getD k 0)).set k (L.getD j 0)).Perm L := by
  have e1 : L.getD k 0 = L[k] := by simp [hk]
  have e2 : L.getD j 0 = L[j] := by simp [hj]
  rw [e1, e2]
  exact List.set_set_perm hj hk
/-- How many are at least k. -/
def cntGe (L : List Nat) (k : Nat) : Nat := L.countP fun x => decide (k ≤ x)
theorem cntGe_perm {L L' : List Nat} (h : L.Perm L') (k : Nat) : cntGe L k = cntGe L' k := h.countP_eq _
/-- Of a sorted list: the one at place n - f is at least k just where f are. -/
theorem cntGe_srt {L : List Nat} {f k : Nat} (hs : srtI L L.length) (hf : 1 ≤ f) (hfn : f ≤ L.length) : f ≤ cntGe L k ↔ k ≤ L.getD (L.length - f) 0 := by
  have hsp : cntGe L k = cntGe (L.take (L.length - f)) k + cntGe (L.drop (L.length - f)) k := by
    unfold cntGe
    rw [← List.countP_append, List.take_append_drop]
  have hlen : (L.drop (L.length - f)).length = f := by rw [List.length_drop]; omega
  constructor
  · intro h
    apply Classical.byContradiction
    intro hn
    have h1 : cntGe (L.take (L.length - f)) k = 0 := by
      unfold cntGe
      rw [List.countP_eq_zero]
      intro x hx
      obtain ⟨i, hi, rfl⟩ := List.mem_iff_getElem.1 hx
      rw [List.length_take] at hi
      have := hs i (L.length - f) (by omega) (by omega)
      simp only [List.getElem_take, decide_eq_true_eq]
      have e : L.getD i 0 = L[i] := by rw [List.getD_eq_getElem?_getD, List.getElem?_eq_getElem (by omega)]; rfl
      rw [e] at this
      omega
    have h2 : cntGe (L.drop (L.length - f)) k < f := by
      have hd := List.drop_eq_getElem_cons (l := L) (i := L.length - f) (by omega)
      have e : L.getD (L.length - f) 0 = L[L.length - f] := by rw [List.getD_eq_getElem?_getD, List.getElem?_eq_getElem (by omega)]; rfl
      unfold cntGe
      rw [hd, List.countP_cons_of_neg (by simp only [decide_eq_true_eq]; omega)]
      refine Nat.lt_of_le_of_lt List.countP_le_length ?_
      rw [List.length_drop]; omega
    omega
  · intro h
    have h2 : cntGe (L.drop (L.length - f)) k = f := by
      unfold cntGe
      rw [List.countP_eq_length.2, hlen]
      intro x hx
      obtain ⟨i, hi, rfl⟩ := List.mem_iff_getElem.1 hx
      rw [hlen] at hi
      simp only [List.getElem_drop, decide_eq_true_eq]
      have e : L.getD (L.length - f + i) 0 = L[L.length - f + i] := by rw [List.getD_eq_getElem?_getD, List.getElem?_eq_getElem (by omega)]; rfl
      rw [← e]
      by_cases h0 : i = 0
      · subst h0; simpa using h
      · exact Nat.le_trans h (hs _ _ (by omega) (by omega))
    omega
/-- What others told, as a list. -/
theorem toldN_cnt {P : PR} {k : Nat} (hk : 1 ≤ k) (hl : P.told.length = P.n) (hm : P.me < P.n) : toldN P k = cntGe (P.told.set P.me 0) k := by
  unfold toldN cntGe
  have h1 : (P.told.set P.me 0) = (List.range P.n).map fun i => if i = P.me then 0 else P.told.getD i 0 := by
    apply List.ext_getElem
    · simp [hl]
    · intro i h1 h2
      simp only [List.length_set] at h1
      simp only [List.getElem_set, List.getElem_map, List.getElem_range]
      by_cases e : i = P.me
      · simp [e]
      · rw [if_neg (fun e' => e e'.symm), if_neg e, List.getD_eq_getElem?_getD, List.getElem?_eq_getElem h1]; rfl
  rw [h1, List.countP_map, List.countP_eq_length_filter]
  congr 1
  apply List.filter_congr
  intro i hi
  simp only [Function.comp]
  by_cases e : i = P.me
  · simp [e]; omega
  · simp [e]
theorem bestK_eq {P : PR} {v : Nat} (hv : ∀ k, 1 ≤ k → (P.F ≤ toldN P k ↔ k ≤ v)) : ∀ (n k b : Nat), 1 ≤ k → bestK P n k b = if k ≤ v ∧ 0 < n then min v (k + n - 1) else b
  | 0, k, b, _ => by simp [bestK]
  | n + 1, k, b, hk => by
    rw [bestK, bestK_eq hv n (k + 1) _ (by omega)]
    by_cases h : k ≤ v
    · rw [if_pos (show k ≤ v ∧ 0 < n + 1 from ⟨h, by omega⟩), if_pos ((hv k hk).2 h)]
      by_cases h2 : k + 1 ≤ v ∧ 0 < n
      · rw [if_pos h2]; omega
      · rw [if_neg h2]; omega
    · rw [if_neg (show ¬ (k ≤ v ∧ 0 < n + 1) from fun x => h x.1), if_neg (show ¬ (k + 1 ≤ v ∧ 0 < n) from fun x => h (by omega)), if_neg (fun x => h ((hv k hk).1 x))]
theorem commit_min {P : PR} {k : Nat} : commit P (min k P.op) = commit P k ∨ P.op < P.cm := by
  by_cases h : P.op < P.cm
  · exact .inr h
  · left
    unfold commit
    congr 1
    unfold PR.todo
    by_cases h2 : k ≤ P.op
    · rw [Nat.min_eq_left h2]
    · rw [Nat.min_eq_right (by omega)]
      unfold PR.op at *
      rw [List.take_of_length_le (i := k - P.cm) (by simp; omega)]
      by_cases h3 : P.bs ≤ P.cm
      · rw [List.take_of_length_le (by simp; omega)]
      · rw [show P.cm - P.bs = 0 by omega, List.drop_zero]
        rw [List.take_of_length_le (by omega)]
/-- To commit what enough have told. -/
theorem commit_best {P : PR} {v : Nat} (hb : P.bs ≤ P.cm) (hc : P.cm ≤ P.op) (hv : ∀ k, 1 ≤ k → (P.F ≤ toldN P k ↔ k ≤ v)) : commit P (bestK P (P.op - P.cm) (P.cm + 1) 0) = commit P v := by
  rw [bestK_eq hv _ _ _ (by omega)]
  by_cases h : P.cm + 1 ≤ v ∧ 0 < P.op - P.cm
  · rw [if_pos h, show P.cm + 1 + (P.op - P.cm) - 1 = P.op by omega]
    rcases commit_min (P := P) (k := v) with h1 | h1
    · exact h1
    · omega
  · rw [if_neg h, commit_done hb (by omega), commit_done hb (by omega)]
end Vr
namespace Go.Tm
open Vr
/-- One block is another. -/
structure PB (E : Env) (h h' : Heap) (b : Nat) (o : AObj) : Prop where
  get : h'.get b = some o
  oth : ∀ j p, j ≠ b → h.get j = some p → h'.get j = some p
  next : h'.next = h.next
  wf : WF E h'
theorem PB.refl {E : Env} {h : Heap} {b : Nat} {o : AObj} (hW : WF E h) (hb : h.get b = some o) : PB E h h b o := ⟨hb, fun _ _ _ x => x, rfl, hW⟩
theorem PB.put {E : Env} {h h' : Heap} {b : Nat} {o o' : AObj} (a : PB E h h' b o) : PB E h (h'.put b o') b o' :=
  ⟨by rw [get_put, if_pos rfl], fun j p hj hg => by rw [get_put, if_neg (fun e => hj e.symm)]; exact a.oth j p hj hg, by simpa using a.next, a.wf.put a.get⟩
theorem kaindex {P : Program} {t : TypeId} {s : ByteArray} {k : IntKind} {i : Int} {d : Option Nat} {R : Cont} {tm : Tr Value} {h : Heap} (hu : P.underlying t = some .string) (h0 : 0 ≤ i) (hi : i.toNat < s.data.toList.length) (K : ∀ b : Nat, b < 256 → R (aput tm d (.int .u8 (b : Int))) h) : kpure (aindex P t (.string s) (.int k i)) d R tm h := by
  refine ⟨.int .u8 ((s.data.toList[i.toNat]).toNat : Int), ?_, K _ (UInt8.toNat_lt _)⟩
  unfold aindex
  rw [hu]
  simp only
  rw [if_pos h0, List.getElem?_eq_getElem hi]
theorem intsC_one : ∀ (L : List Nat), (intsC L).all Value.oneCell' = true
  | [] => rfl
  | x :: L => by
    have := intsC_one L
    unfold intsC at this ⊢
    rw [List.map_cons, List.all_cons, this]; rfl
theorem intsC_len (L : List Nat) : (intsC L).length = L.length := by simp [intsC]
theorem int_read {E : Env} {h : Heap} (hW : WF E h) {b i : Nat} {L : List Nat} {rest : List Value} {e : Nat} {fx : Bool} (hb : h.get b = some (.cells (intsC L ++ rest) e fx)) (hi : i < L.length) : acells E h ⟨b, i, none⟩ 1 = some [iv (L.getD i 0)] := by
  unfold acells
  simp only [hb]
  rw [if_neg (by have := hW.nlt hb; simpa using this), if_pos (by simp [intsC]; omega)]
  rw [List.drop_append_of_le_length (by simp [intsC]; omega), List.take_append_of_le_length (by simp [intsC]; omega)]
  unfold intsC
  rw [← List.map_drop, List.drop_eq_getElem_cons hi, List.getD_eq_getElem?_getD, List.getElem?_eq_getElem hi]
  rfl
theorem int_write {h : Heap} {b i x : Nat} {L : List Nat} {rest : List Value} {e : Nat} {fx : Bool} (hb : h.get b = some (.cells (intsC L ++ rest) e fx)) (hi : i < L.length) : awrite h ⟨b, i, none⟩ [iv x] = some (h.put b (.cells (intsC (L.set i x) ++ rest) e fx)) := by
  simp only [awrite, hb]
  rw [if_pos ⟨by simp [intsC]; omega, rfl⟩]
  congr 3
  unfold splice intsC
  simp only [List.length_singleton]
  rw [List.take_append_of_le_length (by simp; omega), List.drop_append_of_le_length (by simp; omega), List.set_eq_take_append_cons_drop, if_pos (by simpa using hi)]
  simp
end Go.Tm
namespace Go.Proofs.YthdgobcpefcolaaGreatDoor
open Go.Tm Vr
variable {E : Env} (hE : EOk E)
include hE
theorem isNaN_at {h : Heap} (a : Nat) : CallsTo E 131 [iv a] h fun v h' => v = .bool false ∧ h' = h := by
  refine calls_of_runs (fn := Tryz.f131) (by rw [hE.P]; exact Tryz.func131) rfl (by rw [hE.known]; rfl) (by rw [Tryz.ntmps131]; exact Nat.le_of_ble_eq_true rfl) (by decide +kernel) (rs := [.tmp 2]) rfl (wpc_runs _ _ _ _ ?_)
  have hb : ((a : Int) != (a : Int)) = false := by simp
  simp only [push_cast, seval, hE.P, wpc_label, wpc_block, hb]
theorem less_at {h : Heap} (a b : Nat) : CallsTo E 117 [iv a, iv b] h fun v h' => v = .bool (decide (a < b)) ∧ h' = h := by
  refine calls_of_runs (fn := Tryz.f117) (by rw [hE.P]; exact Tryz.func117) rfl (by rw [hE.known]; rfl) (by rw [Tryz.ntmps117]; exact Nat.le_of_ble_eq_true rfl) (by decide +kernel) (rs := [.tmp 4]) rfl (wpc_runs _ _ _ _ ?_)
  simp only [push_cast, seval, hE.P, wpc_label, wpc_block]
  refine (isNaN_at hE a).mono ?_
  rintro v h' ⟨rfl, rfl⟩
  simp only [push_cast, seval, hE.P, wpc_label, wpc_block, kguard_undef]
  congr 1
  exact decide_eq_decide.2 (by omega)
section
variable {h : Heap} (hW : WF E h)
include hW
set_option maxHeartbeats 1000000 in
theorem insertion_at {b c n : Nat} {L : List Nat} {rest : List Value} {fx : Bool} (hb : h.get b = some (.cells (intsC L ++ rest) 3 fx)) (hl : L.length = n) (hn : 1 ≤ n ∧ n ≤ 7) (hc : n ≤ c) :
    CallsTo E 111 [.slice (some ⟨b, 0, none⟩) n c, iv 0, iv n] h fun v h' => v = .tuple #[] ∧ ∃ L', L'.Perm L ∧ srtI L' L'.length ∧ PB E h h' b (.cells (intsC L' ++ rest) 3 fx) := by
  refine calls_of_runs (fn := Tryz.f111) (by rw [hE.P]; exact Tryz.func111) rfl (by rw [hE.known]; rfl) (by rw [Tryz.ntmps111]; exact Nat.le_of_ble_eq_true rfl) (by decide +kernel) (rs := []) rfl (wpc_runs _ _ _ _ ?_)
  simp only [push_cast, seval, hE.P, wpc_label, wpc_block]
  refine wpc_loop (fun k tm h2 => ∃ i L1, k = n - i ∧ 1 ≤ i ∧ i ≤ n ∧ L1.Perm L ∧ srtI L1 i ∧ PB E h h2 b (.cells (intsC L1 ++ rest) 3 fx) ∧ fget tm 0 = .slice (some ⟨b, 0, none⟩) n c ∧ fget tm 1 = iv 0 ∧ fget tm 2 = iv n ∧ fget tm 6 = iv i) (n - 1) ?_ ?_
  · simp only [push_cast, seval, hE.P, wpc_label, wpc_block]
    exact ⟨1, L, rfl, by omega, by omega, List.Perm.refl _, fun a b hab hb => by omega, PB.refl hW hb, rfl⟩
  · rintro k tm h2 ⟨i, L1, rfl, hi1, hin, hp, hs, hh2, f0, f1, f2, f6⟩
    simp only [push_cast, seval, hE.P, wpc_label, wpc_block, f0, f1, f2, f6]
    by_cases hlt : i < n
    · have hb1 : decide ((i : Int) < (n : Int)) = true := by simp; omega
      simp only [push_cast, seval, hE.P, wpc_label, wpc_block, f0, f1, f2, f6, hb1]
      refine wpc_loop (fun k tm h3 => ∃ j L2, k = j ∧ j ≤ i ∧ L2.Perm L ∧ insI L2 i j ∧ PB E h h3 b (.cells (intsC L2 ++ rest) 3 fx) ∧ fget tm 0 = .slice (some ⟨b, 0, none⟩) n c ∧ fget tm 1 = iv 0 ∧ fget tm 2 = iv n ∧ fget tm 6 = iv i ∧ fget tm 7 = iv j) i ?_ ?_
      · simp only [push_cast, seval, hE.P, wpc_label, wpc_block, f0, f1, f2, f6]
        exact ⟨i, L1, rfl, by omega, hp, insI_start hs, hh2, rfl⟩
      · rintro k tm h3 ⟨j, L2, rfl, hji, hp2, hs2, pb, f0, f1, f2, f6, f7⟩
        have hl2 : L2.length = n := by rw [hp2.length_eq]; exact hl
        have hg := pb.get
        have hW3 := pb.wf
        by_cases hj0 : k = 0
        · subst hj0
          refine wdraw_calm (by rw [hE.P]; decide +kernel) ?_
          simp only [push_cast, seval, hE.P, wpc_label, wpc_block, f0, f1, f2, f6, f7, kguard_undef]
          exact ⟨n - (i + 1), by omega, i + 1, L2, rfl, by omega, by omega, hp2, insI_end hs2 (.inl rfl), pb, iv_succ (by omega)⟩
        · obtain ⟨j, hjk⟩ : ∃ j, k = j + 1 := ⟨k - 1, by omega⟩
          have hb2 : decide ((0 : Int) < (k : Int)) = true := by simp; omega
          have hw : (Value.int .i64 (IntKind.i64.wrap ((k : Int) - 1))) = .int .i64 ((j : Nat) : Int) := by rw [wr64 (by omega) (by omega)]; congr 1; omega
          have r1 := int_read hW3 hg (i := k) (by omega)
          have r0 := int_read hW3 hg (i := j) (by omega)
          refine wdraw_calm (by rw [hE.P]; decide +kernel) ?_
          simp only [push_cast, seval, hE.P, wpc_label, wpc_block, f0, f1, f2, f6, f7, hb2]
          rw [ia27 rfl (by omega) (by omega), kpure_some]
          simp only [push_cast, seval, hE.P, wpc_label, wpc_block, f0, f1, f2, f6, f7, Nat.zero_add, ↓r1, Int.toNat_natCast]
          rw [hw, ia27 rfl (by omega) (by omega), kpure_some]
          simp only [push_cast, seval, hE.P, wpc_label, wpc_block, f0, f1, f2, f6, f7, Nat.zero_add, ↓r0, Int.toNat_natCast]
          refine (less_at hE _ _).mono ?_
          intro v h5 hvh
          rw [hvh.1, hvh.2]
          clear hvh
          by_cases hls : L2.getD k 0 < L2.getD j 0
          · have hb3 : decide (L2.getD k 0 < L2.getD j 0) = true := by simpa using hls
            simp only [push_cast, seval, hE.P, wpc_label, wpc_block, f0, f1, f2, f6, f7, hb3]
            refine wdraw_calm (by rw [hE.P]; decide +kernel) ?_
            have w1 := int_write hg (i := k) (x := L2.getD j 0) (by omega)
            have pb1 := pb.put (o' := .cells (intsC (L2.set k (L2.getD j 0)) ++ rest) 3 fx)
            have w2 := int_write pb1.get (i := j) (x := L2.getD k 0) (by simp; omega)
            have pb2 := pb1.put (o' := .cells (intsC ((L2.set k (L2.getD j 0)).set j (L2.getD k 0)) ++ rest) 3 fx)
            simp only [push_cast, seval, hE.P, wpc_label, wpc_block, f0, f1, f2, f6, f7]
            rw [hw, ia27 rfl (by omega) (by omega), kpure_some]
            simp only [push_cast, seval, hE.P, wpc_label, wpc_block, f0, f1, f2, f6, f7, Nat.zero_add, ↓r0, Int.toNat_natCast]
            rw [ia27 rfl (by omega) (by omega), kpure_some]
            simp only [push_cast, seval, hE.P, wpc_label, wpc_block, f0, f1, f2, f6, f7, Nat.zero_add, ↓r1, Int.toNat_natCast]
            rw [ia27 rfl (by omega) (by omega), kpure_some]
            simp only [push_cast, seval, hE.P, wpc_label, wpc_block, f0, f1, f2, f6, f7, Nat.zero_add, ↓w1, kwr_some, Int.toNat_natCast]
            rw [ia27 rfl (by omega) (by omega), kpure_some]
            simp only [push_cast, seval, hE.P, wpc_label, wpc_block, f0, f1, f2, f6, f7, Nat.zero_add, ↓w2, kwr_some, Int.toNat_natCast]
            rw [hw]
            refine ⟨j, by omega, j, _, rfl, by omega, (swap_perm (by omega) (by omega)).trans hp2, ?_, pb.put, rfl⟩
            subst hjk
            exact insI_swap hs2 (by omega) (by omega) hji hls
          · have hb3 : decide (L2.getD k 0 < L2.getD j 0) = false := by simpa using hls
            simp only [push_cast, seval, hE.P, wpc_label, wpc_block, f0, f1, f2, f6, f7, hb3]
            exact ⟨n - (i + 1), by omega, i + 1, L2, rfl, by omega, by omega, hp2, insI_end hs2 (.inr (by rw [show k - 1 = j by omega]; omega)), pb, iv_succ (by omega)⟩
    · have hb1 : decide ((i : Int) < (n : Int)) = false := by simp; omega
      have he : i = n := by omega
      subst he
      simp only [push_cast, seval, hE.P, wpc_label, wpc_block, f0, f1, f2, f6, hb1]
      have hl1 : L1.length = i := by rw [hp.length_eq]; exact hl
      exact ⟨L1, hp, by rw [hl1]; exact hs, hh2⟩
theorem len_at {n : Nat} (hn : n = 3 ∨ n = 5 ∨ n = 7) : CallsTo E 107 [.int .u64 n] h fun v h' => (∃ k : Int, v = .int .i64 k) ∧ h' = h := by
  have key : CallsTo E 121 [.int .u64 n] h fun v h' => (∃ k : Int, v = .int .i64 k) ∧ h' = h := by
    refine calls_of_runs (fn := Tryz.f121) (by rw [hE.P]; exact Tryz.func121) rfl (by rw [hE.known]; rfl) (by rw [Tryz.ntmps121]; exact Nat.le_of_ble_eq_true rfl) (by decide +kernel) (rs := [.tmp 2]) rfl (wpc_runs _ _ _ _ ?_)
    have h1 : decide ((4294967296 : Int) ≤ (n : Int)) = false := by simp; omega
    have h2 : decide ((65536 : Int) ≤ (n : Int)) = false := by simp; omega
    have h3 : decide ((256 : Int) ≤ (n : Int)) = false := by simp; omega
    simp only [push_cast, seval, hE.P, wpc_label, wpc_block, h1, h2, h3]
    refine kaindex Tryz.underlying9 ?_ ?_ ?_
    · rcases hn with rfl | rfl | rfl <;> decide +kernel
    · rcases hn with rfl | rfl | rfl <;> decide +kernel
    · intro b hb
      simp only [push_cast, seval, hE.P, wpc_label, wpc_block]
      exact ⟨_, rfl⟩
  refine calls_of_runs (fn := Tryz.f107) (by rw [hE.P]; exact Tryz.func107) rfl (by rw [hE.known]; rfl) (by rw [Tryz.ntmps107]; exact Nat.le_of_ble_eq_true rfl) (by decide +kernel) (rs := [.tmp 2]) rfl (wpc_runs _ _ _ _ ?_)
  simp only [push_cast, seval, hE.P, wpc_label, wpc_block]
  refine key.mono ?_
  rintro v h' ⟨⟨k, rfl⟩, rfl⟩
  simp only [push_cast, seval, hE.P, wpc_label, wpc_block]
  exact ⟨_, rfl⟩
theorem sort_at {b c n : Nat} {L : List Nat} {rest : List Value} {fx : Bool} (hb : h.get b = some (.cells (intsC L ++ rest) 3 fx)) (hl : L.length = n) (hn : n = 3 ∨ n = 5 ∨ n = 7) (hc : n ≤ c) :
    CallsTo E 90 [.slice (some ⟨b, 0, none⟩) n c] h fun v h' => v = .tuple #[] ∧ ∃ L', L'.Perm L ∧ srtI L' L'.length ∧ PB E h h' b (.cells (intsC L' ++ rest) 3 fx) := by
  have key : ∀ k : Int, CallsTo E 106 [.slice (some ⟨b, 0, none⟩) n c, iv 0, iv n, .int .i64 k] h fun v h' => v = .tuple #[] ∧ ∃ L', L'.Perm L ∧ srtI L' L'.length ∧ PB E h h' b (.cells (intsC L' ++ rest) 3 fx) := by
    intro k
    refine calls_of_runs (fn := Tryz.f106) (by rw [hE.P]; exact Tryz.func106) rfl (by rw [hE.known]; rfl) (by rw [Tryz.ntmps106]; exact Nat.le_of_ble_eq_true rfl) (by decide +kernel) (rs := []) rfl (wpc_runs _ _ _ _ ?_)
    simp only [push_cast, seval, hE.P, wpc_label, wpc_block]
    refine wpc_loop (fun k' tm h2 => h2 = h ∧ fget tm 0 = .slice (some ⟨b, 0, none⟩) n c ∧ fget tm 1 = iv 0 ∧ fget tm 2 = iv n) 0 ?_ ?_
    · simp only [push_cast, seval, hE.P, wpc_label, wpc_block]
    · rintro k' tm h2 ⟨rfl, f0, f1, f2⟩
      have hw : IntKind.i64.wrap ((n : Int) - 0) = (n : Int) := by rw [Int.sub_zero]; exact wr64 (by omega) (by omega)
      have h1 : decide ((n : Int) ≤ 12) = true := by simp; omega
      simp only [push_cast, seval, hE.P, wpc_label, wpc_block, f0, f1, f2, hw, h1]
      refine (insertion_at hE hW hb hl (by omega) hc).mono ?_
      rintro v h' ⟨rfl, H⟩
      simp only [push_cast, seval, hE.P, wpc_label, wpc_block, f0, f1, f2]
      exact H
  refine calls_of_runs (fn := Tryz.f90) (by rw [hE.P]; exact Tryz.func90) rfl (by rw [hE.known]; rfl) (by rw [Tryz.ntmps90]; exact Nat.le_of_ble_eq_true rfl) (by decide +kernel) (rs := []) rfl (wpc_runs _ _ _ _ ?_)
  have hw : IntKind.u64.wrap (n : Int) = (n : Int) := wru64 (by omega) (by omega)
  simp only [push_cast, seval, hE.P, wpc_label, wpc_block, hw]
  refine (len_at hE hW hn).mono ?_
  rintro v h' ⟨⟨k, rfl⟩, rfl⟩
  simp only [push_cast, seval, hE.P, wpc_label, wpc_block]
  refine (key k).mono ?_
  rintro v h' ⟨rfl, H⟩
  simp only [push_cast, seval, hE.P, wpc_label, wpc_block]
  exact H
end
end Go.Proofs.YthdgobcpefcolaaGreatDoor
