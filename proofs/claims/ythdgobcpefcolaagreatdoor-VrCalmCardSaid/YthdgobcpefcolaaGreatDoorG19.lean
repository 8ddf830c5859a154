/- Chapter 25: the program's replica: a request. -/
import Derived.Test.YthdgobcpefcolaaGreatDoorG18
set_option maxRecDepth 10000
set_option linter.all false
set_option linter.unusedSimpArgs false
set_option linter.unusedVariables false
namespace Go.Proofs.YthdgobcpefcolaaGreatDoor
open Go.Tm Vr
def reqP (e x : Ent) : Bool := x.c == e.c && decide (e.n ≤ x.n)
variable {E : Env} (hE : EOk E)
include hE
theorem reqF_at {h : Heap} (hW : WF E h) {b : Nat} {e x : Ent} (hb : h.get b = some (.cells [iv e.c, iv e.n, .string e.t] 56 true)) : CallsTo E 85 [.agg (entC x).toArray, ptr b] h fun v h' => v = .bool (reqP e x) ∧ KW E h h' := by
  have nb := hW.nlt hb
  have e1 := hW.ne hb
  have e2 := hW.ne' hb
  have w0 := hW.b0
  unfold entC
  refine calls_of_runs (fn := Tryz.f85) (by rw [hE.P]; exact Tryz.func85) rfl (by rw [hE.known]; rfl) (by rw [Tryz.ntmps85]; exact Nat.le_of_ble_eq_true rfl) (by decide +kernel) (rs := [.tmp 3]) rfl (wpc_runs _ _ _ _ ?_)
  simp only [push_cast, seval, hE.P, awrite, wpc_label, wpc_block, hb, nb, e1, e2, w0]
  by_cases hc : x.c = e.c
  · have h1 : ((x.c : Int) == (e.c : Int)) = true := by simp [hc]
    simp only [push_cast, seval, hE.P, awrite, wpc_label, wpc_block, hb, nb, e1, e2, w0, h1]
    refine ⟨?_, (by repeat (first | assumption | exact KW.refl hW | apply KW.push | refine KW.put ?_ (by first | omega | (simp <;> omega)) (by first | omega | (simp <;> omega)) hW))⟩
    unfold reqP
    simp only [hc, BEq.rfl, Bool.true_and]
    congr 1
    exact decide_eq_decide.2 (by omega)
  · have h1 : ((x.c : Int) == (e.c : Int)) = false := by simp; omega
    simp only [push_cast, seval, hE.P, awrite, wpc_label, wpc_block, hb, nb, e1, e2, w0, h1, kguard_undef]
    refine ⟨?_, (by repeat (first | assumption | exact KW.refl hW | apply KW.push | refine KW.put ?_ (by first | omega | (simp <;> omega)) (by first | omega | (simp <;> omega)) hW))⟩
    unfold reqP
    simp [hc]
theorem indexF_at {G : Mem} {h : Heap} (hW : WF E h) (hG : Frz E G h) {b : Nat} {e : Ent} (hb : h.get b = some (.cells [iv e.c, iv e.n, .string e.t] 56 true)) {l : List Ent} {v : Value} (hv : Sl E G 3 l.length (entsC l) v) (hl : l.length ≤ 1000000) :
    CallsTo E 105 [v, .func (.func 85) #[] #[ptr b]] h fun v h' => (∃ k : Int, v = .int .i64 k ∧ decide (0 ≤ k) = l.any (reqP e)) ∧ KW E h h' := by
  obtain ⟨a, c, rfl, hc1, hc2⟩ := hv.slice
  refine calls_of_runs (fn := Tryz.f105) (by rw [hE.P]; exact Tryz.func105) rfl (by rw [hE.known]; rfl) (by rw [Tryz.ntmps105]; exact Nat.le_of_ble_eq_true rfl) (by decide +kernel) (rs := [.tmp 4]) rfl (wpc_runs _ _ _ _ ?_)
  simp only [push_cast, seval, hE.P, awrite, wpc_label, wpc_block]
  refine wpc_loop (fun k tm h2 => ∃ i, k = l.length - i ∧ i ≤ l.length ∧ fget tm 0 = .slice a l.length c ∧ fget tm 1 = .func (.func 85) #[] #[ptr b] ∧ fget tm 7 = iv l.length ∧ fget tm 8 = iv i ∧ l.any (reqP e) = (l.drop i).any (reqP e) ∧ KW E h h2) l.length ?_ ?_
  · simp only [push_cast, seval, hE.P, awrite, wpc_label, wpc_block]
    exact ⟨0, by omega, by omega, rfl, rfl, KW.refl hW⟩
  · rintro k tm h2 ⟨i, rfl, hi, f0, f1, f7, f8, hq, kw⟩
    simp only [push_cast, seval, hE.P, awrite, wpc_label, wpc_block, f0, f1, f7, f8]
    by_cases hlt : i < l.length
    · have hb1 : decide ((i : Int) < (l.length : Int)) = true := by simp; omega
      obtain ⟨b', d, e1, hsp, hac⟩ := hv.elem (hG.keep kw.k) hlt
      injection e1 with e1 e2 e3
      subst e1; subst e3
      rw [entsC_at (List.getElem?_eq_getElem hlt)] at hac
      have hdr := List.drop_eq_getElem_cons hlt
      have hac' := hac
      unfold entC at hac
      simp only [push_cast, seval, hE.P, awrite, wpc_label, wpc_block, f0, f1, f7, f8, hb1]
      rw [ia36 hsp (by omega) (by omega), kpure_some]
      simp only [push_cast, seval, hE.P, awrite, wpc_label, wpc_block, f0, f1, f7, f8, ↓hac, Int.toNat_natCast]
      have hrf := reqF_at hE kw.w (kw.k.get _ _ hb) (x := l[i])
      unfold entC at hrf
      refine hrf.mono ?_
      rintro v h3 ⟨rfl, kw3⟩
      cases hp : reqP e l[i]
      · simp only [push_cast, seval, hE.P, awrite, wpc_label, wpc_block, f0, f1, f7, f8]
        exact ⟨l.length - (i + 1), by omega, i + 1, rfl, by omega, iv_succ (by omega), by rw [hq, hdr, List.any_cons, hp, Bool.false_or], kw.trans kw3⟩
      · simp only [push_cast, seval, hE.P, awrite, wpc_label, wpc_block, f0, f1, f7, f8]
        exact ⟨⟨_, rfl, by rw [hq, hdr, List.any_cons, hp]; simp⟩, kw.trans kw3⟩
    · have hb1 : decide ((i : Int) < (l.length : Int)) = false := by simp; omega
      have he : i = l.length := by omega
      subst he
      rw [List.drop_length] at hq
      simp only [push_cast, seval, hE.P, awrite, wpc_label, wpc_block, f0, f1, f7, f8, hb1]
      exact ⟨⟨_, rfl, by rw [hq]; rfl⟩, kw⟩
theorem contains_at {G : Mem} {h : Heap} (hW : WF E h) (hG : Frz E G h) {b : Nat} {e : Ent} (hb : h.get b = some (.cells [iv e.c, iv e.n, .string e.t] 56 true)) {l : List Ent} {v : Value} (hv : Sl E G 3 l.length (entsC l) v) (hl : l.length ≤ 1000000) :
    CallsTo E 84 [v, .func (.func 85) #[] #[ptr b]] h fun v h' => v = .bool (l.any (reqP e)) ∧ KW E h h' := by
  refine calls_of_runs (fn := Tryz.f84) (by rw [hE.P]; exact Tryz.func84) rfl (by rw [hE.known]; rfl) (by rw [Tryz.ntmps84]; exact Nat.le_of_ble_eq_true rfl) (by decide +kernel) (rs := [.tmp 4]) rfl (wpc_runs _ _ _ _ ?_)
  simp only [push_cast, seval, hE.P, awrite, wpc_label, wpc_block]
  refine (indexF_at hE hW hG hb hv hl).mono ?_
  rintro v h2 ⟨⟨k, rfl, hk⟩, kw⟩
  simp only [push_cast, seval, hE.P, awrite, wpc_label, wpc_block]
  rw [hk]
  exact ⟨rfl, kw⟩
section
variable {G : Mem} {h : Heap} {X : Nat → Prop} (hS : SO E G h X) {P : PR} {out : List Mg} {r t : Nat} (hQ : QR E G h X P out r t)
include hS hQ
set_option maxHeartbeats 1000000 in
theorem request_at (z : P.Sz) (ho : out.length ≤ 100) (hop : P.op < 1000000) {m : Mg} {ms : List Value} (hm : MgR E G m ms) (hc : m.en.c ≤ 1000000 ∧ m.en.n ≤ 1000000) : CallsTo E 53 [ptr r, .agg ms.toArray] h fun v h' => v = .tuple #[] ∧ ∃ X', PX E G h X G h' X' ∧ QR E G h' X' (request P m).1 (out ++ (request P m).2) r t := by
  obtain ⟨b1, d1, b2, d2, b3, d3, rfl, m1, m2, m3⟩ := hm.e
  have nb := hS.wf.nb0
  have w0 := hS.wf.b1
  refine calls_of_runs (fn := Tryz.f53) (by rw [hE.P]; exact Tryz.func53) rfl (by rw [hE.known]; rfl) (by rw [Tryz.ntmps53]; exact Nat.le_of_ble_eq_true rfl) (by decide +kernel) (rs := []) rfl (wpc_runs _ _ _ _ ?_)
  simp only [push_cast, seval, hE.P, awrite, wpc_label, wpc_block, nb, w0]
  have k0 := (KW.refl hS.wf).push (o := .cells (mgC m (.slice b1 m.log.length d1) (.slice b2 m.img.length d2) (.slice b3 0 d3)) 62 true)
  have p0 := PX.kw hS k0
  have q0 := hQ.ext (k0.ext hS.frz)
  have ge : (h.push (.cells (mgC m (.slice b1 m.log.length d1) (.slice b2 m.img.length d2) (.slice b3 0 d3)) 62 true)).get h.next = some (.cells (mgC m (.slice b1 m.log.length d1) (.slice b2 m.img.length d2) (.slice b3 0 d3)) 62 true) := by rw [get_push, if_pos rfl]
  refine gheap (motive := fun H => CallsTo E 66 [ptr r] H _) (fun H => PX E G h X G H X ∧ QR E G H X P out r t ∧ H.get h.next = some (.cells (mgC m (.slice b1 m.log.length d1) (.slice b2 m.img.length d2) (.slice b3 0 d3)) 62 true)) ⟨p0, q0, ge⟩ ?_
  clear p0 q0 ge k0
  rintro H ⟨p0, q0, ge⟩
  refine (leads_at hE p0.so q0 ⟨by have := z.n; omega, by have := z.n; omega⟩ (by have := z.vw; omega)).mono ?_
  intro v h5 hvh
  have hv5 := hvh.1
  have hh5 := hvh.2
  rw [hv5, hh5]
  clear hvh hv5 hh5
  have ne := p0.so.wf.nlt ge
  have e1 := p0.so.wf.ne ge
  have e2 := p0.so.wf.ne' ge
  have w0 := p0.so.wf.b0
  have w1 := p0.so.wf.b1
  generalize hR : request P m = R
  unfold request at hR
  by_cases hl : P.st = 0 ∧ P.prim = true
  · have hb : (P.st == 0 && P.prim) = true := by simp [hl]
    rw [if_neg (by simp [hl])] at hR
    simp only [push_cast, seval, hE.P, awrite, wpc_label, wpc_block, hb, ge, ne, e1, e2, w0, w1]
    have k1 := (KW.refl p0.so.wf).push (o := .cells [iv m.en.c, iv m.en.n, .string m.en.t] 56 true)
    have p1 := p0.trans hS.wf (PX.kw p0.so k1)
    have q1 := q0.ext (k1.ext p0.so.frz)
    have hm1 := k1.k.get _ _ ge
    have he1 : (H.push (.cells [iv m.en.c, iv m.en.n, .string m.en.t] 56 true)).get H.next = some (.cells [iv m.en.c, iv m.en.n, .string m.en.t] 56 true) := by rw [get_push, if_pos rfl]
    have hlt : h.next < H.next := (p0.so.wf.live _ _ ge).2
    refine gheap (motive := fun H => wdraw E _ _ _ H) (fun H2 => PX E G h X G H2 X ∧ QR E G H2 X P out r t ∧ H2.get h.next = some (.cells (mgC m (.slice b1 m.log.length d1) (.slice b2 m.img.length d2) (.slice b3 0 d3)) 62 true) ∧ H2.get H.next = some (.cells [iv m.en.c, iv m.en.n, .string m.en.t] 56 true)) ⟨p1, q1, hm1, he1⟩ ?_
    clear p1 q1 hm1 he1 k1 p0 q0 ge e1 e2 w0 w1 ne
    rintro H2 ⟨p1, q1, hm1, he1⟩
    have n1 := p1.so.wf.nlt hm1
    have n2 := p1.so.wf.nlt he1
    refine gtm (motive := wdraw E _ _) [0, 3, 4] fun t1 hf => ?_
    simp only [push_cast, seval, hE.P, awrite, wpc_label, wpc_block, List.mem_cons, List.not_mem_nil, or_false, forall_eq_or_imp, forall_eq] at hf
    obtain ⟨f0, f3, f4⟩ := hf
    have q1' := q1
    obtain ⟨D, q⟩ := q1'
    have hr := q.hr
    have nr := p1.so.wf.nlt hr
    obtain ⟨ss, t1', t2'⟩ := q.ht
    refine wdraw_two [(3, [0]), (5, [0])] [6, 10, 11] [(10, [])] [(0, (13, [0])), (1, (14, [1, 0])), (2, (15, [2, 0, 1])), (3, (16, [3, 0, 1, 2])), (4, (17, [4])), (5, (18, [5, 4])), (6, (19, [6, 0, 1, 2, 3, 4, 5])), (7, (12, [7, 0, 1, 2, 3, 4, 5, 6])), (8, (20, [8, 0, 1, 2, 3, 4, 5, 6, 7])), (9, (21, [9, 0, 1, 2, 3, 4, 5, 6, 7])), (10, (5, [10])), (12, (6, [12, 0, 1, 2, 3, 4, 5, 6, 7, 8, 9, 10, 11]))] [0, 1, 2, 3, 4, 5, 6, 7, 8, 9, 10, 11, 12] (by rw [hE.P]; decide +kernel) (by rw [hE.P]; decide +kernel) (by rw [hE.P]; decide +kernel) (by rw [hE.P]; decide +kernel) (by rw [hE.P]; decide +kernel) (by decide +kernel) rfl ?_
    simp only [push_cast, seval, hE.P, awrite, wpc_label, wpc_block, hr, nr, hm1, he1, n1, n2, f0, f3, f4]
    rw [kinv_iface (ame_last hE)]
    refine (toyLast_at hE p1.so t1' t2' m.en.c (by have := z.tab; have := z.cm; have := z.op; omega)).mono ?_
    intro v h3 hvh
    obtain ⟨kw3, rr, hrr, hv⟩ := hvh
    rw [hv]
    obtain ⟨sd, rfl, hsd⟩ := hrr
    obtain ⟨ra, rb, rfl, _, _⟩ := hsd.slice
    have hr3 := kw3.k.get _ _ hr
    have hm3 := kw3.k.get _ _ hm1
    have he3 := kw3.k.get _ _ he1
    simp only [push_cast, seval, hE.P, awrite, wpc_label, wpc_block, hr, nr, hm1, he1, n1, n2, f0, f3, f4]
    have hr0 : r < H2.next := (p1.so.wf.live _ _ hr).2
    have ht0 : t < H2.next := (p1.so.wf.live _ _ t1').2
    have he0 : H.next < H2.next := (p1.so.wf.live _ _ he1).2
    have sr := hsd.1.sc kw3.w (p1.so.frz.keep kw3.k)
    have sr' : Go.Tm.sc (h3.next + 1) (.slice ra 0 rb) = true := by
      cases ra with
      | none => rfl
      | some x => have := sc_slice sr x rfl; simp [Go.Tm.sc]; omega
    refine ⟨⟨⟨kw3.k.next, Nat.le_succ _⟩, ?_, ?_, ?_, ?_⟩, ?_⟩
    · simp only [push_cast, seval, hE.P, awrite, wpc_label, wpc_block, hr, nr, he1, n2, f0, f4, rdOk, veq_int, veq_str]
      simp [veq]
    · simp only [push_cast, seval, hE.P, awrite, wpc_label, wpc_block, hr, nr, he1, n2, f0, f4, faOk, Op.operands, ops_invoke, Go.Tm.sc, scA, scL]
      exact ⟨decide_eq_true ht0, fun _ x => x.elim, by simp, sr'⟩
    · simp only [push_cast, seval, hE.P, awrite, wpc_label, wpc_block, hr, nr, he1, n2, f0, f4, aOk]
      rfl
    · simp only [push_cast, seval, hE.P, awrite, wpc_label, wpc_block, hr, nr, he1, n2, f0, f4, dOk]
      exact ⟨scQ_pt 0 (by omega) hr0, scQ_pt 0 (by omega) hr0, scQ_pt 0 (by omega) hr0, scQ_pt 0 (by omega) ht0, scQ_pt 0 (by omega) he0, rfl, scQ_tup5 (scQ_sl 7 (by decide) sr), scQ_tup5 (scQ_sl 7 (by decide) sr), scQ_agg5 (scQ_sl 7 (by decide) sr), rfl, live_one (k := 10) (by decide) (Nat.le_refl _) (Nat.lt_succ_self _), rfl⟩
    · have k4 := kw3.push (o := .cells [iv ((lastOf P.sv.tab m.en.c).getD ⟨0, 0, ⟨0, 0⟩⟩).c, iv ((lastOf P.sv.tab m.en.c).getD ⟨0, 0, ⟨0, 0⟩⟩).n, iv ((lastOf P.sv.tab m.en.c).getD ⟨0, 0, ⟨0, 0⟩⟩).r.e, iv ((lastOf P.sv.tab m.en.c).getD ⟨0, 0, ⟨0, 0⟩⟩).r.n, .slice ra 0 rb] 121 true)
      have p4 := p1.trans hS.wf (PX.kw p1.so k4)
      have q4 := q1.ext (k4.ext p1.so.frz)
      have he4 := k4.k.get _ _ he1
      have hl4 : (h3.push (.cells [iv ((lastOf P.sv.tab m.en.c).getD ⟨0, 0, ⟨0, 0⟩⟩).c, iv ((lastOf P.sv.tab m.en.c).getD ⟨0, 0, ⟨0, 0⟩⟩).n, iv ((lastOf P.sv.tab m.en.c).getD ⟨0, 0, ⟨0, 0⟩⟩).r.e, iv ((lastOf P.sv.tab m.en.c).getD ⟨0, 0, ⟨0, 0⟩⟩).r.n, .slice ra 0 rb] 121 true)).get h3.next = some (.cells [iv ((lastOf P.sv.tab m.en.c).getD ⟨0, 0, ⟨0, 0⟩⟩).c, iv ((lastOf P.sv.tab m.en.c).getD ⟨0, 0, ⟨0, 0⟩⟩).n, iv ((lastOf P.sv.tab m.en.c).getD ⟨0, 0, ⟨0, 0⟩⟩).r.e, iv ((lastOf P.sv.tab m.en.c).getD ⟨0, 0, ⟨0, 0⟩⟩).r.n, .slice ra 0 rb] 121 true) := by rw [get_push, if_pos rfl]
      have hmid : h3.next = h3.next := rfl
      refine gheap (motive := fun H => kguard _ _ _ _ _ H) (fun H2 => PX E G h X G H2 X ∧ QR E G H2 X P out r t ∧ H2.get H.next = some (.cells [iv m.en.c, iv m.en.n, .string m.en.t] 56 true) ∧ H2.get h3.next = some (.cells [iv ((lastOf P.sv.tab m.en.c).getD ⟨0, 0, ⟨0, 0⟩⟩).c, iv ((lastOf P.sv.tab m.en.c).getD ⟨0, 0, ⟨0, 0⟩⟩).n, iv ((lastOf P.sv.tab m.en.c).getD ⟨0, 0, ⟨0, 0⟩⟩).r.e, iv ((lastOf P.sv.tab m.en.c).getD ⟨0, 0, ⟨0, 0⟩⟩).r.n, .slice ra 0 rb] 121 true)) ⟨p4, q4, he4, hl4⟩ ?_
      clear p4 q4 he4 hl4
      rintro H4 ⟨p4, q4, he4, hl4⟩
      have n4 := p4.so.wf.nlt he4
      have n5 := p4.so.wf.nlt hl4
      rcases hv : lastOf P.sv.tab m.en.c with _ | x
      · simp only [hv, Option.isSome_none] at hR ⊢
        simp only [push_cast, seval, hE.P, awrite, wpc_label, wpc_block, f0, f4, kguard_undef, he4, n4]
        have q4' := q4
        obtain ⟨⟨dc, vl, vt, vv, vo⟩, q⟩ := q4'
        have hr := q.hr
        have nr := p4.so.wf.nlt hr
        obtain ⟨G1, hs1, hsub1, hf1, hn1⟩ := q.hl.addF p4.so.wf p4.so.frz
        have hz1 : Fz E G1 3 P.log.length (entsC P.log) vl := q.hl.fz p4.so.wf hs1
        have zb := z.bs
        have zc := z.cm
        have zo := z.op
        have hkl : P.cm - P.bs ≤ P.log.length := by unfold PR.op at zc; omega
        have hpl : P.log.length ≤ P.op := by unfold PR.op; omega
        obtain ⟨ya, yc, hy, hys⟩ := hz1.from (P := Tryz.prog) (t := 36) Tryz.underlying36 sz56 (entsC_len _) hkl
        rw [entsC_drop, ← List.length_drop] at hys
        have hw : (Value.int .i64 (IntKind.i64.wrap ((P.cm : Int) - (P.bs : Int)))) = .int .i64 ((P.cm - P.bs : Nat) : Int) := iv_sub (by omega) zb
        refine gtm (motive := wdraw E _ _) [0, 4] fun t2 hf => ?_
        simp only [push_cast, seval, hE.P, awrite, wpc_label, wpc_block, List.mem_cons, List.not_mem_nil, or_false, forall_eq_or_imp, forall_eq, f0, f4] at hf
        obtain ⟨f0, f4⟩ := hf
        refine wdraw_calm (by rw [hE.P]; decide +kernel) ?_
        simp only [push_cast, seval, hE.P, awrite, wpc_label, wpc_block, f0, f4, hr, nr]
        rw [hw, hy, kpure_some]
        simp only [push_cast, seval, hE.P, awrite, wpc_label, wpc_block, f0, f4, hr, nr]
        rw [← List.length_drop]
        refine (contains_at hE p4.so.wf hf1 he4 hys (by rw [List.length_drop]; omega)).mono ?_
        rintro v h5 ⟨rfl, kw5⟩
        have p5 := p4.trans hS.wf (PX.kw p4.so kw5)
        have q5 := q4.ext (kw5.ext p4.so.frz)
        have he5 := kw5.k.get _ _ he4
        cases hany : (P.log.drop (P.cm - P.bs)).any (reqP m.en)
        · have hR : ({ P with log := P.log ++ [m.en] }, PR.allM { P with log := P.log ++ [m.en] } { k := 2, vw := P.vw, op := PR.op { P with log := P.log ++ [m.en] }, cm := P.cm, en := m.en }) = R := by
            rw [← hR, if_neg]
            intro hc
            have : (P.log.drop (P.cm - P.bs)).any (reqP m.en) = true := hc
            rw [hany] at this; cases this
          subst hR
          have q5' := q.keep (Sub.refl _) kw5.k
          have hr5 := q5'.hr
          have nr5 := p5.so.wf.nlt hr5
          have n5 := p5.so.wf.nlt he5
          have hw : (Value.int .i64 (IntKind.i64.wrap ((P.op : Int) + 1))) = iv (P.op + 1) := iv_succ (by omega)
          have m1 : (r = H.next) = False := by simp; intro e; rw [e, he5] at hr5; injection hr5 with hr5; injection hr5 with _ hr5; cases hr5
          have m2 : (H.next = r) = False := by simp; intro e; rw [← e, he5] at hr5; injection hr5 with hr5; injection hr5 with _ hr5; cases hr5
          have e1 := p5.so.wf.ne hr5
          have e2 := p5.so.wf.ne he5
          have w0 := p5.so.wf.b0
          simp only [push_cast, seval, hE.P, awrite, wpc_label, wpc_block, f0, f4, hr5, nr5, hw, he5, n5, m1, m2, e1, e2, w0]
          refine wdraw_pairs [(4, 6)] (by rw [hE.P]; decide +kernel) (by rw [hE.P]; decide +kernel) (by rw [hE.P]; decide +kernel) ?_
          simp only [push_cast, seval, hE.P, awrite, wpc_label, wpc_block, f0, f4, hr5, nr5, hw, he5, n5, m1, m2, e1, e2, w0]
          obtain ⟨la, lc, hvl, _⟩ := q5'.hl.isSl
          simp only at hvl
          subst hvl
          have hX : ∀ b, b ∈ slB (.slice la P.log.length lc) → X b := fun b hb => q5'.hx b (by simp [hb])
          have px6 := p5.trans hS.wf (PX.put (o := .cells [iv P.me, iv P.n, .iface 46 (ptr t), iv P.vw, iv P.st, iv P.nm, iv (P.op + 1), iv P.cm, iv P.bs, iv P.nc, .slice la P.log.length lc, vt, vv, .bool P.pA, .map (some dc), vo] 78 true) p5.so (q5'.hx r (by simp)) hr5)
          have k56 : ∀ b o, b ≠ r → h5.get b = some o → (h5.put r (.cells [iv P.me, iv P.n, .iface 46 (ptr t), iv P.vw, iv P.st, iv P.nm, iv (P.op + 1), iv P.cm, iv P.bs, iv P.nc, .slice la P.log.length lc, vt, vv, .bool P.pA, .map (some dc), vo] 78 true)).get b = some o := fun b o hb hg => by rw [get_put, if_neg (fun e => hb e.symm)]; exact hg
          have o6 := QR'.own1 hr5 k56 (fun c fx e => by injection e with _ e; cases e) q5'.hl
          have hr6 : (h5.put r (.cells [iv P.me, iv P.n, .iface 46 (ptr t), iv P.vw, iv P.st, iv P.nm, iv (P.op + 1), iv P.cm, iv P.bs, iv P.nc, .slice la P.log.length lc, vt, vv, .bool P.pA, .map (some dc), vo] 78 true)).get r = some (.cells [iv P.me, iv P.n, .iface 46 (ptr t), iv P.vw, iv P.st, iv P.nm, iv (P.op + 1), iv P.cm, iv P.bs, iv P.nc, .slice la P.log.length lc, vt, vv, .bool P.pA, .map (some dc), vo] 78 true) := by rw [get_put, if_pos rfl]
          have he6 := k56 _ _ (fun e => by simp [e] at m2) he5
          rw [bs36 rfl, kalloc_some]
          simp only [push_cast, seval, hE.P, awrite, wpc_label, wpc_block, f0, f4, hr5, nr5, hw, he5, n5, m1, m2, e1, e2, w0]
          refine kwv_G1 (el36 hE.P) px6.so.wf (lo := 0) (Nat.zero_le _) o6 rfl rfl (by omega) (by omega) ?_
          intro v7 h7 a _
          obtain ⟨va, vc, rfl⟩ := a.sl
          have gk : ∀ b o, b ∉ slB (.slice la P.log.length lc) → (h5.put r (.cells [iv P.me, iv P.n, .iface 46 (ptr t), iv P.vw, iv P.st, iv P.nm, iv (P.op + 1), iv P.cm, iv P.bs, iv P.nc, .slice la P.log.length lc, vt, vv, .bool P.pA, .map (some dc), vo] 78 true)).get b = some o → h7.get b = some o := fun b o hn hb => a.get b o hb hn
          have hr7 := gk _ _ (o6.tag hr6 fun c fx e => by injection e with _ e; cases e) hr6
          have nr7 := a.wf.nlt hr7
          have f3' : (h5.next = r) = False := by simpa using e1
          simp only [push_cast, seval, hE.P, awrite, wpc_label, wpc_block, f0, f4, hr7, nr7, hr5, e1, veq_slice]
          have hop' : PR.op { P with log := P.log ++ [m.en] } = P.op + 1 := by unfold PR.op; simp; omega
          have hX7 := PX.app px6.so a hX
          have px7 := px6.trans hS.wf hX7
          have px8 := px7.trans hS.wf (PX.put (o := .cells (qC { P with log := P.log ++ [m.en] } t dc (.slice va (P.log.length + 1) vc) vt vv vo) 78 true) px7.so (.inl (q5'.hx r (by simp))) hr7)
          have q8 : QR E G (h7.put r (.cells (qC { P with log := P.log ++ [m.en] } t dc (.slice va (P.log.length + 1) vc) vt vv vo) 78 true)) (fun b => X b ∨ b ∈ slB (.slice va (P.log.length + 1) vc)) { P with log := P.log ++ [m.en] } out r t := by
            refine ⟨_, q5'.lg (vl' := .slice va (P.log.length + 1) vc) (P' := { P with log := P.log ++ [m.en] }) (Sub.refl _) (by rw [get_put, if_pos rfl]) (fun b o hb hn hg => by rw [get_put, if_neg (fun e => hb e.symm)]; exact gk b o hn (k56 b o hb hg)) ?_ rfl rfl rfl rfl (fun b hb => .inl hb) (fun b hb => .inr hb)⟩
            rw [entsC_app, List.length_append]
            have := a.own.at (h' := h7.put r (.cells (qC { P with log := P.log ++ [m.en] } t dc (.slice va (P.log.length + 1) vc) vt vv vo) 78 true)) (fun b o hb hg => by
              rw [get_put, if_neg (fun e => ?_)]
              · exact hg
              · subst e
                exact a.own.tag hr7 (fun c fx e => by injection e with _ e; cases e) hb)
            simpa [entsC, entC] using this
          have he8 : (h7.put r (.cells (qC { P with log := P.log ++ [m.en] } t dc (.slice va (P.log.length + 1) vc) vt vv vo) 78 true)).get H.next = some (.cells [iv m.en.c, iv m.en.n, .string m.en.t] 56 true) := by
            rw [get_put, if_neg (fun e => by simp [e] at m1)]
            exact gk _ _ (fun hb => by have := hS.lt _ (hX _ hb); omega) he6
          rw [← hop']
          refine gtm (motive := wdraw E _ _) [0, 4] fun t3 hf => ?_
          simp only [push_cast, seval, hE.P, awrite, wpc_label, wpc_block, List.mem_cons, List.not_mem_nil, or_false, forall_eq_or_imp, forall_eq, f0, f4] at hf
          obtain ⟨f0, f4⟩ := hf
          refine gheap (motive := fun H => wdraw E _ _ _ H) (fun H2 => PX E G h X G H2 (fun b => X b ∨ b ∈ slB (.slice va (P.log.length + 1) vc)) ∧ QR E G H2 (fun b => X b ∨ b ∈ slB (.slice va (P.log.length + 1) vc)) { P with log := P.log ++ [m.en] } out r t ∧ H2.get H.next = some (.cells [iv m.en.c, iv m.en.n, .string m.en.t] 56 true)) ⟨px8, q8, he8⟩ ?_
          clear px8 q8 he8 px7 hX7 a
          rintro H9 ⟨px9, q9, he9⟩
          have q9' := q9
          obtain ⟨D9, qq⟩ := q9'
          have hr9 := qq.hr
          have nr9 := px9.so.wf.nlt hr9
          have n9 := px9.so.wf.nlt he9
          refine wdraw_calm (by rw [hE.P]; decide +kernel) ?_
          simp only [push_cast, seval, hE.P, awrite, wpc_label, wpc_block, f0, f4, hr9, nr9, he9, n9]
          refine (all_at hE px9.so q9 (by have := z.n; show P.n ≤ 1000; omega) (by omega) (m := { k := 2, vw := P.vw, op := PR.op { P with log := P.log ++ [m.en] }, cm := P.cm, en := m.en }) ⟨_, _, _, rfl, Fz.nil, Fz.nil, Fz.nil⟩).mono ?_
          rintro v ha ⟨rfl, X6, px6, q6⟩
          simp only [push_cast, seval, hE.P, awrite, wpc_label, wpc_block, f0, f4]
          exact ⟨X6, px9.trans hS.wf px6, q6⟩
        · have hR : (P, []) = R := by rw [← hR, if_pos]; exact hany
          subst hR
          simp only [push_cast, seval, hE.P, awrite, wpc_label, wpc_block, f0, f4]
          exact ⟨X, p5, by simpa using q5⟩
      · simp only [hv, Option.isSome_some, Option.getD_some] at hR hl4 ⊢
        simp only [push_cast, seval, hE.P, awrite, wpc_label, wpc_block, f0, f4, he4, n4, hl4, n5]
        by_cases hle : m.en.n ≤ x.n
        · have hb : decide ((m.en.n : Int) ≤ (x.n : Int)) = true := by simp; omega
          simp only [push_cast, seval, hE.P, awrite, wpc_label, wpc_block, f0, f4, he4, n4, hl4, n5, hb]
          by_cases heq : m.en.n = x.n
          · have hb : ((m.en.n : Int) == (x.n : Int)) = true := by simp [heq]
            rw [if_neg (by omega), if_pos heq] at hR
            subst hR
            simp only [push_cast, seval, hE.P, awrite, wpc_label, wpc_block, f0, f4, he4, n4, hl4, n5, hb]
            refine (answer_at hE p4.so q4 (by omega) hc.1 ⟨_, _, rfl, hsd⟩).mono ?_
            rintro v h6 ⟨rfl, X6, px6, q6⟩
            simp only [push_cast, seval, hE.P, awrite, wpc_label, wpc_block, f0, f4]
            exact ⟨X6, p4.trans hS.wf px6, q6⟩
          · have hb : ((m.en.n : Int) == (x.n : Int)) = false := by simp; omega
            rw [if_pos (by omega)] at hR
            subst hR
            simp only [push_cast, seval, hE.P, awrite, wpc_label, wpc_block, f0, f4, he4, n4, hl4, n5, hb]
            exact ⟨X, p4, by simpa using q4⟩
        · have hb : decide ((m.en.n : Int) ≤ (x.n : Int)) = false := by simp; omega
          rw [if_neg (by omega), if_neg (by omega)] at hR
          simp only [push_cast, seval, hE.P, awrite, wpc_label, wpc_block, f0, f4, he4, n4, hl4, n5, hb]
          have q4' := q4
          obtain ⟨⟨dc, vl, vt, vv, vo⟩, q⟩ := q4'
          have hr := q.hr
          have nr := p4.so.wf.nlt hr
          obtain ⟨G1, hs1, hsub1, hf1, hn1⟩ := q.hl.addF p4.so.wf p4.so.frz
          have hz1 : Fz E G1 3 P.log.length (entsC P.log) vl := q.hl.fz p4.so.wf hs1
          have zb := z.bs
          have zc := z.cm
          have zo := z.op
          have hkl : P.cm - P.bs ≤ P.log.length := by unfold PR.op at zc; omega
          have hpl : P.log.length ≤ P.op := by unfold PR.op; omega
          obtain ⟨ya, yc, hy, hys⟩ := hz1.from (P := Tryz.prog) (t := 36) Tryz.underlying36 sz56 (entsC_len _) hkl
          rw [entsC_drop, ← List.length_drop] at hys
          have hw : (Value.int .i64 (IntKind.i64.wrap ((P.cm : Int) - (P.bs : Int)))) = .int .i64 ((P.cm - P.bs : Nat) : Int) := iv_sub (by omega) zb
          refine gtm (motive := wdraw E _ _) [0, 4] fun t2 hf => ?_
          simp only [push_cast, seval, hE.P, awrite, wpc_label, wpc_block, List.mem_cons, List.not_mem_nil, or_false, forall_eq_or_imp, forall_eq, f0, f4] at hf
          obtain ⟨f0, f4⟩ := hf
          refine wdraw_calm (by rw [hE.P]; decide +kernel) ?_
          simp only [push_cast, seval, hE.P, awrite, wpc_label, wpc_block, f0, f4, hr, nr]
          rw [hw, hy, kpure_some]
          simp only [push_cast, seval, hE.P, awrite, wpc_label, wpc_block, f0, f4, hr, nr]
          rw [← List.length_drop]
          refine (contains_at hE p4.so.wf hf1 he4 hys (by rw [List.length_drop]; omega)).mono ?_
          rintro v h5 ⟨rfl, kw5⟩
          have p5 := p4.trans hS.wf (PX.kw p4.so kw5)
          have q5 := q4.ext (kw5.ext p4.so.frz)
          have he5 := kw5.k.get _ _ he4
          cases hany : (P.log.drop (P.cm - P.bs)).any (reqP m.en)
          · have hR : ({ P with log := P.log ++ [m.en] }, PR.allM { P with log := P.log ++ [m.en] } { k := 2, vw := P.vw, op := PR.op { P with log := P.log ++ [m.en] }, cm := P.cm, en := m.en }) = R := by
              rw [← hR, if_neg]
              intro hc
              have : (P.log.drop (P.cm - P.bs)).any (reqP m.en) = true := hc
              rw [hany] at this; cases this
            subst hR
            have q5' := q.keep (Sub.refl _) kw5.k
            have hr5 := q5'.hr
            have nr5 := p5.so.wf.nlt hr5
            have n5 := p5.so.wf.nlt he5
            have hw : (Value.int .i64 (IntKind.i64.wrap ((P.op : Int) + 1))) = iv (P.op + 1) := iv_succ (by omega)
            have m1 : (r = H.next) = False := by simp; intro e; rw [e, he5] at hr5; injection hr5 with hr5; injection hr5 with _ hr5; cases hr5
            have m2 : (H.next = r) = False := by simp; intro e; rw [← e, he5] at hr5; injection hr5 with hr5; injection hr5 with _ hr5; cases hr5
            have e1 := p5.so.wf.ne hr5
            have e2 := p5.so.wf.ne he5
            have w0 := p5.so.wf.b0
            simp only [push_cast, seval, hE.P, awrite, wpc_label, wpc_block, f0, f4, hr5, nr5, hw, he5, n5, m1, m2, e1, e2, w0]
            refine wdraw_pairs [(4, 6)] (by rw [hE.P]; decide +kernel) (by rw [hE.P]; decide +kernel) (by rw [hE.P]; decide +kernel) ?_
            simp only [push_cast, seval, hE.P, awrite, wpc_label, wpc_block, f0, f4, hr5, nr5, hw, he5, n5, m1, m2, e1, e2, w0]
            obtain ⟨la, lc, hvl, _⟩ := q5'.hl.isSl
            simp only at hvl
            subst hvl
            have hX : ∀ b, b ∈ slB (.slice la P.log.length lc) → X b := fun b hb => q5'.hx b (by simp [hb])
            have px6 := p5.trans hS.wf (PX.put (o := .cells [iv P.me, iv P.n, .iface 46 (ptr t), iv P.vw, iv P.st, iv P.nm, iv (P.op + 1), iv P.cm, iv P.bs, iv P.nc, .slice la P.log.length lc, vt, vv, .bool P.pA, .map (some dc), vo] 78 true) p5.so (q5'.hx r (by simp)) hr5)
            have k56 : ∀ b o, b ≠ r → h5.get b = some o → (h5.put r (.cells [iv P.me, iv P.n, .iface 46 (ptr t), iv P.vw, iv P.st, iv P.nm, iv (P.op + 1), iv P.cm, iv P.bs, iv P.nc, .slice la P.log.length lc, vt, vv, .bool P.pA, .map (some dc), vo] 78 true)).get b = some o := fun b o hb hg => by rw [get_put, if_neg (fun e => hb e.symm)]; exact hg
            have o6 := QR'.own1 hr5 k56 (fun c fx e => by injection e with _ e; cases e) q5'.hl
            have hr6 : (h5.put r (.cells [iv P.me, iv P.n, .iface 46 (ptr t), iv P.vw, iv P.st, iv P.nm, iv (P.op + 1), iv P.cm, iv P.bs, iv P.nc, .slice la P.log.length lc, vt, vv, .bool P.pA, .map (some dc), vo] 78 true)).get r = some (.cells [iv P.me, iv P.n, .iface 46 (ptr t), iv P.vw, iv P.st, iv P.nm, iv (P.op + 1), iv P.cm, iv P.bs, iv P.nc, .slice la P.log.length lc, vt, vv, .bool P.pA, .map (some dc), vo] 78 true) := by rw [get_put, if_pos rfl]
            have he6 := k56 _ _ (fun e => by simp [e] at m2) he5
            rw [bs36 rfl, kalloc_some]
            simp only [push_cast, seval, hE.P, awrite, wpc_label, wpc_block, f0, f4, hr5, nr5, hw, he5, n5, m1, m2, e1, e2, w0]
            refine kwv_G1 (el36 hE.P) px6.so.wf (lo := 0) (Nat.zero_le _) o6 rfl rfl (by omega) (by omega) ?_
            intro v7 h7 a _
            obtain ⟨va, vc, rfl⟩ := a.sl
            have gk : ∀ b o, b ∉ slB (.slice la P.log.length lc) → (h5.put r (.cells [iv P.me, iv P.n, .iface 46 (ptr t), iv P.vw, iv P.st, iv P.nm, iv (P.op + 1), iv P.cm, iv P.bs, iv P.nc, .slice la P.log.length lc, vt, vv, .bool P.pA, .map (some dc), vo] 78 true)).get b = some o → h7.get b = some o := fun b o hn hb => a.get b o hb hn
            have hr7 := gk _ _ (o6.tag hr6 fun c fx e => by injection e with _ e; cases e) hr6
            have nr7 := a.wf.nlt hr7
            have f3' : (h5.next = r) = False := by simpa using e1
            simp only [push_cast, seval, hE.P, awrite, wpc_label, wpc_block, f0, f4, hr7, nr7, hr5, e1, veq_slice]
            have hop' : PR.op { P with log := P.log ++ [m.en] } = P.op + 1 := by unfold PR.op; simp; omega
            have hX7 := PX.app px6.so a hX
            have px7 := px6.trans hS.wf hX7
            have px8 := px7.trans hS.wf (PX.put (o := .cells (qC { P with log := P.log ++ [m.en] } t dc (.slice va (P.log.length + 1) vc) vt vv vo) 78 true) px7.so (.inl (q5'.hx r (by simp))) hr7)
            have q8 : QR E G (h7.put r (.cells (qC { P with log := P.log ++ [m.en] } t dc (.slice va (P.log.length + 1) vc) vt vv vo) 78 true)) (fun b => X b ∨ b ∈ slB (.slice va (P.log.length + 1) vc)) { P with log := P.log ++ [m.en] } out r t := by
              refine ⟨_, q5'.lg (vl' := .slice va (P.log.length + 1) vc) (P' := { P with log := P.log ++ [m.en] }) (Sub.refl _) (by rw [get_put, if_pos rfl]) (fun b o hb hn hg => by rw [get_put, if_neg (fun e => hb e.symm)]; exact gk b o hn (k56 b o hb hg)) ?_ rfl rfl rfl rfl (fun b hb => .inl hb) (fun b hb => .inr hb)⟩
              rw [entsC_app, List.length_append]
              have := a.own.at (h' := h7.put r (.cells (qC { P with log := P.log ++ [m.en] } t dc (.slice va (P.log.length + 1) vc) vt vv vo) 78 true)) (fun b o hb hg => by
                rw [get_put, if_neg (fun e => ?_)]
                · exact hg
                · subst e
                  exact a.own.tag hr7 (fun c fx e => by injection e with _ e; cases e) hb)
              simpa [entsC, entC] using this
            have he8 : (h7.put r (.cells (qC { P with log := P.log ++ [m.en] } t dc (.slice va (P.log.length + 1) vc) vt vv vo) 78 true)).get H.next = some (.cells [iv m.en.c, iv m.en.n, .string m.en.t] 56 true) := by
              rw [get_put, if_neg (fun e => by simp [e] at m1)]
              exact gk _ _ (fun hb => by have := hS.lt _ (hX _ hb); omega) he6
            rw [← hop']
            refine gtm (motive := wdraw E _ _) [0, 4] fun t3 hf => ?_
            simp only [push_cast, seval, hE.P, awrite, wpc_label, wpc_block, List.mem_cons, List.not_mem_nil, or_false, forall_eq_or_imp, forall_eq, f0, f4] at hf
            obtain ⟨f0, f4⟩ := hf
            refine gheap (motive := fun H => wdraw E _ _ _ H) (fun H2 => PX E G h X G H2 (fun b => X b ∨ b ∈ slB (.slice va (P.log.length + 1) vc)) ∧ QR E G H2 (fun b => X b ∨ b ∈ slB (.slice va (P.log.length + 1) vc)) { P with log := P.log ++ [m.en] } out r t ∧ H2.get H.next = some (.cells [iv m.en.c, iv m.en.n, .string m.en.t] 56 true)) ⟨px8, q8, he8⟩ ?_
            clear px8 q8 he8 px7 hX7 a
            rintro H9 ⟨px9, q9, he9⟩
            have q9' := q9
            obtain ⟨D9, qq⟩ := q9'
            have hr9 := qq.hr
            have nr9 := px9.so.wf.nlt hr9
            have n9 := px9.so.wf.nlt he9
            refine wdraw_calm (by rw [hE.P]; decide +kernel) ?_
            simp only [push_cast, seval, hE.P, awrite, wpc_label, wpc_block, f0, f4, hr9, nr9, he9, n9]
            refine (all_at hE px9.so q9 (by have := z.n; show P.n ≤ 1000; omega) (by omega) (m := { k := 2, vw := P.vw, op := PR.op { P with log := P.log ++ [m.en] }, cm := P.cm, en := m.en }) ⟨_, _, _, rfl, Fz.nil, Fz.nil, Fz.nil⟩).mono ?_
            rintro v ha ⟨rfl, X6, px6, q6⟩
            simp only [push_cast, seval, hE.P, awrite, wpc_label, wpc_block, f0, f4]
            exact ⟨X6, px9.trans hS.wf px6, q6⟩
          · have hR : (P, []) = R := by rw [← hR, if_pos]; exact hany
            subst hR
            simp only [push_cast, seval, hE.P, awrite, wpc_label, wpc_block, f0, f4]
            exact ⟨X, p5, by simpa using q5⟩
  · have hb : (P.st == 0 && P.prim) = false := by
      cases hp : P.prim <;> simp_all
    rw [if_pos (by cases hp : P.prim <;> simp_all)] at hR
    subst hR
    simp only [push_cast, seval, hE.P, awrite, wpc_label, wpc_block, hb]
    exact ⟨X, p0, by simpa using q0⟩
end
end Go.Proofs.YthdgobcpefcolaaGreatDoor
