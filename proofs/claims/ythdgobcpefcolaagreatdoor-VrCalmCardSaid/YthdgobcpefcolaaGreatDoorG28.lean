/- Chapter 25: a request becomes Prepare messages. -/
/- Merged by a program of ours: U23 U24 U25 U26. -/
import Derived.Test.YthdgobcpefcolaaGreatDoorG27
set_option maxRecDepth 10000
set_option linter.all false
set_option linter.unusedSimpArgs false
set_option linter.unusedVariables false
/- Chapter 25: a deed on both. -/
namespace Go.Tm
theorem PX.nn {E : Env} {G G' : Mem} {h h' : Heap} {X X' : Nat → Prop} (p : PX E G h X G' h' X') {b : Nat} (hb : b < h.next) (hg : G b = none) : G' b = none := by
  cases hh : G' b with
  | none => rfl
  | some c =>
    rcases p.new b c hh with h3 | h3
    · rw [hg] at h3; cases h3
    · omega
/-- What is no replica's is kept. -/
theorem PX.box {E : Env} {G G' : Mem} {h h' : Heap} {X X' : Nat → Prop} (p : PX E G h X G' h' X') {b : Nat} {o : AObj} (hx : ¬ X b) (hg : h.get b = some o) : h'.get b = some o := p.kx.get b o hx hg
theorem PX.nx {E : Env} {G G' : Mem} {h h' : Heap} {X X' : Nat → Prop} (p : PX E G h X G' h' X') {b : Nat} (hx : ¬ X b) (hb : b < h.next) : ¬ X' b := fun hh => by
  rcases p.xs b hh with h1 | h1
  · exact hx h1
  · omega
end Go.Tm
namespace Go.Proofs.YthdgobcpefcolaaGreatDoor
open Go.Tm Vr
set_option linter.unusedSectionVars false
variable {E : Env} (hE : EOk E)
include hE
section
variable {G : Mem} {h : Heap} {X : Nat → Prop} (hS : SO E G h X) {P : PR} {r t : Nat} (hQ : QR E G h X P [] r t) {cs : List Value} (hP : PRR E G P cs)
include hS hQ hP
set_option maxHeartbeats 4000000 in
theorem doM_at {P' : PR} {out : List Mg} {m : Mg} {ms : List Value} (hm : MgR E G m ms) (z' : P'.Sz) (hol : out.length ≤ 1000000 ∧ ∀ m, m ∈ out → m.log.length ≤ 1000000)
    (hA : ∀ {G1 : Mem} {H : Heap} {X1 : Nat → Prop}, SO E G1 H X1 → QR E G1 H X1 P [] r t → MgR E G1 m ms → CallsTo E 15 [ptr r, .agg ms.toArray] H fun v h' => ∃ G' X' co, PX E G1 H X1 G' h' X' ∧ QR E G' h' X' P' [] r t ∧ Fz E G' 17 out.length co v ∧ MgsR E G' out co)
    (hB : ∀ {G1 : Mem} {H : Heap}, WF E H → Frz E G1 H → PRR E G1 P cs → MgR E G1 m ms → CallsTo E 24 [.agg cs.toArray, .agg ms.toArray] H fun v h' => ∃ G' rc' co v2, Ext E G1 H G' h' ∧ PRR E G' P' rc' ∧ Fz E G' 17 out.length co v2 ∧ MgsR E G' out co ∧ v = .tuple #[.agg rc'.toArray, v2]) :
    CallsTo E 20 [.agg (ptr r :: ptr t :: cs).toArray, .agg (iv 0 :: iv 0 :: ms).toArray] h fun v h' => ∃ G' X' rc', PX E G h X G' h' X' ∧ QR E G' h' X' P' [] r t ∧ PRR E G' P' rc' ∧ v = .tuple #[.agg (ptr r :: ptr t :: rc').toArray, .bool true] := by
  have hP0 := hP
  have hm0 := hm
  obtain ⟨a1, c1, a2, c2, a3, c3, a4, c4, a5, c5, a6, c6, a7, c7, ct, cc, ca, hcs, _⟩ := hP.e
  obtain ⟨b1, d1, b2, d2, b3, d3, hms, m1, m2, m3⟩ := hm.e
  subst hcs; subst hms
  have w0 := hS.wf.b0
  have w1 := hS.wf.b1
  have w2 := hS.wf.b2
  refine calls_of_runs (fn := Tryz.f20) (by rw [hE.P]; exact Tryz.func20) rfl (by rw [hE.known]; rfl) (by rw [Tryz.ntmps20]; exact Nat.le_of_ble_eq_true rfl) (by decide +kernel) (rs := [.cell 4 50, .tmp 5]) rfl (wpc_runs _ _ _ _ ?_)
  simp only [push_cast, seval, hE.P, awrite, wpc_label, wpc_block, w0, w1, w2]
  have k0 := (((KW.refl hS.wf).push (o := (.cells (ptr r :: ptr t :: (rC P (.slice a1 P.log.length c1) (.slice a2 P.sv.l.length c2) (.slice a3 P.sv.tab.length c3) (.slice a4 P.told.length c4) (.slice a5 P.voted.length c5) (.slice a6 P.came.length c6) (.slice a7 P.ans.length c7))) 50 true))).push (o := (.cells (iv 0 :: iv 0 :: (mgC m (.slice b1 m.log.length d1) (.slice b2 m.img.length d2) (.slice b3 0 d3))) 66 true))).push (o := (.cells [.pointer none, .pointer none, .int .i64 0, .int .i64 0, .int .i64 0, .int .i64 0, .int .i64 0, .int .i64 0, .int .i64 0, .int .i64 0, .slice none 0 0, .bool false, .slice none 0 0, .slice none 0 0, .slice none 0 0, .slice none 0 0, .slice none 0 0, .bool false, .slice none 0 0, .slice none 0 0] 50 true))
  have p0 := PX.kw hS k0
  have q0 := hQ.ext (k0.ext hS.frz)
  refine Go.Tm.kcall_gen [2, 3, 4] ?_
  intro t1 hf
  simp only [push_cast, seval, hE.P, awrite, wpc_label, wpc_block, List.mem_cons, List.not_mem_nil, or_false, forall_eq_or_imp, forall_eq] at hf
  obtain ⟨f2, f3, f4⟩ := hf
  refine gheap (motive := fun H => CallsTo E 15 _ H _) (fun H => PX E G h X G H X ∧ QR E G H X P [] r t ∧ H.get h.next = some (.cells (ptr r :: ptr t :: (rC P (.slice a1 P.log.length c1) (.slice a2 P.sv.l.length c2) (.slice a3 P.sv.tab.length c3) (.slice a4 P.told.length c4) (.slice a5 P.voted.length c5) (.slice a6 P.came.length c6) (.slice a7 P.ans.length c7))) 50 true) ∧ H.get (h.next + 1) = some (.cells (iv 0 :: iv 0 :: (mgC m (.slice b1 m.log.length d1) (.slice b2 m.img.length d2) (.slice b3 0 d3))) 66 true) ∧ ∃ rz, H.get (h.next + 1 + 1) = some (.cells rz 50 true) ∧ rz.length = 20) ⟨p0, q0, by rw [get_push, if_neg (by simp; omega), get_push, if_neg (by simp), get_push, if_pos rfl], by rw [get_push, if_neg (by simp), get_push, if_pos (by simp)], _, by rw [get_push, if_pos (by simp)], rfl⟩ ?_
  clear p0 q0 k0
  rintro H ⟨p0, q0, gN, gD, rz, gZ, hrz⟩
  have hd : List.drop 20 rz = [] := List.drop_eq_nil_iff.2 (by omega)
  have hle : (20 ≤ rz.length) = True := by simp; omega
  have nN := p0.so.wf.nlt gN
  have nD := p0.so.wf.nlt gD
  have nZ := p0.so.wf.nlt gZ
  have lN := (p0.so.wf.live _ _ gN).2
  have lD := (p0.so.wf.live _ _ gD).2
  have lZ := (p0.so.wf.live _ _ gZ).2
  have xN : ¬ X h.next := fun hx => by have := hS.lt _ hx; omega
  have xD : ¬ X (h.next + 1) := fun hx => by have := hS.lt _ hx; omega
  have xZ : ¬ X (h.next + 1 + 1) := fun hx => by have := hS.lt _ hx; omega
  refine (hA p0.so q0 hm0).mono ?_
  rintro v1 H1 ⟨G1, X1, co1, p1, q1, z1, r1⟩
  have gN1 := p1.box xN gN
  have gD1 := p1.box xD gD
  have gZ1 := p1.box xZ gZ
  have xN1 := p1.nx xN lN
  have xD1 := p1.nx xD lD
  have xZ1 := p1.nx xZ lZ
  have yN1 := p1.nn lN (hS.gnone (Nat.le_refl _))
  have yZ1 := p1.nn lZ (hS.gnone (by omega))
  simp only [push_cast, seval, hE.P, awrite, wpc_label, wpc_block, f2, f3, f4, gN1, nN, gD1, nD]
  refine (hB p1.so.wf p1.so.frz (hP0.sub p1.sub) (hm0.sub p1.sub)).mono ?_
  rintro v2 H2 ⟨G2, rc2, co2, v2', x2, hp2, z2, r2, rfl⟩
  have hp20 := hp2
  obtain ⟨A1, C1, A2, C2, A3, C3, A4, C4, A5, C5, A6, C6, A7, C7, CT, CC, CA, hcs3, _⟩ := hp2.e
  subst hcs3
  have p2 := (p0.trans hS.wf p1).trans hS.wf (PX.ext p1.so x2)
  have q2 := q1.ext x2
  have gN2 := x2.keep.get _ _ gN1
  have gD2 := x2.keep.get _ _ gD1
  have gZ2 := x2.keep.get _ _ gZ1
  have lN1 := (p1.so.wf.live _ _ gN1).2
  have lZ1 := (p1.so.wf.live _ _ gZ1).2
  have yN2 := x2.nn lN1 yN1
  have yZ2 := x2.nn lZ1 yZ1
  have e2 := x2.wf.ne gN2
  have e3 := x2.wf.ne' gN2
  have w3 := x2.wf.b0
  simp only [push_cast, seval, hE.P, awrite, wpc_label, wpc_block, f2, f3, f4, gN2, nN, e2, e3, w3]
  have k3 := (KW.refl x2.wf).push (o := (.cells (rC P' (.slice A1 P'.log.length C1) (.slice A2 P'.sv.l.length C2) (.slice A3 P'.sv.tab.length C3) (.slice A4 P'.told.length C4) (.slice A5 P'.voted.length C5) (.slice A6 P'.came.length C6) (.slice A7 P'.ans.length C7)) 48 true))
  have p3 := PX.fresh hS.wf (p2.trans hS.wf (PX.kw p2.so k3)) (b := h.next) (o := (.cells (ptr r :: ptr t :: (rC P' (.slice A1 P'.log.length C1) (.slice A2 P'.sv.l.length C2) (.slice A3 P'.sv.tab.length C3) (.slice A4 P'.told.length C4) (.slice A5 P'.voted.length C5) (.slice A6 P'.came.length C6) (.slice A7 P'.ans.length C7))) 50 true)) (Nat.le_refl _) yN2 (k3.k.get _ _ gN2)
  have q3 : QR E G2 ((H2.push (.cells (rC P' (.slice A1 P'.log.length C1) (.slice A2 P'.sv.l.length C2) (.slice A3 P'.sv.tab.length C3) (.slice A4 P'.told.length C4) (.slice A5 P'.voted.length C5) (.slice A6 P'.came.length C6) (.slice A7 P'.ans.length C7)) 48 true)).put h.next (.cells (ptr r :: ptr t :: (rC P' (.slice A1 P'.log.length C1) (.slice A2 P'.sv.l.length C2) (.slice A3 P'.sv.tab.length C3) (.slice A4 P'.told.length C4) (.slice A5 P'.voted.length C5) (.slice A6 P'.came.length C6) (.slice A7 P'.ans.length C7))) 50 true)) X1 P' [] r t := by
    obtain ⟨D, q2'⟩ := q2
    exact ⟨D, q2'.keepX (Sub.refl _) fun b o hx hg => by
      rw [get_put, if_neg (fun e => xN1 (by rw [e]; exact hx))]; exact k3.k.get _ _ hg⟩
  have gN3 : ((H2.push (.cells (rC P' (.slice A1 P'.log.length C1) (.slice A2 P'.sv.l.length C2) (.slice A3 P'.sv.tab.length C3) (.slice A4 P'.told.length C4) (.slice A5 P'.voted.length C5) (.slice A6 P'.came.length C6) (.slice A7 P'.ans.length C7)) 48 true)).put h.next (.cells (ptr r :: ptr t :: (rC P' (.slice A1 P'.log.length C1) (.slice A2 P'.sv.l.length C2) (.slice A3 P'.sv.tab.length C3) (.slice A4 P'.told.length C4) (.slice A5 P'.voted.length C5) (.slice A6 P'.came.length C6) (.slice A7 P'.ans.length C7))) 50 true)).get h.next = some (.cells (ptr r :: ptr t :: (rC P' (.slice A1 P'.log.length C1) (.slice A2 P'.sv.l.length C2) (.slice A3 P'.sv.tab.length C3) (.slice A4 P'.told.length C4) (.slice A5 P'.voted.length C5) (.slice A6 P'.came.length C6) (.slice A7 P'.ans.length C7))) 50 true) := by rw [get_put, if_pos rfl]
  have gZ3 : ((H2.push (.cells (rC P' (.slice A1 P'.log.length C1) (.slice A2 P'.sv.l.length C2) (.slice A3 P'.sv.tab.length C3) (.slice A4 P'.told.length C4) (.slice A5 P'.voted.length C5) (.slice A6 P'.came.length C6) (.slice A7 P'.ans.length C7)) 48 true)).put h.next (.cells (ptr r :: ptr t :: (rC P' (.slice A1 P'.log.length C1) (.slice A2 P'.sv.l.length C2) (.slice A3 P'.sv.tab.length C3) (.slice A4 P'.told.length C4) (.slice A5 P'.voted.length C5) (.slice A6 P'.came.length C6) (.slice A7 P'.ans.length C7))) 50 true)).get (h.next + 1 + 1) = some (.cells rz 50 true) := by rw [get_put, if_neg (by omega)]; exact k3.k.get _ _ gZ2
  refine gtm (motive := wdraw E _ _) [2, 4, 18, 20] fun t2 hf => ?_
  simp only [push_cast, seval, hE.P, awrite, wpc_label, wpc_block, List.mem_cons, List.not_mem_nil, or_false, forall_eq_or_imp, forall_eq, f2, f4] at hf
  obtain ⟨f2', f4', f18, f20⟩ := hf
  refine gheap (motive := fun H => wdraw E _ _ _ H) (fun H => PX E G h X G2 H X1 ∧ QR E G2 H X1 P' [] r t ∧ H.get h.next = some (.cells (ptr r :: ptr t :: (rC P' (.slice A1 P'.log.length C1) (.slice A2 P'.sv.l.length C2) (.slice A3 P'.sv.tab.length C3) (.slice A4 P'.told.length C4) (.slice A5 P'.voted.length C5) (.slice A6 P'.came.length C6) (.slice A7 P'.ans.length C7))) 50 true) ∧ H.get (h.next + 1 + 1) = some (.cells rz 50 true)) ⟨p3, q3, gN3, gZ3⟩ ?_
  clear p3 q3 gN3 gZ3 k3
  rintro H3 ⟨p3, q3, gN3, gZ3⟩
  refine wdraw_keep [(0, 3), (0, 6)] [true, false, false, false, false, false, false, false, false, false] (fun H => H.get h.next = some (.cells (ptr r :: ptr t :: (rC P' (.slice A1 P'.log.length C1) (.slice A2 P'.sv.l.length C2) (.slice A3 P'.sv.tab.length C3) (.slice A4 P'.told.length C4) (.slice A5 P'.voted.length C5) (.slice A6 P'.came.length C6) (.slice A7 P'.ans.length C7))) 50 true)) (by rw [hE.P]; decide +kernel) (by rw [hE.P]; decide +kernel) (by rw [hE.P]; decide +kernel) (by decide +kernel) gN3 ?_
  simp only [push_cast, seval, hE.P, awrite, wpc_label, wpc_block, wpk_nil, wpk_f, wpk_t, wpk_gf, wpk_gt, kk_same, f2', f4', f18, f20, gN3, nN]
  refine ⟨fun _ => ⟨(.agg (ptr r :: ptr t :: (rC P' (.slice A1 P'.log.length C1) (.slice A2 P'.sv.l.length C2) (.slice A3 P'.sv.tab.length C3) (.slice A4 P'.told.length C4) (.slice A5 P'.voted.length C5) (.slice A6 P'.came.length C6) (.slice A7 P'.ans.length C7))).toArray), by simp [veq_agg, veqL_cons, veqL_nil, veq_int, veq_slice, veq_bool, veq_ptr], ?_⟩, ?_⟩
  · rintro HH hN
    simp only [push_cast, seval, hE.P, awrite, wpc_label, wpc_block, aread_load, f2', f4', hN, nN]
  have z13 := z1.sub x2.sub
  have r13 := r1.sub x2.sub
  refine (listM_at hE p3.so.wf p3.so.frz z13 z2 r13 r2 hol.1 hol.2).mono ?_
  rintro v3 H4 ⟨rfl, k4⟩
  have gN4 := k4.k.get _ _ gN3
  have gZ4 := k4.k.get _ _ gZ3
  have p4 := p3.trans hS.wf (PX.kw p3.so k4)
  have q4 := q3.ext (k4.ext p3.so.frz)
  simp only [push_cast, seval, hE.P, awrite, wpc_label, wpc_block]
  refine kk_new gN4 ?_
  simp only [push_cast, seval, hE.P, awrite, wpc_label, wpc_block, wpk_nil, wpk_f, wpk_t, wpk_gf, wpk_gt, kk_same, f2', f4', f18, f20, gN4, nN]
  refine (looks_at hE p4.so q4 hp20 z').mono ?_
  rintro v5 H5 ⟨rfl, G5, x5⟩
  have gN5 := x5.keep.get _ _ gN4
  have gZ5 := x5.keep.get _ _ gZ4
  simp only [push_cast, seval, hE.P, awrite, wpc_label, wpc_block]
  refine kk_new gN5 ?_
  simp only [push_cast, seval, hE.P, awrite, wpc_label, wpc_block, wpk_nil, wpk_f, wpk_t, wpk_gf, wpk_gt, kk_same, f2', f4', f18, f20, gN5, gZ5, nN, nZ, hd, hle]
  have p5 := p4.trans hS.wf (PX.ext p4.so x5)
  obtain ⟨D5, q5⟩ := q4.ext x5
  have yZ5 := x5.nn (p4.so.wf.live _ _ gZ4).2 yZ2
  refine kk_new (by rw [get_put, if_neg (by omega)]; exact gN5) ?_
  have p6 := PX.fresh hS.wf p5 (b := h.next + 1 + 1) (o := (.cells (ptr r :: ptr t :: (rC P' (.slice A1 P'.log.length C1) (.slice A2 P'.sv.l.length C2) (.slice A3 P'.sv.tab.length C3) (.slice A4 P'.told.length C4) (.slice A5 P'.voted.length C5) (.slice A6 P'.came.length C6) (.slice A7 P'.ans.length C7))) 50 true)) (by omega) yZ5 gZ5
  have q6 := q5.keepX (h' := H5.put (h.next + 1 + 1) (.cells (ptr r :: ptr t :: (rC P' (.slice A1 P'.log.length C1) (.slice A2 P'.sv.l.length C2) (.slice A3 P'.sv.tab.length C3) (.slice A4 P'.told.length C4) (.slice A5 P'.voted.length C5) (.slice A6 P'.came.length C6) (.slice A7 P'.ans.length C7))) 50 true)) (Sub.refl _) (fun b o hx hg => by
      rw [get_put, if_neg (fun e => xZ1 (by rw [e]; exact hx))]; exact hg)
  simp only [push_cast, seval, hE.P, awrite, wpc_label, wpc_block, wpk_nil, wpk_f, wpk_t, wpk_gf, wpk_gt, kk_same, f2', f4', f18, f20, gN5, gZ5, nN, nZ, hd, hle]
  exact ⟨G5, X1, _, p6, ⟨D5, q6⟩, hp20.sub x5.sub, rfl⟩
end
end Go.Proofs.YthdgobcpefcolaaGreatDoor
/- Chapter 25: an idle deed on both. -/
namespace Go.Proofs.YthdgobcpefcolaaGreatDoor
open Go.Tm Vr
set_option linter.unusedSectionVars false
variable {E : Env} (hE : EOk E)
include hE
section
variable {G : Mem} {h : Heap} {X : Nat → Prop} (hS : SO E G h X) {P : PR} {r t : Nat} (hQ : QR E G h X P [] r t) {cs : List Value} (hP : PRR E G P cs)
include hS hQ hP
set_option maxHeartbeats 4000000 in
theorem doI_at {m : Mg} {ms : List Value} (hm : MgR E G m ms) (z : P.Sz) (hst : P.st = 0) (hp : P.prim = true) (hcm : P.op = P.cm) (hol : (idle P).length ≤ 1000000 ∧ ∀ m, m ∈ idle P → m.log.length ≤ 1000000) :
    CallsTo E 20 [.agg (ptr r :: ptr t :: cs).toArray, .agg (iv 11 :: iv 0 :: ms).toArray] h fun v h' => ∃ G' X', PX E G h X G' h' X' ∧ QR E G' h' X' P [] r t ∧ v = .tuple #[.agg (ptr r :: ptr t :: cs).toArray, .bool true] := by
  have hP0 := hP
  have hm0 := hm
  obtain ⟨a1, c1, a2, c2, a3, c3, a4, c4, a5, c5, a6, c6, a7, c7, ct, cc, ca, hcs, _⟩ := hP.e
  obtain ⟨b1, d1, b2, d2, b3, d3, hms, m1, m2, m3⟩ := hm.e
  subst hcs; subst hms
  have w0 := hS.wf.b0
  have w1 := hS.wf.b1
  have w2 := hS.wf.b2
  refine calls_of_runs (fn := Tryz.f20) (by rw [hE.P]; exact Tryz.func20) rfl (by rw [hE.known]; rfl) (by rw [Tryz.ntmps20]; exact Nat.le_of_ble_eq_true rfl) (by decide +kernel) (rs := [.cell 4 50, .tmp 5]) rfl (wpc_runs _ _ _ _ ?_)
  simp only [push_cast, seval, hE.P, awrite, wpc_label, wpc_block, w0, w1, w2]
  have k0 := (((KW.refl hS.wf).push (o := (.cells (ptr r :: ptr t :: (rC P (.slice a1 P.log.length c1) (.slice a2 P.sv.l.length c2) (.slice a3 P.sv.tab.length c3) (.slice a4 P.told.length c4) (.slice a5 P.voted.length c5) (.slice a6 P.came.length c6) (.slice a7 P.ans.length c7))) 50 true))).push (o := (.cells (iv 11 :: iv 0 :: (mgC m (.slice b1 m.log.length d1) (.slice b2 m.img.length d2) (.slice b3 0 d3))) 66 true))).push (o := (.cells [.pointer none, .pointer none, .int .i64 0, .int .i64 0, .int .i64 0, .int .i64 0, .int .i64 0, .int .i64 0, .int .i64 0, .int .i64 0, .slice none 0 0, .bool false, .slice none 0 0, .slice none 0 0, .slice none 0 0, .slice none 0 0, .slice none 0 0, .bool false, .slice none 0 0, .slice none 0 0] 50 true))
  have p0 := PX.kw hS k0
  have q0 := hQ.ext (k0.ext hS.frz)
  refine gtm (motive := wdraw E _ _) [2, 3, 4] fun t1 hf => ?_
  simp only [push_cast, seval, hE.P, awrite, wpc_label, wpc_block, List.mem_cons, List.not_mem_nil, or_false, forall_eq_or_imp, forall_eq] at hf
  obtain ⟨f2, f3, f4⟩ := hf
  refine gheap (motive := fun H => wdraw E _ _ _ H) (fun H => PX E G h X G H X ∧ QR E G H X P [] r t ∧ H.get h.next = some (.cells (ptr r :: ptr t :: (rC P (.slice a1 P.log.length c1) (.slice a2 P.sv.l.length c2) (.slice a3 P.sv.tab.length c3) (.slice a4 P.told.length c4) (.slice a5 P.voted.length c5) (.slice a6 P.came.length c6) (.slice a7 P.ans.length c7))) 50 true) ∧ H.get (h.next + 1) = some (.cells (iv 11 :: iv 0 :: (mgC m (.slice b1 m.log.length d1) (.slice b2 m.img.length d2) (.slice b3 0 d3))) 66 true) ∧ ∃ rz, H.get (h.next + 1 + 1) = some (.cells rz 50 true) ∧ rz.length = 20) ⟨p0, q0, by rw [get_push, if_neg (by simp; omega), get_push, if_neg (by simp), get_push, if_pos rfl], by rw [get_push, if_neg (by simp), get_push, if_pos (by simp)], _, by rw [get_push, if_pos (by simp)], rfl⟩ ?_
  clear p0 q0 k0
  rintro H ⟨p0, q0, gN, gD, rz, gZ, hrz⟩
  have hd : List.drop 20 rz = [] := List.drop_eq_nil_iff.2 (by omega)
  have hle : (20 ≤ rz.length) = True := by simp; omega
  have nN := p0.so.wf.nlt gN
  have nD := p0.so.wf.nlt gD
  have nZ := p0.so.wf.nlt gZ
  have lN := (p0.so.wf.live _ _ gN).2
  have lD := (p0.so.wf.live _ _ gD).2
  have lZ := (p0.so.wf.live _ _ gZ).2
  have xN : ¬ X h.next := fun hx => by have := hS.lt _ hx; omega
  have xD : ¬ X (h.next + 1) := fun hx => by have := hS.lt _ hx; omega
  have xZ : ¬ X (h.next + 1 + 1) := fun hx => by have := hS.lt _ hx; omega
  refine wdraw_keep [(0, 3), (0, 6), (0, 7), (0, 10), (5, 3)] [true, false, false, false, false, true, false, false, false, false, false, false, false, false] (fun H => H.get h.next = some (.cells (ptr r :: ptr t :: (rC P (.slice a1 P.log.length c1) (.slice a2 P.sv.l.length c2) (.slice a3 P.sv.tab.length c3) (.slice a4 P.told.length c4) (.slice a5 P.voted.length c5) (.slice a6 P.came.length c6) (.slice a7 P.ans.length c7))) 50 true)) (by rw [hE.P]; decide +kernel) (by rw [hE.P]; decide +kernel) (by rw [hE.P]; decide +kernel) (by decide +kernel) gN ?_
  simp only [push_cast, seval, hE.P, awrite, wpc_label, wpc_block, wpk_nil, wpk_f, wpk_t, wpk_gf, wpk_gt, kk_same, f2, f3, f4, gN, nN]
  refine ⟨fun _ => ⟨.agg (ptr r :: ptr t :: (rC P (.slice a1 P.log.length c1) (.slice a2 P.sv.l.length c2) (.slice a3 P.sv.tab.length c3) (.slice a4 P.told.length c4) (.slice a5 P.voted.length c5) (.slice a6 P.came.length c6) (.slice a7 P.ans.length c7))).toArray, by simp [veq_agg, veqL_cons, veqL_nil, veq_int, veq_slice, veq_bool, veq_ptr], ?_⟩, ?_⟩
  · rintro HH hN
    simp only [push_cast, seval, hE.P, awrite, wpc_label, wpc_block, aread_load, f2, f4, hN, nN]
  refine (idle_at hE p0.so q0 z).mono ?_
  rintro v1 H1 ⟨G1, X1, co1, p1, q1, z1, r1⟩
  have gN1 := p1.box xN gN
  have gZ1 := p1.box xZ gZ
  have xN1 := p1.nx xN lN
  have xZ1 := p1.nx xZ lZ
  have yZ1 := p1.nn lZ (hS.gnone (by omega))
  have lZ1 := (p1.so.wf.live _ _ gZ1).2
  simp only [push_cast, seval, hE.P, awrite, wpc_label, wpc_block]
  refine kk_new gN1 ?_
  simp only [push_cast, seval, hE.P, awrite, wpc_label, wpc_block, wpk_nil, wpk_f, wpk_t, wpk_gf, wpk_gt, kk_same, f2, f3, f4, gN1, nN]
  refine ⟨fun _ => ⟨.agg (rC P (.slice a1 P.log.length c1) (.slice a2 P.sv.l.length c2) (.slice a3 P.sv.tab.length c3) (.slice a4 P.told.length c4) (.slice a5 P.voted.length c5) (.slice a6 P.came.length c6) (.slice a7 P.ans.length c7)).toArray, by simp [veq_agg, veqL_cons, veqL_nil, veq_int, veq_slice, veq_bool, veq_ptr], ?_⟩, ?_⟩
  · rintro HH hN
    simp only [push_cast, seval, hE.P, awrite, wpc_label, wpc_block, aread_load, f2, f4, hN, nN]
  have hP1 := hP0.sub p1.sub
  refine (idleR_at hE p1.so.wf p1.so.frz hP1 z hst hp hcm).mono ?_
  rintro v2 H2 ⟨G2, co2, x2, z2, r2⟩
  have gN2 := x2.keep.get _ _ gN1
  have gZ2 := x2.keep.get _ _ gZ1
  have lZ2 := (x2.wf.live _ _ gZ2).2
  have yZ2 := x2.nn lZ1 yZ1
  have p2 := (p0.trans hS.wf p1).trans hS.wf (PX.ext p1.so x2)
  have q2 := q1.ext x2
  simp only [push_cast, seval, hE.P, awrite, wpc_label, wpc_block]
  refine kk_new gN2 ?_
  simp only [push_cast, seval, hE.P, awrite, wpc_label, wpc_block, wpk_nil, wpk_f, wpk_t, wpk_gf, wpk_gt, kk_same, f2, f3, f4, gN2, nN]
  refine (listM_at hE p2.so.wf p2.so.frz (z1.sub x2.sub) z2 (r1.sub x2.sub) r2 hol.1 hol.2).mono ?_
  rintro v3 H4 ⟨rfl, k4⟩
  have gN4 := k4.k.get _ _ gN2
  have gZ4 := k4.k.get _ _ gZ2
  have p4 := p2.trans hS.wf (PX.kw p2.so k4)
  have q4 := q2.ext (k4.ext p2.so.frz)
  simp only [push_cast, seval, hE.P, awrite, wpc_label, wpc_block]
  refine kk_new gN4 ?_
  simp only [push_cast, seval, hE.P, awrite, wpc_label, wpc_block, wpk_nil, wpk_f, wpk_t, wpk_gf, wpk_gt, kk_same, f2, f3, f4, gN4, nN]
  refine (looks_at hE p4.so q4 (hP1.sub x2.sub) z).mono ?_
  rintro v5 H5 ⟨rfl, G5, x5⟩
  have gN5 := x5.keep.get _ _ gN4
  have gZ5 := x5.keep.get _ _ gZ4
  have p5 := p4.trans hS.wf (PX.ext p4.so x5)
  obtain ⟨D5, q5⟩ := q4.ext x5
  have yZ5 := x5.nn (p4.so.wf.live _ _ gZ4).2 yZ2
  simp only [push_cast, seval, hE.P, awrite, wpc_label, wpc_block]
  refine kk_new gN5 ?_
  simp only [push_cast, seval, hE.P, awrite, wpc_label, wpc_block, wpk_nil, wpk_f, wpk_t, wpk_gf, wpk_gt, kk_same, f2, f3, f4, gN5, gZ5, nN, nZ, hd, hle]
  refine kk_new (by rw [get_put, if_neg (by omega)]; exact gN5) ?_
  have p6 := PX.fresh hS.wf p5 (b := h.next + 1 + 1) (o := (.cells (ptr r :: ptr t :: (rC P (.slice a1 P.log.length c1) (.slice a2 P.sv.l.length c2) (.slice a3 P.sv.tab.length c3) (.slice a4 P.told.length c4) (.slice a5 P.voted.length c5) (.slice a6 P.came.length c6) (.slice a7 P.ans.length c7))) 50 true)) (by omega) yZ5 gZ5
  have q6 := q5.keepX (h' := H5.put (h.next + 1 + 1) (.cells (ptr r :: ptr t :: (rC P (.slice a1 P.log.length c1) (.slice a2 P.sv.l.length c2) (.slice a3 P.sv.tab.length c3) (.slice a4 P.told.length c4) (.slice a5 P.voted.length c5) (.slice a6 P.came.length c6) (.slice a7 P.ans.length c7))) 50 true)) (Sub.refl _) (fun b o hx hg => by
      rw [get_put, if_neg (fun e => xZ1 (by rw [e]; exact hx))]; exact hg)
  simp only [push_cast, seval, hE.P, awrite, wpc_label, wpc_block, wpk_nil, wpk_f, wpk_t, wpk_gf, wpk_gt, kk_same, f2, f3, f4, gN5, gZ5, nN, nZ, hd, hle]
  exact ⟨G5, X1, p6, ⟨_, q6⟩⟩
end
end Go.Proofs.YthdgobcpefcolaaGreatDoor
/- Chapter 25: small walks: a client's request, are messages of a kind?, a deed with a message of kinds 1 to 4. -/
namespace Go.Proofs.YthdgobcpefcolaaGreatDoor
open Go.Tm Vr
set_option linter.unusedSectionVars false
/-- A client's request. -/
def reqM (to c n : Nat) : Mg := { k := 1, fr := 100 + c, to := to, en := ⟨c, n, "t".toByteArray⟩ }
variable {E : Env} (hE : EOk E)
include hE
section
variable {G : Mem} {h : Heap}
theorem req_at (hW : WF E h) {to c n : Nat} (hc : c ≤ 1000) : CallsTo E 11 [iv to, iv c, iv n] h fun v h' => KW E h h' ∧ ∃ ms, v = .agg ms.toArray ∧ ∀ G, MgR E G (reqM to c n) ms := by
  have w0 := hW.b0
  have w1 := hW.b1
  refine calls_of_runs (fn := Tryz.f11) (by rw [hE.P]; exact Tryz.func11) rfl (by rw [hE.known]; rfl) (by rw [Tryz.ntmps11]; exact Nat.le_of_ble_eq_true rfl) (by decide +kernel) (rs := [.cell 6 62]) rfl (wpc_runs _ _ _ _ ?_)
  simp only [push_cast, seval, hE.P, awrite, wpc_label, wpc_block, w0, w1]
  have e1 : (Value.int .i64 (IntKind.i64.wrap (100 + (c : Int)))) = iv (100 + c) := by
    rw [wr64 (by omega) (by omega)]; congr 1
  rw [e1]
  refine ⟨(KW.refl hW).push, _, rfl, fun G => ?_⟩
  exact ⟨_, _, _, rfl, Fz.nil, Fz.nil, Fz.nil⟩
/-- Are messages of this kind to these? -/
theorem kinds_at (hW : WF E h) (hG : Frz E G h) {l : List Mg} {co : List Value} {v w : Value} {k : Nat} {tos : List Nat} (hv : Fz E G 17 l.length co v) (hl : MgsR E G l co) (hb : l.length ≤ 1000000) {b : Nat} {e : Nat} {fx : Bool} (hg : h.get b = some (.cells (intsC tos) e fx)) (hw : w = .slice (some ⟨b, 0, none⟩) tos.length tos.length) (hk : ∀ m, m ∈ l → m.k = k) (ht : l.map (·.to) = tos) : CallsTo E 16 [v, iv k, w] h fun r h' => r = .bool true ∧ h' = h := by
  subst hw; subst ht
  obtain ⟨a, c, rfl, _⟩ := hv.slice
  have c0 : ((l.length : Int) != (l.length : Int)) = false := by simp
  refine calls_of_runs (fn := Tryz.f16) (by rw [hE.P]; exact Tryz.func16) rfl (by rw [hE.known]; rfl) (by rw [Tryz.ntmps16]; exact Nat.le_of_ble_eq_true rfl) (by decide +kernel) (rs := [.tmp 6]) rfl (wpc_runs _ _ _ _ ?_)
  simp only [push_cast, seval, hE.P, awrite, wpc_label, wpc_block, List.length_map, c0]
  refine wpc_loop (fun k' tm h2 => ∃ i, k' = l.length - i ∧ i ≤ l.length ∧ fget tm 0 = .slice a l.length c ∧ fget tm 1 = iv k ∧ fget tm 2 = .slice (some ⟨b, 0, none⟩) l.length l.length ∧ fget tm 7 = iv i ∧ h2 = h) l.length ?_ ?_
  · simp only [push_cast, seval, hE.P, awrite, wpc_label, wpc_block]
    exact ⟨0, by omega, by omega, rfl⟩
  · rintro k' tm h2 ⟨i, rfl, hi, f0, f1, f2, f7, rfl⟩
    simp only [push_cast, seval, hE.P, awrite, wpc_label, wpc_block, f0, f1, f2, f7]
    by_cases hlt : i < l.length
    · have hd : decide ((i : Int) < (l.length : Int)) = true := by simp; omega
      obtain ⟨b1, d1, e1, hsp1, hac1⟩ := hv.1.elem hG hlt
      injection e1 with e1 _ e1'
      subst e1; subst e1'
      have q1 := hl.at i _ (List.getElem?_eq_getElem hlt)
      have hk1 := hk _ (List.getElem_mem hlt)
      have hr := int_read (L := l.map (·.to)) (rest := []) (i := i) hW (by simpa using hg) (by simpa using hlt)
      have hgd : (l.map (·.to)).getD i 0 = (l[i]).to := by simp [List.getD_eq_getElem?_getD, hlt]
      rw [hgd] at hr
      generalize l[i] = m at *
      obtain ⟨_, _, _, _, _, _, hms, _⟩ := q1.e
      rw [hms] at hac1
      have p0 := acells_part hac1 0 1 (by omega)
      have p2 := acells_part hac1 2 1 (by omega)
      simp only [Nat.add_zero, List.drop_zero, List.take_succ_cons, List.take_zero, List.drop_succ_cons] at p0 p2
      simp only [push_cast, seval, hE.P, awrite, wpc_label, wpc_block, f0, f1, f2, f7, hd]
      refine wdraw_calm (by rw [hE.P]; decide +kernel) ?_
      simp only [push_cast, seval, hE.P, awrite, wpc_label, wpc_block, f0, f1, f2, f7, hd]
      have c1 : ((m.to : Int) != (m.to : Int)) = false := by simp
      have c2 : ((m.k : Int) != (k : Int)) = false := by simp [hk1]
      rw [ia26 hsp1 (by omega) (by omega), kpure_some]
      simp only [push_cast, seval, hE.P, awrite, wpc_label, wpc_block, f0, f1, f2, f7, ↓p0, Int.toNat_natCast, c2]
      rw [ia26 hsp1 (by omega) (by omega), kpure_some]
      simp only [push_cast, seval, hE.P, awrite, wpc_label, wpc_block, f0, f1, f2, f7, ↓p2, Int.toNat_natCast]
      rw [ia27 rfl (by omega) (by omega), kpure_some]
      simp only [push_cast, seval, hE.P, awrite, wpc_label, wpc_block, f0, f1, f2, f7, ↓hr, Int.toNat_natCast, c1]
      exact ⟨l.length - (i + 1), by omega, i + 1, rfl, by omega, iv_succ (by omega)⟩
    · have hd : decide ((i : Int) < (l.length : Int)) = false := by simp; omega
      simp only [push_cast, seval, hE.P, awrite, wpc_label, wpc_block, f0, f1, f2, f7, hd]
end
section
variable {G : Mem} {h : Heap} {X : Nat → Prop} (hS : SO E G h X) {P : PR} {r t : Nat} (hQ : QR E G h X P [] r t) {cs : List Value} (hP : PRR E G P cs)
include hS hQ hP
/-- A request that is not the client's last one again. -/
theorem do1_at {m : Mg} {ms : List Value} (hm : MgR E G m ms) (z : P.Sz) (hop : P.op < 1000000) (hk : m.k = 1) (hto : m.to = P.me) (hc : m.en.c ≤ 1000000 ∧ m.en.n ≤ 1000000) (hmo : m.op ≤ 1000000000) (hne : ∀ x, lastOf P.sv.tab m.en.c = some x → m.en.n ≠ x.n)
    (z' : (request P m).1.Sz) (hol : (request P m).2.length ≤ 1000000 ∧ ∀ m', m' ∈ (request P m).2 → m'.log.length ≤ 1000000 ∧ m'.img.length ≤ 100000000) :
    CallsTo E 20 [.agg (ptr r :: ptr t :: cs).toArray, .agg (iv 0 :: iv 0 :: ms).toArray] h fun v h' => ∃ G' X' rc', PX E G h X G' h' X' ∧ QR E G' h' X' (request P m).1 [] r t ∧ PRR E G' (request P m).1 rc' ∧ v = .tuple #[.agg (ptr r :: ptr t :: rc').toArray, .bool true] := by
  refine doM_at hE hS hQ hP hm z' ⟨hol.1, fun m' h1 => (hol.2 m' h1).1⟩ ?_ ?_
  · intro G1 H X1 s q hm1
    refine stepC hE s q z hm1 (by omega) (f := 53) (w := false) (by rw [hk]; rfl) hto (.inl hk) (by simp) hmo ⟨by omega, hol.2⟩ ?_
    intro G2 H2 X2 s2 q2 hm2
    refine (request_at hE s2 q2 z (by simp) hop hm2 hc).mono ?_
    rintro v h' ⟨rfl, X', p, q⟩
    exact ⟨rfl, _, X', p, by simpa using q⟩
  · intro G1 H w f hP1 hm1
    refine stepR_at hE w f hP1 hm1 (by omega) (by omega) hto (.inl hk) fun H2 k2 => ?_
    rw [if_pos hk]
    exact requestR_at hE k2.w (f.keep k2.k) hP1 z hop hm1 hc hne
/-- A message of kinds 2 to 4, from the two walks. -/
theorem do2_at {m : Mg} {ms : List Value} (hm : MgR E G m ms) (z : P.Sz) (hk : 2 ≤ m.k ∧ m.k ≤ 4) (hto : m.to = P.me) (hfr : m.fr < P.n ∧ m.fr ≠ P.me) (hmo : m.op ≤ 1000000000) (f : Nat) (hf : hnd[m.k - 1]? = some (m.k, f, false))
    (z' : (normalM P m).1.Sz) (hol : (normalM P m).2.length ≤ 1000000 ∧ ∀ m', m' ∈ (normalM P m).2 → m'.log.length ≤ 1000000 ∧ m'.img.length ≤ 100000000)
    (hA : ∀ {G1 : Mem} {H : Heap} {X1 : Nat → Prop}, SO E G1 H X1 → QR E G1 H X1 P [] r t → MgR E G1 m ms → CallsTo E f [ptr r, .agg ms.toArray] H fun v h' => v = .tuple #[] ∧ ∃ G' X', PX E G1 H X1 G' h' X' ∧ QR E G' h' X' (normalM P m).1 ([] ++ (normalM P m).2) r t)
    (hB : ∀ {G1 : Mem} {H : Heap}, WF E H → Frz E G1 H → PRR E G1 P cs → MgR E G1 m ms → CallsTo E 44 [.agg cs.toArray, .agg ms.toArray] H fun v h' => ∃ G' rc' co v2, Ext E G1 H G' h' ∧ PRR E G' (normalM P m).1 rc' ∧ Fz E G' 17 (normalM P m).2.length co v2 ∧ MgsR E G' (normalM P m).2 co ∧ v = .tuple #[.agg rc'.toArray, v2]) :
    CallsTo E 20 [.agg (ptr r :: ptr t :: cs).toArray, .agg (iv 0 :: iv 0 :: ms).toArray] h fun v h' => ∃ G' X' rc', PX E G h X G' h' X' ∧ QR E G' h' X' (normalM P m).1 [] r t ∧ PRR E G' (normalM P m).1 rc' ∧ v = .tuple #[.agg (ptr r :: ptr t :: rc').toArray, .bool true] := by
  refine doM_at hE hS hQ hP hm z' ⟨hol.1, fun m' h1 => (hol.2 m' h1).1⟩ ?_ ?_
  · intro G1 H X1 s q hm1
    refine stepC hE s q z hm1 (by omega) hf hto (.inr hfr) (by simp) hmo ⟨by omega, hol.2⟩ ?_
    intro G2 H2 X2 s2 q2 hm2
    refine (hA s2 q2 hm2).mono ?_
    rintro v h' ⟨rfl, G', X', p, q⟩
    exact ⟨rfl, G', X', p, by simpa using q⟩
  · intro G1 H w f1 hP1 hm1
    refine stepR_at hE w f1 hP1 hm1 (by omega) (by omega) hto (.inr hfr) fun H2 k2 => ?_
    rw [if_neg (by omega)]
    exact hB k2.w (f1.keep k2.k) hP1 hm1
end
end Go.Proofs.YthdgobcpefcolaaGreatDoor
namespace Vr
/-- A new replica of a group, in bounds. -/
theorem Sz.new {me n : Nat} (hn : n = 3 ∨ n = 5 ∨ n = 7) (hme : me < n) : (PR.new me n).Sz := by
  refine ⟨?_, ?_, ?_, ?_, ?_, ?_, ?_, ?_, ?_, ?_, ?_, ?_, ?_, ?_, ?_⟩
  all_goals first | (simp [PR.new, PR.op]; done) | (simp only [PR.new, srt]; trivial) | (show _ ∧ _; simp [PR.new]; omega) | (simp [PR.new]; omega) | (simp [PR.new, srt])
end Vr
namespace Go.Proofs.YthdgobcpefcolaaGreatDoor
open Go.Tm Vr
set_option linter.unusedSectionVars false
variable {E : Env} (hE : EOk E)
include hE
section
variable {G : Mem} {h : Heap} {X : Nat → Prop} (hS : SO E G h X)
include hS
theorem awake_at : CallsTo E 5 [] h fun v h' => v = .bool true ∧ ∃ G' X', PX E G h X G' h' X' := by
  have w0 := hS.wf.b0
  have w1 := hS.wf.b1
  refine calls_of_runs (fn := Tryz.f5) (by rw [hE.P]; exact Tryz.func5) rfl (by rw [hE.known]; rfl) (by rw [Tryz.ntmps5]; exact Nat.le_of_ble_eq_true rfl) (by decide +kernel) (rs := [.tmp 0]) rfl (wpc_runs _ _ _ _ ?_)
  simp only [push_cast, seval, hE.P, awrite, wpc_label, wpc_block, w0, w1]
  refine (fresh_at hE hS (me := 0) (n := 3) (.inl rfl) (by omega)).mono ?_
  rintro v1 H1 ⟨G1, X1, r, t, rc, p1, q1, hrc, rfl⟩
  obtain ⟨a1, c1, a2, c2, a3, c3, a4, c4, a5, c5, a6, c6, a7, c7, ct, cc, ca, rfl, _⟩ := hrc.e
  have w2 := p1.so.wf.b0
  simp only [push_cast, seval, hE.P, awrite, wpc_label, wpc_block, w2]
  have k1 := (KW.refl p1.so.wf).push (o := (.cells [ptr r, ptr t, iv (PR.new 0 3).me, iv (PR.new 0 3).n, iv (PR.new 0 3).vw, iv (PR.new 0 3).st, iv (PR.new 0 3).nm, iv (PR.new 0 3).bs, iv (PR.new 0 3).cm, iv (PR.new 0 3).nc, .slice a1 (PR.new 0 3).log.length c1, .bool false, .slice a2 (PR.new 0 3).sv.l.length c2, .slice none 0 0, .slice a3 (PR.new 0 3).sv.tab.length c3, .slice a4 (PR.new 0 3).told.length c4, .slice a5 (PR.new 0 3).voted.length c5, .bool (PR.new 0 3).sent, .slice a6 (PR.new 0 3).came.length c6, .slice a7 (PR.new 0 3).ans.length c7] 50 true))
  refine gtm (motive := wdraw E _ _) [1] fun t1 hf => ?_
  simp only [push_cast, seval, hE.P, awrite, wpc_label, wpc_block, List.mem_cons, List.not_mem_nil, or_false, forall_eq_or_imp, forall_eq] at hf
  refine gheap (motive := fun H => wdraw E _ _ _ H) (fun H => KW E H1 H ∧ H.get H1.next = some (.cells [ptr r, ptr t, iv (PR.new 0 3).me, iv (PR.new 0 3).n, iv (PR.new 0 3).vw, iv (PR.new 0 3).st, iv (PR.new 0 3).nm, iv (PR.new 0 3).bs, iv (PR.new 0 3).cm, iv (PR.new 0 3).nc, .slice a1 (PR.new 0 3).log.length c1, .bool false, .slice a2 (PR.new 0 3).sv.l.length c2, .slice none 0 0, .slice a3 (PR.new 0 3).sv.tab.length c3, .slice a4 (PR.new 0 3).told.length c4, .slice a5 (PR.new 0 3).voted.length c5, .bool (PR.new 0 3).sent, .slice a6 (PR.new 0 3).came.length c6, .slice a7 (PR.new 0 3).ans.length c7] 50 true)) ⟨k1, by rw [get_push, if_pos rfl]⟩ ?_
  clear k1
  rintro H ⟨k1, gN⟩
  have nN := k1.w.nlt gN
  have p2 := p1.trans hS.wf (PX.kw p1.so k1)
  have q2 := q1.ext (k1.ext p1.so.frz)
  have xN : ¬ X1 H1.next := fun hx => by have := p1.so.lt _ hx; omega
  refine wdraw_keep [(1, 2)] [false, true, false, false, false] (fun H => H.get H1.next = some (.cells [ptr r, ptr t, iv (PR.new 0 3).me, iv (PR.new 0 3).n, iv (PR.new 0 3).vw, iv (PR.new 0 3).st, iv (PR.new 0 3).nm, iv (PR.new 0 3).bs, iv (PR.new 0 3).cm, iv (PR.new 0 3).nc, .slice a1 (PR.new 0 3).log.length c1, .bool false, .slice a2 (PR.new 0 3).sv.l.length c2, .slice none 0 0, .slice a3 (PR.new 0 3).sv.tab.length c3, .slice a4 (PR.new 0 3).told.length c4, .slice a5 (PR.new 0 3).voted.length c5, .bool (PR.new 0 3).sent, .slice a6 (PR.new 0 3).came.length c6, .slice a7 (PR.new 0 3).ans.length c7] 50 true)) (by rw [hE.P]; decide +kernel) (by rw [hE.P]; decide +kernel) (by rw [hE.P]; decide +kernel) (by decide +kernel) gN ?_
  simp only [push_cast, seval, hE.P, awrite, wpc_label, wpc_block, wpk_nil, wpk_f, wpk_t, wpk_gf, wpk_gt, kk_same, hf, gN, nN]
  refine ⟨fun _ => ⟨ptr r, veq_ptr, ?_⟩, ?_⟩
  · rintro HH hN
    simp only [push_cast, seval, hE.P, awrite, wpc_label, wpc_block, aread_load, hf, hN, nN]
  refine (req_at hE p2.so.wf (to := 0) (c := 1) (n := 1) (by omega)).mono ?_
  rintro v3 H3 ⟨k3, ms, rfl, hms⟩
  have gN3 := k3.k.get _ _ gN
  have p3 := p2.trans hS.wf (PX.kw p2.so k3)
  have q3 := q2.ext (k3.ext p2.so.frz)
  simp only [push_cast, seval, hE.P, awrite, wpc_label, wpc_block]
  refine kk_new gN3 ?_
  have hz := Sz.new (me := 0) (n := 3) (.inl rfl) (by omega)
  have hst := stepC hE p3.so q3 (P' := (request (PR.new 0 3) (reqM 0 1 1)).1) (out' := (request (PR.new 0 3) (reqM 0 1 1)).2) (f := 53) (w := false) hz (hms G1) (by decide) rfl rfl (.inl rfl) (by simp) (by decide) ⟨by decide, by decide⟩ (fun s q hm1 => (request_at hE s q hz (by simp) (by decide) hm1 (by decide)).mono (by
    rintro v h' ⟨rfl, X', p, q⟩
    exact ⟨rfl, _, X', p, by simpa using q⟩))
  simp only [push_cast, seval, hE.P, awrite, wpc_label, wpc_block, wpk_nil, wpk_f, wpk_t, wpk_gf, wpk_gt, kk_same, hf, gN3, nN]
  refine hst.mono ?_
  rintro v4 H4 ⟨G4, X4, co, p4, q4, z4, r4⟩
  have gN4 := p4.box xN gN3
  have lN3 := (p3.so.wf.live _ _ gN3).2
  have p5 := p3.trans hS.wf p4
  simp only [push_cast, seval, hE.P, awrite, wpc_label, wpc_block]
  refine kk_new gN4 ?_
  obtain ⟨a, c, rfl, _⟩ := z4.slice
  simp only [push_cast, seval, hE.P, awrite, wpc_label, wpc_block, wpk_nil, wpk_f, wpk_t, wpk_gf, wpk_gt, kk_same, hf, gN4, nN]
  have hb2 : abs1 Tryz.prog 27 2 [(0, .int .i64 1), (1, .int .i64 2)] = some (fun b => .slice (some ⟨b, 0, none⟩) 2 2, .cells (intsC [1, 2]) 3 true) := by simp [abs1, Tryz.underlying27, sz3, zr3, afill, arep, splice, vcells, intsC]
  rw [hb2, kalloc_some]
  simp only [push_cast, seval, hE.P, awrite, wpc_label, wpc_block, wpk_nil, wpk_f, wpk_t, wpk_gf, wpk_gt, kk_same, hf, gN4, nN]
  have k6 := (KW.refl p5.so.wf).push (o := .cells (intsC [1, 2]) 3 true)
  refine (kinds_at hE k6.w (p5.so.frz.keep k6.k) z4 r4 (by decide) (b := H4.next) (tos := [1, 2]) (by rw [get_push, if_pos rfl]) rfl (k := 2) (by decide) (by decide)).mono ?_
  rintro v6 H6 ⟨rfl, hH6⟩
  subst hH6
  have p6 := p5.trans hS.wf (PX.kw p5.so k6)
  have q6 := q4.ext (k6.ext p5.so.frz)
  have gN6 := k6.k.get _ _ gN4
  obtain ⟨b1, d1, e1, hsp1, hac1⟩ := z4.1.elem p6.so.frz (i := 0) (by decide)
  injection e1 with e1 _ e1'
  subst e1; subst e1'
  have q0 := r4.at 0 ((request (PR.new 0 3) (reqM 0 1 1)).2[0]'(by decide)) (List.getElem?_eq_getElem _)
  have hop1 : ((request (PR.new 0 3) (reqM 0 1 1)).2[0]'(by decide)).op = 1 := by decide
  obtain ⟨_, _, _, _, _, _, hms0, _⟩ := q0.e
  rw [hms0] at hac1
  have p40 := acells_part hac1 4 1 (by decide)
  simp only [Nat.add_zero, List.drop_zero, List.take_succ_cons, List.take_zero, List.drop_succ_cons, hop1] at p40
  have nN6 := p6.so.wf.nlt gN6
  have c11 : (((1 : Nat) : Int) == 1) = true := by decide
  have len2 : (request (PR.new 0 3) (reqM 0 1 1)).2.length = 2 := by decide
  simp only [push_cast, seval, hE.P, awrite, wpc_label, wpc_block, boolE, Option.map_some, kpure_some, hf, gN6, nN6]
  rw [ia26 hsp1 (by omega) (by rw [len2]; decide), kpure_some]
  simp only [push_cast, seval, hE.P, awrite, wpc_label, wpc_block, hf, gN6, nN6, ↓p40, Int.toNat_zero, Nat.zero_mul, c11]
  have hOp : (request (PR.new 0 3) (reqM 0 1 1)).1.op = 1 := by decide
  have hCm : (request (PR.new 0 3) (reqM 0 1 1)).1.cm = 0 := by decide
  refine (getOp_at hE p6.so q6).mono ?_
  intro v h5 hvh
  rw [hvh.1, hvh.2]
  clear hvh
  have c00 : (((0 : Nat) : Int) == 0) = true := by decide
  simp only [push_cast, seval, hE.P, awrite, wpc_label, wpc_block, hOp, hf, gN6, nN6, c11]
  refine (getCommit_at hE p6.so q6).mono ?_
  intro v h5 hvh
  rw [hvh.1, hvh.2]
  clear hvh
  simp only [push_cast, seval, hE.P, awrite, wpc_label, wpc_block, hCm, hf, gN6, nN6, c00]
  exact ⟨_, _, p6⟩
end
end Go.Proofs.YthdgobcpefcolaaGreatDoor
