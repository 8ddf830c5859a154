/- Chapter 25: the model commits. -/
/- Merged by a program of ours: U15 U16. -/
import Derived.Test.YthdgobcpefcolaaGreatDoorG22
set_option maxRecDepth 10000
set_option linter.all false
set_option linter.unusedSimpArgs false
set_option linter.unusedVariables false
/- Chapter 25: a new replica, its model. -/
namespace Go.Tm
open Vr
theorem PX.fresh' {E : Env} {G : Mem} {h h' : Heap} {X : Nat → Prop} (hS : SO E G h X) (k : KW E h h') : PX E G h X G h' (fun b => X b ∨ (h.next ≤ b ∧ b < h'.next)) := by
  refine ⟨Sub.refl _, fun b c x => .inl x, k.k.x X, fun b hb => hb.imp id (·.1), ⟨k.w, hS.frz.keep k.k, fun b c hb hx => ?_, fun b hx => ?_⟩⟩
  · rcases hx with hx | hx
    · exact hS.dis b c hb hx
    · rw [hS.gnone hx.1] at hb; cases hb
  · rcases hx with hx | hx
    · exact Nat.lt_of_lt_of_le (hS.lt b hx) k.k.next
    · exact hx.2
theorem PX.one {E : Env} {G : Mem} {h h' : Heap} {X : Nat → Prop} (hS : SO E G h X) (k : KW E h h') {b0 : Nat} (h1 : h.next ≤ b0) (h2 : b0 < h'.next) : PX E G h X G h' (fun b => X b ∨ b = b0) := by
  refine ⟨Sub.refl _, fun b c x => .inl x, k.k.x X, fun b hb => hb.imp id (fun e => by omega), ⟨k.w, hS.frz.keep k.k, fun b c hb hx => ?_, fun b hx => ?_⟩⟩
  · rcases hx with hx | hx
    · exact hS.dis b c hb hx
    · subst hx; rw [hS.gnone h1] at hb; cases hb
  · rcases hx with hx | hx
    · exact Nat.lt_of_lt_of_le (hS.lt b hx) k.k.next
    · omega
theorem arep_ints (n : Nat) : arep n [.int .i64 0] = intsC (List.replicate n 0) := by
  induction n with
  | zero => rfl
  | succ n ih => simp only [arep, ih, List.replicate_succ]; rfl
theorem arep_bools (n : Nat) : arep n [.bool false] = boolsC (List.replicate n false) := by
  induction n with
  | zero => rfl
  | succ n ih => simp only [arep, ih, List.replicate_succ]; rfl
theorem arep_msgs (E : Env) (G : Mem) (n : Nat) : MgsR E G (List.replicate n {}) (arep n [.int .i64 0, .int .i64 0, .int .i64 0, .int .i64 0, .int .i64 0, .int .i64 0, .int .i64 0, .int .i64 0, .int .i64 0, .slice none 0 0, .slice none 0 0, .int .i64 0, .int .i64 0, .string ByteArray.empty, .int .i64 0, .int .i64 0, .slice none 0 0]) := by
  induction n with
  | zero => rfl
  | succ n ih => exact ⟨_, _, rfl, ⟨_, _, _, rfl, Fz.nil, Fz.nil, Fz.nil⟩, ih⟩
/-- A list just made, all of it in use. -/
theorem Own.whole {h : Heap} {b e z lo n : Nat} {cs : List Value} (hb : h.get b = some (.cells cs e true)) (hl : cs.length = n * z) (hlo : lo ≤ b) (hn : n ≤ 9223372036854775807) : Own h e z lo n cs (.slice (some ⟨b, 0, none⟩) n n) :=
  .inr ⟨b, n, [], true, rfl, by rw [List.append_nil]; exact hb, hl, by simp, Nat.le_refl _, hlo, hn⟩
end Go.Tm
namespace Go.Proofs.YthdgobcpefcolaaGreatDoor
open Go.Tm Vr
set_option linter.unusedSectionVars false
variable {E : Env} (hE : EOk E)
include hE
section
variable {G : Mem} {h : Heap} {X : Nat → Prop} (hS : SO E G h X)
include hS
theorem may_at {me n t : Nat} (hn : n = 3 ∨ n = 5 ∨ n = 7) (hme : me < n) : CallsTo E 51 [iv me, iv n, .iface 46 (ptr t)] h fun v h' => v = .bool true ∧ h' = h := by
  have hnil : anil Tryz.prog true 75 (.iface 46 (ptr t)) .nilIface = some false := by simp [anil, Tryz.underlying75]
  have c2 : ((0 : Int) ≤ (me : Int)) = True := by simp
  refine calls_of_runs (fn := Tryz.f51) (by rw [hE.P]; exact Tryz.func51) rfl (by rw [hE.known]; rfl) (by rw [Tryz.ntmps51]; exact Nat.le_of_ble_eq_true rfl) (by decide +kernel) (rs := [.tmp 6]) rfl (wpc_runs _ _ _ _ ?_)
  rcases hn with rfl | rfl | rfl
  · have c1 : decide ((me : Int) < 3) = true := by simp; omega
    simp only [push_cast, seval, hE.P, awrite, wpc_label, wpc_block, c1, c2, hnil, kguard_undef, Option.map_some, kpure_some]
  · have c1 : decide ((me : Int) < 5) = true := by simp; omega
    simp only [push_cast, seval, hE.P, awrite, wpc_label, wpc_block, c1, c2, hnil, kguard_undef, Option.map_some, kpure_some]
  · have c1 : decide ((me : Int) < 7) = true := by simp; omega
    simp only [push_cast, seval, hE.P, awrite, wpc_label, wpc_block, c1, c2, hnil, kguard_undef, Option.map_some, kpure_some]
theorem new_at {me n t : Nat} {ss : List Value} (hn : n = 3 ∨ n = 5 ∨ n = 7) (hme : me < n) (ht : h.get t = some (.cells ss 44 true)) (hs : SvR E G ⟨[], []⟩ ss) (hXt : X t) :
    CallsTo E 25 [iv me, iv n, .iface 46 (ptr t)] h fun v h' => ∃ r X', v = .tuple #[ptr r, iv 0] ∧ PX E G h X G h' X' ∧ QR E G h' X' (PR.new me n) [] r t := by
  have w0 := hS.wf.b0
  have w1 := hS.wf.b1
  have w2 := hS.wf.b2
  have w3 := hS.wf.b3
  refine calls_of_runs (fn := Tryz.f25) (by rw [hE.P]; exact Tryz.func25) rfl (by rw [hE.known]; rfl) (by rw [Tryz.ntmps25]; exact Nat.le_of_ble_eq_true rfl) (by decide +kernel) (rs := [.tmp 6, .tmp 7]) rfl (wpc_runs _ _ _ _ ?_)
  simp only [push_cast, seval, hE.P, awrite, wpc_label, wpc_block]
  refine (may_at hE hS hn hme).mono ?_
  intro v h5 hvh
  rw [hvh.1, hvh.2]
  clear hvh
  simp only [push_cast, seval, hE.P, awrite, wpc_label, wpc_block]
  rw [mk27 (by omega) (by omega) (by omega) (by omega), kalloc_some]
  simp only [push_cast, seval, hE.P, awrite, wpc_label, wpc_block, w0, w1, w2, w3]
  have hclear : CallsTo E 52 [ptr (h.next + 1)] ((h.push (.cells (arep n [.int .i64 0]) 3 true)).push (.cells [iv me, iv n, .iface 46 (ptr t), iv 0, iv 0, iv 0, iv 0, iv 0, iv 0, iv 0, .slice none 0 0, .slice (some ⟨h.next, 0, none⟩) n n, .slice none 0 0, .bool false, .map none, .slice none 0 0] 78 true)) fun v h' => v = .tuple #[] ∧
      h' = ((((h.push (.cells (arep n [.int .i64 0]) 3 true)).push (.cells [iv me, iv n, .iface 46 (ptr t), iv 0, iv 0, iv 0, iv 0, iv 0, iv 0, iv 0, .slice none 0 0, .slice (some ⟨h.next, 0, none⟩) n n, .slice none 0 0, .bool false, .map none, .slice none 0 0] 78 true)).push (.cells (arep n [.bool false]) 4 true)).push (.map [] 0)).put (h.next + 1) (.cells [iv me, iv n, .iface 46 (ptr t), iv 0, iv 0, iv 0, iv 0, iv 0, iv 0, iv 0, .slice none 0 0, .slice (some ⟨h.next, 0, none⟩) n n, .slice (some ⟨h.next + 2, 0, none⟩) n n, .bool false, .map (some (h.next + 3)), .slice none 0 0] 78 true) := by
    refine calls_of_runs (fn := Tryz.f52) (by rw [hE.P]; exact Tryz.func52) rfl (by rw [hE.known]; rfl) (by rw [Tryz.ntmps52]; exact Nat.le_of_ble_eq_true rfl) (by decide +kernel) (rs := []) rfl (wpc_runs _ _ _ _ ?_)
    simp only [push_cast, seval, hE.P, awrite, wpc_label, wpc_block, w0, w1, w2, w3]
    rw [mk25 (by omega) (by omega) (by omega) (by omega), kalloc_some]
    simp only [push_cast, seval, hE.P, awrite, wpc_label, wpc_block, w0, w1, w2, w3]
  refine hclear.mono ?_
  rintro v h5 ⟨rfl, rfl⟩
  simp only [push_cast, seval, hE.P, awrite, wpc_label, wpc_block]
  have wA := hS.wf.push (.cells (arep n [.int .i64 0]) 3 true)
  have wB := wA.push (.cells [iv me, iv n, .iface 46 (ptr t), iv 0, iv 0, iv 0, iv 0, iv 0, iv 0, iv 0, .slice none 0 0, .slice (some ⟨h.next, 0, none⟩) n n, .slice none 0 0, .bool false, .map none, .slice none 0 0] 78 true)
  have wC := wB.push (.cells (arep n [.bool false]) 4 true)
  have kA := (KW.refl hS.wf).push (o := .cells (arep n [.int .i64 0]) 3 true)
  have kB := (KW.refl wA).push (o := (.cells [iv me, iv n, .iface 46 (ptr t), iv 0, iv 0, iv 0, iv 0, iv 0, iv 0, iv 0, .slice none 0 0, .slice (some ⟨h.next, 0, none⟩) n n, .slice none 0 0, .bool false, .map none, .slice none 0 0] 78 true))
  have kC := (KW.refl wB).push (o := .cells (arep n [.bool false]) 4 true)
  have kD := (KW.refl wC).push (o := .map [] 0)
  have k4 := ((kA.trans kB).trans kC).trans kD
  have g0 := kD.k.get _ _ (kC.k.get _ _ (kB.k.get h.next _ (by rw [get_push, if_pos rfl])))
  have g2 := kD.k.get (h.next + 2) _ (by rw [get_push, if_pos (by simp)])
  have g3 : ((((h.push (.cells (arep n [.int .i64 0]) 3 true)).push (.cells [iv me, iv n, .iface 46 (ptr t), iv 0, iv 0, iv 0, iv 0, iv 0, iv 0, iv 0, .slice none 0 0, .slice (some ⟨h.next, 0, none⟩) n n, .slice none 0 0, .bool false, .map none, .slice none 0 0] 78 true)).push (.cells (arep n [.bool false]) 4 true)).push (.map [] 0)).get (h.next + 3) = some (.map [] 0) := by rw [get_push, if_pos (by simp)]
  have hn4 : ((((h.push (.cells (arep n [.int .i64 0]) 3 true)).push (.cells [iv me, iv n, .iface 46 (ptr t), iv 0, iv 0, iv 0, iv 0, iv 0, iv 0, iv 0, .slice none 0 0, .slice (some ⟨h.next, 0, none⟩) n n, .slice none 0 0, .bool false, .map none, .slice none 0 0] 78 true)).push (.cells (arep n [.bool false]) 4 true)).push (.map [] 0)).next = h.next + 4 := by simp
  have k5 := k4.put (o := .cells [iv me, iv n, .iface 46 (ptr t), iv 0, iv 0, iv 0, iv 0, iv 0, iv 0, iv 0, .slice none 0 0, .slice (some ⟨h.next, 0, none⟩) n n, .slice (some ⟨h.next + 2, 0, none⟩) n n, .bool false, .map (some (h.next + 3)), .slice none 0 0] 78 true) (b := h.next + 1) (by omega) (by omega) hS.wf
  have htn := (hS.wf.live _ _ ht).2
  refine ⟨h.next + 1, _, rfl, PX.fresh' hS k5, ⟨h.next + 3, .slice none 0 0, .slice (some ⟨h.next, 0, none⟩) n n, .slice (some ⟨h.next + 2, 0, none⟩) n n, .slice none 0 0⟩, ?_, ⟨ss, k5.k.get _ _ ht, hs⟩, Own.nil _ _ _ _, ?_, ?_, ⟨[], Own.nil _ _ _ _, rfl⟩, ⟨[], 0, ?_, CmR.nil⟩, ?_⟩
  · rw [get_put, if_pos rfl]; rfl
  · refine .inr ⟨h.next, n, [], true, by simp [PR.new], ?_, by simp [PR.new, intsC], by simp [PR.new], by simp [PR.new], Nat.zero_le _, by omega⟩
    rw [get_put, if_neg (by omega), g0, arep_ints, List.append_nil]; rfl
  · have hpv : (PR.new me n).pV = List.replicate n false := rfl
    rw [hpv]
    refine .inr ⟨h.next + 2, n, [], true, by simp, ?_, by simp [boolsC], by simp, by simp, Nat.zero_le _, by omega⟩
    rw [get_put, if_neg (by omega), g2, arep_bools, List.append_nil]
  · rw [get_put, if_neg (show ¬ h.next + 1 = h.next + 3 by omega), g3]
  · intro b hb
    simp only [slB, List.mem_cons, List.mem_append, List.not_mem_nil, or_false, false_or] at hb
    rw [next_put, hn4]
    rcases hb with hb | hb | hb | hb | hb
    · right; omega
    · left; rw [hb]; exact hXt
    · right; omega
    · right; omega
    · right; omega
theorem newR_at {me n : Nat} (hn : n = 3 ∨ n = 5 ∨ n = 7) :
    CallsTo E 26 [iv me, iv n, .agg #[.bool false, .slice none 0 0, .slice none 0 0, .slice none 0 0]] h fun v h' => ∃ G' rc, Ext E G h G' h' ∧ PRR E G' (PR.new me n) rc ∧ v = .agg rc.toArray := by
  have w0 := hS.wf.b0
  have w1 := hS.wf.b1
  refine calls_of_runs (fn := Tryz.f26) (by rw [hE.P]; exact Tryz.func26) rfl (by rw [hE.known]; rfl) (by rw [Tryz.ntmps26]; exact Nat.le_of_ble_eq_true rfl) (by decide +kernel) (rs := [.cell 6 48]) rfl (wpc_runs _ _ _ _ ?_)
  simp only [push_cast, seval, hE.P, awrite, wpc_label, wpc_block, w0, w1]
  refine gtm (motive := wdraw E _ _) [0, 1, 5, 6] fun t1 hf => ?_
  simp only [push_cast, seval, hE.P, awrite, wpc_label, wpc_block, List.mem_cons, List.not_mem_nil, or_false, forall_eq_or_imp, forall_eq] at hf
  obtain ⟨f0, f1, f5, f6⟩ := hf
  have hlen0 : ([] : List Ent).length = 0 := rfl
  refine gheap (motive := fun H => wdraw E _ _ _ H) (fun H => KW E h H ∧ H.get h.next = some (.cells [.bool false, .slice none 0 0, .slice none 0 0, .slice none 0 0] 42 true) ∧ H.get (h.next + 1) = some (.cells [.int .i64 0, .int .i64 0, .int .i64 0, .int .i64 0, .int .i64 0, .int .i64 0, .int .i64 0, .int .i64 0, .slice none 0 0, .bool false, .slice none 0 0, .slice none 0 0, .slice none 0 0, .slice none 0 0, .slice none 0 0, .bool false, .slice none 0 0, .slice none 0 0] 48 true)) ⟨((KW.refl hS.wf).push.push), by rw [get_push, if_neg (by simp), get_push, if_pos rfl], by rw [get_push, if_pos (by simp)]⟩ ?_
  rintro H ⟨kH, gS, gR⟩
  have n0 := kH.w.nlt gS
  have n1 := kH.w.nlt gR
  have v0 := kH.w.b0
  have v1 := kH.w.b1
  have v2 := kH.w.b2
  have v3 := kH.w.b3
  have lS := (kH.w.live _ _ gS).2
  have lR := (kH.w.live _ _ gR).2
  have x0 : (H.next = h.next + 1) = False := by simp; omega
  have x1 : (H.next + 1 = h.next + 1) = False := by simp; omega
  have x2 : (H.next + 1 + 1 = h.next + 1) = False := by simp; omega
  have x3 : (H.next + 1 + 1 + 1 = h.next + 1) = False := by simp; omega
  refine wdraw_two [(2, [0])] [4, 6, 8, 10, 12] [(4, [3]), (6, [5]), (8, [7]), (10, [9])] [(0, (7, [0])), (1, (8, [1])), (2, (9, [2])), (3, (10, [3])), (4, (11, [4, 3])), (5, (12, [5])), (6, (13, [6, 5])), (7, (14, [7])), (8, (15, [8, 7])), (9, (16, [9])), (10, (17, [10, 9])), (11, (18, [11, 0, 1, 2, 3, 4, 5, 6, 7, 8, 9, 10]))] [0, 1, 2, 3, 4, 5, 6, 7, 8, 9, 10, 11, 12] (by rw [hE.P]; decide +kernel) (by rw [hE.P]; decide +kernel) (by rw [hE.P]; decide +kernel) (by rw [hE.P]; decide +kernel) (by rw [hE.P]; decide +kernel) (by decide +kernel) rfl ?_
  simp only [push_cast, seval, hE.P, awrite, wpc_label, wpc_block, f0, f1, f5, f6, gS, gR, n0, n1, v0, v1, v2, v3]
  rw [mk27 (by omega) (by omega) (by omega) (by omega), kalloc_some]
  simp only [push_cast, seval, hE.P, awrite, wpc_label, wpc_block, f0, f1, f5, f6, gS, gR, n0, n1, v0, v1, v2, v3]
  rw [mk25 (by omega) (by omega) (by omega) (by omega), kalloc_some]
  simp only [push_cast, seval, hE.P, awrite, wpc_label, wpc_block, f0, f1, f5, f6, gS, gR, n0, n1, v0, v1, v2, v3]
  rw [mk26 (by omega) (by omega) (by omega) (by omega), kalloc_some]
  simp only [push_cast, seval, hE.P, awrite, wpc_label, wpc_block, f0, f1, f5, f6, gS, gR, n0, n1, v0, v1, v2, v3]
  rw [mk26 (by omega) (by omega) (by omega) (by omega), kalloc_some]
  simp only [push_cast, seval, hE.P, awrite, wpc_label, wpc_block, f0, f1, f5, f6, gS, gR, n0, n1, v0, v1, v2, v3, x0, x1, x2, x3]
  refine ⟨⟨?_, ?_, ?_, ?_, ?_⟩, ?_⟩
  · simp
  · simp only [push_cast, seval, hE.P, awrite, wpc_label, wpc_block, f0, f1, f5, f6, gS, gR, n0, n1, rdOk, veq_agg, veq_slice, veqL_cons, veqL_nil, veq_bool]
  · simp only [push_cast, seval, hE.P, awrite, wpc_label, wpc_block, f0, f1, f5, f6, gS, gR, n0, n1, faOk, Op.operands, Go.Tm.sc, scA, scL]
    simp
    omega
  · simp only [push_cast, seval, hE.P, awrite, wpc_label, wpc_block, f0, f1, f5, f6, gS, gR, n0, n1, aOk, aalloc_mk]
    have zz : ∀ q : Nat → Bool, scOQb q (.cells (arep n [.int .i64 0, .int .i64 0, .int .i64 0, .int .i64 0, .int .i64 0, .int .i64 0, .int .i64 0, .int .i64 0, .int .i64 0, .slice none 0 0, .slice none 0 0, .int .i64 0, .int .i64 0, .string ByteArray.empty, .int .i64 0, .int .i64 0, .slice none 0 0]) 62 true) = true := fun q => scO_repL rfl
    have zb : ∀ q : Nat → Bool, scOQb q (.cells (arep n [.bool false]) 4 true) = true := fun q => scO_repL rfl
    exact ⟨⟨_, mk27 (by omega) (by omega) (by omega) (by omega), scO_rep⟩, ⟨_, mk25 (by omega) (by omega) (by omega) (by omega), zb _⟩, ⟨_, mk26 (by omega) (by omega) (by omega) (by omega), zz _⟩, ⟨_, mk26 (by omega) (by omega) (by omega) (by omega), zz _⟩⟩
  · simp only [push_cast, seval, hE.P, awrite, wpc_label, wpc_block, f0, f1, f5, f6, gS, gR, n0, n1, dOk]
    refine ⟨rfl, rfl, rfl, rfl, scQ_sl1 (K := 4) (by decide) (Nat.le_refl _) (Nat.lt_succ_self _), rfl, scQ_sl1 (K := 6) (by decide) (Nat.le_refl _) (Nat.lt_succ_self _), rfl, scQ_sl1 (K := 8) (by decide) (Nat.le_refl _) (Nat.lt_succ_self _), rfl, scQ_sl1 (K := 10) (by decide) (Nat.le_refl _) (Nat.lt_succ_self _), ?_⟩
    simp only [scQ, scQA, scQL, Bool.and_true, Bool.true_and, Bool.and_eq_true]
    exact ⟨live_one (k := 4) (by decide) (Nat.le_refl _) (Nat.lt_succ_self _), live_one (k := 6) (by decide) (Nat.le_refl _) (Nat.lt_succ_self _), live_one (k := 8) (by decide) (Nat.le_refl _) (Nat.lt_succ_self _), live_one (k := 10) (by decide) (Nat.le_refl _) (Nat.lt_succ_self _)⟩
  · have wA := kH.w.push (.cells (arep n [.int .i64 0]) 3 true)
    have wB := wA.push (.cells (arep n [.bool false]) 4 true)
    have wC := wB.push (.cells (arep n [.int .i64 0, .int .i64 0, .int .i64 0, .int .i64 0, .int .i64 0, .int .i64 0, .int .i64 0, .int .i64 0, .int .i64 0, .slice none 0 0, .slice none 0 0, .int .i64 0, .int .i64 0, .string ByteArray.empty, .int .i64 0, .int .i64 0, .slice none 0 0]) 62 true)
    have kA := (KW.refl kH.w).push (o := (.cells (arep n [.int .i64 0]) 3 true))
    have kB := (KW.refl wA).push (o := (.cells (arep n [.bool false]) 4 true))
    have kC := (KW.refl wB).push (o := (.cells (arep n [.int .i64 0, .int .i64 0, .int .i64 0, .int .i64 0, .int .i64 0, .int .i64 0, .int .i64 0, .int .i64 0, .int .i64 0, .slice none 0 0, .slice none 0 0, .int .i64 0, .int .i64 0, .string ByteArray.empty, .int .i64 0, .int .i64 0, .slice none 0 0]) 62 true))
    have kD := (KW.refl wC).push (o := (.cells (arep n [.int .i64 0, .int .i64 0, .int .i64 0, .int .i64 0, .int .i64 0, .int .i64 0, .int .i64 0, .int .i64 0, .int .i64 0, .slice none 0 0, .slice none 0 0, .int .i64 0, .int .i64 0, .string ByteArray.empty, .int .i64 0, .int .i64 0, .slice none 0 0]) 62 true))
    have g0 := kD.k.get _ _ (kC.k.get _ _ (kB.k.get H.next _ (by rw [get_push, if_pos rfl])))
    have g1 := kD.k.get _ _ (kC.k.get (H.next + 1) _ (by rw [get_push, if_pos (by simp)]))
    have g2 := kD.k.get (H.next + 1 + 1) _ (by rw [get_push, if_pos (by simp)])
    have g3 : ((((H.push (.cells (arep n [.int .i64 0]) 3 true)).push (.cells (arep n [.bool false]) 4 true)).push (.cells (arep n [.int .i64 0, .int .i64 0, .int .i64 0, .int .i64 0, .int .i64 0, .int .i64 0, .int .i64 0, .int .i64 0, .int .i64 0, .slice none 0 0, .slice none 0 0, .int .i64 0, .int .i64 0, .string ByteArray.empty, .int .i64 0, .int .i64 0, .slice none 0 0]) 62 true)).push (.cells (arep n [.int .i64 0, .int .i64 0, .int .i64 0, .int .i64 0, .int .i64 0, .int .i64 0, .int .i64 0, .int .i64 0, .int .i64 0, .slice none 0 0, .slice none 0 0, .int .i64 0, .int .i64 0, .string ByteArray.empty, .int .i64 0, .int .i64 0, .slice none 0 0]) 62 true)).get (H.next + 1 + 1 + 1) = some (.cells (arep n [.int .i64 0, .int .i64 0, .int .i64 0, .int .i64 0, .int .i64 0, .int .i64 0, .int .i64 0, .int .i64 0, .int .i64 0, .slice none 0 0, .slice none 0 0, .int .i64 0, .int .i64 0, .string ByteArray.empty, .int .i64 0, .int .i64 0, .slice none 0 0]) 62 true) := by rw [get_push, if_pos (by simp)]
    have hn4 : ((((H.push (.cells (arep n [.int .i64 0]) 3 true)).push (.cells (arep n [.bool false]) 4 true)).push (.cells (arep n [.int .i64 0, .int .i64 0, .int .i64 0, .int .i64 0, .int .i64 0, .int .i64 0, .int .i64 0, .int .i64 0, .int .i64 0, .slice none 0 0, .slice none 0 0, .int .i64 0, .int .i64 0, .string ByteArray.empty, .int .i64 0, .int .i64 0, .slice none 0 0]) 62 true)).push (.cells (arep n [.int .i64 0, .int .i64 0, .int .i64 0, .int .i64 0, .int .i64 0, .int .i64 0, .int .i64 0, .int .i64 0, .int .i64 0, .slice none 0 0, .slice none 0 0, .int .i64 0, .int .i64 0, .string ByteArray.empty, .int .i64 0, .int .i64 0, .slice none 0 0]) 62 true)).next = H.next + 4 := by simp
    have k4 := (((kH.trans kA).trans kB).trans kC).trans kD
    refine gheap (motive := fun H5 => ∃ G' rc, Ext E G h G' H5 ∧ PRR E G' (PR.new me n) rc ∧ _ = Value.agg rc.toArray) (fun H5 => KW E h H5 ∧ H5.get H.next = some (.cells (arep n [.int .i64 0]) 3 true) ∧ H5.get (H.next + 1) = some (.cells (arep n [.bool false]) 4 true) ∧ H5.get (H.next + 1 + 1) = some (.cells (arep n [.int .i64 0, .int .i64 0, .int .i64 0, .int .i64 0, .int .i64 0, .int .i64 0, .int .i64 0, .int .i64 0, .int .i64 0, .slice none 0 0, .slice none 0 0, .int .i64 0, .int .i64 0, .string ByteArray.empty, .int .i64 0, .int .i64 0, .slice none 0 0]) 62 true) ∧ H5.get (H.next + 1 + 1 + 1) = some (.cells (arep n [.int .i64 0, .int .i64 0, .int .i64 0, .int .i64 0, .int .i64 0, .int .i64 0, .int .i64 0, .int .i64 0, .int .i64 0, .slice none 0 0, .slice none 0 0, .int .i64 0, .int .i64 0, .string ByteArray.empty, .int .i64 0, .int .i64 0, .slice none 0 0]) 62 true)) ⟨k4.put (by omega) (by omega) hS.wf, by rw [get_put, if_neg (by omega)]; exact g0, by rw [get_put, if_neg (by omega)]; exact g1, by rw [get_put, if_neg (by omega)]; exact g2, by rw [get_put, if_neg (by omega)]; exact g3⟩ ?_
    rintro H5 ⟨k5, q0, q1, q2, q3⟩
    have hnn := kH.k.next
    have o0 := Own.whole (lo := h.next) (z := 1) (n := n) q0 (by rw [arep_len]; rfl) hnn (by omega)
    have o1 := Own.whole (lo := h.next) (z := 1) (n := n) q1 (by rw [arep_len]; rfl) (by omega) (by omega)
    have o2 := Own.whole (lo := h.next) (z := 17) (n := n) q2 (by rw [arep_len]; rfl) (by omega) (by omega)
    have o3 := Own.whole (lo := h.next) (z := 17) (n := n) q3 (by rw [arep_len]; rfl) (by omega) (by omega)
    rw [arep_ints] at o0
    rw [arep_bools] at o1
    obtain ⟨G0, z0, y0⟩ := Own.frz hS.wf hS.frz k5 o0
    obtain ⟨G1, z1, y1, s1, _⟩ := y0.frz2 o1
    obtain ⟨G2, z2, y2, s2, _⟩ := y1.frz2 o2
    obtain ⟨G3, z3, y3, s3, _⟩ := y2.frz2 o3
    have l1 : (PR.new me n).told.length = n := by simp [PR.new]
    have l2 : (PR.new me n).voted.length = n := by simp [PR.new]
    have l3 : (PR.new me n).came.length = n := by simp [PR.new]
    have l4 : (PR.new me n).ans.length = n := by simp [PR.new]
    exact ⟨G3, _, y3, PRR.of (P := PR.new me n) (ct := []) Fz.nil Fz.nil Fz.nil rfl (by rw [l1]; exact ((z0.sub s1).sub s2).sub s3) (by rw [l2]; exact (z1.sub s2).sub s3) ⟨by rw [l3]; exact z2.sub s3, arep_msgs _ _ _⟩ ⟨by rw [l4]; exact z3, arep_msgs _ _ _⟩, rfl⟩
theorem fresh_at {me n : Nat} (hn : n = 3 ∨ n = 5 ∨ n = 7) (hme : me < n) : CallsTo E 14 [iv me, iv n] h fun v h' => ∃ G' X' r t rc, PX E G h X G' h' X' ∧ QR E G' h' X' (PR.new me n) [] r t ∧ PRR E G' (PR.new me n) rc ∧ v = .tuple #[.agg (ptr r :: ptr t :: rc).toArray, .bool true] := by
  have w0 := hS.wf.b0
  have w1 := hS.wf.b1
  refine calls_of_runs (fn := Tryz.f14) (by rw [hE.P]; exact Tryz.func14) rfl (by rw [hE.known]; rfl) (by rw [Tryz.ntmps14]; exact Nat.le_of_ble_eq_true rfl) (by decide +kernel) (rs := [.cell 4 50, .tmp 5]) rfl (wpc_runs _ _ _ _ ?_)
  simp only [push_cast, seval, hE.P, awrite, wpc_label, wpc_block, w0, w1]
  rw [Tryz.underlying46]
  simp only [kpure_some]
  simp only [push_cast, seval, hE.P, awrite, wpc_label, wpc_block, w0, w1]
  have k0 := ((KW.refl hS.wf).push (o := (.cells [.pointer none, .pointer none, .int .i64 0, .int .i64 0, .int .i64 0, .int .i64 0, .int .i64 0, .int .i64 0, .int .i64 0, .int .i64 0, .slice none 0 0, .bool false, .slice none 0 0, .slice none 0 0, .slice none 0 0, .slice none 0 0, .slice none 0 0, .bool false, .slice none 0 0, .slice none 0 0] 50 true))).push (o := (.cells [.bool false, .slice none 0 0, .slice none 0 0, .slice none 0 0] 44 true))
  have p0 := PX.one hS k0 (b0 := h.next + 1) (by omega) (by simp)
  refine gheap (motive := fun H => CallsTo E 25 _ H _) (fun H => PX E G h X G H (fun b => X b ∨ b = h.next + 1) ∧ H.get h.next = some (.cells [.pointer none, .pointer none, .int .i64 0, .int .i64 0, .int .i64 0, .int .i64 0, .int .i64 0, .int .i64 0, .int .i64 0, .int .i64 0, .slice none 0 0, .bool false, .slice none 0 0, .slice none 0 0, .slice none 0 0, .slice none 0 0, .slice none 0 0, .bool false, .slice none 0 0, .slice none 0 0] 50 true) ∧ H.get (h.next + 1) = some (.cells [.bool false, .slice none 0 0, .slice none 0 0, .slice none 0 0] 44 true)) ⟨p0, by rw [get_push, if_neg (by simp), get_push, if_pos rfl], by rw [get_push, if_pos (by simp)]⟩ ?_
  clear p0 k0
  rintro H ⟨p0, gN, gT⟩
  refine (new_at hE p0.so hn hme gT ⟨_, _, _, rfl, Fz.nil, Fz.nil, rfl⟩ (.inr rfl)).mono ?_
  rintro v1 H1 ⟨r, X1, rfl, p1, q1⟩
  have hX1 : ¬ X1 h.next := fun hx => by
    rcases p1.xs _ hx with (h5 | h5) | h5
    · have := hS.lt _ h5; omega
    · omega
    · have := (p0.so.wf.live _ _ gN).2; omega
  have gN1 := p1.kx.get _ _ (fun hx => by
    rcases hx with h5 | h5
    · have := hS.lt _ h5; omega
    · omega) gN
  simp only [push_cast, seval, hE.P, awrite, wpc_label, wpc_block]
  refine (newR_at hE p1.so (me := me) (n := n) hn).mono ?_
  rintro v2 H2 ⟨G2, rc, x2, hrc, rfl⟩
  have gN2 := x2.keep.get _ _ gN1
  have nN2 := x2.wf.nlt gN2
  have p2 := (p0.trans hS.wf p1).trans hS.wf (PX.ext p1.so x2)
  have hg2 : G2 h.next = none := by
    cases hg : G2 h.next with
    | none => rfl
    | some c =>
      rcases x2.new _ _ hg with h5 | h5
      · rw [hS.gnone (Nat.le_refl _)] at h5; cases h5
      · have := (p1.so.wf.live _ _ gN1).2; omega
  obtain ⟨a1, c1, a2, c2, a3, c3, a4, c4, a5, c5, a6, c6, a7, c7, ct, cc, ca, rfl, hP⟩ := hrc.e
  have hnil : anil Tryz.prog true 45 (ptr r) (.pointer none) = some true.not := by simp [anil, Tryz.underlying45]
  simp only [push_cast, seval, hE.P, awrite, wpc_label, wpc_block, gN2, nN2, hnil, Option.map_some, kpure_some]
  have p3 := PX.fresh hS.wf p2 (b := h.next) (o := .cells [ptr r, ptr (h.next + 1), iv (PR.new me n).me, iv (PR.new me n).n, iv (PR.new me n).vw, iv (PR.new me n).st, iv (PR.new me n).nm, iv (PR.new me n).bs, iv (PR.new me n).cm, iv (PR.new me n).nc, .slice a1 (PR.new me n).log.length c1, .bool false, .slice a2 (PR.new me n).sv.l.length c2, .slice none 0 0, .slice a3 (PR.new me n).sv.tab.length c3, .slice a4 (PR.new me n).told.length c4, .slice a5 (PR.new me n).voted.length c5, .bool (PR.new me n).sent, .slice a6 (PR.new me n).came.length c6, .slice a7 (PR.new me n).ans.length c7] 50 true) (Nat.le_refl _) hg2 gN2
  have q2 := q1.ext x2
  obtain ⟨D, q2⟩ := q2
  exact ⟨G2, X1, r, h.next + 1, _, p3, ⟨D, q2.keepX (Sub.refl _) fun b o hb hg => by rw [get_put, if_neg (fun e => hX1 (by rw [e]; exact hb))]; exact hg⟩, hrc, rfl⟩
end
end Go.Proofs.YthdgobcpefcolaaGreatDoor
theorem Go.Tm.Ext.andthen {E : Env} {G G1 G2 : Mem} {h h1 h2 : Heap} (x : Ext E G h G1 h1) (y : Ext E G1 h1 G2 h2) : Ext E G h G2 h2 :=
  ⟨x.sub.trans y.sub, y.frz, fun b c hb => by
    rcases y.new b c hb with h3 | h3
    · exact x.new b c h3
    · right; exact Nat.le_trans x.keep.next h3, x.keep.trans y.keep, y.wf⟩
theorem Go.Tm.Ext.nn {E : Env} {G G' : Mem} {h h' : Heap} (y : Ext E G h G' h') {b : Nat} (hb : b < h.next) (hg : G b = none) : G' b = none := by
  cases hh : G' b with
  | none => rfl
  | some c =>
    rcases y.new b c hh with h3 | h3
    · rw [hg] at h3; cases h3
    · omega
namespace Go.Proofs.YthdgobcpefcolaaGreatDoor
open Go.Tm Vr
set_option linter.unusedSectionVars false
/-- A replica's cells in the model. -/
abbrev rC (P : PR) (s1 s2 s3 s4 s5 s6 s7 : Value) : List Value := [iv P.me, iv P.n, iv P.vw, iv P.st, iv P.nm, iv P.bs, iv P.cm, iv P.nc, s1, .bool false, s2, .slice none 0 0, s3, s4, s5, .bool P.sent, s6, s7]
attribute [push_cast] rC
theorem awbft : ((false == true) = true) = False := by simp
variable {E : Env} (hE : EOk E)
include hE
section
variable {G : Mem} {h : Heap} (hW : WF E h) (hG : Frz E G h) {P : PR} {cs : List Value} (hP : PRR E G P cs)
include hW hG hP
set_option maxHeartbeats 4000000 in
theorem commitR_at (z : P.Sz) (k : Nat) : CallsTo E 77 [.agg cs.toArray, iv k] h fun v h' => ∃ G' rc' co v2, Ext E G h G' h' ∧ PRR E G' (commit P k).1 rc' ∧ Own h' 62 17 h.next (commit P k).2.length co v2 ∧ MgsR E G' (commit P k).2 co ∧ (∀ b, b ∈ slB v2 → G' b = none) ∧ v = .tuple #[.agg rc'.toArray, v2] := by
  have hP0 := hP
  obtain ⟨a1, c1, a2, c2, a3, c3, a4, c4, a5, c5, a6, c6, a7, c7, ct, cc, ca, hcs, hP'⟩ := hP.e
  have w0 := hW.b0
  have w1 := hW.b1
  subst hcs
  refine calls_of_runs (fn := Tryz.f77) (by rw [hE.P]; exact Tryz.func77) rfl (by rw [hE.known]; rfl) (by rw [Tryz.ntmps77]; exact Nat.le_of_ble_eq_true rfl) (by decide +kernel) (rs := [.cell 4 48, .tmp 5]) rfl (wpc_runs _ _ _ _ ?_)
  simp only [push_cast, seval, hE.P, awrite, wpc_label, wpc_block, w0, w1]
  have hgn : ∀ b, h.next ≤ b → G b = none := fun b hb => by
    cases hg : G b with
    | none => rfl
    | some c =>
      obtain ⟨e, fx, hh⟩ := hG b c hg
      have := (hW.live _ _ hh).2; omega
  refine wpc_loop (fun j tm h2 => ∃ G2 P2 o2 rc2 co2 v6 rz, j = P.op - P2.cm ∧ fget tm 1 = iv k ∧ fget tm 2 = ptr h.next ∧ fget tm 4 = ptr (h.next + 1) ∧ fget tm 6 = v6 ∧
    Ext E G h G2 h2 ∧ PRR E G2 P2 rc2 ∧ h2.get h.next = some (.cells rc2 48 true) ∧ h2.get (h.next + 1) = some (.cells rz 48 true) ∧ rz.length = 18 ∧ G2 h.next = none ∧ G2 (h.next + 1) = none ∧
    Own h2 62 17 h.next o2.length co2 v6 ∧ MgsR E G2 o2 co2 ∧ (∀ b, b ∈ slB v6 → G2 b = none) ∧ P2.Sz ∧ P2.op = P.op ∧ o2.length + P.cm ≤ P2.cm ∧ commit P k = ((commit P2 k).1, o2 ++ (commit P2 k).2)) (P.op - P.cm) ?_ ?_
  · simp only [push_cast, seval, hE.P, awrite, wpc_label, wpc_block]
    refine ⟨G, P, [], _, [], _, _, rfl, rfl, ((KW.refl hW).push.push).ext hG, hP0, rfl, rfl, rfl, hgn _ (Nat.le_refl _), hgn _ (by omega), Own.nil _ _ _ _, rfl, fun b hb => by simp [slB] at hb, z, rfl, by simp, by simp⟩
  · rintro j tm h2 ⟨G2, P2, o2, rc2, co2, v6, rz, rfl, f1, f2, f4, f6, x2, hp2, g2, g3, hrz, hn2, hn3, ov, om, hng, z2, hop, hol, hcm⟩
    have hp0 := hp2
    obtain ⟨a1, c1, a2, c2, a3, c3, a4, c4, a5, c5, a6, c6, a7, c7, ct, cc, ca, hcs, q1, ⟨q2, q3, q4⟩, q5, q6, q7, q8⟩ := hp2.e
    subst hcs
    have hd : List.drop 18 rz = [] := List.drop_eq_nil_iff.2 (by omega)
    have hle : (18 ≤ rz.length) = True := by simp; omega
    have n2 := x2.wf.nlt g2
    have n3 := x2.wf.nlt g3
    have l2 := (x2.wf.live _ _ g2).2
    have l3 := (x2.wf.live _ _ g3).2
    have zb := z2.bs
    have zc := z2.cm
    have zo := z2.op
    have hll : P2.log.length ≤ P2.op := by unfold PR.op; omega
    have hbb : P2.bs ≤ 1099511627776 := by omega
    have hopR := opR_at hE x2.wf hp0 hbb (by omega)
    simp only [push_cast, seval, hE.P, awrite, wpc_label, wpc_block, f1, f2, f4, f6]
    refine wdraw_pairs [(6, 8)] (by rw [hE.P]; decide +kernel) (by rw [hE.P]; decide +kernel) (by rw [hE.P]; decide +kernel) ?_
    by_cases h1 : P2.cm < k
    · have hb1 : decide ((P2.cm : Int) < (k : Int)) = true := by simp; omega
      simp only [push_cast, seval, hE.P, awrite, wpc_label, wpc_block, f1, f2, f4, f6, g2, n2, hb1]
      refine hopR.mono ?_
      rintro v h3 ⟨rfl, kw3⟩
      have g2' := kw3.k.get _ _ g2
      by_cases h2c : P2.cm < P2.op
      · have hb2 : decide ((P2.cm : Int) < (P2.op : Int)) = true := by simp; omega
        simp only [push_cast, seval, hE.P, awrite, wpc_label, wpc_block, f1, f2, f4, f6, g2, n2, hb1, hb2, g2', veq_int]
        have hi : P2.cm - P2.bs < P2.log.length := by unfold PR.op at h2c; omega
        have hw : (Value.int .i64 (IntKind.i64.wrap ((P2.cm : Int) - (P2.bs : Int)))) = .int .i64 ((P2.cm - P2.bs : Nat) : Int) := iv_sub (by omega) zb
        have x3 := x2.kw kw3
        obtain ⟨lb, lc, e1', hsp, hac⟩ := q1.1.elem x3.frz hi
        injection e1' with e1' _ e3'
        subst e1'; subst e3'
        rw [entsC_at (List.getElem?_eq_getElem hi)] at hac
        unfold entC at hac
        have hen := z2.ent _ (List.getElem_mem hi)
        have hst := commit_step h1 zb (List.getElem?_eq_getElem hi)
        generalize P2.log[P2.cm - P2.bs] = e at *
        rw [hw, ia36 hsp (by omega) (by omega), kpure_some]
        have g3' := kw3.k.get _ _ g3
        have lh3 : h.next < h3.next := (x3.wf.live _ _ g2').2
        have w3 := x3.wf.b0
        have e9 := x3.wf.ne g2'
        simp only [push_cast, seval, hE.P, awrite, wpc_label, wpc_block, f1, f2, f4, f6, g2', n2, ↓hac, Int.toNat_natCast, w3, e9]
        have kE := (KW.refl x3.wf).push (o := .cells [iv e.c, iv e.n, .string e.t] 56 true)
        have x4 := x3.kw kE
        refine Go.Tm.kcall_gen [1, 2, 4, 6, 7] ?_
        intro t1 hf
        simp only [push_cast, seval, hE.P, awrite, wpc_label, wpc_block, List.mem_cons, List.not_mem_nil, or_false, forall_eq_or_imp, forall_eq, f1, f2, f4, f6] at hf
        obtain ⟨f1, f2, f4, f6, f7⟩ := hf
        refine gheap (motive := fun H => CallsTo E 101 _ H _) (fun H => Ext E G h G2 H ∧ H.get h.next = some (.cells (rC P2 (.slice (some lb) P2.log.length c1) (.slice a2 P2.sv.l.length c2) (.slice a3 P2.sv.tab.length c3) (.slice a4 P2.told.length c4) (.slice a5 P2.voted.length c5) (.slice a6 P2.came.length c6) (.slice a7 P2.ans.length c7)) 48 true) ∧ H.get (h.next + 1) = some (.cells rz 48 true) ∧ H.get h3.next = some (.cells [iv e.c, iv e.n, .string e.t] 56 true) ∧ Own H 62 17 h.next o2.length co2 v6 ∧ h3.next < H.next) ⟨x4, kE.k.get _ _ g2', kE.k.get _ _ g3', by rw [get_push, if_pos rfl], (ov.keep kw3.k).keep kE.k, by simp⟩ ?_
        clear x4 kE hac
        rintro H ⟨x4, gR, gZ, gE, oH, lH⟩
        have hap := applyR_at hE x4.wf x4.frz (S := P2.sv) ⟨_, _, _, rfl, q2, q3, q4⟩ (e := e) (by omega) (by have := z2.tab; omega) (by have := z2.svl; omega) (fun x hx => place_lt z2.srt hx)
        unfold entC at hap
        refine hap.mono ?_
        rintro v H5 ⟨G5, scv, rcv, y5, hsc, hrc, rfl⟩
        obtain ⟨ra, rb, rfl, hrd⟩ := hrc
        obtain ⟨s1, d1, s2, d2, ct2, rfl, t1', t2', t3'⟩ := hsc.e
        have x5 := x4.andthen y5
        have gR5 := y5.keep.get _ _ gR
        have gZ5 := y5.keep.get _ _ gZ
        have gE5 := y5.keep.get _ _ gE
        have lR5 := (x4.wf.live _ _ gR).2
        have lZ5 := (x4.wf.live _ _ gZ).2
        have hx5 := y5.keep.next
        have n5 := x5.wf.nlt gR5
        have nE5 := x5.wf.nlt gE5
        have w5 := x5.wf.b0
        have w6 := x5.wf.b1
        have p1 : (H5.next = h.next) = False := by simp; omega
        have p2 : (H5.next + 1 = h.next) = False := by simp; omega
        have p3 : (h.next = H5.next) = False := by simp; omega
        have p4 : (h.next = H5.next + 1) = False := by simp; omega
        have hw2 : (Value.int .i64 (IntKind.i64.wrap ((P2.cm : Int) + 1))) = iv (P2.cm + 1) := iv_succ (by omega)
        simp only [push_cast, seval, hE.P, awrite, wpc_label, wpc_block, f1, f2, f4, f6, f7, gR5, n5, w5, w6, p1, p2, p3, p4, hw2]
        have k6 := ((KW.refl x5.wf).push (o := .cells [.bool false, .slice none 0 0, .slice none 0 0, .slice none 0 0] 42 true)).push (o := .cells [.int .i64 0, .int .i64 0, .slice none 0 0] 60 true)
        have hW5 := x5.wf
        have k7 : KW E H5 ((((H5.push (.cells [.bool false, .slice none 0 0, .slice none 0 0, .slice none 0 0] 42 true)).push (.cells [.int .i64 0, .int .i64 0, .slice none 0 0] 60 true)).put H5.next (.cells [.bool false, .slice s1 (applyS P2.sv e).1.l.length d1, .slice none 0 0, .slice s2 (applyS P2.sv e).1.tab.length d2] 42 true)).put (H5.next + 1) (.cells [iv (applyS P2.sv e).2.e, iv (applyS P2.sv e).2.n, .slice ra 0 rb] 60 true)) := KW.put (KW.put k6 (by omega) (by simp; omega) hW5) (by omega) (by simp) hW5
        have hn5 := y5.nn lR5 hn2
        have hn6 := y5.nn lZ5 hn3
        have x7 := (x5.kw k7).put hW (o := (.cells (rC (commit1 P2 e).1 (.slice (some lb) P2.log.length c1) (.slice s1 (applyS P2.sv e).1.l.length d1) (.slice s2 (applyS P2.sv e).1.tab.length d2) (.slice a4 P2.told.length c4) (.slice a5 P2.voted.length c5) (.slice a6 P2.came.length c6) (.slice a7 P2.ans.length c7)) 48 true)) (Nat.le_refl _) hn5 (k7.k.get _ _ gR5)
        have oH5 := oH.keep y5.keep
        have oH7 : Own (((((H5.push (.cells [.bool false, .slice none 0 0, .slice none 0 0, .slice none 0 0] 42 true)).push (.cells [.int .i64 0, .int .i64 0, .slice none 0 0] 60 true)).put H5.next (.cells [.bool false, .slice s1 (applyS P2.sv e).1.l.length d1, .slice none 0 0, .slice s2 (applyS P2.sv e).1.tab.length d2] 42 true)).put (H5.next + 1) (.cells [iv (applyS P2.sv e).2.e, iv (applyS P2.sv e).2.n, .slice ra 0 rb] 60 true)).put h.next (.cells (rC (commit1 P2 e).1 (.slice (some lb) P2.log.length c1) (.slice s1 (applyS P2.sv e).1.l.length d1) (.slice s2 (applyS P2.sv e).1.tab.length d2) (.slice a4 P2.told.length c4) (.slice a5 P2.voted.length c5) (.slice a6 P2.came.length c6) (.slice a7 P2.ans.length c7)) 48 true)) 62 17 h.next o2.length co2 v6 := (oH5.keep k7.k).at fun b o hb hg => by
          rw [get_put, if_neg (fun e => ?_)]
          · exact hg
          · subst e; exact oH5.tag gR5 (fun c fx e => by injection e with _ e; cases e) hb
        have hp7 : PRR E G5 (commit1 P2 e).1 (rC (commit1 P2 e).1 (.slice (some lb) P2.log.length c1) (.slice s1 (applyS P2.sv e).1.l.length d1) (.slice s2 (applyS P2.sv e).1.tab.length d2) (.slice a4 P2.told.length c4) (.slice a5 P2.voted.length c5) (.slice a6 P2.came.length c6) (.slice a7 P2.ans.length c7)) :=
          PRR.of (P := (commit1 P2 e).1) (q1.sub y5.sub) t1' t2' t3' (q5.sub y5.sub) (q6.sub y5.sub) ⟨q7.1.sub y5.sub, q7.2.sub y5.sub⟩ ⟨q8.1.sub y5.sub, q8.2.sub y5.sub⟩
        have hng5 : ∀ b, b ∈ slB v6 → G5 b = none := fun b hb => y5.nn (oH.lt x4.wf b hb).2 (hng b hb)
        have z4 := z2.commit1 h2c (e := e)
        have hol1 : (commit1 P2 e).2.length ≤ 1 := by unfold commit1; simp only; split <;> simp
        refine gtm (motive := kguard _ _ _ _) [1, 2, 4, 6, 7, 9, 45, 46] fun t2 hf => ?_
        simp only [push_cast, seval, hE.P, awrite, wpc_label, wpc_block, List.mem_cons, List.not_mem_nil, or_false, forall_eq_or_imp, forall_eq, f1, f2, f4, f6, f7] at hf
        obtain ⟨f1, f2, f4, f6, f7, f9, f45, f46⟩ := hf
        refine gheap (motive := fun H => kguard _ _ _ _ _ H) (fun H => Ext E G h G5 H ∧ H.get h.next = some (.cells (rC (commit1 P2 e).1 (.slice (some lb) P2.log.length c1) (.slice s1 (applyS P2.sv e).1.l.length d1) (.slice s2 (applyS P2.sv e).1.tab.length d2) (.slice a4 P2.told.length c4) (.slice a5 P2.voted.length c5) (.slice a6 P2.came.length c6) (.slice a7 P2.ans.length c7)) 48 true) ∧ H.get (h.next + 1) = some (.cells rz 48 true) ∧ H.get h3.next = some (.cells [iv e.c, iv e.n, .string e.t] 56 true) ∧ H.get (H5.next + 1) = some (.cells [iv (applyS P2.sv e).2.e, iv (applyS P2.sv e).2.n, .slice ra 0 rb] 60 true) ∧ Own H 62 17 h.next o2.length co2 v6) ⟨x7, by rw [get_put, if_pos rfl]; rfl, by rw [get_put, if_neg (by omega)]; exact k7.k.get _ _ gZ5, by rw [get_put, if_neg (by omega)]; exact k7.k.get _ _ gE5, by rw [get_put, if_neg (by omega), get_put, if_pos rfl], oH7⟩ ?_
        clear x7 oH7 k6 k7
        rintro H6 ⟨x7, gR7, gZ7, gE7, gP7, oH7⟩
        have n7 := x7.wf.nlt gR7
        have nE7 := x7.wf.nlt gE7
        have nP7 := x7.wf.nlt gP7
        have hnx : P.op - (P2.cm + 1) < P.op - P2.cm := by omega
        by_cases hst0 : P2.st = 0
        · have hb3 : ((P2.st : Int) == 0) = true := by simp [hst0]
          simp only [push_cast, seval, hE.P, awrite, wpc_label, wpc_block, f1, f2, f4, f6, f7, f9, f45, f46, hb3, gR7, n7]
          refine (primR_at hE x7.wf hp7 ⟨by have := z2.n; show 1 ≤ P2.n; omega, by have := z2.n; show P2.n ≤ 1000; omega⟩ (by have := z2.vw; show P2.vw ≤ _; omega)).mono ?_
          rintro v H8 ⟨rfl, k8⟩
          have hpp : (commit1 P2 e).1.prim = P2.prim := rfl
          rw [hpp]
          have x8 := x7.kw k8
          have gR8 := k8.k.get _ _ gR7
          have gZ8 := k8.k.get _ _ gZ7
          have gE8 := k8.k.get _ _ gE7
          have gP8 := k8.k.get _ _ gP7
          have oH8 := oH7.keep k8.k
          cases hp : P2.prim
          · have hco : (commit1 P2 e).2 = [] := by unfold commit1; simp [hp]
            simp only [push_cast, seval, hE.P, awrite, wpc_label, wpc_block, f1, f2, f4, f6, f7, f9, f45, f46, hb3]
            exact ⟨P.op - (P2.cm + 1), hnx, G5, (commit1 P2 e).1, o2, _, co2, v6, rz, rfl, rfl, x8, hp7, gR8, gZ8, hrz, hn5, hn6, oH8, om.sub y5.sub, hng5, z4, hop, by show o2.length + P.cm ≤ P2.cm + 1; omega, by rw [hcm, hst, hco]; rfl⟩
          · have hco : (commit1 P2 e).2 = [P2.toM { k := 12, en := ⟨e.c, e.n, .empty⟩, rp := (applyS P2.sv e).2 } (100 + e.c)] := by unfold commit1; simp [hp, hst0]
            have hi2 : (Value.int .i64 (IntKind.i64.wrap (100 + (e.c : Int)))) = iv (100 + e.c) := by rw [wr64 (by omega) (by omega)]; rfl
            simp only [push_cast, seval, hE.P, awrite, wpc_label, wpc_block, f1, f2, f4, f6, f7, f9, f45, f46, hb3, gR8, n7, gE8, nE7, gP8, nP7, hi2]
            refine (toR_at hE x8.wf hp7 (m := { k := 12, en := ⟨e.c, e.n, .empty⟩, rp := (applyS P2.sv e).2 }) ⟨_, _, _, rfl, Fz.nil, Fz.nil, hrd⟩ (100 + e.c)).mono ?_
            rintro v H9 ⟨mc, rfl, hmc, k9⟩
            have x9 := x8.kw k9
            have gR9 := k9.k.get _ _ gR8
            have gZ9 := k9.k.get _ _ gZ8
            have oH9 := oH8.keep k9.k
            have hme := hmc
            obtain ⟨e1, e2, e3, e4, e5, e6, rfl, _⟩ := hmc.e
            simp only [push_cast, seval, hE.P, awrite, wpc_label, wpc_block, f1, f2, f4, f6, f7, f9]
            rw [bs26 rfl, kalloc_some]
            simp only [push_cast, seval, hE.P, awrite, wpc_label, wpc_block, f1, f2, f4, f6, f7, f9]
            refine kwv_G1 (el26 hE.P) x9.wf (lo := h.next) x9.keep.next oH9 rfl rfl (by omega) (by omega) ?_
            intro v7 H10 aI hnx10
            have x10 := x9.app hW aI fun b hb => ⟨(oH9.lt x9.wf b hb).1, hng5 b hb⟩
            have gR10 := aI.get _ _ gR9 (oH9.tag gR9 (fun c fx e => by injection e with _ e; cases e))
            have gZ10 := aI.get _ _ gZ9 (oH9.tag gZ9 (fun c fx e => by injection e with _ e; cases e))
            simp only [push_cast, seval, hE.P, awrite, wpc_label, wpc_block, f1, f2, f4, f6, f7, f9]
            refine ⟨P.op - (P2.cm + 1), hnx, G5, (commit1 P2 e).1, o2 ++ (commit1 P2 e).2, _, _, v7, rz, rfl, rfl, x10, hp7, gR10, gZ10, hrz, hn5, hn6, by rw [hco, List.length_append]; exact aI.own, by rw [hco]; exact (om.sub y5.sub).app (MgsR.one hme), fun b hb => ?_, z4, hop, by rw [List.length_append]; show _ + P.cm ≤ P2.cm + 1; omega, by rw [hcm, hst, List.append_assoc]⟩
            rcases aI.blk b hb with h6 | h6
            · exact hng5 b h6
            · exact x9.gnone h6
        · have hb3 : ((P2.st : Int) == 0) = false := by simp; omega
          have hco : (commit1 P2 e).2 = [] := by unfold commit1; simp [hst0]
          simp only [push_cast, seval, hE.P, awrite, wpc_label, wpc_block, f1, f2, f4, f6, f7, f9, f45, f46, hb3, kguard_undef]
          exact ⟨P.op - (P2.cm + 1), hnx, G5, (commit1 P2 e).1, o2, _, co2, v6, rz, rfl, rfl, x7, hp7, gR7, gZ7, hrz, hn5, hn6, oH7, om.sub y5.sub, hng5, z4, hop, by show o2.length + P.cm ≤ P2.cm + 1; omega, by rw [hcm, hst, hco]; rfl⟩
      · have hb2 : decide ((P2.cm : Int) < (P2.op : Int)) = false := by simp; omega
        have g3' := kw3.k.get _ _ g3
        simp only [push_cast, seval, hE.P, awrite, wpc_label, wpc_block, f1, f2, f4, f6, g2, n2, hb1, hb2, g2', veq_int, g3', n3, hd, hle]
        have x4 := (x2.kw kw3).put hW (o := .cells (rC P2 (.slice a1 P2.log.length c1) (.slice a2 P2.sv.l.length c2) (.slice a3 P2.sv.tab.length c3) (.slice a4 P2.told.length c4) (.slice a5 P2.voted.length c5) (.slice a6 P2.came.length c6) (.slice a7 P2.ans.length c7)) 48 true) (by omega) hn3 (kw3.k.get _ _ g3)
        have hd2 : commit P2 k = (P2, []) := commit_done z2.bs (by omega)
        rw [hd2, List.append_nil] at hcm
        rw [hcm]
        refine ⟨G2, _, co2, v6, x4, hp0, (ov.keep kw3.k).at fun b o hb hg => ?_, om, hng, rfl⟩
        rw [get_put, if_neg (fun e => ?_)]
        · exact hg
        · have hgg := (kw3.k.get _ _ g3)
          subst e
          exact (ov.keep kw3.k).tag hgg (fun c fx e => by injection e with _ e; cases e) hb
    · have hb1 : decide ((P2.cm : Int) < (k : Int)) = false := by simp; omega
      simp only [push_cast, seval, hE.P, awrite, wpc_label, wpc_block, f1, f2, f4, f6, g2, n2, hb1, kguard_undef, awbft, false_implies, true_and, g3, n3, hd, hle]
      have x4 := x2.put hW (o := .cells (rC P2 (.slice a1 P2.log.length c1) (.slice a2 P2.sv.l.length c2) (.slice a3 P2.sv.tab.length c3) (.slice a4 P2.told.length c4) (.slice a5 P2.voted.length c5) (.slice a6 P2.came.length c6) (.slice a7 P2.ans.length c7)) 48 true) (by omega) hn3 g3
      have hd2 : commit P2 k = (P2, []) := commit_done z2.bs (by omega)
      rw [hd2, List.append_nil] at hcm
      rw [hcm]
      refine ⟨G2, _, co2, v6, x4, hp0, (ov).at fun b o hb hg => ?_, om, hng, rfl⟩
      rw [get_put, if_neg (fun e => ?_)]
      · exact hg
      · have hgg := g3
        subst e
        exact (ov).tag hgg (fun c fx e => by injection e with _ e; cases e) hb
end
end Go.Proofs.YthdgobcpefcolaaGreatDoor
