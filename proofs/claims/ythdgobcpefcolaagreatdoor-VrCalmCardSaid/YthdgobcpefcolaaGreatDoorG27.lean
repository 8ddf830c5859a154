/- Chapter 25: does a replica tell what the model says? -/
/- Merged by a program of ours: U21 LK U22. -/
import Derived.Test.YthdgobcpefcolaaGreatDoorG26
import Derived.Test.YthdgobcpefcolaaGreatDoorG12
set_option maxRecDepth 10000
set_option linter.all false
set_option linter.unusedSimpArgs false
set_option linter.unusedVariables false
/- Chapter 25: are two rows of messages the same? -/
namespace Go.Proofs.YthdgobcpefcolaaGreatDoor
open Go.Tm Vr
set_option linter.unusedSectionVars false
theorem boolE {f a b : Bool} : anil Tryz.prog f 4 (.bool a) (.bool b) = some (a == b) := by cases f <;> cases a <;> cases b <;> kernel_rfl
theorem convB_at {E : Env} (hE : EOk E) {G : Mem} {h : Heap} (hG : Frz E G h) {l : List UInt8} {v : Value} (hs : Fz E G 1 l.length (bytesC l) v) {ev : Operand → Value} {x : Operand} (he : ev x = v) :
    aread E h ev (.convert 53 9 x) = some (.string ⟨l.toArray⟩) := by
  obtain ⟨⟨a, c, rfl, h1, h2, h3, h4⟩, h0⟩ := hs
  have hu8 : isU8 Tryz.prog 5 = true := by kernel_rfl
  have hall : (bytesC l).all (fun | .int .u8 _ => true | _ => false) = true := by
    rw [List.all_eq_true]; intro y hy
    obtain ⟨z, _, rfl⟩ := List.mem_map.1 hy; rfl
  have hmap : ((bytesC l).map fun | .int _ b => UInt8.ofNat b.toNat | _ => 0) = l := by
    unfold bytesC; rw [List.map_map]
    conv => rhs; rw [← List.map_id l]
    apply List.map_congr_left
    intro y _
    simp
  unfold aread
  simp only
  rw [he, hE.P, Tryz.underlying53, Tryz.underlying9]
  cases a with
  | none =>
    have : c = 0 := h3.1 rfl
    have hl0 : l = [] := List.length_eq_zero_iff.1 (by omega)
    subst hl0
    simp only [hu8, if_true]; rfl
  | some a =>
    simp only [hu8, if_true]
    have hac : acells E h a l.length = some (bytesC l) := by
      rcases h4 with ⟨h5, h6⟩ | ⟨b, h5, h6⟩
      · have hl0 : l = [] := List.length_eq_zero_iff.1 (by omega)
        subst hl0
        exact gcells_acells hG ((h0 a 0 c rfl).2 rfl)
      · injection h5 with h5; subst h5
        have := gcells_acells hG h6
        rwa [Nat.mul_one] at this
    rw [hac]
    exact (if_pos hall).trans (congrArg (fun z : List UInt8 => some (Value.string ⟨z.toArray⟩)) hmap)
variable {E : Env} (hE : EOk E)
include hE
section
variable {G : Mem} {h : Heap} (hW : WF E h) (hG : Frz E G h)
include hW hG
set_option maxHeartbeats 1000000 in
theorem logs_at {l : List Ent} {v w : Value} (hv : Sl E G 3 l.length (entsC l) v) (hw : Sl E G 3 l.length (entsC l) w) (hl : l.length ≤ 1000000) : CallsTo E 8 [v, w] h fun r h' => r = .bool true ∧ h' = h := by
  obtain ⟨a, c, rfl, _⟩ := hv.slice
  obtain ⟨a', c', rfl, _⟩ := hw.slice
  have c0 : ((l.length : Int) != (l.length : Int)) = false := by simp
  refine calls_of_runs (fn := Tryz.f8) (by rw [hE.P]; exact Tryz.func8) rfl (by rw [hE.known]; rfl) (by rw [Tryz.ntmps8]; exact Nat.le_of_ble_eq_true rfl) (by decide +kernel) (rs := [.tmp 4]) rfl (wpc_runs _ _ _ _ ?_)
  simp only [push_cast, seval, hE.P, awrite, wpc_label, wpc_block, c0]
  refine wpc_loop (fun k tm h2 => ∃ i, k = l.length - i ∧ i ≤ l.length ∧ fget tm 0 = .slice a l.length c ∧ fget tm 1 = .slice a' l.length c' ∧ fget tm 5 = iv i ∧ h2 = h) l.length ?_ ?_
  · simp only [push_cast, seval, hE.P, awrite, wpc_label, wpc_block]
    exact ⟨0, by omega, by omega, rfl⟩
  · rintro k tm h2 ⟨i, rfl, hi, f0, f1, f5, rfl⟩
    simp only [push_cast, seval, hE.P, awrite, wpc_label, wpc_block, f0, f1, f5]
    by_cases hlt : i < l.length
    · have hb : decide ((i : Int) < (l.length : Int)) = true := by simp; omega
      obtain ⟨b1, d1, e1, hsp1, hac1⟩ := hv.elem hG hlt
      obtain ⟨b2, d2, e2, hsp2, hac2⟩ := hw.elem hG hlt
      injection e1 with e1 _ e1'
      injection e2 with e2 _ e2'
      subst e1; subst e1'; subst e2; subst e2'
      rw [entsC_at (List.getElem?_eq_getElem hlt)] at hac1 hac2
      unfold entC at hac1 hac2
      have p0 := acells_part hac1 0 1 (by omega)
      have p1 := acells_part hac1 1 1 (by omega)
      have p2 := acells_part hac1 2 1 (by omega)
      have r0 := acells_part hac2 0 1 (by omega)
      have r1 := acells_part hac2 1 1 (by omega)
      have r2 := acells_part hac2 2 1 (by omega)
      simp only [Nat.add_zero, List.drop_zero, List.take_succ_cons, List.take_zero, List.drop_succ_cons] at p0 p1 p2 r0 r1 r2
      generalize l[i] = e at *
      have cc : ((e.c : Int) != (e.c : Int)) = false := by simp
      have cn : ((e.n : Int) != (e.n : Int)) = false := by simp
      simp only [push_cast, seval, hE.P, awrite, wpc_label, wpc_block, f0, f1, f5, hb]
      refine wdraw_calm (by rw [hE.P]; decide +kernel) ?_
      simp only [push_cast, seval, hE.P, awrite, wpc_label, wpc_block, f0, f1, f5]
      rw [ia36 hsp1 (by omega) (by omega), kpure_some]
      simp only [push_cast, seval, hE.P, awrite, wpc_label, wpc_block, f0, f1, f5, ↓p0, Int.toNat_natCast]
      rw [ia36 hsp2 (by omega) (by omega), kpure_some]
      simp only [push_cast, seval, hE.P, awrite, wpc_label, wpc_block, f0, f1, f5, ↓r0, Int.toNat_natCast, cc]
      rw [ia36 hsp1 (by omega) (by omega), kpure_some]
      simp only [push_cast, seval, hE.P, awrite, wpc_label, wpc_block, f0, f1, f5, ↓p1, Int.toNat_natCast]
      rw [ia36 hsp2 (by omega) (by omega), kpure_some]
      simp only [push_cast, seval, hE.P, awrite, wpc_label, wpc_block, f0, f1, f5, ↓r1, Int.toNat_natCast, cn]
      rw [ia36 hsp1 (by omega) (by omega), kpure_some]
      simp only [push_cast, seval, hE.P, awrite, wpc_label, wpc_block, f0, f1, f5, ↓p2, Int.toNat_natCast]
      rw [ia36 hsp2 (by omega) (by omega), kpure_some]
      simp only [push_cast, seval, hE.P, awrite, wpc_label, wpc_block, f0, f1, f5, ↓r2, Int.toNat_natCast]
      exact ⟨l.length - (i + 1), by omega, i + 1, rfl, by omega, iv_succ (by omega)⟩
    · have hb : decide ((i : Int) < (l.length : Int)) = false := by simp; omega
      simp only [push_cast, seval, hE.P, awrite, wpc_label, wpc_block, f0, f1, f5, hb]
omit hG in
theorem replyV_at {e n : Nat} {a a' : Option Addr} {c c' : Nat} : CallsTo E 100 [.agg #[iv e, iv n, .slice a 0 c], .agg #[iv e, iv n, .slice a' 0 c']] h fun r h' => r = .bool true ∧ KW E h h' := by
  have w0 := hW.b0
  have w1 := hW.b1
  have hsame : ∀ {H : Heap}, WF E H → CallsTo E 122 [.agg #[.int .i64 0, .int .i64 0, .string .empty, .slice a 0 c, .slice none 0 0], .agg #[.int .i64 0, .int .i64 0, .string .empty, .slice a' 0 c', .slice none 0 0]] H fun r h' => r = .bool true ∧ KW E H h' := by
    intro H hH
    have w0 := hH.b0
    have w1 := hH.b1
    refine calls_of_runs (fn := Tryz.f122) (by rw [hE.P]; exact Tryz.func122) rfl (by rw [hE.known]; rfl) (by rw [Tryz.ntmps122]; exact Nat.le_of_ble_eq_true rfl) (by decide +kernel) (rs := [.tmp 4]) rfl (wpc_runs _ _ _ _ ?_)
    simp only [push_cast, seval, hE.P, awrite, wpc_label, wpc_block, w0, w1]
    refine wpc_once ?_
    simp only [push_cast, seval, hE.P, awrite, wpc_label, wpc_block, w0, w1]
    refine wpc_once ?_
    simp only [push_cast, seval, hE.P, awrite, wpc_label, wpc_block, w0, w1]
    exact (KW.refl hH).push.push
  have k0 := ((KW.refl hW).push (o := .cells [iv e, iv n, .slice a 0 c] 60 true)).push (o := .cells [iv e, iv n, .slice a' 0 c'] 60 true)
  have hlist : CallsTo E 108 [.slice a 0 c, .slice a' 0 c'] ((h.push (.cells [iv e, iv n, .slice a 0 c] 60 true)).push (.cells [iv e, iv n, .slice a' 0 c'] 60 true)) fun r h' => r = .bool true ∧ KW E h h' := by
    refine calls_of_runs (fn := Tryz.f108) (by rw [hE.P]; exact Tryz.func108) rfl (by rw [hE.known]; rfl) (by rw [Tryz.ntmps108]; exact Nat.le_of_ble_eq_true rfl) (by decide +kernel) (rs := [.tmp 4]) rfl (wpc_runs _ _ _ _ ?_)
    simp only [push_cast, seval, hE.P, awrite, wpc_label, wpc_block]
    refine (hsame k0.w).mono ?_
    rintro v h' ⟨rfl, k1⟩
    simp only [push_cast, seval, hE.P, awrite, wpc_label, wpc_block]
    exact k0.trans k1
  have ce : ((e : Int) == (e : Int)) = true := by simp
  have cn : ((n : Int) == (n : Int)) = true := by simp
  refine calls_of_runs (fn := Tryz.f100) (by rw [hE.P]; exact Tryz.func100) rfl (by rw [hE.known]; rfl) (by rw [Tryz.ntmps100]; exact Nat.le_of_ble_eq_true rfl) (by decide +kernel) (rs := [.tmp 4]) rfl (wpc_runs _ _ _ _ ?_)
  simp only [push_cast, seval, hE.P, awrite, wpc_label, wpc_block, w0, w1, ce, cn]
  refine hlist.mono ?_
  rintro v h' ⟨rfl, k1⟩
  simp only [push_cast, seval, hE.P, awrite, wpc_label, wpc_block]
  exact k1
set_option maxHeartbeats 2000000 in
theorem sameM_at {m : Mg} {ms ns : List Value} (hm : MgR E G m ms) (hn : MgR E G m ns) (hl : m.log.length ≤ 1000000) : CallsTo E 68 [.agg ms.toArray, .agg ns.toArray, .bool true] h fun r h' => r = .bool true ∧ KW E h h' := by
  obtain ⟨b1, d1, b2, d2, b3, d3, hms, m1, m2, m3⟩ := hm.e
  obtain ⟨u1, v1, u2, v2, u3, v3, hns, n1, n2, n3⟩ := hn.e
  subst hms; subst hns
  have w0 := hW.b0
  have w1 := hW.b1
  refine calls_of_runs (fn := Tryz.f68) (by rw [hE.P]; exact Tryz.func68) rfl (by rw [hE.known]; rfl) (by rw [Tryz.ntmps68]; exact Nat.le_of_ble_eq_true rfl) (by decide +kernel) (rs := [.tmp 6]) rfl (wpc_runs _ _ _ _ ?_)
  simp only [push_cast, seval, hE.P, awrite, wpc_label, wpc_block, w0, w1, bne_self_eq_false]
  have k0 := ((KW.refl hW).push (o := (.cells (mgC m (.slice b1 m.log.length d1) (.slice b2 m.img.length d2) (.slice b3 0 d3)) 62 true))).push (o := (.cells (mgC m (.slice u1 m.log.length v1) (.slice u2 m.img.length v2) (.slice u3 0 v3)) 62 true))
  rw [convB_at hE (hG.keep k0.k) m2 (by simp only [push_cast, seval, hE.P, awrite, wpc_label, wpc_block]), kpure_some]
  simp only [push_cast, seval, hE.P, awrite, wpc_label, wpc_block, w0, w1]
  rw [convB_at hE (hG.keep k0.k) n2 (by simp only [push_cast, seval, hE.P, awrite, wpc_label, wpc_block]), kpure_some]
  have cl : (((m.img.length : Int) == 0) != ((m.img.length : Int) == 0)) = false := by simp
  have hs1 := (m1.1.sub (Sub.refl _))
  have cb : ((((m.img.length : Int) == 0) == ((m.img.length : Int) == 0))) = true := by simp
  simp only [push_cast, seval, hE.P, awrite, wpc_label, wpc_block, w0, w1, boolE, Option.map_some, kpure_some, cb]
  refine Go.Tm.kcall_gen [3, 4] ?_
  intro t1 hf
  simp only [push_cast, seval, hE.P, awrite, wpc_label, wpc_block, List.mem_cons, List.not_mem_nil, or_false, forall_eq_or_imp, forall_eq] at hf
  obtain ⟨f3, f4⟩ := hf
  refine gheap (motive := fun H => CallsTo E 8 _ H _) (fun H => KW E h H ∧ H.get h.next = some (.cells (mgC m (.slice b1 m.log.length d1) (.slice b2 m.img.length d2) (.slice b3 0 d3)) 62 true) ∧ H.get (h.next + 1) = some (.cells (mgC m (.slice u1 m.log.length v1) (.slice u2 m.img.length v2) (.slice u3 0 v3)) 62 true)) ⟨k0, by rw [get_push, if_neg (by simp), get_push, if_pos rfl], by rw [get_push, if_pos (by simp)]⟩ ?_
  clear k0
  rintro H ⟨k0, g1, g2⟩
  refine (logs_at hE k0.w (hG.keep k0.k) m1.1 n1.1 hl).mono ?_
  rintro v H1 ⟨rfl, rfl⟩
  have x1 := k0.w.nlt g1
  have x2 := k0.w.nlt g2
  have w2 := k0.w.b0
  have l1 := (k0.w.live _ _ g1).2
  have l2 := (k0.w.live _ _ g2).2
  have y1 := k0.w.ne g1
  have y2 := k0.w.ne g2
  have y3 : (H1.next + 1 = h.next) = False := by simp; omega
  have y4 : (H1.next + 1 = h.next + 1) = False := by simp; omega
  simp only [push_cast, seval, hE.P, awrite, wpc_label, wpc_block, f3, f4, g1, g2, x1, x2, y1, y2]
  rw [bs36 rfl, kalloc_some]
  simp only [push_cast, seval, hE.P, awrite, wpc_label, wpc_block, f3, f4, g1, g2, x1, x2, y1, y2]
  rw [bs36 rfl, kalloc_some]
  simp only [push_cast, seval, hE.P, awrite, wpc_label, wpc_block, f3, f4, g1, g2, x1, x2, y1, y2, y3, y4]
  have kA := (KW.refl k0.w).push (o := (.cells [iv m.en.c, iv m.en.n, .string m.en.t] 56 true))
  have kB := (KW.refl kA.w).push (o := (.cells [iv m.en.c, iv m.en.n, .string m.en.t] 56 true))
  have gA := kB.k.get H1.next _ (by rw [get_push, if_pos rfl])
  have gB : ((H1.push (.cells [iv m.en.c, iv m.en.n, .string m.en.t] 56 true)).push (.cells [iv m.en.c, iv m.en.n, .string m.en.t] 56 true)).get (H1.next + 1) = some (.cells [iv m.en.c, iv m.en.n, .string m.en.t] 56 true) := by rw [get_push, if_pos (by simp)]
  obtain ⟨G1, z1, e1, s1, _⟩ := (((k0.trans kA).trans kB).ext hG).frz2 (Own.whole (lo := h.next) (z := 3) (n := 1) gA rfl (by omega) (by omega))
  obtain ⟨G2, z2, e2, s2, _⟩ := e1.frz2 (Own.whole (lo := h.next) (z := 3) (n := 1) gB rfl (by omega) (by omega))
  have hen : entsC [m.en] = [iv m.en.c, iv m.en.n, .string m.en.t] := rfl
  refine (logs_at hE e2.wf e2.frz (l := [m.en]) (by rw [hen]; exact (z1.sub s2).1) (by rw [hen]; exact z2.1) (by simp)).mono ?_
  rintro v H2 ⟨rfl, hH2⟩
  subst hH2
  have g1' := kB.k.get _ _ (kA.k.get _ _ g1)
  have g2' := kB.k.get _ _ (kA.k.get _ _ g2)
  simp only [push_cast, seval, hE.P, awrite, wpc_label, wpc_block, f3, f4, g1, g2, x1, x2, y1, y2, y3, y4]
  refine (replyV_at hE e2.wf).mono ?_
  rintro v H3 ⟨rfl, k3⟩
  simp only [push_cast, seval, hE.P, awrite, wpc_label, wpc_block]
  exact ((k0.trans kA).trans kB).trans k3
theorem listM_at {l : List Mg} {cv cw : List Value} {v w : Value} (hv : Fz E G 17 l.length cv v) (hw : Fz E G 17 l.length cw w) (hm : MgsR E G l cv) (hn : MgsR E G l cw) (hl : l.length ≤ 1000000) (hll : ∀ m, m ∈ l → m.log.length ≤ 1000000) : CallsTo E 32 [v, w, .bool true] h fun r h' => r = .bool true ∧ KW E h h' := by
  obtain ⟨a, c, rfl, _⟩ := hv.slice
  obtain ⟨a', c', rfl, _⟩ := hw.slice
  have c0 : ((l.length : Int) != (l.length : Int)) = false := by simp
  refine calls_of_runs (fn := Tryz.f32) (by rw [hE.P]; exact Tryz.func32) rfl (by rw [hE.known]; rfl) (by rw [Tryz.ntmps32]; exact Nat.le_of_ble_eq_true rfl) (by decide +kernel) (rs := [.tmp 6]) rfl (wpc_runs _ _ _ _ ?_)
  simp only [push_cast, seval, hE.P, awrite, wpc_label, wpc_block, c0]
  refine wpc_loop (fun k tm h2 => ∃ i, k = l.length - i ∧ i ≤ l.length ∧ fget tm 0 = .slice a l.length c ∧ fget tm 1 = .slice a' l.length c' ∧ fget tm 2 = .bool true ∧ fget tm 7 = iv i ∧ KW E h h2) l.length ?_ ?_
  · simp only [push_cast, seval, hE.P, awrite, wpc_label, wpc_block]
    exact ⟨0, by omega, by omega, rfl, KW.refl hW⟩
  · rintro k tm h2 ⟨i, rfl, hi, f0, f1, f2, f7, k2⟩
    simp only [push_cast, seval, hE.P, awrite, wpc_label, wpc_block, f0, f1, f2, f7]
    by_cases hlt : i < l.length
    · have hb : decide ((i : Int) < (l.length : Int)) = true := by simp; omega
      obtain ⟨b1, d1, e1, hsp1, hac1⟩ := hv.1.elem (hG.keep k2.k) hlt
      obtain ⟨b2, d2, e2, hsp2, hac2⟩ := hw.1.elem (hG.keep k2.k) hlt
      injection e1 with e1 _ e1'
      injection e2 with e2 _ e2'
      subst e1; subst e1'; subst e2; subst e2'
      have q1 := hm.at i _ (List.getElem?_eq_getElem hlt)
      have q2 := hn.at i _ (List.getElem?_eq_getElem hlt)
      have hml := hll _ (List.getElem_mem hlt)
      generalize l[i] = m at *
      have hs := sameM_at hE k2.w (hG.keep k2.k) q1 q2 hml
      obtain ⟨_, _, _, _, _, _, hms, _⟩ := q1.e
      obtain ⟨_, _, _, _, _, _, hns, _⟩ := q2.e
      rw [hms] at hac1 hs
      rw [hns] at hac2 hs
      simp only [push_cast, seval, hE.P, awrite, wpc_label, wpc_block, f0, f1, f2, f7, hb]
      refine wdraw_calm (by rw [hE.P]; decide +kernel) ?_
      simp only [push_cast, seval, hE.P, awrite, wpc_label, wpc_block, f0, f1, f2, f7, hb]
      rw [ia26 hsp1 (by omega) (by omega), kpure_some]
      simp only [push_cast, seval, hE.P, awrite, wpc_label, wpc_block, f0, f1, f2, f7, ↓hac1, Int.toNat_natCast]
      rw [ia26 hsp2 (by omega) (by omega), kpure_some]
      simp only [push_cast, seval, hE.P, awrite, wpc_label, wpc_block, f0, f1, f2, f7, ↓hac2, Int.toNat_natCast]
      refine hs.mono ?_
      rintro v h3 ⟨rfl, k3⟩
      simp only [push_cast, seval, hE.P, awrite, wpc_label, wpc_block, f0, f1, f2, f7]
      exact ⟨l.length - (i + 1), by omega, i + 1, rfl, by omega, iv_succ (by omega), k2.trans k3⟩
    · have hb : decide ((i : Int) < (l.length : Int)) = false := by simp; omega
      simp only [push_cast, seval, hE.P, awrite, wpc_label, wpc_block, f0, f1, f2, f7, hb]
      exact k2
end
end Go.Proofs.YthdgobcpefcolaaGreatDoor
/- The logic: a long region that draws its order: reads of cells that stay as they are on the way. -/
namespace Go.Tm
/-- Behind an operation: what must hold of memory, if it is another one. -/
def kk (K : Heap → Prop) (h : Heap) (R : Cont) : Cont := fun tm h' => (h' = h ∨ K h') ∧ R tm h'
def rdK (E : Env) (O : List Oper) (K : Heap → Prop) (o : Oper) (tm : Tr Value) : Prop := awanted O tm o = true → ∃ u, veq u u = true ∧ ∀ H, K H → aread E H (opd tm) o.op = some u
/-- Run in the text's order; at the marked operations what is read hangs on K alone. -/
def wpk (E : Env) (O : List Oper) (K : Heap → Prop) : List Bool → List Oper → Cont → Cont
  | _, [], Q => Q
  | bs, o :: l, Q => fun tm h =>
    (bs.headD false = true → rdK E O K o tm) ∧
    match o.guard with
    | none => wop1 E o.op o.dst (kk K h (wpk E O K bs.tail l Q)) tm h
    | some _ => (awanted O tm o = true → wop1 E o.op o.dst (kk K h (wpk E O K bs.tail l Q)) tm h) ∧ (awanted O tm o = false → wpk E O K bs.tail l Q (aput tm o.dst undef) h)
structure TrOk (E : Env) (O : List Oper) (K : Heap → Prop) (bs : List Bool) (tr : List St) : Prop where
  k : ∀ s, s ∈ tr → K s.h
  r : ∀ i o s, i < tr.length → O[i]? = some o → tr[i]? = some s → bs[i]? = some true → rdK E O K o s.tm
theorem wpk_wpt {E : Env} {O : List Oper} {K : Heap → Prop} {bs0 : List Bool} : ∀ (l : List Oper) (bs : List Bool) (tr : List St) (Q : Cont) (tm : Tr Value) (h : Heap), tr.length ≤ O.length → O.drop tr.length = l → bs0.drop tr.length = bs → TrOk E O K bs0 tr → K h → wpk E O K bs l Q tm h →
    wpt E O l tr (fun tr' => TrOk E O K bs0 tr' ∧ ∃ s, tr'.getLast? = some s ∧ tr'.length = O.length + 1 ∧ Q s.tm s.h) tm h := by
  intro l
  induction l with
  | nil =>
    intro bs tr Q tm h hle hl hb ht hK H
    have hlen : O.length ≤ tr.length := List.drop_eq_nil_iff.1 hl
    refine ⟨⟨fun s hs => ?_, fun i o s hi ho hs hbb => ?_⟩, ⟨tm, h⟩, by simp, ?_, H⟩
    · rcases List.mem_append.1 hs with h1 | h1
      · exact ht.k s h1
      · simp at h1; subst h1; exact hK
    · have : i < O.length := by
        rw [List.getElem?_eq_some_iff] at ho; exact ho.1
      rw [List.getElem?_append_left (by omega)] at hs
      exact ht.r i o s (by omega) ho hs hbb
    · simp; omega
  | cons o l ih =>
    intro bs tr Q tm h hle hl hb ht hK H
    have hlt : tr.length < O.length := by
      by_cases hc : tr.length < O.length
      · exact hc
      · rw [List.drop_eq_nil_iff.2 (by omega)] at hl; cases hl
    have ho : O[tr.length]? = some o := by
      rw [← List.head?_drop, hl]; rfl
    have hl2 : O.drop (tr ++ [(⟨tm, h⟩ : St)]).length = l := by
      rw [List.length_append, ← List.drop_drop, hl]; rfl
    have hb2 : bs0.drop (tr ++ [(⟨tm, h⟩ : St)]).length = bs.tail := by
      rw [List.length_append, ← List.drop_drop, hb]; simp
    obtain ⟨hr, H⟩ := H
    have ht2 : TrOk E O K bs0 (tr ++ [⟨tm, h⟩]) := by
      refine ⟨fun s hs => ?_, fun i o' s hi ho' hs hbb => ?_⟩
      · rcases List.mem_append.1 hs with h1 | h1
        · exact ht.k s h1
        · simp at h1; subst h1; exact hK
      · by_cases hi2 : i < tr.length
        · rw [List.getElem?_append_left hi2] at hs
          exact ht.r i o' s hi2 ho' hs hbb
        · have : i = tr.length := by simp at hi; omega
          subst this
          rw [ho] at ho'
          injection ho' with ho'
          subst ho'
          rw [List.getElem?_append_right (Nat.le_refl _)] at hs
          simp at hs
          subst hs
          apply hr
          have : bs.head? = some true := by rw [← hb, List.head?_drop]; exact hbb
          cases bs with
          | nil => simp at this
          | cons x xs => simp at this; simp [this]
    have go : wop1 E o.op o.dst (kk K h (wpk E O K bs.tail l Q)) tm h → wpop E o.op tm h (kput tm o.dst (wpt E O l (tr ++ [⟨tm, h⟩]) (fun tr' => TrOk E O K bs0 tr' ∧ ∃ s, tr'.getLast? = some s ∧ tr'.length = O.length + 1 ∧ Q s.tm s.h))) := fun H => wpop_mono H fun v h' hh => by
      obtain ⟨h1, h2⟩ := hh
      refine ih _ _ _ _ _ (by simp; omega) hl2 hb2 ht2 ?_ h2
      rcases h1 with h1 | h1
      · rw [h1]; exact hK
      · exact h1
    simp only [wpt]
    split at H
    · rename_i hg
      simp only [hg]
      exact go H
    · rename_i hg
      simp only [hg]
      exact ⟨fun a => go (H.1 a), fun a => ih _ _ _ _ _ (by simp; omega) hl2 hb2 ht2 hK (H.2 a)⟩
/-- A region whose unordered reads hang on K alone. -/
theorem wdraw_keep {E : Env} {O : List Oper} {Q : Cont} {tm : Tr Value} {h : Heap} (prs : List (Nat × Nat)) (bs : List Bool) (K : Heap → Prop) (h1 : dstat E.P O (masks O []) none = true) (h2 : (match spOf E.P O (masks O []) with | none => true | some _ => false) = true) (h3 : unord E.P O (masks O []) = prs)
    (h4 : prs.all (fun p => bs[p.1]? == some true && decide (p.2 + 1 ≤ O.length) && decide (p.1 < O.length)) = true) (hK : K h) (H : wpk E O K bs O Q tm h) : wdraw E O Q tm h := by
  refine wdraw_pairs prs h1 h2 h3 ?_
  refine wpt_mono ?_ _ _ _ _ (wpk_wpt (bs0 := bs) O bs [] Q tm h (Nat.zero_le _) rfl rfl ⟨fun s hs => by simp at hs, fun i o s hi => by simp at hi⟩ hK H)
  rintro tr ⟨ht, s, hs, hlen, hq⟩
  have hst : ∀ i, i < tr.length → ∃ s, tr[i]? = some s ∧ sget tr ⟨tm, h⟩ i = s := fun i hi => ⟨tr[i], List.getElem?_eq_getElem hi, by unfold sget; rw [List.getD_eq_getElem?_getD, List.getElem?_eq_getElem hi]; rfl⟩
  refine ⟨fun p hp => ?_, ?_⟩
  · have hp4 := List.all_eq_true.1 h4 p hp
    simp only [Bool.and_eq_true, beq_iff_eq, decide_eq_true_eq] at hp4
    obtain ⟨⟨hb, hy⟩, hx⟩ := hp4
    unfold pairOk
    rw [List.getElem?_eq_getElem hx]
    simp only
    obtain ⟨s1, e1, e2⟩ := hst p.1 (by omega)
    obtain ⟨s2, e3, e4⟩ := hst p.2 (by omega)
    obtain ⟨s3, e5, e6⟩ := hst (p.2 + 1) (by omega)
    rw [e2, e4, e6]
    intro hw
    obtain ⟨u, hu, hr⟩ := ht.r p.1 _ s1 (by omega) (List.getElem?_eq_getElem hx) e1 hb hw
    exact ⟨u, hr _ (ht.k _ (List.mem_of_getElem? e1)), hr _ (ht.k _ (List.mem_of_getElem? e3)), hr _ (ht.k _ (List.mem_of_getElem? e5)), hu⟩
  · obtain ⟨s1, e1, e2⟩ := hst O.length (by omega)
    rw [e2]
    rw [List.getLast?_eq_getElem?, hlen, Nat.add_sub_cancel, e1] at hs
    injection hs with hs
    rw [hs]; exact hq
section
variable {E : Env} {O l : List Oper} {K : Heap → Prop} {Q : Cont} {tm : Tr Value} {h : Heap} {ty : TypeId} {pos : String} {aft : Array Edge} {bs : List Bool}
theorem wpk_nil : wpk E O K bs [] Q tm h ↔ Q tm h := by cases bs <;> exact Iff.rfl
theorem wpk_f {d : Option Nat} {op : Op} : wpk E O K (false :: bs) (⟨d, op, ty, pos, aft, none⟩ :: l) Q tm h ↔ wop1 E op d (kk K h (wpk E O K bs l Q)) tm h := by
  simp [wpk]
theorem wpk_t {d : Option Nat} {op : Op} : wpk E O K (true :: bs) (⟨d, op, ty, pos, aft, none⟩ :: l) Q tm h ↔ rdK E O K ⟨d, op, ty, pos, aft, none⟩ tm ∧ wop1 E op d (kk K h (wpk E O K bs l Q)) tm h := by
  simp [wpk]
theorem wpk_gen {d : Option Nat} {op : Op} {j : Nat} {b b' : Bool} : wpk E O K (b' :: bs) (⟨d, op, ty, pos, aft, some (j, b)⟩ :: l) Q tm h ↔ (b' = true → rdK E O K ⟨d, op, ty, pos, aft, some (j, b)⟩ tm) ∧ kguard (gval O j tm) b (wop1 E op d (kk K h (wpk E O K bs l Q))) (wskip d (wpk E O K bs l Q)) tm h := by
  simp only [wpk, List.headD_cons, List.tail_cons, kguard, awanted, gval, wskip]
  apply and_congr Iff.rfl
  cases hj : (O[j]?).bind (·.dst) with
  | none => simp [undef]
  | some d' =>
    simp only
    cases hv : fget tm d' with
    | bool c => cases c <;> cases b <;> simp
    | _ => simp
theorem wpk_gf {d : Option Nat} {op : Op} {j : Nat} {b : Bool} : wpk E O K (false :: bs) (⟨d, op, ty, pos, aft, some (j, b)⟩ :: l) Q tm h ↔ kguard (gval O j tm) b (wop1 E op d (kk K h (wpk E O K bs l Q))) (wskip d (wpk E O K bs l Q)) tm h := by
  rw [wpk_gen]; simp
theorem wpk_gt {d : Option Nat} {op : Op} {j : Nat} {b : Bool} : wpk E O K (true :: bs) (⟨d, op, ty, pos, aft, some (j, b)⟩ :: l) Q tm h ↔ rdK E O K ⟨d, op, ty, pos, aft, some (j, b)⟩ tm ∧ kguard (gval O j tm) b (wop1 E op d (kk K h (wpk E O K bs l Q))) (wskip d (wpk E O K bs l Q)) tm h := by
  rw [wpk_gen]; simp
theorem kk_same {R : Cont} : kk K h R tm h ↔ R tm h := by simp [kk]
theorem kk_new {R : Cont} {h' : Heap} (hK : K h') (H : R tm h') : kk K h R tm h' := ⟨.inr hK, H⟩
end
end Go.Tm
namespace Go.Proofs.YthdgobcpefcolaaGreatDoor
open Go.Tm Vr
set_option linter.unusedSectionVars false
variable {E : Env} (hE : EOk E)
include hE
section
variable {G : Mem} {h : Heap} {X : Nat → Prop} (hS : SO E G h X) {P : PR} {r t : Nat} (hQ : QR E G h X P [] r t) {cs : List Value} (hP : PRR E G P cs)
include hS hQ hP
set_option maxHeartbeats 4000000 in
theorem looks_at (z : P.Sz) : CallsTo E 33 [.agg (ptr r :: ptr t :: cs).toArray] h fun v h' => v = .bool true ∧ ∃ G', Ext E G h G' h' := by
  have hP0 := hP
  obtain ⟨a1, c1, a2, c2, a3, c3, a4, c4, a5, c5, a6, c6, a7, c7, ct, cc, ca, hcs, q1, ⟨q2, q3, q4⟩, q5, q6, q7, q8⟩ := hP.e
  subst hcs
  have w0 := hS.wf.b0
  have w1 := hS.wf.b1
  have zb := z.bs
  have zc := z.cm
  have zo := z.op
  have zn := z.n
  have hll : P.log.length ≤ P.op := by unfold PR.op; omega
  refine calls_of_runs (fn := Tryz.f33) (by rw [hE.P]; exact Tryz.func33) rfl (by rw [hE.known]; rfl) (by rw [Tryz.ntmps33]; exact Nat.le_of_ble_eq_true rfl) (by decide +kernel) (rs := [.tmp 2]) rfl (wpc_runs _ _ _ _ ?_)
  simp only [push_cast, seval, hE.P, awrite, wpc_label, wpc_block, w0, w1]
  have k0 := (((KW.refl hS.wf).push (o := (.cells (ptr r :: ptr t :: (rC P (.slice a1 P.log.length c1) (.slice a2 P.sv.l.length c2) (.slice a3 P.sv.tab.length c3) (.slice a4 P.told.length c4) (.slice a5 P.voted.length c5) (.slice a6 P.came.length c6) (.slice a7 P.ans.length c7))) 50 true))).push (o := (.cells [.int .i64 0, .int .i64 0, .int .i64 0, .int .i64 0, .int .i64 0, .int .i64 0, .int .i64 0, .int .i64 0, .slice none 0 0, .bool false, .slice none 0 0, .slice none 0 0, .slice none 0 0, .slice none 0 0, .slice none 0 0, .bool false, .slice none 0 0, .slice none 0 0] 48 true))).put (o := (.cells (rC P (.slice a1 P.log.length c1) (.slice a2 P.sv.l.length c2) (.slice a3 P.sv.tab.length c3) (.slice a4 P.told.length c4) (.slice a5 P.voted.length c5) (.slice a6 P.came.length c6) (.slice a7 P.ans.length c7)) 48 true)) (b := h.next + 1) (by omega) (by simp) hS.wf
  refine gtm (motive := wdraw E _ _) [1, 3] fun t1 hf => ?_
  simp only [push_cast, seval, hE.P, awrite, wpc_label, wpc_block, List.mem_cons, List.not_mem_nil, or_false, forall_eq_or_imp, forall_eq] at hf
  obtain ⟨f1, f3⟩ := hf
  refine gheap (motive := fun H => wdraw E _ _ _ H) (fun H => KW E h H ∧ H.get h.next = some (.cells (ptr r :: ptr t :: (rC P (.slice a1 P.log.length c1) (.slice a2 P.sv.l.length c2) (.slice a3 P.sv.tab.length c3) (.slice a4 P.told.length c4) (.slice a5 P.voted.length c5) (.slice a6 P.came.length c6) (.slice a7 P.ans.length c7))) 50 true) ∧ H.get (h.next + 1) = some (.cells (rC P (.slice a1 P.log.length c1) (.slice a2 P.sv.l.length c2) (.slice a3 P.sv.tab.length c3) (.slice a4 P.told.length c4) (.slice a5 P.voted.length c5) (.slice a6 P.came.length c6) (.slice a7 P.ans.length c7)) 48 true)) ⟨k0, by rw [get_put, if_neg (by omega), get_push, if_neg (by simp), get_push, if_pos rfl], by rw [get_put, if_pos rfl]⟩ ?_
  clear k0
  rintro H ⟨k0, gN, gR⟩
  have nN := k0.w.nlt gN
  have nR := k0.w.nlt gR
  have s0 := hS.kw k0
  have q0 := hQ.ext (k0.ext hS.frz)
  have hopq := opR_at hE k0.w hP0 (by omega) (by omega)
  have hKK : ∀ H', KW E H H' → H'.get h.next = some (.cells (ptr r :: ptr t :: (rC P (.slice a1 P.log.length c1) (.slice a2 P.sv.l.length c2) (.slice a3 P.sv.tab.length c3) (.slice a4 P.told.length c4) (.slice a5 P.voted.length c5) (.slice a6 P.came.length c6) (.slice a7 P.ans.length c7))) 50 true) ∧ H'.get (h.next + 1) = some (.cells (rC P (.slice a1 P.log.length c1) (.slice a2 P.sv.l.length c2) (.slice a3 P.sv.tab.length c3) (.slice a4 P.told.length c4) (.slice a5 P.voted.length c5) (.slice a6 P.came.length c6) (.slice a7 P.ans.length c7)) 48 true) := fun H' k => ⟨k.k.get _ _ gN, k.k.get _ _ gR⟩
  refine wdraw_keep [(4, 2), (11, 9), (19, 17), (26, 25), (35, 33), (43, 41), (50, 49)] [false, false, false, false, true, false, false, false, false, false, false, true, false, false, false, false, false, false, false, true, false, false, false, false, false, false, true, false, false, false, false, false, false, false, false, true, false, false, false, false, false, false, false, true, false, false, false, false, false, false, true, false, false, false] (fun H => H.get h.next = some (.cells (ptr r :: ptr t :: (rC P (.slice a1 P.log.length c1) (.slice a2 P.sv.l.length c2) (.slice a3 P.sv.tab.length c3) (.slice a4 P.told.length c4) (.slice a5 P.voted.length c5) (.slice a6 P.came.length c6) (.slice a7 P.ans.length c7))) 50 true) ∧ H.get (h.next + 1) = some (.cells (rC P (.slice a1 P.log.length c1) (.slice a2 P.sv.l.length c2) (.slice a3 P.sv.tab.length c3) (.slice a4 P.told.length c4) (.slice a5 P.voted.length c5) (.slice a6 P.came.length c6) (.slice a7 P.ans.length c7)) 48 true)) (by rw [hE.P]; decide +kernel) (by rw [hE.P]; decide +kernel) (by rw [hE.P]; decide +kernel) (by decide +kernel) ⟨gN, gR⟩ ?_
  simp only [push_cast, seval, hE.P, awrite, wpc_label, wpc_block, wpk_nil, wpk_f, wpk_t, wpk_gf, wpk_gt, kk_same, f1, f3, gN, gR, nN, nR, bne_self_eq_false]
  refine (getView_at hE s0 q0).mono ?_
  intro v h5 hvh
  rw [hvh.1, hvh.2]
  clear hvh
  simp only [push_cast, seval, hE.P, awrite, wpc_label, wpc_block, wpk_nil, wpk_f, wpk_t, wpk_gf, wpk_gt, kk_same, f1, f3, gN, gR, nN, nR, bne_self_eq_false]
  refine ⟨fun _ => ⟨iv P.vw, veq_int, ?_⟩, ?_⟩
  · rintro HH ⟨hN, hR⟩
    simp only [push_cast, seval, hE.P, awrite, wpc_label, wpc_block, aread_load, f1, f3, hN, hR, nN, nR]
  refine (getStatus_at hE s0 q0).mono ?_
  intro v h5 hvh
  rw [hvh.1, hvh.2]
  clear hvh
  simp only [push_cast, seval, hE.P, awrite, wpc_label, wpc_block, wpk_nil, wpk_f, wpk_t, wpk_gf, wpk_gt, kk_same, f1, f3, gN, gR, nN, nR, bne_self_eq_false]
  refine ⟨fun _ => ⟨iv P.st, veq_int, ?_⟩, ?_⟩
  · rintro HH ⟨hN, hR⟩
    simp only [push_cast, seval, hE.P, awrite, wpc_label, wpc_block, aread_load, f1, f3, hN, hR, nN, nR]
  refine (getNormal_at hE s0 q0).mono ?_
  intro v h5 hvh
  rw [hvh.1, hvh.2]
  clear hvh
  simp only [push_cast, seval, hE.P, awrite, wpc_label, wpc_block, wpk_nil, wpk_f, wpk_t, wpk_gf, wpk_gt, kk_same, f1, f3, gN, gR, nN, nR, bne_self_eq_false]
  refine ⟨fun _ => ⟨iv P.nm, veq_int, ?_⟩, ?_⟩
  · rintro HH ⟨hN, hR⟩
    simp only [push_cast, seval, hE.P, awrite, wpc_label, wpc_block, aread_load, f1, f3, hN, hR, nN, nR]
  refine (getOp_at hE s0 q0).mono ?_
  intro v h5 hvh
  rw [hvh.1, hvh.2]
  clear hvh
  simp only [push_cast, seval, hE.P, awrite, wpc_label, wpc_block, wpk_nil, wpk_f, wpk_t, wpk_gf, wpk_gt, kk_same, f1, f3, gN, gR, nN, nR, bne_self_eq_false]
  refine ⟨fun _ => ⟨.agg (rC P (.slice a1 P.log.length c1) (.slice a2 P.sv.l.length c2) (.slice a3 P.sv.tab.length c3) (.slice a4 P.told.length c4) (.slice a5 P.voted.length c5) (.slice a6 P.came.length c6) (.slice a7 P.ans.length c7)).toArray, by simp [veq_agg, veqL_cons, veqL_nil, veq_int, veq_slice, veq_bool], ?_⟩, ?_⟩
  · rintro HH ⟨hN, hR⟩
    simp only [push_cast, seval, hE.P, awrite, wpc_label, wpc_block, aread_load, f1, f3, hN, hR, nN, nR]
  refine hopq.mono ?_
  rintro v H1 ⟨rfl, k1⟩
  have gN1 := k1.k.get _ _ gN
  have gR1 := k1.k.get _ _ gR
  have k01 := k0.trans k1
  have s1 := hS.kw k01
  have q1' := hQ.ext (k01.ext hS.frz)
  simp only [push_cast, seval, hE.P, awrite, wpc_label, wpc_block]
  refine kk_new (hKK _ k1) ?_
  simp only [push_cast, seval, hE.P, awrite, wpc_label, wpc_block, wpk_nil, wpk_f, wpk_t, wpk_gf, wpk_gt, kk_same, f1, f3, gN1, gR1, nN, nR, bne_self_eq_false]
  refine (getCommit_at hE s1 q1').mono ?_
  intro v h5 hvh
  rw [hvh.1, hvh.2]
  clear hvh
  simp only [push_cast, seval, hE.P, awrite, wpc_label, wpc_block, wpk_nil, wpk_f, wpk_t, wpk_gf, wpk_gt, kk_same, f1, f3, gN1, gR1, nN, nR, bne_self_eq_false]
  refine ⟨fun _ => ⟨iv P.cm, veq_int, ?_⟩, ?_⟩
  · rintro HH ⟨hN, hR⟩
    simp only [push_cast, seval, hE.P, awrite, wpc_label, wpc_block, aread_load, f1, f3, hN, hR, nN, nR]
  refine (getBase_at hE s1 q1').mono ?_
  intro v h5 hvh
  rw [hvh.1, hvh.2]
  clear hvh
  simp only [push_cast, seval, hE.P, awrite, wpc_label, wpc_block, wpk_nil, wpk_f, wpk_t, wpk_gf, wpk_gt, kk_same, f1, f3, gN1, gR1, nN, nR, bne_self_eq_false]
  refine ⟨fun _ => ⟨iv P.bs, veq_int, ?_⟩, ?_⟩
  · rintro HH ⟨hN, hR⟩
    simp only [push_cast, seval, hE.P, awrite, wpc_label, wpc_block, aread_load, f1, f3, hN, hR, nN, nR]
  refine (getPrimary_at hE s1 q1' z).mono ?_
  intro v h5 hvh
  rw [hvh.1, hvh.2]
  clear hvh
  simp only [push_cast, seval, hE.P, awrite, wpc_label, wpc_block, wpk_nil, wpk_f, wpk_t, wpk_gf, wpk_gt, kk_same, f1, f3, gN1, gR1, nN, nR, bne_self_eq_false]
  refine ⟨fun _ => ⟨.agg (rC P (.slice a1 P.log.length c1) (.slice a2 P.sv.l.length c2) (.slice a3 P.sv.tab.length c3) (.slice a4 P.told.length c4) (.slice a5 P.voted.length c5) (.slice a6 P.came.length c6) (.slice a7 P.ans.length c7)).toArray, by simp [veq_agg, veqL_cons, veqL_nil, veq_int, veq_slice, veq_bool], ?_⟩, ?_⟩
  · rintro HH ⟨hN, hR⟩
    simp only [push_cast, seval, hE.P, awrite, wpc_label, wpc_block, aread_load, f1, f3, hN, hR, nN, nR]
  refine (primR_at hE k01.w hP0 ⟨by omega, by omega⟩ (by have := z.vw; omega)).mono ?_
  rintro v H2 ⟨rfl, k2⟩
  have gN2 := k2.k.get _ _ gN1
  have gR2 := k2.k.get _ _ gR1
  have k02 := k01.trans k2
  simp only [push_cast, seval, hE.P, awrite, wpc_label, wpc_block]
  refine kk_new (hKK _ (k1.trans k2)) ?_
  simp only [push_cast, seval, hE.P, awrite, wpc_label, wpc_block, wpk_nil, wpk_f, wpk_t, wpk_gf, wpk_gt, kk_same, f1, f3, gN2, gR2, nN, nR, bne_self_eq_false, boolE, Option.map_some, kpure_some, beq_self_eq_true, Bool.not_true]
  have s2 := hS.kw k02
  have q2' := hQ.ext (k02.ext hS.frz)
  refine gtm (motive := wdraw E _ _) [1, 3] fun t2 hf => ?_
  simp only [push_cast, seval, hE.P, awrite, wpc_label, wpc_block, List.mem_cons, List.not_mem_nil, or_false, forall_eq_or_imp, forall_eq, f1, f3] at hf
  obtain ⟨f1, f3⟩ := hf
  refine wdraw_keep [(4, 2)] [false, false, false, false, true, false, false, false, false, false, false, false, false, false, false, false, false, false, false] (fun H => H.get h.next = some (.cells (ptr r :: ptr t :: (rC P (.slice a1 P.log.length c1) (.slice a2 P.sv.l.length c2) (.slice a3 P.sv.tab.length c3) (.slice a4 P.told.length c4) (.slice a5 P.voted.length c5) (.slice a6 P.came.length c6) (.slice a7 P.ans.length c7))) 50 true) ∧ H.get (h.next + 1) = some (.cells (rC P (.slice a1 P.log.length c1) (.slice a2 P.sv.l.length c2) (.slice a3 P.sv.tab.length c3) (.slice a4 P.told.length c4) (.slice a5 P.voted.length c5) (.slice a6 P.came.length c6) (.slice a7 P.ans.length c7)) 48 true)) (by rw [hE.P]; decide +kernel) (by rw [hE.P]; decide +kernel) (by rw [hE.P]; decide +kernel) (by decide +kernel) ⟨gN2, gR2⟩ ?_
  simp only [push_cast, seval, hE.P, awrite, wpc_label, wpc_block, wpk_nil, wpk_f, wpk_t, wpk_gf, wpk_gt, kk_same, f1, f3, gN2, gR2, nN, nR]
  refine (getLog_at hE s2 q2' z).mono ?_
  rintro v H3 ⟨G3, x3, z3⟩
  have gN3 := x3.keep.get _ _ gN2
  have gR3 := x3.keep.get _ _ gR2
  simp only [push_cast, seval, hE.P, awrite, wpc_label, wpc_block]
  refine kk_new ⟨gN3, gR3⟩ ?_
  simp only [push_cast, seval, hE.P, awrite, wpc_label, wpc_block, wpk_nil, wpk_f, wpk_t, wpk_gf, wpk_gt, kk_same, f1, f3, gN3, gR3, nN, nR]
  refine ⟨fun _ => ⟨.slice a1 P.log.length c1, veq_slice, ?_⟩, ?_⟩
  · rintro HH ⟨hN, hR⟩
    simp only [push_cast, seval, hE.P, awrite, wpc_label, wpc_block, aread_load, f1, f3, hN, hR, nN, nR]
  refine (logs_at hE x3.wf x3.frz z3.1 (q1.1.sub x3.sub) (by omega)).mono ?_
  rintro v H4 ⟨rfl, hH⟩
  subst hH
  obtain ⟨D3, q3'⟩ := q2'.ext x3
  obtain ⟨ss, gt3, hss⟩ := q3'.ht
  obtain ⟨A1, C1, A2, C2, ct2, rfl, y1, y2, y3⟩ := hss.e
  have nt := x3.wf.nlt gt3
  simp only [push_cast, seval, hE.P, awrite, wpc_label, wpc_block, wpk_nil, wpk_f, wpk_t, wpk_gf, wpk_gt, kk_same, f1, f3, gN3, gR3, nN, nR, gt3, nt]
  refine (logs_at hE x3.wf x3.frz y1.1 (q2.1.sub x3.sub) (by have := z.svl; omega)).mono ?_
  rintro v H5 ⟨rfl, hH⟩
  subst hH
  simp only [push_cast, seval, hE.P, awrite, wpc_label, wpc_block, wpk_nil, wpk_f, wpk_t, wpk_gf, wpk_gt, kk_same, ]
  exact ⟨G3, (k02.ext hS.frz).andthen x3⟩
end
end Go.Proofs.YthdgobcpefcolaaGreatDoor
