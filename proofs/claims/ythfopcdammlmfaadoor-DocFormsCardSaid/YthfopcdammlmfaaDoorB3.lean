/- Merged by a program of ours: V7. -/
import Derived.Test.YthfopcdammlmfaaDoorB2
set_option maxRecDepth 10000
set_option linter.all false
set_option linter.unusedSimpArgs false
set_option linter.unusedVariables false
namespace Go.Proofs.YthfopcdammlmfaaDoor
open Go.Tm
variable {E : Env} (hE : EOk E)
include hE
theorem same_at : ∀ (n : Nat) (V : Vl), V.sz ≤ n → ∀ {G G2 : Mem} {h : Heap}, WF E h → Frz E G h → Frz E G2 h → ∀ {c d : List Value}, Rep E G V c → Rep E G2 V d →
    CallsTo E 53 [.agg c.toArray, .agg d.toArray] h fun v h' => v = .bool true ∧ Keep h h' ∧ WF E h' := by
  intro n
  induction n with
  | zero => intro V hn; have := sz_eq V; omega
  | succ n ih =>
    intro V hn G G2 h hW hG hG2 c d hV hV2
    obtain ⟨sl, sf, cl, cf, rfl, hsl, hsf, hl, hf, hb1, hb2, hb3⟩ := hV.cells
    obtain ⟨a2, cap2, rfl, _, _⟩ := hsl.slice
    obtain ⟨a3, cap3, rfl, _, _⟩ := hsf.slice
    obtain ⟨sl', sf', cl', cf', rfl, hsl', hsf', hl', hf', _⟩ := hV2.cells
    obtain ⟨b2, cap2', rfl, _, _⟩ := hsl'.slice
    obtain ⟨b3, cap3', rfl, _, _⟩ := hsf'.slice
    refine calls_of_runs (fn := Tryd.f53) (by rw [hE.P]; exact Tryd.func53) rfl (by rw [hE.known]; rfl) (by rw [Tryd.ntmps53]; exact Nat.le_of_ble_eq_true rfl) (by decide +kernel) (rs := [.tmp 4]) rfl (wpc_runs _ _ _ _ ?_)
    simp only [push_cast, Nat.reduceEqDiff, Nat.reduceAdd, Nat.reduceLeDiff, reduceIte, reduceCtorEq, Int.reduceBEq, Int.reduceBNe, Int.reduceLT, Int.reduceLE, Int.reduceEq, Int.reduceAdd, Nat.reduceLT, hE.P, awrite, wpc_label, wpc_block, hW.nb, hW.nb0]
    have k0 : Keep h ((h.push (.cells [.int .i64 V.k, .int .i64 V.n, .string V.s, .slice a2 V.l.length cap2, .slice a3 V.f.length cap3] 28 true)).push (.cells [.int .i64 V.k, .int .i64 V.n, .string V.s, .slice b2 V.l.length cap2', .slice b3 V.f.length cap3'] 28 true)) := ((Keep.refl h).push hW).push (hW.push _)
    have w0 : WF E ((h.push (.cells [.int .i64 V.k, .int .i64 V.n, .string V.s, .slice a2 V.l.length cap2, .slice a3 V.f.length cap3] 28 true)).push (.cells [.int .i64 V.k, .int .i64 V.n, .string V.s, .slice b2 V.l.length cap2', .slice b3 V.f.length cap3'] 28 true)) := (hW.push _).push _
    have g0 : ((h.push (.cells [.int .i64 V.k, .int .i64 V.n, .string V.s, .slice a2 V.l.length cap2, .slice a3 V.f.length cap3] 28 true)).push (.cells [.int .i64 V.k, .int .i64 V.n, .string V.s, .slice b2 V.l.length cap2', .slice b3 V.f.length cap3'] 28 true)).get h.next = some (.cells [.int .i64 V.k, .int .i64 V.n, .string V.s, .slice a2 V.l.length cap2, .slice a3 V.f.length cap3] 28 true) := by simp [get_push]
    have e0 : ((h.push (.cells [.int .i64 V.k, .int .i64 V.n, .string V.s, .slice a2 V.l.length cap2, .slice a3 V.f.length cap3] 28 true)).push (.cells [.int .i64 V.k, .int .i64 V.n, .string V.s, .slice b2 V.l.length cap2', .slice b3 V.f.length cap3'] 28 true)).get (h.next + 1) = some (.cells [.int .i64 V.k, .int .i64 V.n, .string V.s, .slice b2 V.l.length cap2', .slice b3 V.f.length cap3'] 28 true) := by simp [get_push]
    generalize ((h.push (.cells [.int .i64 V.k, .int .i64 V.n, .string V.s, .slice a2 V.l.length cap2, .slice a3 V.f.length cap3] 28 true)).push (.cells [.int .i64 V.k, .int .i64 V.n, .string V.s, .slice b2 V.l.length cap2', .slice b3 V.f.length cap3'] 28 true)) = H at *
    refine wpc_loop (fun m tm h' => ∃ i : Nat, m = V.l.length - i ∧ i ≤ V.l.length ∧ fget tm 2 = .pointer (some ⟨h.next, 0, none⟩) ∧ fget tm 3 = .pointer (some ⟨h.next + 1, 0, none⟩) ∧ fget tm 5 = .int .i64 i ∧ Keep H h' ∧ WF E h') V.l.length ?_ ?_
    · simp only [push_cast, Nat.reduceEqDiff, Nat.reduceAdd, Nat.reduceLeDiff, reduceIte, reduceCtorEq, Int.reduceBEq, Int.reduceBNe, Int.reduceLT, Int.reduceLE, Int.reduceEq, Int.reduceAdd, Nat.reduceLT, hE.P, awrite, wpc_label, wpc_block]
      exact ⟨0, by omega, by omega, rfl, Keep.refl _, w0⟩
    · rintro m tm h' ⟨i, rfl, hi, f2, f3, f5, hk, hw⟩
      have g1 := hk.get _ _ g0
      have e1 := hk.get _ _ e0
      simp only [push_cast, Nat.reduceEqDiff, Nat.reduceAdd, Nat.reduceLeDiff, reduceIte, reduceCtorEq, Int.reduceBEq, Int.reduceBNe, Int.reduceLT, Int.reduceLE, Int.reduceEq, Int.reduceAdd, Nat.reduceLT, hE.P, awrite, wpc_label, wpc_block, f2, f3, f5, g1, hW.nb0]
      refine kif_split (fun hb => ?_) (fun hb => ?_)
      · have hlt : i < V.l.length := by simpa using hb
        obtain ⟨b, c, x1, hsp, hac⟩ := hsl.elem (hG.keep (k0.trans hk)) hlt
        injection x1 with x1 x2 x3
        subst x1; subst x3
        obtain ⟨b', c', y1, hsp', hac'⟩ := hsl'.elem (hG2.keep (k0.trans hk)) hlt
        injection y1 with y1 y2 y3
        subst y1; subst y3
        have hrc := hl.at i V.l[i] (by simp [hlt])
        have hrd := hl'.at i V.l[i] (by simp [hlt])
        simp only [push_cast, Nat.reduceEqDiff, Nat.reduceAdd, Nat.reduceLeDiff, reduceIte, reduceCtorEq, Int.reduceBEq, Int.reduceBNe, Int.reduceLT, Int.reduceLE, Int.reduceEq, Int.reduceAdd, Nat.reduceLT, hE.P, awrite, wpc_label, wpc_block]
        refine wdraw_calm (by rw [hE.P]; decide +kernel) ?_
        simp only [push_cast, Nat.reduceEqDiff, Nat.reduceAdd, Nat.reduceLeDiff, reduceIte, reduceCtorEq, Int.reduceBEq, Int.reduceBNe, Int.reduceLT, Int.reduceLE, Int.reduceEq, Int.reduceAdd, Nat.reduceLT, hE.P, awrite, wpc_label, wpc_block, f2, f3, f5, g1, e1, hW.nb0, hW.nb]
        rw [ia25 hsp (by omega) (by omega), kpure_some]
        simp only [push_cast, Nat.reduceEqDiff, Nat.reduceAdd, Nat.reduceLeDiff, reduceIte, reduceCtorEq, Int.reduceBEq, Int.reduceBNe, Int.reduceLT, Int.reduceLE, Int.reduceEq, Int.reduceAdd, Nat.reduceLT, hE.P, awrite, wpc_label, wpc_block, f2, f3, f5, g1, e1, hW.nb0, hW.nb, ↓hac]
        rw [ia25 hsp' (by omega) (by omega), kpure_some]
        simp only [push_cast, Nat.reduceEqDiff, Nat.reduceAdd, Nat.reduceLeDiff, reduceIte, reduceCtorEq, Int.reduceBEq, Int.reduceBNe, Int.reduceLT, Int.reduceLE, Int.reduceEq, Int.reduceAdd, Nat.reduceLT, hE.P, awrite, wpc_label, wpc_block, f2, f3, f5, g1, e1, hW.nb0, hW.nb, ↓hac, ↓hac']
        have hps := l_sz (v := V) (x := V.l[i]) (by simp)
        refine (ih V.l[i] (by omega) hw (hG.keep (k0.trans hk)) (hG2.keep (k0.trans hk)) hrc hrd).mono ?_
        rintro v h3 ⟨rfl, hk3, hw3⟩
        simp only [push_cast, Nat.reduceEqDiff, Nat.reduceAdd, Nat.reduceLeDiff, reduceIte, reduceCtorEq, Int.reduceBEq, Int.reduceBNe, Int.reduceLT, Int.reduceLE, Int.reduceEq, Int.reduceAdd, Nat.reduceLT, hE.P, awrite, wpc_label, wpc_block, f2, f3, f5]
        exact ⟨V.l.length - (i + 1), by omega, i + 1, rfl, by omega, by rw [wr64 (by omega) (by omega)]; rfl, hk.trans hk3, hw3⟩
      · have hge : i = V.l.length := by have : ¬ i < V.l.length := by simpa using hb
                                        omega
        simp only [push_cast, Nat.reduceEqDiff, Nat.reduceAdd, Nat.reduceLeDiff, reduceIte, reduceCtorEq, Int.reduceBEq, Int.reduceBNe, Int.reduceLT, Int.reduceLE, Int.reduceEq, Int.reduceAdd, Nat.reduceLT, hE.P, awrite, wpc_label, wpc_block]
        refine wpc_loop (fun m tm h3 => ∃ j : Nat, m = V.f.length - j ∧ j ≤ V.f.length ∧ fget tm 2 = .pointer (some ⟨h.next, 0, none⟩) ∧ fget tm 3 = .pointer (some ⟨h.next + 1, 0, none⟩) ∧ fget tm 6 = .int .i64 j ∧ Keep h' h3 ∧ WF E h3) V.f.length ?_ ?_
        · simp only [push_cast, Nat.reduceEqDiff, Nat.reduceAdd, Nat.reduceLeDiff, reduceIte, reduceCtorEq, Int.reduceBEq, Int.reduceBNe, Int.reduceLT, Int.reduceLE, Int.reduceEq, Int.reduceAdd, Nat.reduceLT, hE.P, awrite, wpc_label, wpc_block, f2, f3]
          exact ⟨0, by omega, by omega, rfl, Keep.refl _, hw⟩
        · clear f2 f3 f5
          rintro m tm h3 ⟨j, rfl, hj, f2, f3, f6, hk3, hw3⟩
          have g2 := hk3.get _ _ g1
          have e2 := hk3.get _ _ e1
          have k3 := (k0.trans hk).trans hk3
          simp only [push_cast, Nat.reduceEqDiff, Nat.reduceAdd, Nat.reduceLeDiff, reduceIte, reduceCtorEq, Int.reduceBEq, Int.reduceBNe, Int.reduceLT, Int.reduceLE, Int.reduceEq, Int.reduceAdd, Nat.reduceLT, hE.P, awrite, wpc_label, wpc_block, f2, f3, f6, g2, hW.nb0]
          refine kif_split (fun hb => ?_) (fun hb => ?_)
          · have hlt : j < V.f.length := by simpa using hb
            obtain ⟨b, c, x1, hsp, hac⟩ := hsf.elem (hG.keep k3) hlt
            injection x1 with x1 x2 x3
            subst x1; subst x3
            obtain ⟨b', c', y1, hsp', hac'⟩ := hsf'.elem (hG2.keep k3) hlt
            injection y1 with y1 y2 y3
            subst y1; subst y3
            obtain ⟨c1, hc1, hrc, hnm⟩ := hf.at j V.f[j].1 V.f[j].2 (List.getElem?_eq_getElem hlt)
            obtain ⟨d1, hd1, hrd, _⟩ := hf'.at j V.f[j].1 V.f[j].2 (List.getElem?_eq_getElem hlt)
            rw [hc1] at hac
            rw [hd1] at hac'
            have n1 := acells_part hac 0 1 (by omega)
            have n2 := acells_part hac' 0 1 (by omega)
            have n3 := acells_part hac 1 5 (by omega)
            have n4 := acells_part hac' 1 5 (by omega)
            have lc := hrc.len
            have ld := hrd.len
            simp only [Nat.add_zero, List.drop_zero, List.take_succ_cons, List.take_zero, List.drop_succ_cons] at n1 n2 n3 n4
            rw [List.take_of_length_le (by omega)] at n3 n4
            simp only [push_cast, Nat.reduceEqDiff, Nat.reduceAdd, Nat.reduceLeDiff, reduceIte, reduceCtorEq, Int.reduceBEq, Int.reduceBNe, Int.reduceLT, Int.reduceLE, Int.reduceEq, Int.reduceAdd, Nat.reduceLT, hE.P, awrite, wpc_label, wpc_block]
            refine wdraw_calm (by rw [hE.P]; decide +kernel) ?_
            simp only [push_cast, Nat.reduceEqDiff, Nat.reduceAdd, Nat.reduceLeDiff, reduceIte, reduceCtorEq, Int.reduceBEq, Int.reduceBNe, Int.reduceLT, Int.reduceLE, Int.reduceEq, Int.reduceAdd, Nat.reduceLT, hE.P, awrite, wpc_label, wpc_block, f2, f3, f6, g2, e2, hW.nb0, hW.nb]
            rw [ia26 hsp (by omega) (by omega), kpure_some]
            simp only [push_cast, Nat.reduceEqDiff, Nat.reduceAdd, Nat.reduceLeDiff, reduceIte, reduceCtorEq, Int.reduceBEq, Int.reduceBNe, Int.reduceLT, Int.reduceLE, Int.reduceEq, Int.reduceAdd, Nat.reduceLT, hE.P, awrite, wpc_label, wpc_block, f2, f3, f6, g2, e2, hW.nb0, hW.nb, ↓n1]
            rw [ia26 hsp' (by omega) (by omega), kpure_some]
            simp only [push_cast, Nat.reduceEqDiff, Nat.reduceAdd, Nat.reduceLeDiff, reduceIte, reduceCtorEq, Int.reduceBEq, Int.reduceBNe, Int.reduceLT, Int.reduceLE, Int.reduceEq, Int.reduceAdd, Nat.reduceLT, hE.P, awrite, wpc_label, wpc_block, f2, f3, f6, g2, e2, hW.nb0, hW.nb, ↓n1, ↓n2]
            rw [ia26 hsp (by omega) (by omega), kpure_some]
            simp only [push_cast, Nat.reduceEqDiff, Nat.reduceAdd, Nat.reduceLeDiff, reduceIte, reduceCtorEq, Int.reduceBEq, Int.reduceBNe, Int.reduceLT, Int.reduceLE, Int.reduceEq, Int.reduceAdd, Nat.reduceLT, hE.P, awrite, wpc_label, wpc_block, f2, f3, f6, g2, e2, hW.nb0, hW.nb, ↓n3]
            rw [ia26 hsp' (by omega) (by omega), kpure_some]
            simp only [push_cast, Nat.reduceEqDiff, Nat.reduceAdd, Nat.reduceLeDiff, reduceIte, reduceCtorEq, Int.reduceBEq, Int.reduceBNe, Int.reduceLT, Int.reduceLE, Int.reduceEq, Int.reduceAdd, Nat.reduceLT, hE.P, awrite, wpc_label, wpc_block, f2, f3, f6, g2, e2, hW.nb0, hW.nb, ↓n3, ↓n4]
            have hps := f_sz (v := V) (x := V.f[j]) (by simp)
            refine (ih V.f[j].2 (by omega) hw3 (hG.keep k3) (hG2.keep k3) hrc hrd).mono ?_
            rintro v h4 ⟨rfl, hk4, hw4⟩
            simp only [push_cast, Nat.reduceEqDiff, Nat.reduceAdd, Nat.reduceLeDiff, reduceIte, reduceCtorEq, Int.reduceBEq, Int.reduceBNe, Int.reduceLT, Int.reduceLE, Int.reduceEq, Int.reduceAdd, Nat.reduceLT, hE.P, awrite, wpc_label, wpc_block, f2, f3, f6]
            exact ⟨V.f.length - (j + 1), by omega, j + 1, rfl, by omega, by rw [wr64 (by omega) (by omega)]; rfl, hk3.trans hk4, hw4⟩
          · simp only [push_cast, Nat.reduceEqDiff, Nat.reduceAdd, Nat.reduceLeDiff, reduceIte, reduceCtorEq, Int.reduceBEq, Int.reduceBNe, Int.reduceLT, Int.reduceLE, Int.reduceEq, Int.reduceAdd, Nat.reduceLT, hE.P, awrite, wpc_label, wpc_block]
            exact ⟨k3, hw3⟩
theorem same12_at {V : Vl} {G G2 : Mem} {h : Heap} (hW : WF E h) (hG : Frz E G h) (hG2 : Frz E G2 h) {c d : List Value} (hV : Rep E G V c) (hV2 : Rep E G2 V d) :
    CallsTo E 36 [.agg c.toArray, .agg d.toArray] h fun v h' => v = .bool true ∧ Keep h h' ∧ WF E h' := by
  obtain ⟨sl, sf, cl, cf, rfl, _⟩ := hV.cells
  obtain ⟨sl', sf', cl', cf', rfl, _⟩ := hV2.cells
  refine calls_of_runs (fn := Tryd.f36) (by rw [hE.P]; exact Tryd.func36) rfl (by rw [hE.known]; rfl) (by rw [Tryd.ntmps36]; exact Nat.le_of_ble_eq_true rfl) (by decide +kernel) (rs := [.tmp 4]) rfl (wpc_runs _ _ _ _ ?_)
  simp only [push_cast, Nat.reduceEqDiff, Nat.reduceAdd, Nat.reduceLeDiff, reduceIte, reduceCtorEq, Int.reduceBEq, Int.reduceBNe, Int.reduceLT, Int.reduceLE, Int.reduceEq, Int.reduceAdd, Nat.reduceLT, hE.P, awrite, wpc_label, wpc_block, hW.nb, hW.nb0]
  have k0 := ((Keep.refl h).push (o := .cells [.int .i64 V.k, .int .i64 V.n, .string V.s, sl, sf] 28 true) hW).push (o := .cells [.int .i64 V.k, .int .i64 V.n, .string V.s, sl', sf'] 28 true) (hW.push _)
  refine (same_at hE V.sz V (Nat.le_refl _) ((hW.push _).push _) (hG.keep k0) (hG2.keep k0) hV hV2).mono ?_
  rintro v h1 ⟨rfl, hk, hw⟩
  simp only [push_cast, Nat.reduceEqDiff, Nat.reduceAdd, Nat.reduceLeDiff, reduceIte, reduceCtorEq, Int.reduceBEq, Int.reduceBNe, Int.reduceLT, Int.reduceLE, Int.reduceEq, Int.reduceAdd, Nat.reduceLT, hE.P, awrite, wpc_label, wpc_block]
  exact ⟨k0.trans hk, hw⟩
/-- The value that is none. -/
def zeroV : Vl := .mk 0 0 .empty [] []
omit hE in
theorem zero_rep {G : Mem} : Rep E G zeroV [.int .i64 0, .int .i64 0, .string .empty, .slice none 0 0, .slice none 0 0] := by
  unfold zeroV Rep
  exact ⟨_, _, [], [], rfl, ⟨none, 0, rfl, by simp, by omega, ⟨fun _ => rfl, fun _ x => (by cases x)⟩, .inl ⟨rfl, rfl⟩⟩, ⟨none, 0, rfl, by simp, by omega, ⟨fun _ => rfl, fun _ x => (by cases x)⟩, .inl ⟨rfl, rfl⟩⟩, by simp [RepLs], by simp [RepFs], by decide, by omega, by omega⟩
theorem zero_at {G : Mem} {h : Heap} (hW : WF E h) (hG : Frz E G h) {c : List Value} (hV : Rep E G zeroV c) : CallsTo E 29 [.agg c.toArray] h fun v h' => v = .bool true ∧ Keep h h' ∧ WF E h' := by
  obtain ⟨sl, sf, cl, cf, rfl, _⟩ := hV.cells
  refine calls_of_runs (fn := Tryd.f29) (by rw [hE.P]; exact Tryd.func29) rfl (by rw [hE.known]; rfl) (by rw [Tryd.ntmps29]; exact Nat.le_of_ble_eq_true rfl) (by decide +kernel) (rs := [.tmp 2]) rfl (wpc_runs _ _ _ _ ?_)
  simp only [push_cast, Nat.reduceEqDiff, Nat.reduceAdd, Nat.reduceLeDiff, reduceIte, reduceCtorEq, Int.reduceBEq, Int.reduceBNe, Int.reduceLT, Int.reduceLE, Int.reduceEq, Int.reduceAdd, Nat.reduceLT, hE.P, awrite, wpc_label, wpc_block, hW.nb, hW.nb0]
  have k0 := (Keep.refl h).push (o := .cells [.int .i64 zeroV.k, .int .i64 zeroV.n, .string zeroV.s, sl, sf] 28 true) hW
  refine (same_at hE zeroV.sz zeroV (Nat.le_refl _) (hW.push _) (hG.keep k0) (hG.keep k0) hV zero_rep).mono ?_
  rintro v h1 ⟨rfl, hk, hw⟩
  simp only [push_cast, Nat.reduceEqDiff, Nat.reduceAdd, Nat.reduceLeDiff, reduceIte, reduceCtorEq, Int.reduceBEq, Int.reduceBNe, Int.reduceLT, Int.reduceLE, Int.reduceEq, Int.reduceAdd, Nat.reduceLT, hE.P, awrite, wpc_label, wpc_block]
  exact ⟨k0.trans hk, hw⟩
end Go.Proofs.YthfopcdammlmfaaDoor
