/- Merged by a program of ours: V4 V5. -/
import Derived.Test.YthfopcdammlmfaaGreatDoorB1
import Derived.Test.YthfopcdammlmfaaGreatDoorA8
set_option maxRecDepth 10000
set_option linter.all false
set_option linter.unusedSimpArgs false
set_option linter.unusedVariables false
namespace Go.Proofs.YthfopcdammlmfaaGreatDoor
open Go.Tm
variable {E : Env} (hE : EOk E)
include hE
theorem turned_at {h : Heap} {n : Int} (h0 : -9223372036854775808 ≤ n) (h1 : n ≤ 9223372036854775807) : CallsTo E 141 [.int .i64 n] h fun v h' => v = .int .u64 (turnedN n) ∧ h' = h := by
 refine en hE Tryz.func141 rfl rfl Tryz.ntmps141 rfl (by decide +kernel) (rs := [.tmp 2]) rfl ?_
 simp only [push_cast, seval, hE.P, zz]
 refine congrArg _ ?_
 rw [show min 1 IntKind.u64.bits = 1 from rfl, show min 63 IntKind.i64.bits = 63 from rfl, Int.fdiv_eq_ediv_of_nonneg _ (by decide)]
 unfold turnedN
 by_cases hn : n < 0
 ·rw [if_pos hn]
  have e1 : IntKind.u64.wrap (IntKind.u64.wrap n * 2 ^ 1) = (((2 * n + 18446744073709551616).toNat : Nat) : Int) := by
   rw [IntKind.wrap_u64, IntKind.wrap_u64]; omega
  have e2 : IntKind.u64.wrap (n / 2 ^ 63) = ((18446744073709551615 : Nat) : Int) := by
   rw [IntKind.wrap_u64]; omega
  rw [e1, e2, bits_xor_u64_nat _ _ (by omega) (by omega), Nat.xor_comm]
  have := Lib.xor_ones64 (2 * n + 18446744073709551616).toNat (by omega)
  rw [show (2 : Nat) ^ 64 - 1 = 18446744073709551615 from rfl] at this
  rw [this]; omega
 ·rw [if_neg hn]
  have e1 : IntKind.u64.wrap (IntKind.u64.wrap n * 2 ^ 1) = (((2 * n).toNat : Nat) : Int) := by
   rw [IntKind.wrap_u64, IntKind.wrap_u64]; omega
  have e2 : IntKind.u64.wrap (n / 2 ^ 63) = ((0 : Nat) : Int) := by
   rw [IntKind.wrap_u64]; omega
  rw [e1, e2, bits_xor_u64_nat _ _ (by omega) (by omega), Nat.xor_zero]
theorem size_at : ∀ (n : Nat) (V : Vl), V.sz ≤ n → n ≤ 10000 → ∀ {G : Mem} {h : Heap}, WF E h → Frz E G h → ∀ {c : List Value}, Rep E G V c →
 CallsTo E 97 [.agg c.toArray] h fun v h' => v = .int .i64 (sizeV V) ∧ Keep h h' ∧ WF E h' := by
 intro n
 induction n with
 | zero => intro V hn; have := sz_eq V; omega
 | succ n ih =>
   intro V hn hn2 G h hW hG c hV
   have hbd := sizeV_bd V.sz V (Nat.le_refl _) hV
   have hhd := headV_bd hV
   obtain ⟨sl, sf, cl, cf, rfl, hsl, hsf, hl, hf, hb1, hb2, hb3⟩ := hV.cells
   obtain ⟨a2, cap2, rfl, _, _⟩ := hsl.slice
   obtain ⟨a3, cap3, rfl, _, _⟩ := hsf.slice
   refine en hE Tryz.func97 rfl rfl Tryz.ntmps97 rfl (by decide +kernel) (rs := [.tmp 2]) rfl ?_
   simp only [push_cast, seval, hE.P, zz, hW.nb, hW.nb0]
   have hw0 : WF E (h.push (.cells [.int .i64 V.k, .int .i64 V.n, .string V.s, .slice a2 V.l.length cap2, .slice a3 V.f.length cap3] 25 true)) := hW.push _
   have g0 : (h.push (.cells [.int .i64 V.k, .int .i64 V.n, .string V.s, .slice a2 V.l.length cap2, .slice a3 V.f.length cap3] 25 true)).get h.next = some (.cells [.int .i64 V.k, .int .i64 V.n, .string V.s, .slice a2 V.l.length cap2, .slice a3 V.f.length cap3] 25 true) := by simp only [get_push, if_true]
   have k0 : Keep h (h.push (.cells [.int .i64 V.k, .int .i64 V.n, .string V.s, .slice a2 V.l.length cap2, .slice a3 V.f.length cap3] 25 true)) := (Keep.refl h).push hW
   have d1 := digitsN_10 (turned_lt hb3.1 hb3.2)
   have d2 := digitsN_10 (n := V.s.size) (by omega)
   have d3 := digitsN_10 (n := V.l.length) (by omega)
   have d4 := digitsN_10 (n := V.f.length) (by omega)
   have e1 := digitsN_pos (turnedN V.n)
   have e2 := digitsN_pos V.s.size
   have e3 := digitsN_pos V.l.length
   have e4 := digitsN_pos V.f.length
   generalize hH : h.push (.cells [.int .i64 V.k, .int .i64 V.n, .string V.s, .slice a2 V.l.length cap2, .slice a3 V.f.length cap3] 25 true) = H at *
   refine kif_cutN (fun tm h' => fget tm 1 = .pointer (some ⟨h.next, 0, none⟩) ∧ fget tm 3 = .int .i64 (headV V) ∧ Keep H h' ∧ WF E h') ?_ ?_
   rotate_left
   ·refine kif_split (fun hb => ?_) (fun hb => ?_)
    ·have hk : V.k = 2 := by simpa using hb
     simp only [push_cast, seval, hE.P, zz]
     refine ⟨?_, Keep.refl _, hw0⟩
     rw [headV, if_pos hk]; rfl
    ·have hk2 : V.k ≠ 2 := by simpa using hb
     simp only [push_cast, seval, hE.P, zz]
     refine kif_split (fun hb => ?_) (fun hb => ?_)
     ·have hk : V.k = 3 := by simpa using hb
      simp only [push_cast, seval, hE.P, zz, g0, hW.nb0]
      refine (turned_at hE hb3.1 hb3.2).mono ?_
      rintro v h' ⟨rfl, rfl⟩
      simp only [push_cast, seval, hE.P, zz]
      refine (digits_at hE (turned_lt hb3.1 hb3.2)).mono ?_
      rintro v h' ⟨rfl, rfl⟩
      simp only [push_cast, seval, hE.P, zz]
      refine ⟨?_, Keep.refl _, hw0⟩
      rw [headV, if_neg hk2, if_pos hk, wr64 (by omega) (by omega)]
     ·have hk3 : V.k ≠ 3 := by simpa using hb
      simp only [push_cast, seval, hE.P, zz]
      refine kif_split (fun hb => ?_) (fun hb => ?_)
      ·have hk : V.k = 4 := by simpa using hb
       simp only [push_cast, seval, hE.P, zz, g0, hW.nb0, wpc_draw]
       refine wdraw_pairs [(7, 5)] (by rw [hE.P]; decide +kernel) (by rw [hE.P]; decide +kernel) (by rw [hE.P]; decide +kernel) ?_
       simp only [push_cast, seval, hE.P, zz, g0, hW.nb0]
       rw [wru64 (by omega) (by omega)]
       refine (digits_at hE (by omega)).mono ?_
       rintro v h' ⟨rfl, rfl⟩
       simp only [push_cast, seval, hE.P, zz, g0, hW.nb0]
       refine ⟨?_, Keep.refl _, hw0⟩
       rw [headV, if_neg hk2, if_neg hk3, if_pos hk, wr64 (x := digitsN V.s.size + V.s.size) (by omega) (by omega), wr64 (by omega) (by omega)]
      ·have hk4 : V.k ≠ 4 := by simpa using hb
       simp only [push_cast, seval, hE.P, zz]
       refine kif_split (fun hb => ?_) (fun hb => ?_)
       ·have hk : V.k = 5 := by simpa using hb
        simp only [push_cast, seval, hE.P, zz, g0, hW.nb0]
        rw [wru64 (by omega) (by omega)]
        refine (digits_at hE (by omega)).mono ?_
        rintro v h' ⟨rfl, rfl⟩
        simp only [push_cast, seval, hE.P, zz]
        refine ⟨?_, Keep.refl _, hw0⟩
        rw [headV, if_neg hk2, if_neg hk3, if_neg hk4, if_pos hk, wr64 (by omega) (by omega)]
       ·have hk5 : V.k ≠ 5 := by simpa using hb
        simp only [push_cast, seval, hE.P, zz]
        refine kif_split (fun hb => ?_) (fun hb => ?_)
        ·have hk : V.k = 6 := by simpa using hb
         have hhe : headV V = 1 + (digitsN V.f.length + (V.f.map fun x => digitsN x.1.size + (x.1.size : Int)).sum) := by rw [headV, if_neg hk2, if_neg hk3, if_neg hk4, if_neg hk5, if_pos hk]
         have hfl := f_len V
         simp only [push_cast, seval, hE.P, zz, g0, hW.nb0]
         rw [wru64 (by omega) (by omega)]
         refine (digits_at hE (by omega)).mono ?_
         rintro v h' ⟨rfl, rfl⟩
         simp only [push_cast, seval, hE.P, zz, g0, hW.nb0]
         rw [wr64 (by omega) (by omega)]
         refine wpc_loop (fun m tm h2 => ∃ i : Nat, m = V.f.length - i ∧ i ≤ V.f.length ∧ fget tm 1 = .pointer (some ⟨h.next, 0, none⟩) ∧ fget tm 56 = .int .i64 i ∧ fget tm 55 = .int .i64 V.f.length ∧ fget tm 54 = .slice a3 V.f.length cap3 ∧
          fget tm 3 = .int .i64 (1 + digitsN V.f.length + ((V.f.take i).map fun x => digitsN x.1.size + (x.1.size : Int)).sum) ∧ Keep h' h2 ∧ WF E h2) V.f.length ?_ ?_
         ·simp only [push_cast, seval, hE.P, zz]
          exact ⟨0, by omega, by omega, rfl, by simp, Keep.refl _, hw0⟩
         ·rintro m tm h2 ⟨i, rfl, hi, f1, f56, f55, f54, f3, hk2', hw2⟩
          simp only [push_cast, seval, hE.P, zz, f1, f56, f55, f54, f3]
          refine kif_split (fun hb => ?_) (fun hb => ?_)
          ·have hlt : i < V.f.length := by simpa using hb
           obtain ⟨b, c, e1', hsp, hac⟩ := hsf.elem (hG.keep (k0.trans hk2')) hlt
           injection e1' with e1' e2' e3'
           subst e1'; subst e3'
           obtain ⟨c1, hc1, hrc, hnm⟩ := hf.at i V.f[i].1 V.f[i].2 (List.getElem?_eq_getElem hlt)
           rw [hc1] at hac
           obtain ⟨sl', sf', cl', cf', rfl, hsl', hsf', _⟩ := hrc.cells
           obtain ⟨a2', cap2', rfl, _, _⟩ := hsl'.slice
           obtain ⟨a3', cap3', rfl, _, _⟩ := hsf'.slice
           have dn := digitsN_10 (n := V.f[i].1.size) (by omega)
           have en := digitsN_pos V.f[i].1.size
           have hns := names_sum hV (V.f.take i) fun x hx => List.mem_of_mem_take hx
           have htl : (V.f.take i).length ≤ 10000 := by simp; omega
           simp only [push_cast, seval, hE.P, zz, f1, f56, f55, f54, f3]
           rw [ia23 hsp (by omega) (by omega), kpure_some]
           simp only [push_cast, seval, hE.P, zz, f1, f56, f55, f54, f3, ↓hac, hw2.nb, hw2.nb0]
           refine wdraw_pairs [(7, 5)] (by rw [hE.P]; decide +kernel) (by rw [hE.P]; decide +kernel) (by rw [hE.P]; decide +kernel) ?_
           simp only [push_cast, seval, hE.P, zz, f1, f56, f55, f54, f3, hw2.nb, hw2.nb0]
           rw [wru64 (by omega) (by omega)]
           refine (digits_at hE (by omega)).mono ?_
           rintro v h3 ⟨rfl, rfl⟩
           simp only [push_cast, seval, hE.P, zz, f1, f56, f55, f54, f3, hw2.nb, hw2.nb0]
           refine ⟨V.f.length - (i + 1), by omega, i + 1, rfl, by omega, by rw [wr64 (by omega) (by omega)]; rfl, ?_, hk2'.push hw2, hw2.push _⟩
           rw [List.take_succ_eq_append_getElem hlt, List.map_append, List.map_cons, List.map_nil, List.sum_append]
           rw [wr64 (x := digitsN V.f[i].1.size + V.f[i].1.size) (by omega) (by omega), wr64 (by omega) (by omega)]
           refine congrArg _ ?_
           simp only [List.sum_cons, List.sum_nil]; omega
          ·have hge : i = V.f.length := by have : ¬ i < V.f.length := by simpa using hb
                                           omega
           subst hge
           rw [List.take_length] at f3
           simp only [push_cast, seval, hE.P, zz, f1, f56, f55, f54, f3]
           refine ⟨?_, hk2', hw2⟩
           rw [hhe]; exact congrArg _ (by omega)
        ·have hk6 : V.k ≠ 6 := by simpa using hb
         simp only [push_cast, seval, hE.P, zz]
         refine ⟨?_, Keep.refl _, hw0⟩
         rw [headV, if_neg hk2, if_neg hk3, if_neg hk4, if_neg hk5, if_neg hk6]; rfl
   ·rintro tm h1 ⟨f1, f3, hk1, hw1⟩
    have g1 := hk1.get _ _ g0
    simp only [push_cast, seval, hE.P, zz, f1, f3, g1, hW.nb0]
    refine (parts_at hE hw1 (hG.keep (k0.trans hk1)) hV).mono ?_
    rintro v h2 ⟨G', cs, hs, hr, hx⟩
    obtain ⟨a, cap, rfl, hc1, hc2⟩ := hs.slice
    simp only [push_cast, seval, hE.P, zz, f1, f3]
    have hse := sizeV_eq V
    have hpart : ∀ i : Nat, 0 ≤ ((V.parts.take i).map sizeV).sum ∧ ((V.parts.take i).map sizeV).sum ≤ (V.parts.map sizeV).sum := by
     intro i
     have hnn : ∀ l : List Vl, (∀ x, x ∈ l → x ∈ V.parts) → 0 ≤ (l.map sizeV).sum := by
      intro l hl
      refine sum_nn ?_
      intro x hx
      obtain ⟨y, hy, rfl⟩ := List.mem_map.1 hx
      obtain ⟨c', hc'⟩ := hV.part (hl y hy)
      have := (sizeV_bd y.sz y (Nat.le_refl _) hc').1; omega
     have h1 := hnn (V.parts.take i) fun x hx => List.mem_of_mem_take hx
     have h2 := hnn (V.parts.drop i) fun x hx => List.mem_of_mem_drop hx
     have h3 : (V.parts.map sizeV).sum = ((V.parts.take i).map sizeV).sum + ((V.parts.drop i).map sizeV).sum := by
      rw [← List.sum_append, ← List.map_append, List.take_append_drop]
     omega
    refine wpc_loop (fun m tm h' => ∃ i : Nat, m = V.parts.length - i ∧ i ≤ V.parts.length ∧ fget tm 75 = .int .i64 i ∧ fget tm 74 = .int .i64 V.parts.length ∧ fget tm 73 = .slice a V.parts.length cap ∧
     fget tm 3 = .int .i64 (headV V + ((V.parts.take i).map sizeV).sum) ∧ Keep h h' ∧ Keep h2 h' ∧ WF E h') V.parts.length ?_ ?_
    ·simp only [push_cast, seval, hE.P, zz, f3]
     exact ⟨0, by omega, by omega, rfl, by simp, (k0.trans hk1).trans hx.keep, Keep.refl _, hx.wf⟩
    ·rintro m tm h' ⟨i, rfl, hi, f75, f74, f73, f3, hkeep, hkeep2, hw⟩
     simp only [push_cast, seval, hE.P, zz, f75, f74, f73, f3]
     refine kif_split (fun hb => ?_) (fun hb => ?_)
     ·have hlt : i < V.parts.length := by simpa using hb
      obtain ⟨b, c, e1', hsp, hac⟩ := hs.elem (hx.frz.keep hkeep2) hlt
      injection e1' with e1' e2' e3'
      subst e1'; subst e3'
      have hrc := hr.at i V.parts[i] (by simp [hlt])
      obtain ⟨sl', sf', cl', cf', hce, hsl', hsf', _⟩ := hrc.cells
      rw [hce] at hac hrc
      obtain ⟨a2', cap2', rfl, _, _⟩ := hsl'.slice
      obtain ⟨a3', cap3', rfl, _, _⟩ := hsf'.slice
      simp only [push_cast, seval, hE.P, zz, f75, f74, f73, f3]
      rw [ia22 hsp (by omega) (by omega), kpure_some]
      simp only [push_cast, seval, hE.P, zz, f75, f74, f73, f3, ↓hac, hw.nb, hw.nb0]
      have hps := parts_sz (v := V) (x := V.parts[i]) (by simp)
      refine (ih V.parts[i] (by omega) (by omega) (hw.push _) (hx.frz.keep (hkeep2.push hw)) hrc).mono ?_
      rintro v h3 ⟨rfl, hk3, hw3⟩
      simp only [push_cast, seval, hE.P, zz, f75, f74, f73, f3]
      have hp1 := hpart i
      have hp2 := hpart (i + 1)
      rw [List.take_succ_eq_append_getElem hlt, List.map_append, List.map_cons, List.map_nil, List.sum_append] at hp2
      simp only [List.sum_cons, List.sum_nil] at hp2
      refine ⟨V.parts.length - (i + 1), by omega, i + 1, rfl, by omega, by rw [wr64 (by omega) (by omega)]; rfl, ?_, (hkeep.push hw).trans hk3, (hkeep2.push hw).trans hk3, hw3⟩
      rw [List.take_succ_eq_append_getElem hlt, List.map_append, List.map_cons, List.map_nil, List.sum_append]
      simp only [List.sum_cons, List.sum_nil]
      rw [wr64 (by omega) (by omega)]
      exact congrArg _ (by omega)
     ·have hge : i = V.parts.length := by have : ¬ i < V.parts.length := by simpa using hb
                                          omega
      subst hge
      rw [List.take_length] at f3
      simp only [push_cast, seval, hE.P, zz, f75, f74, f73, f3]
      exact ⟨congrArg _ hse.symm, hkeep, hw⟩
theorem good_at {V : Vl} (hz : V.sz ≤ 10000) {G : Mem} {h : Heap} (hW : WF E h) (hG : Frz E G h) {c : List Value} (hV : Rep E G V c) : CallsTo E 40 [.agg c.toArray] h fun v h' => v = .int .i64 (goodV V) ∧ Keep h h' ∧ WF E h' := by
 obtain ⟨sl, sf, cl, cf, rfl, hsl, hsf, hl, hf, hb1, hb2, hb3⟩ := hV.cells
 refine en hE Tryz.func40 rfl rfl Tryz.ntmps40 rfl (by decide +kernel) (rs := [.tmp 2]) rfl ?_
 simp only [push_cast, seval, hE.P, zz, hW.nb, hW.nb0]
 have g0 : (h.push (.cells [.int .i64 V.k, .int .i64 V.n, .string V.s, sl, sf] 25 true)).get h.next = some (.cells [.int .i64 V.k, .int .i64 V.n, .string V.s, sl, sf] 25 true) := by simp only [get_push, if_true]
 have k0 : Keep h (h.push (.cells [.int .i64 V.k, .int .i64 V.n, .string V.s, sl, sf] 25 true)) := (Keep.refl h).push hW
 have w0 : WF E (h.push (.cells [.int .i64 V.k, .int .i64 V.n, .string V.s, sl, sf] 25 true)) := hW.push _
 generalize h.push (.cells [.int .i64 V.k, .int .i64 V.n, .string V.s, sl, sf] 25 true) = H at *
 refine (all_at hE (formed_at hE) V.sz V (Nat.le_refl _) w0 (hG.keep k0) hV).mono ?_
 rintro v h1 ⟨rfl, k1', w1⟩
 have g1 := k1'.get _ _ g0
 have k1 := k0.trans k1'
 simp only [push_cast, seval, hE.P, zz]
 refine kif_split (fun hb1 => ?_) (fun hb1 => ?_)
 ·have e1 : allV formedV V = false := by simpa using hb1
  simp only [push_cast, seval, hE.P, zz]
  exact ⟨by rw [goodV, if_pos e1], k1, w1⟩
 have e1 : ¬ allV formedV V = false := by simpa using hb1
 simp only [push_cast, seval, hE.P, zz, g1, hW.nb0]
 refine (all_at hE (spelled_at hE) V.sz V (Nat.le_refl _) w1 (hG.keep k1) hV).mono ?_
 rintro v h2 ⟨rfl, k2, w2⟩
 have g2 := k2.get _ _ g1
 replace k2 := k1.trans k2
 simp only [push_cast, seval, hE.P, zz]
 refine kif_split (fun hb2 => ?_) (fun hb2 => ?_)
 ·have e2 : allV spelledV V = false := by simpa using hb2
  simp only [push_cast, seval, hE.P, zz]
  exact ⟨by rw [goodV, if_neg e1, if_pos e2], k2, w2⟩
 have e2 : ¬ allV spelledV V = false := by simpa using hb2
 simp only [push_cast, seval, hE.P, zz, g2, hW.nb0]
 refine (all_at hE (few_at hE) V.sz V (Nat.le_refl _) w2 (hG.keep k2) hV).mono ?_
 rintro v h3 ⟨rfl, k3, w3⟩
 have g3 := k3.get _ _ g2
 replace k3 := k2.trans k3
 simp only [push_cast, seval, hE.P, zz]
 refine kif_split (fun hb3 => ?_) (fun hb3 => ?_)
 ·have e3 : allV fewV V = false := by simpa using hb3
  simp only [push_cast, seval, hE.P, zz]
  exact ⟨by rw [goodV, if_neg e1, if_neg e2, if_pos e3], k3, w3⟩
 have e3 : ¬ allV fewV V = false := by simpa using hb3
 simp only [push_cast, seval, hE.P, zz, g3, hW.nb0]
 refine (depth_at hE V.sz V (Nat.le_refl _) (by omega) w3 (hG.keep k3) hV).mono ?_
 rintro v h4 ⟨rfl, k4, w4⟩
 have g4 := k4.get _ _ g3
 replace k4 := k3.trans k4
 simp only [push_cast, seval, hE.P, zz]
 refine kif_split (fun hb4 => ?_) (fun hb4 => ?_)
 ·have e4 : depthV V > 8 := by simpa using hb4
  simp only [push_cast, seval, hE.P, zz]
  exact ⟨by rw [goodV, if_neg e1, if_neg e2, if_neg e3, if_pos e4], k4, w4⟩
 have e4 : ¬ depthV V > 8 := by simpa using hb4
 simp only [push_cast, seval, hE.P, zz, g4, hW.nb0]
 refine (size_at hE V.sz V (Nat.le_refl _) hz w4 (hG.keep k4) hV).mono ?_
 rintro v h5 ⟨rfl, k5, w5⟩
 replace k5 := k4.trans k5
 simp only [push_cast, seval, hE.P, zz]
 refine kif_split (fun hb5 => ?_) (fun hb5 => ?_)
 ·have e5 : sizeV V > 2048 := by simpa using hb5
  simp only [push_cast, seval, hE.P, zz]
  exact ⟨by rw [goodV, if_neg e1, if_neg e2, if_neg e3, if_neg e4, if_pos e5], k5, w5⟩
 have e5 : ¬ sizeV V > 2048 := by simpa using hb5
 simp only [push_cast, seval, hE.P, zz]
 exact ⟨by rw [goodV, if_neg e1, if_neg e2, if_neg e3, if_neg e4, if_neg e5], k5, w5⟩
end Go.Proofs.YthfopcdammlmfaaGreatDoor
namespace Go.Proofs.YthfopcdammlmfaaGreatDoor
open Go.Tm
variable {E : Env} (hE : EOk E)
include hE
theorem textWords_at {h : Heap} {s : ByteArray} (hs : s.size ≤ 140737488355328) : CallsTo E 98 [.string s] h fun v h' => v = .int .i64 (textW s) ∧ h' = h := by
 refine en hE Tryz.func98 rfl rfl Tryz.ntmps98 rfl (by decide +kernel) (rs := [.tmp 2]) rfl ?_
 simp only [push_cast, seval, hE.P, zz]
 rw [wr64 (x := (s.size : Int) + 8) (by omega) (by omega), wr64 (x := (s.size : Int) + 8 - 1) (by omega) (by omega), Int.tdiv_eq_ediv_of_nonneg (by omega), wr64 (x := ((s.size : Int) + 8 - 1) / 8) (by omega) (by omega), wr64 (by omega) (by omega)]
 exact congrArg _ (by unfold textW; omega)
theorem words_at : ∀ (n : Nat) (V : Vl), V.sz ≤ n → n ≤ 10000 → ∀ {G : Mem} {h : Heap}, WF E h → Frz E G h → ∀ {c : List Value}, Rep E G V c →
 CallsTo E 41 [.agg c.toArray] h fun v h' => v = .tuple #[.int .i64 (wordsV V), .int .i64 (objsV V)] ∧ Keep h h' ∧ WF E h' := by
 intro n
 induction n with
 | zero => intro V hn; have := sz_eq V; omega
 | succ n ih =>
   intro V hn hn2 G h hW hG c hV
   have hbd := words_bd V.sz V (Nat.le_refl _) hV
   have obd := objs_bd V.sz V (Nat.le_refl _)
   have heq := wordsV_eq V
   have oeq := objsV_eq V
   have pl := sum_part V.l (fun x => 1 + wordsV x) (fun x hx => by obtain ⟨c', hc'⟩ := hV.lpart hx; have := words_bd x.sz x (Nat.le_refl _) hc'; omega)
   have pf := sum_part V.f (fun x => 3 + textW x.1 + wordsV x.2) (fun x hx => by obtain ⟨h1, c', hc'⟩ := hV.name hx; have := words_bd x.2.sz x.2 (Nat.le_refl _) hc'; have := textW_bd h1; omega)
   have ol := sum_part V.l (fun x => objsV x) (fun x hx => by have := objs_bd x.sz x (Nat.le_refl _); omega)
   have of' := sum_part V.f (fun x => 1 + objsV x.2) (fun x hx => by have := objs_bd x.2.sz x.2 (Nat.le_refl _); omega)
   obtain ⟨sl, sf, cl, cf, rfl, hsl, hsf, hl, hf, hb1, hb2, hb3⟩ := hV.cells
   obtain ⟨a2, cap2, rfl, _, _⟩ := hsl.slice
   obtain ⟨a3, cap3, rfl, _, _⟩ := hsf.slice
   have htw := textW_bd hb1.1
   have hbw : 1 ≤ baseW V ∧ baseW V ≤ 17592186044420 := by unfold baseW; split <;> (try split) <;> (try split) <;> omega
   refine en hE Tryz.func41 rfl rfl Tryz.ntmps41 rfl (by decide +kernel) (rs := [.tmp 2, .tmp 3]) rfl ?_
   simp only [push_cast, seval, hE.P, zz, hW.nb, hW.nb0]
   have g0 : (h.push (.cells [.int .i64 V.k, .int .i64 V.n, .string V.s, .slice a2 V.l.length cap2, .slice a3 V.f.length cap3] 25 true)).get h.next = some (.cells [.int .i64 V.k, .int .i64 V.n, .string V.s, .slice a2 V.l.length cap2, .slice a3 V.f.length cap3] 25 true) := by simp only [get_push, if_true]
   have k0 : Keep h (h.push (.cells [.int .i64 V.k, .int .i64 V.n, .string V.s, .slice a2 V.l.length cap2, .slice a3 V.f.length cap3] 25 true)) := (Keep.refl h).push hW
   have w0 : WF E (h.push (.cells [.int .i64 V.k, .int .i64 V.n, .string V.s, .slice a2 V.l.length cap2, .slice a3 V.f.length cap3] 25 true)) := hW.push _
   generalize h.push (.cells [.int .i64 V.k, .int .i64 V.n, .string V.s, .slice a2 V.l.length cap2, .slice a3 V.f.length cap3] 25 true) = H at *
   refine kif_cutN (fun tm h' => fget tm 1 = .pointer (some ⟨h.next, 0, none⟩) ∧ fget tm 2 = .int .i64 1 ∧ fget tm 3 = .int .i64 1 ∧ fget tm 13 = .int .i64 V.k ∧ fget tm 14 = .bool (V.k == 2 || V.k == 3) ∧ h' = H) ?_ ?_
   rotate_left
   ·refine kif_split (fun hb => ?_) (fun hb => ?_)
    ·simp only [push_cast, seval, hE.P, zz, hb]
    ·simp only [push_cast, seval, hE.P, zz, hb]
   rintro tm h' ⟨f1, f2, f3, f13, f14, rfl⟩
   simp only [push_cast, seval, hE.P, zz, f14]
   refine kif_cutN (fun tm h2 => fget tm 1 = .pointer (some ⟨h.next, 0, none⟩) ∧ fget tm 2 = .int .i64 (baseW V) ∧ fget tm 3 = .int .i64 1 ∧ h2 = h') ?_ ?_
   rotate_left
   ·refine kif_split (fun hb => ?_) (fun hb => ?_)
    ·have hk : V.k = 2 ∨ V.k = 3 := by simpa using hb
     simp only [push_cast, seval, hE.P, zz, f1, f2, f3]
     refine congrArg _ ?_
     unfold baseW
     rcases hk with hk | hk <;> simp [hk] <;> rfl
    ·have hk : V.k ≠ 2 ∧ V.k ≠ 3 := by simpa using hb
     simp only [push_cast, seval, hE.P, zz, f13]
     refine kif_split (fun hb => ?_) (fun hb => ?_)
     ·have hk4 : V.k = 4 := by simpa using hb
      simp only [push_cast, seval, hE.P, zz, f1, f2, f3, g0, hW.nb0]
      refine (textWords_at hE hb1.1).mono ?_
      rintro v h2 ⟨rfl, rfl⟩
      simp only [push_cast, seval, hE.P, zz, f1, f2, f3]
      rw [wr64 (by omega) (by omega)]
      simp [baseW, hk4]
     ·have hk4 : V.k ≠ 4 := by simpa using hb
      simp only [push_cast, seval, hE.P, zz, f1, f2, f3]
      simp [baseW, hk, hk4]
   clear f1 f2 f3 f13 f14
   rintro tm h2 ⟨f1, f2, f3, rfl⟩
   simp only [push_cast, seval, hE.P, zz, f1, f2, f3, g0, hW.nb0]
   refine wpc_loop (fun m tm h' => ∃ i : Nat, m = V.l.length - i ∧ i ≤ V.l.length ∧ fget tm 1 = .pointer (some ⟨h.next, 0, none⟩) ∧ fget tm 29 = .int .i64 i ∧ fget tm 28 = .int .i64 V.l.length ∧ fget tm 27 = .slice a2 V.l.length cap2 ∧
    fget tm 2 = .int .i64 (baseW V + ((V.l.take i).map fun x => 1 + wordsV x).sum) ∧ fget tm 3 = .int .i64 (1 + ((V.l.take i).map fun x => objsV x).sum) ∧ Keep h2 h' ∧ WF E h') V.l.length ?_ ?_
   ·simp only [push_cast, seval, hE.P, zz, f1, f2, f3]
    exact ⟨0, by omega, by omega, rfl, by simp, by simp, Keep.refl _, w0⟩
   ·clear f1 f2 f3
    rintro m tm h' ⟨i, rfl, hi, f1, f29, f28, f27, f2, f3, hk, hw⟩
    simp only [push_cast, seval, hE.P, zz, f1, f29, f28, f27, f2, f3]
    have p1 := pl i
    have p2 := ol i
    have pf0 := pf 0
    have of0 := of' 0
    have szb : (V.sz : Int) ≤ 10000 := by omega
    refine kif_split (fun hb => ?_) (fun hb => ?_)
    ·have hlt : i < V.l.length := by simpa using hb
     obtain ⟨b, c, e1', hsp, hac⟩ := hsl.elem (hG.keep (k0.trans hk)) hlt
     injection e1' with e1' e2' e3'
     subst e1'; subst e3'
     have hrc := hl.at i V.l[i] (by simp [hlt])
     obtain ⟨sl', sf', cl', cf', hce, hsl', hsf', _⟩ := hrc.cells
     rw [hce] at hac hrc
     obtain ⟨a2', cap2', rfl, _, _⟩ := hsl'.slice
     obtain ⟨a3', cap3', rfl, _, _⟩ := hsf'.slice
     simp only [push_cast, seval, hE.P, zz, f1, f29, f28, f27, f2, f3]
     rw [ia22 hsp (by omega) (by omega), kpure_some]
     simp only [push_cast, seval, hE.P, zz, f1, f29, f28, f27, f2, f3, ↓hac, hw.nb, hw.nb0]
     have hps := l_sz (v := V) (x := V.l[i]) (by simp)
     refine (ih V.l[i] (by omega) (by omega) (hw.push _) (hG.keep ((k0.trans hk).push hw)) hrc).mono ?_
     rintro v h3 ⟨rfl, hk3, hw3⟩
     simp only [push_cast, seval, hE.P, zz, f1, f29, f28, f27, f2, f3]
     have q1 := pl (i + 1)
     have q2 := ol (i + 1)
     rw [sum_step V.l _ hlt] at q1 q2
     have r1 := words_bd V.l[i].sz V.l[i] (Nat.le_refl _) hrc
     have r2 := objs_bd V.l[i].sz V.l[i] (Nat.le_refl _)
     refine ⟨V.l.length - (i + 1), by omega, i + 1, rfl, by omega, by rw [wr64 (by omega) (by omega)]; rfl, ?_, ?_, (hk.push hw).trans hk3, hw3⟩
     ·rw [sum_step V.l _ hlt]
      rw [wr64 (x := baseW V + _ + 1) (by omega) (by omega), wr64 (by omega) (by omega)]
      exact congrArg _ (by omega)
     ·rw [sum_step V.l _ hlt, wr64 (by omega) (by omega)]
      exact congrArg _ (by omega)
    ·have hge : i = V.l.length := by have : ¬ i < V.l.length := by simpa using hb
                                     omega
     subst hge
     rw [List.take_length] at f2 f3 p1 p2
     have g1 := hk.get _ _ g0
     simp only [push_cast, seval, hE.P, zz, f1, f29, f28, f27, f2, f3, g1, hW.nb0]
     refine wpc_loop (fun m tm h3 => ∃ i : Nat, m = V.f.length - i ∧ i ≤ V.f.length ∧ fget tm 49 = .int .i64 i ∧ fget tm 48 = .int .i64 V.f.length ∧ fget tm 47 = .slice a3 V.f.length cap3 ∧
      fget tm 2 = .int .i64 (baseW V + (V.l.map fun x => 1 + wordsV x).sum + ((V.f.take i).map fun x => 3 + textW x.1 + wordsV x.2).sum) ∧ fget tm 3 = .int .i64 (1 + (V.l.map fun x => objsV x).sum + ((V.f.take i).map fun x => 1 + objsV x.2).sum) ∧ Keep h' h3 ∧ WF E h3) V.f.length ?_ ?_
     ·simp only [push_cast, seval, hE.P, zz, f1, f2, f3]
      exact ⟨0, by omega, by omega, rfl, by simp, by simp, Keep.refl _, hw⟩
     ·clear f1 f2 f3 f29 f28 f27
      rintro m tm h3 ⟨i, rfl, hi, f49, f48, f47, f2, f3, hk3, hw3⟩
      simp only [push_cast, seval, hE.P, zz, f49, f48, f47, f2, f3]
      have p3 := pf i
      have p4 := of' i
      refine kif_split (fun hb => ?_) (fun hb => ?_)
      ·have hlt : i < V.f.length := by simpa using hb
       obtain ⟨b, c, e1', hsp, hac⟩ := hsf.elem (hG.keep ((k0.trans hk).trans hk3)) hlt
       injection e1' with e1' e2' e3'
       subst e1'; subst e3'
       obtain ⟨c1, hc1, hrc, hnm⟩ := hf.at i V.f[i].1 V.f[i].2 (List.getElem?_eq_getElem hlt)
       rw [hc1] at hac
       obtain ⟨sl', sf', cl', cf', rfl, hsl', hsf', _⟩ := hrc.cells
       obtain ⟨a2', cap2', rfl, _, _⟩ := hsl'.slice
       obtain ⟨a3', cap3', rfl, _, _⟩ := hsf'.slice
       simp only [push_cast, seval, hE.P, zz, f49, f48, f47, f2, f3]
       rw [ia23 hsp (by omega) (by omega), kpure_some]
       simp only [push_cast, seval, hE.P, zz, f49, f48, f47, f2, f3, ↓hac, hw3.nb, hw3.nb0]
       have hps := f_sz (v := V) (x := V.f[i]) (by simp)
       refine (ih V.f[i].2 (by omega) (by omega) (hw3.push _) (hG.keep (((k0.trans hk).trans hk3).push hw3)) hrc).mono ?_
       rintro v h4 ⟨rfl, hk4, hw4⟩
       have g2 := hk4.get h3.next _ (by simp only [get_push, if_true]; rfl)
       simp only [push_cast, seval, hE.P, zz, f49, f48, f47, f2, f3, g2, hw3.nb, hw3.nb0]
       refine (textWords_at hE hnm).mono ?_
       rintro v h5 ⟨rfl, rfl⟩
       simp only [push_cast, seval, hE.P, zz, f49, f48, f47, f2, f3]
       have q1 := pf (i + 1)
       have q2 := of' (i + 1)
       rw [sum_step V.f _ hlt] at q1 q2
       have r1 := words_bd V.f[i].2.sz V.f[i].2 (Nat.le_refl _) hrc
       have r2 := objs_bd V.f[i].2.sz V.f[i].2 (Nat.le_refl _)
       have r3 := textW_bd hnm
       refine ⟨V.f.length - (i + 1), by omega, i + 1, rfl, by omega, by rw [wr64 (by omega) (by omega)]; rfl, ?_, ?_, (hk3.push hw3).trans hk4, hw4⟩
       ·rw [sum_step V.f _ hlt]
        generalize (V.l.map fun x => 1 + wordsV x).sum = A at *
        generalize ((V.f.take i).map fun x => 3 + textW x.1 + wordsV x.2).sum = B at *
        rw [wr64 (x := baseW V + A + B + 2) (by omega) (by omega), wr64 (x := baseW V + A + B + 2 + 1) (by omega) (by omega), wr64 (x := baseW V + A + B + 2 + 1 + textW V.f[i].1) (by omega) (by omega), wr64 (by omega) (by omega)]
        exact congrArg _ (by omega)
       ·rw [sum_step V.f _ hlt]
        generalize (V.l.map fun x => objsV x).sum = A at *
        generalize ((V.f.take i).map fun x => 1 + objsV x.2).sum = B at *
        rw [wr64 (x := 1 + A + B + 1) (by omega) (by omega), wr64 (by omega) (by omega)]
        exact congrArg _ (by omega)
      ·have hge : i = V.f.length := by have : ¬ i < V.f.length := by simpa using hb
                                       omega
       subst hge
       rw [List.take_length] at f2 f3
       simp only [push_cast, seval, hE.P, zz, f49, f48, f47, f2, f3]
       exact ⟨by rw [heq, oeq], ((k0.trans hk).trans hk3), hw3⟩
theorem Words_at {V : Vl} (hz : V.sz ≤ 10000) {G : Mem} {h : Heap} (hW : WF E h) (hG : Frz E G h) {c : List Value} (hV : Rep E G V c) : CallsTo E 9 [.agg c.toArray] h fun v h' =>
 v = (if goodV V = 0 then .tuple #[.int .i64 (wordsV V), .int .i64 (objsV V), .int .i64 0] else .tuple #[.int .i64 0, .int .i64 0, .int .i64 (goodV V)]) ∧ Keep h h' ∧ WF E h' := by
 obtain ⟨sl, sf, cl, cf, rfl, hsl, hsf, hl, hf, hb1, hb2, hb3⟩ := hV.cells
 refine en hE Tryz.func9 rfl rfl Tryz.ntmps9 rfl (by decide +kernel) (rs := [.tmp 2, .tmp 3, .tmp 4]) rfl ?_
 simp only [push_cast, seval, hE.P, zz, hW.nb, hW.nb0]
 refine (good_at hE hz (hW.push _) (hG.keep ((Keep.refl h).push hW)) hV).mono ?_
 rintro v h1 ⟨rfl, k1, w1⟩
 have g1 := k1.get h.next _ (by simp only [get_push, if_true]; rfl)
 have k0 := ((Keep.refl h).push (o := .cells [.int .i64 V.k, .int .i64 V.n, .string V.s, sl, sf] 25 true) hW).trans k1
 simp only [push_cast, seval, hE.P, zz]
 refine kif_split (fun hb => ?_) (fun hb => ?_)
 ·have hg : goodV V ≠ 0 := by simpa using hb
  simp only [push_cast, seval, hE.P, zz]
  exact ⟨by rw [if_neg hg], k0, w1⟩
 ·have hg : goodV V = 0 := by simpa using hb
  simp only [push_cast, seval, hE.P, zz, g1, hW.nb0]
  refine (words_at hE V.sz V (Nat.le_refl _) hz w1 (hG.keep k0) hV).mono ?_
  rintro v h2 ⟨rfl, k2, w2⟩
  simp only [push_cast, seval, hE.P, zz]
  exact ⟨by rw [if_pos hg], k0.trans k2, w2⟩
end Go.Proofs.YthfopcdammlmfaaGreatDoor
