/- Merged by a program of ours: V6 V7. -/
import Derived.Test.YthfopcdammlmfaaGreatDoorB2
set_option maxRecDepth 10000
set_option linter.all false
set_option linter.unusedSimpArgs false
set_option linter.unusedVariables false
namespace Go.Proofs.YthfopcdammlmfaaGreatDoor
open Go.Tm
variable {E : Env} (hE : EOk E)
include hE
theorem walked_at : ∀ (n : Nat) (V : Vl), V.sz ≤ n → ∀ {G : Mem} {h : Heap}, WF E h → Frz E G h → ∀ {c : List Value}, Rep E G V c → ∀ (left : Int), 0 < left → left ≤ 5000 →
 CallsTo E 38 [.agg c.toArray, .int .i64 left] h fun v h' => (∃ (m : Int) (ok : Bool), v = .tuple #[.int .i64 m, .bool ok] ∧ (ok = true → m = left - V.sz ∧ 0 < m)) ∧ Keep h h' ∧ WF E h' := by
 intro n
 induction n with
 | zero => intro V hn; have := sz_eq V; omega
 | succ n ih =>
   intro V hn G h hW hG c hV left hl0 hl1
   have hsz := szl_sum V
   have pl := sum_part V.l (fun x => (x.sz : Int)) (fun x hx => by omega)
   have pf := sum_part V.f (fun x => (x.2.sz : Int)) (fun x hx => by omega)
   obtain ⟨sl, sf, cl, cf, rfl, hsl, hsf, hl, hf, hb1, hb2, hb3⟩ := hV.cells
   obtain ⟨a2, cap2, rfl, _, _⟩ := hsl.slice
   obtain ⟨a3, cap3, rfl, _, _⟩ := hsf.slice
   refine en hE Tryz.func38 rfl rfl Tryz.ntmps38 rfl (by decide +kernel) (rs := [.tmp 4, .tmp 5]) rfl ?_
   simp only [push_cast, seval, hE.P, zz, hW.nb, hW.nb0]
   have g0 : (h.push (.cells [.int .i64 V.k, .int .i64 V.n, .string V.s, .slice a2 V.l.length cap2, .slice a3 V.f.length cap3] 25 true)).get h.next = some (.cells [.int .i64 V.k, .int .i64 V.n, .string V.s, .slice a2 V.l.length cap2, .slice a3 V.f.length cap3] 25 true) := by simp only [get_push, if_true]
   have k0 : Keep h (h.push (.cells [.int .i64 V.k, .int .i64 V.n, .string V.s, .slice a2 V.l.length cap2, .slice a3 V.f.length cap3] 25 true)) := (Keep.refl h).push hW
   have w0 : WF E (h.push (.cells [.int .i64 V.k, .int .i64 V.n, .string V.s, .slice a2 V.l.length cap2, .slice a3 V.f.length cap3] 25 true)) := hW.push _
   generalize h.push (.cells [.int .i64 V.k, .int .i64 V.n, .string V.s, .slice a2 V.l.length cap2, .slice a3 V.f.length cap3] 25 true) = H at *
   refine wpc_loop (fun m tm h' => ∃ i : Nat, m = V.l.length - i ∧ i ≤ V.l.length ∧ fget tm 2 = .pointer (some ⟨h.next, 0, none⟩) ∧ fget tm 6 = .int .i64 i ∧ (∃ l : Int, fget tm 1 = .int .i64 l ∧ l = left - 1 - ((V.l.take i).map fun x => (x.sz : Int)).sum ∧ (0 < l ∨ l = 0 ∧ i = 0)) ∧ Keep H h' ∧ WF E h') V.l.length ?_ ?_
   ·simp only [push_cast, seval, hE.P, zz]
    refine ⟨0, by omega, by omega, rfl, ⟨left - 1, ?_, by simp, by omega⟩, Keep.refl _, w0⟩
    rw [wr64 (by omega) (by omega)]
   ·rintro m tm h' ⟨i, rfl, hi, f2, f6, ⟨l, f1, hll, hlp⟩, hk, hw⟩
    have g1 := hk.get _ _ g0
    simp only [push_cast, seval, hE.P, zz, f2, f6, f1, g1, hW.nb0]
    have p1 := pl i
    refine kguard_cut (fun tm' h2 => fget tm' 22 = .bool (decide (i < V.l.length) && decide (0 < l)) ∧ fget tm' 2 = .pointer (some ⟨h.next, 0, none⟩) ∧ fget tm' 6 = .int .i64 i ∧ fget tm' 1 = .int .i64 l ∧ h2 = h') ?_ ?_
    rotate_left
    ·refine kguard_splitT (fun hb => ?_) (fun hb => ?_)
     ·have hlt : i < V.l.length := by simpa using hb
      simp only [push_cast, seval, hE.P, zz, hb, f2, f6, f1]
      simp [hlt]
     ·have hlt : ¬ i < V.l.length := by simpa using hb
      simp only [push_cast, seval, hE.P, zz, hb, f2, f6, f1]
      simp [hlt]
    rintro tm2 h2 ⟨f22, f2', f6', f1', rfl⟩
    simp only [push_cast, seval, hE.P, zz, f22]
    refine kif_split (fun hb => ?_) (fun hb => ?_)
    ·have hlt : i < V.l.length ∧ 0 < l := by simpa using hb
     obtain ⟨hlt, hlpos⟩ := hlt
     obtain ⟨b, c, e1', hsp, hac⟩ := hsl.elem (hG.keep (k0.trans hk)) hlt
     injection e1' with e1' e2' e3'
     subst e1'; subst e3'
     have hrc := hl.at i V.l[i] (by simp [hlt])
     simp only [push_cast, seval, hE.P, zz, f2', f6', f1', g1, hW.nb0]
     rw [ia22 hsp (by omega) (by omega), kpure_some]
     simp only [push_cast, seval, hE.P, zz, f2', f6', f1', ↓hac]
     have hps := l_sz (v := V) (x := V.l[i]) (by simp)
     refine (ih V.l[i] (by omega) hw (hG.keep (k0.trans hk)) hrc l hlpos (by omega)).mono ?_
     rintro v h3 ⟨⟨m, ok, rfl, hok⟩, hk3, hw3⟩
     simp only [push_cast, seval, hE.P, zz, f2', f6', f1']
     refine kif_split (fun hb => ?_) (fun hb => ?_)
     ·have hok' : ok = false := by simpa using hb
      simp only [push_cast, seval, hE.P, zz]
      exact ⟨⟨0, false, rfl, fun h => by cases h⟩, (k0.trans hk).trans hk3, hw3⟩
     ·have hok' : ok = true := by simpa using hb
      obtain ⟨rfl, hm⟩ := hok hok'
      simp only [push_cast, seval, hE.P, zz, f2', f6', f1']
      refine ⟨V.l.length - (i + 1), by omega, i + 1, rfl, by omega, by rw [wr64 (by omega) (by omega)]; rfl, ?_, hk.trans hk3, hw3⟩
      rw [sum_step V.l _ hlt]
      exact ⟨_, rfl, by omega, .inl hm⟩
    ·have hex : i = V.l.length ∨ l = 0 := by
      have : i < V.l.length → l ≤ 0 := by simpa using hb
      omega
     simp only [push_cast, seval, hE.P, zz, f2', f6', f1']
     clear f22
     have pt : (0 < l → ((V.l.take i).map fun x => (x.sz : Int)).sum = (V.l.map fun x => (x.sz : Int)).sum) := by
      intro hp
      rw [show i = V.l.length by omega, List.take_length]
     refine wpc_loop (fun m tm h3 => ∃ j : Nat, m = V.f.length - j ∧ j ≤ V.f.length ∧ fget tm 2 = .pointer (some ⟨h.next, 0, none⟩) ∧ fget tm 9 = .int .i64 j ∧ (∃ l2 : Int, fget tm 1 = .int .i64 l2 ∧ l2 = l - ((V.f.take j).map fun x => (x.2.sz : Int)).sum ∧ (0 < l2 ∨ l2 = 0 ∧ j = 0 ∧ l = 0) ∧ (0 < l2 → 0 < l)) ∧ Keep h2 h3 ∧ WF E h3) V.f.length ?_ ?_
     ·simp only [push_cast, seval, hE.P, zz, f2', f1']
      exact ⟨0, by omega, by omega, rfl, ⟨l, rfl, by simp, by omega, fun h => h⟩, Keep.refl _, hw⟩
     ·clear f2' f6' f1' f2 f6 f1
      rintro m tm h3 ⟨j, rfl, hj, f2, f9, ⟨l2, f1, hl2, hl2p, hl2q⟩, hk3, hw3⟩
      have g2 := hk3.get _ _ g1
      simp only [push_cast, seval, hE.P, zz, f2, f9, f1, g2, hW.nb0]
      have p2 := pf j
      refine kguard_cut (fun tm' h4 => fget tm' 46 = .bool (decide (j < V.f.length) && decide (0 < l2)) ∧ fget tm' 2 = .pointer (some ⟨h.next, 0, none⟩) ∧ fget tm' 9 = .int .i64 j ∧ fget tm' 1 = .int .i64 l2 ∧ h4 = h3) ?_ ?_
      rotate_left
      ·refine kguard_splitT (fun hb => ?_) (fun hb => ?_)
       ·have hlt : j < V.f.length := by simpa using hb
        simp only [push_cast, seval, hE.P, zz, hb, f2, f9, f1]
        simp [hlt]
       ·have hlt : ¬ j < V.f.length := by simpa using hb
        simp only [push_cast, seval, hE.P, zz, hb, f2, f9, f1]
        simp [hlt]
      rintro tm3 h4 ⟨f46, f2', f9', f1', rfl⟩
      simp only [push_cast, seval, hE.P, zz, f46]
      refine kif_split (fun hb => ?_) (fun hb => ?_)
      ·have hlt : j < V.f.length ∧ 0 < l2 := by simpa using hb
       obtain ⟨hlt, hlpos⟩ := hlt
       obtain ⟨b, c, e1', hsp, hac⟩ := hsf.elem (hG.keep ((k0.trans hk).trans hk3)) hlt
       injection e1' with e1' e2' e3'
       subst e1'; subst e3'
       obtain ⟨c1, hc1, hrc, hnm⟩ := hf.at j V.f[j].1 V.f[j].2 (List.getElem?_eq_getElem hlt)
       have hc5 := hrc.len
       rw [hc1] at hac
       have n1 := acells_part hac 1 5 (by omega)
       rw [show (List.drop 1 (Value.string V.f[j].1 :: c1)).take 5 = c1 by rw [List.drop_succ_cons, List.drop_zero, List.take_of_length_le (by omega)]] at n1
       simp only [push_cast, seval, hE.P, zz, f2', f9', f1', g2, hW.nb0]
       rw [ia23 hsp (by omega) (by omega), kpure_some]
       simp only [push_cast, seval, hE.P, zz, f2', f9', f1', ↓n1]
       have hps := f_sz (v := V) (x := V.f[j]) (by simp)
       refine (ih V.f[j].2 (by omega) hw3 (hG.keep ((k0.trans hk).trans hk3)) hrc l2 hlpos (by omega)).mono ?_
       rintro v h5 ⟨⟨m, ok, rfl, hok⟩, hk5, hw5⟩
       simp only [push_cast, seval, hE.P, zz, f2', f9', f1']
       refine kif_split (fun hb => ?_) (fun hb => ?_)
       ·have hok' : ok = false := by simpa using hb
        simp only [push_cast, seval, hE.P, zz]
        exact ⟨⟨0, false, rfl, fun h => by cases h⟩, ((k0.trans hk).trans hk3).trans hk5, hw5⟩
       ·have hok' : ok = true := by simpa using hb
        obtain ⟨rfl, hm⟩ := hok hok'
        simp only [push_cast, seval, hE.P, zz, f2', f9', f1']
        refine ⟨V.f.length - (j + 1), by omega, j + 1, rfl, by omega, by rw [wr64 (by omega) (by omega)]; rfl, ?_, hk3.trans hk5, hw5⟩
        rw [sum_step V.f _ hlt]
        exact ⟨_, rfl, by omega, .inl hm, fun _ => hl2q hlpos⟩
      ·have hex : j = V.f.length ∨ l2 = 0 := by
        have : j < V.f.length → l2 ≤ 0 := by simpa using hb
        omega
       simp only [push_cast, seval, hE.P, zz, f2', f9', f1']
       refine ⟨⟨l2, decide (l2 > 0), rfl, ?_⟩, (k0.trans hk).trans hk3, hw3⟩
       intro hp
       have hp' : 0 < l2 := by simpa using hp
       have hj' : j = V.f.length := by omega
       rw [hj', List.take_length] at hl2
       have := pt (hl2q hp')
       omega
theorem vast_at {l : List Vl} {G : Mem} {h : Heap} (hW : WF E h) (hG : Frz E G h) {cs : List Value} {v : Value} (hs : Sl E G 5 l.length cs v) (hl : RepLs E G l cs) : CallsTo E 7 [v] h fun v h' => (∃ b : Bool, v = .bool b ∧ (b = false → (l.map fun x => (x.sz : Int)).sum < 5000)) ∧ Keep h h' ∧ WF E h' := by
 obtain ⟨a2, cap2, rfl, _, _⟩ := hs.slice
 have pl := sum_part l (fun x => (x.sz : Int)) (fun x hx => by omega)
 refine en hE Tryz.func7 rfl rfl Tryz.ntmps7 rfl (by decide +kernel) (rs := [.tmp 2]) rfl ?_
 simp only [push_cast, seval, hE.P, zz]
 refine wpc_loop (fun m tm h' => ∃ i : Nat, m = l.length - i ∧ i ≤ l.length ∧ fget tm 0 = .slice a2 l.length cap2 ∧ fget tm 4 = .int .i64 i ∧ (∃ q : Int, fget tm 3 = .int .i64 q ∧ q = 5000 - ((l.take i).map fun x => (x.sz : Int)).sum ∧ 0 < q) ∧ Keep h h' ∧ WF E h') l.length ?_ ?_
 ·simp only [push_cast, seval, hE.P, zz]
  exact ⟨0, by omega, by omega, rfl, ⟨5000, rfl, by simp, by omega⟩, Keep.refl _, hW⟩
 ·rintro m tm h' ⟨i, rfl, hi, f0, f4, ⟨q, f3, hq, hq0⟩, hk, hw⟩
  have p1 := pl i
  simp only [push_cast, seval, hE.P, zz, f0, f4, f3]
  refine kif_split (fun hb => ?_) (fun hb => ?_)
  ·have hlt : i < l.length := by simpa using hb
   obtain ⟨b, c, e1', hsp, hac⟩ := hs.elem (hG.keep hk) hlt
   injection e1' with e1' e2' e3'
   subst e1'; subst e3'
   have hrc := hl.at i l[i] (by simp [hlt])
   simp only [push_cast, seval, hE.P, zz, f0, f4, f3]
   rw [ia22 hsp (by omega) (by omega), kpure_some]
   simp only [push_cast, seval, hE.P, zz, f0, f4, f3, ↓hac]
   refine (walked_at hE l[i].sz l[i] (Nat.le_refl _) hw (hG.keep hk) hrc q hq0 (by omega)).mono ?_
   rintro v h3 ⟨⟨m, ok, rfl, hok⟩, hk3, hw3⟩
   simp only [push_cast, seval, hE.P, zz, f0, f4, f3]
   refine kif_split (fun hb => ?_) (fun hb => ?_)
   ·simp only [push_cast, seval, hE.P, zz]
    exact ⟨⟨true, rfl, fun h => by cases h⟩, hk.trans hk3, hw3⟩
   ·have hok' : ok = true := by simpa using hb
    obtain ⟨rfl, hm⟩ := hok hok'
    simp only [push_cast, seval, hE.P, zz, f0, f4, f3]
    have hll : ((l.length : Nat) : Int) ≤ 9223372036854775807 := by omega
    refine ⟨l.length - (i + 1), by omega, i + 1, rfl, by omega, by rw [wr64 (by omega) (by omega)]; rfl, ?_, hk.trans hk3, hw3⟩
    rw [sum_step l _ hlt]
    exact ⟨_, rfl, by omega, hm⟩
  ·have hge : i = l.length := by have : ¬ i < l.length := by simpa using hb
                                 omega
   subst hge
   rw [List.take_length] at hq
   simp only [push_cast, seval, hE.P, zz, f0, f4, f3]
   exact ⟨⟨false, rfl, fun _ => by omega⟩, hk, hw⟩
end Go.Proofs.YthfopcdammlmfaaGreatDoor
namespace Go.Proofs.YthfopcdammlmfaaGreatDoor
open Go.Tm
variable {E : Env} (hE : EOk E)
include hE
theorem same_at : ∀ (n : Nat) (V : Vl), V.sz ≤ n → ∀ {G G2 : Mem} {h : Heap}, WF E h → Frz E G h → Frz E G2 h → ∀ {c d : List Value}, Rep E G V c → Rep E G2 V d →
 CallsTo E 106 [.agg c.toArray, .agg d.toArray] h fun v h' => v = .bool true ∧ Keep h h' ∧ WF E h' := by
 intro n
 induction n with
 | zero => intro V hn; have := sz_eq V; omega
 | succ n ih =>
   intro V hn G G2 h hW hG hG2 c d hV hV2
   obtain ⟨sl, sf, cl, cf, rfl, hsl, hsf, hl, hf, hb1, hb2, hb3⟩ := hV.cells
   obtain ⟨a2, cap2, rfl, _, _⟩ := hsl.slice
   obtain ⟨a3, cap3, rfl, _, _⟩ := hsf.slice
   obtain ⟨sl', sf', cl', cf', rfl, hsl', hsf', hl', hf', _⟩ := hV2.cells
   obtain ⟨b2, cap2', rfl, _, _⟩ := hsl'.slice
   obtain ⟨b3, cap3', rfl, _, _⟩ := hsf'.slice
   refine en hE Tryz.func106 rfl rfl Tryz.ntmps106 rfl (by decide +kernel) (rs := [.tmp 4]) rfl ?_
   simp only [push_cast, seval, hE.P, zz, hW.nb, hW.nb0]
   have k0 : Keep h ((h.push (.cells [.int .i64 V.k, .int .i64 V.n, .string V.s, .slice a2 V.l.length cap2, .slice a3 V.f.length cap3] 25 true)).push (.cells [.int .i64 V.k, .int .i64 V.n, .string V.s, .slice b2 V.l.length cap2', .slice b3 V.f.length cap3'] 25 true)) := ((Keep.refl h).push hW).push (hW.push _)
   have w0 : WF E ((h.push (.cells [.int .i64 V.k, .int .i64 V.n, .string V.s, .slice a2 V.l.length cap2, .slice a3 V.f.length cap3] 25 true)).push (.cells [.int .i64 V.k, .int .i64 V.n, .string V.s, .slice b2 V.l.length cap2', .slice b3 V.f.length cap3'] 25 true)) := (hW.push _).push _
   have g0 : ((h.push (.cells [.int .i64 V.k, .int .i64 V.n, .string V.s, .slice a2 V.l.length cap2, .slice a3 V.f.length cap3] 25 true)).push (.cells [.int .i64 V.k, .int .i64 V.n, .string V.s, .slice b2 V.l.length cap2', .slice b3 V.f.length cap3'] 25 true)).get h.next = some (.cells [.int .i64 V.k, .int .i64 V.n, .string V.s, .slice a2 V.l.length cap2, .slice a3 V.f.length cap3] 25 true) := by simp [get_push]
   have e0 : ((h.push (.cells [.int .i64 V.k, .int .i64 V.n, .string V.s, .slice a2 V.l.length cap2, .slice a3 V.f.length cap3] 25 true)).push (.cells [.int .i64 V.k, .int .i64 V.n, .string V.s, .slice b2 V.l.length cap2', .slice b3 V.f.length cap3'] 25 true)).get (h.next + 1) = some (.cells [.int .i64 V.k, .int .i64 V.n, .string V.s, .slice b2 V.l.length cap2', .slice b3 V.f.length cap3'] 25 true) := by simp [get_push]
   generalize ((h.push (.cells [.int .i64 V.k, .int .i64 V.n, .string V.s, .slice a2 V.l.length cap2, .slice a3 V.f.length cap3] 25 true)).push (.cells [.int .i64 V.k, .int .i64 V.n, .string V.s, .slice b2 V.l.length cap2', .slice b3 V.f.length cap3'] 25 true)) = H at *
   refine wpc_loop (fun m tm h' => ∃ i : Nat, m = V.l.length - i ∧ i ≤ V.l.length ∧ fget tm 2 = .pointer (some ⟨h.next, 0, none⟩) ∧ fget tm 3 = .pointer (some ⟨h.next + 1, 0, none⟩) ∧ fget tm 5 = .int .i64 i ∧ Keep H h' ∧ WF E h') V.l.length ?_ ?_
   ·simp only [push_cast, seval, hE.P, zz]
    exact ⟨0, by omega, by omega, rfl, Keep.refl _, w0⟩
   ·rintro m tm h' ⟨i, rfl, hi, f2, f3, f5, hk, hw⟩
    have g1 := hk.get _ _ g0
    have e1 := hk.get _ _ e0
    simp only [push_cast, seval, hE.P, zz, f2, f3, f5, g1, hW.nb0]
    refine kif_split (fun hb => ?_) (fun hb => ?_)
    ·have hlt : i < V.l.length := by simpa using hb
     obtain ⟨b, c, x1, hsp, hac⟩ := hsl.elem (hG.keep (k0.trans hk)) hlt
     injection x1 with x1 x2 x3
     subst x1; subst x3
     obtain ⟨b', c', y1, hsp', hac'⟩ := hsl'.elem (hG2.keep (k0.trans hk)) hlt
     injection y1 with y1 y2 y3
     subst y1; subst y3
     have hrc := hl.at i V.l[i] (by simp [hlt])
     have hrd := hl'.at i V.l[i] (by simp [hlt])
     simp only [push_cast, seval, hE.P, zz]
     refine wdraw_calm (by rw [hE.P]; decide +kernel) ?_
     simp only [push_cast, seval, hE.P, zz, f2, f3, f5, g1, e1, hW.nb0, hW.nb]
     rw [ia22 hsp (by omega) (by omega), kpure_some]
     simp only [push_cast, seval, hE.P, zz, f2, f3, f5, g1, e1, hW.nb0, hW.nb, ↓hac]
     rw [ia22 hsp' (by omega) (by omega), kpure_some]
     simp only [push_cast, seval, hE.P, zz, f2, f3, f5, g1, e1, hW.nb0, hW.nb, ↓hac, ↓hac']
     have hps := l_sz (v := V) (x := V.l[i]) (by simp)
     refine (ih V.l[i] (by omega) hw (hG.keep (k0.trans hk)) (hG2.keep (k0.trans hk)) hrc hrd).mono ?_
     rintro v h3 ⟨rfl, hk3, hw3⟩
     simp only [push_cast, seval, hE.P, zz, f2, f3, f5]
     exact ⟨V.l.length - (i + 1), by omega, i + 1, rfl, by omega, by rw [wr64 (by omega) (by omega)]; rfl, hk.trans hk3, hw3⟩
    ·have hge : i = V.l.length := by have : ¬ i < V.l.length := by simpa using hb
                                     omega
     simp only [push_cast, seval, hE.P, zz]
     refine wpc_loop (fun m tm h3 => ∃ j : Nat, m = V.f.length - j ∧ j ≤ V.f.length ∧ fget tm 2 = .pointer (some ⟨h.next, 0, none⟩) ∧ fget tm 3 = .pointer (some ⟨h.next + 1, 0, none⟩) ∧ fget tm 6 = .int .i64 j ∧ Keep h' h3 ∧ WF E h3) V.f.length ?_ ?_
     ·simp only [push_cast, seval, hE.P, zz, f2, f3]
      exact ⟨0, by omega, by omega, rfl, Keep.refl _, hw⟩
     ·clear f2 f3 f5
      rintro m tm h3 ⟨j, rfl, hj, f2, f3, f6, hk3, hw3⟩
      have g2 := hk3.get _ _ g1
      have e2 := hk3.get _ _ e1
      have k3 := (k0.trans hk).trans hk3
      simp only [push_cast, seval, hE.P, zz, f2, f3, f6, g2, hW.nb0]
      refine kif_split (fun hb => ?_) (fun hb => ?_)
      ·have hlt : j < V.f.length := by simpa using hb
       obtain ⟨b, c, x1, hsp, hac⟩ := hsf.elem (hG.keep k3) hlt
       injection x1 with x1 x2 x3
       subst x1; subst x3
       obtain ⟨b', c', y1, hsp', hac'⟩ := hsf'.elem (hG2.keep k3) hlt
       injection y1 with y1 y2 y3
       subst y1; subst y3
       obtain ⟨c1, hc1, hrc, hnm⟩ := hf.at j V.f[j].1 V.f[j].2 (List.getElem?_eq_getElem hlt)
       obtain ⟨d1, hd1, hrd, _⟩ := hf'.at j V.f[j].1 V.f[j].2 (List.getElem?_eq_getElem hlt)
       rw [hc1] at hac
       rw [hd1] at hac'
       have n1 := acells_part hac 0 1 (by omega)
       have n2 := acells_part hac' 0 1 (by omega)
       have n3 := acells_part hac 1 5 (by omega)
       have n4 := acells_part hac' 1 5 (by omega)
       have lc := hrc.len
       have ld := hrd.len
       simp only [Nat.add_zero, List.drop_zero, List.take_succ_cons, List.take_zero, List.drop_succ_cons] at n1 n2 n3 n4
       rw [List.take_of_length_le (by omega)] at n3 n4
       simp only [push_cast, seval, hE.P, zz]
       refine wdraw_calm (by rw [hE.P]; decide +kernel) ?_
       simp only [push_cast, seval, hE.P, zz, f2, f3, f6, g2, e2, hW.nb0, hW.nb]
       rw [ia23 hsp (by omega) (by omega), kpure_some]
       simp only [push_cast, seval, hE.P, zz, f2, f3, f6, g2, e2, hW.nb0, hW.nb, ↓n1]
       rw [ia23 hsp' (by omega) (by omega), kpure_some]
       simp only [push_cast, seval, hE.P, zz, f2, f3, f6, g2, e2, hW.nb0, hW.nb, ↓n1, ↓n2]
       rw [ia23 hsp (by omega) (by omega), kpure_some]
       simp only [push_cast, seval, hE.P, zz, f2, f3, f6, g2, e2, hW.nb0, hW.nb, ↓n3]
       rw [ia23 hsp' (by omega) (by omega), kpure_some]
       simp only [push_cast, seval, hE.P, zz, f2, f3, f6, g2, e2, hW.nb0, hW.nb, ↓n3, ↓n4]
       have hps := f_sz (v := V) (x := V.f[j]) (by simp)
       refine (ih V.f[j].2 (by omega) hw3 (hG.keep k3) (hG2.keep k3) hrc hrd).mono ?_
       rintro v h4 ⟨rfl, hk4, hw4⟩
       simp only [push_cast, seval, hE.P, zz, f2, f3, f6]
       exact ⟨V.f.length - (j + 1), by omega, j + 1, rfl, by omega, by rw [wr64 (by omega) (by omega)]; rfl, hk3.trans hk4, hw4⟩
      ·simp only [push_cast, seval, hE.P, zz]
       exact ⟨k3, hw3⟩
def zeroV : Vl := .mk 0 0 .empty [] []
end Go.Proofs.YthfopcdammlmfaaGreatDoor
