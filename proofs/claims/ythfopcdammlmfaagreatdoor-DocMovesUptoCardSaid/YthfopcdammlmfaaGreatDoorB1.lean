/- Merged by a program of ours: V1 V2 V3. -/
import Derived.Test.YthfopcdammlmfaaGreatDoorT1
import Derived.Test.YthfopcdammlmfaaGreatDoorA8
set_option maxRecDepth 10000
set_option linter.all false
set_option linter.unusedSimpArgs false
set_option linter.unusedVariables false
namespace Go.Proofs.YthfopcdammlmfaaGreatDoor
open Go.Tm
variable {E : Env} (hE : EOk E)
include hE
theorem parts_at {G : Mem} {h : Heap} (hW : WF E h) (hG : Frz E G h) {V : Vl} {c : List Value} (hV : Rep E G V c) : CallsTo E 135 [.agg c.toArray] h fun v h' => ∃ G' cs, Sl E G' 5 V.parts.length cs v ∧ RepLs E G' V.parts cs ∧ Ext E G h G' h' := by
 obtain ⟨sl, sf, cl, cf, rfl, hsl, hsf, hl, hf, hb1, hb2, hb3⟩ := hV.cells
 refine en hE Tryz.func135 rfl rfl Tryz.ntmps135 rfl (by decide +kernel) (rs := [.tmp 2]) rfl ?_
 simp only [push_cast, seval, hE.P, zz, hW.nb, hW.nb0]
 refine kif_split (fun hb => ?_) (fun hb => ?_)
 ·have hk : V.k = 5 := by simpa using hb
  have hp : V.parts = V.l := by simp [Vl.parts, hk]
  simp only [push_cast, seval, hE.P, zz, hW.nb, hW.nb0]
  refine ⟨G, cl, by rw [hp]; exact hsl, by rw [hp]; exact hl, Ext.same hG ((Keep.refl h).push hW) (hW.push _)⟩
 ·have hk : V.k ≠ 5 := by simpa using hb
  simp only [push_cast, seval, hE.P, zz, hW.nb, hW.nb0]
  refine kif_split (fun hb => ?_) (fun hb => ?_)
  ·have hk6 : V.k = 6 := by simpa using hb
   have hp : V.parts = V.f.map (·.2) := by simp [Vl.parts, hk6]
   obtain ⟨a, cap, rfl, hc1, hc2⟩ := hsf.slice
   simp only [push_cast, seval, hE.P, zz, hW.nb, hW.nb0]
   rw [mk22 (by omega) (by omega) (by omega) (by omega), kalloc_some]
   simp only [push_cast, seval, hE.P, zz, hW.nb, hW.nb0]
   refine wpc_loop (fun m tm h' => ∃ i cs, m = V.f.length - i ∧ i ≤ V.f.length ∧ fget tm 21 = .int .i64 i ∧ fget tm 20 = .int .i64 V.f.length ∧ fget tm 19 = .slice a V.f.length cap ∧
    Own h' 25 5 (h.next + 1) i cs (fget tm 3) ∧ RepLs E G (V.parts.take i) cs ∧ Keep h h' ∧ WF E h') V.f.length ?_ ?_
   ·refine ⟨0, [], by omega, by omega, by simp [fget_set_lit], by simp [fget_set_lit], by simp [fget_set_lit], ?_, ?_, ((Keep.refl h).push hW).push (hW.push _), (hW.push _).push _⟩
    ·simp only [fget_set_lit, Nat.reduceEqDiff, if_true, if_false, reduceIte]
     exact Own.made rfl (Nat.le_refl _) (by omega)
    ·simp [RepLs]
   ·rintro m tm h' ⟨i, cs, rfl, hi, f21, f20, f19, hown, hrep, hkeep, hw⟩
    obtain ⟨v3, f3⟩ : ∃ v, fget tm 3 = v := ⟨_, rfl⟩
    rw [f3] at hown
    simp only [push_cast, seval, hE.P, zz, f21, f20, f19, f3]
    refine kif_split (fun hb => ?_) (fun hb => ?_)
    ·have hlt : i < V.f.length := by simpa using hb
     obtain ⟨b, c, e1, hsp, hac⟩ := hsf.elem (hG.keep hkeep) hlt
     injection e1 with e1 e2 e3
     subst e1; subst e3
     obtain ⟨c1, hc1, hrc, hnm⟩ := hf.at i V.f[i].1 V.f[i].2 (by simp [hlt])
     rw [hc1] at hac
     obtain ⟨sl', sf', cl', cf', rfl, hsl', hsf', _⟩ := hrc.cells
     obtain ⟨a2, cap2, rfl, _, _⟩ := hsl'.slice
     obtain ⟨a3, cap3, rfl, _, _⟩ := hsf'.slice
     simp only [push_cast, seval, hE.P, zz, f21, f20, f19, f3]
     rw [ia23 hsp (by omega) (by omega), kpure_some]
     simp only [push_cast, seval, hE.P, zz, f21, f20, f19, f3, ↓hac, hw.nb, hw.nb0]
     rw [bs22 rfl, kalloc_some]
     simp only [push_cast, seval, hE.P, zz, f21, f20, f19, f3, hw.nb, hw.nb0]
     refine kwv_own1 (el22 hE.P) (hw.push _) (lo := h.next + 1) (by have := hkeep.next; simp; omega) (hown.keep ((Keep.refl _).push hw)) rfl rfl (by omega) (by omega) ?_
     intro v' h2 hown2 hk2 hw2
     simp only [push_cast, seval, hE.P, zz, f21, f20, f19, f3]
     refine ⟨V.f.length - (i + 1), by omega, i + 1, _, rfl, by omega, by rw [wr64 (by omega) (by omega)]; rfl, hown2, ?_, ?_, hw2⟩
     ·have hpi : V.parts[i]? = some V.f[i].2 := by rw [hp]; simp [hlt]
      rw [List.take_succ, hpi]
      exact hrep.app (RepLs.one hrc)
     ·exact Keep.thenLo hW (hkeep.push hw) hk2 (by omega)
    ·have hge : i = V.f.length := by have : ¬ i < V.f.length := by simpa using hb
                                     omega
     subst hge
     simp only [push_cast, seval, hE.P, zz, f21, f20, f19, f3]
     obtain ⟨G', hs, hx⟩ := hown.freeze hW hG (by omega) hkeep hw
     have hlen : V.parts.length = V.f.length := by rw [hp]; simp
     refine ⟨G', cs, by rw [hlen]; exact hs, ?_, hx⟩
     rw [← hlen, List.take_length] at hrep
     exact hrep.sub hx.sub
  ·have hk6 : V.k ≠ 6 := by simpa using hb
   have hp : V.parts = [] := by simp [Vl.parts, hk, hk6]
   simp only [push_cast, seval, hE.P, zz, hW.nb, hW.nb0]
   refine ⟨G, [], ?_, by rw [hp]; simp [RepLs], Ext.same hG ((Keep.refl h).push hW) (hW.push _)⟩
   rw [hp]; exact ⟨none, 0, rfl, by simp, by omega, ⟨fun _ => rfl, fun _ x => (by cases x)⟩, .inl ⟨rfl, rfl⟩⟩
def PredOk (E : Env) (f : FuncId) (p : Vl → Bool) : Prop :=
 ∀ G h, WF E h → Frz E G h → ∀ V c, Rep E G V c → CallsTo E f [.agg c.toArray] h fun v h' => v = .bool (p V) ∧ Keep h h' ∧ WF E h'
theorem all_at {g : FuncId} {p : Vl → Bool} (hp : PredOk E g p) : ∀ (n : Nat) (V : Vl), V.sz ≤ n → ∀ {G : Mem} {h : Heap}, WF E h → Frz E G h → ∀ {c : List Value}, Rep E G V c →
 CallsTo E 92 [.agg c.toArray, .func (.func g) #[] #[]] h fun v h' => v = .bool (allV p V) ∧ Keep h h' ∧ WF E h' := by
 intro n
 induction n with
 | zero => intro V hn; have := sz_eq V; omega
 | succ n ih =>
   intro V hn G h hW hG c hV
   obtain ⟨sl, sf, cl, cf, rfl, hsl, hsf, hl, hf, hb1, hb2, hb3⟩ := hV.cells
   refine en hE Tryz.func92 rfl rfl Tryz.ntmps92 rfl (by decide +kernel) (rs := [.tmp 4]) rfl ?_
   simp only [push_cast, seval, hE.P, zz, hW.nb, hW.nb0]
   refine (hp _ _ (hW.push _) (hG.keep ((Keep.refl h).push hW)) V _ hV).mono ?_
   rintro v h1 ⟨rfl, hk1, hw1⟩
   have g1 := hk1.get h.next _ (by simp only [get_push, if_true]; rfl)
   simp only [push_cast, seval, hE.P, zz, hW.nb, hW.nb0]
   refine kif_split (fun hb => ?_) (fun hb => ?_)
   ·have hpv : p V = false := by simpa using hb
    simp only [push_cast, seval, hE.P, zz, hW.nb, hW.nb0]
    exact ⟨by rw [allV_eq, hpv]; rfl, Keep.trans ((Keep.refl h).push hW) hk1, hw1⟩
   ·have hpv : p V = true := by simpa using hb
    simp only [push_cast, seval, hE.P, zz, hW.nb, hW.nb0, g1]
    refine (parts_at hE hw1 (hG.keep (Keep.trans ((Keep.refl h).push hW) hk1)) hV).mono ?_
    rintro v h2 ⟨G', cs, hs, hr, hx⟩
    obtain ⟨a, cap, rfl, hc1, hc2⟩ := hs.slice
    simp only [push_cast, seval, hE.P, zz, hW.nb, hW.nb0]
    refine wpc_loop (fun m tm h' => ∃ i, m = V.parts.length - i ∧ i ≤ V.parts.length ∧ fget tm 14 = .int .i64 i ∧ fget tm 13 = .int .i64 V.parts.length ∧ fget tm 12 = .slice a V.parts.length cap ∧ fget tm 1 = .func (.func g) #[] #[] ∧
     (V.parts.take i).all (allV p) = true ∧ Keep h h' ∧ Keep h2 h' ∧ WF E h') V.parts.length ?_ ?_
    ·refine ⟨0, by omega, by omega, by simp [fget_set_lit], by simp [fget_set_lit], by simp [fget_set_lit], by simp [fget_set_lit], by simp, ?_, Keep.refl _, hx.wf⟩
     exact Keep.trans (Keep.trans ((Keep.refl h).push hW) hk1) hx.keep
    ·rintro m tm h' ⟨i, rfl, hi, f14, f13, f12, f1, hall, hkeep, hkeep2, hw⟩
     simp only [push_cast, seval, hE.P, zz, f14, f13, f12, f1]
     refine kif_split (fun hb => ?_) (fun hb => ?_)
     ·have hlt : i < V.parts.length := by simpa using hb
      obtain ⟨b, c, e1, hsp, hac⟩ := hs.elem (hx.frz.keep hkeep2) hlt
      injection e1 with e1 e2 e3
      subst e1; subst e3
      have hrc := hr.at i V.parts[i] (by simp [hlt])
      obtain ⟨sl', sf', cl', cf', hce, hsl', hsf', _⟩ := hrc.cells
      rw [hce] at hac hrc
      obtain ⟨a2, cap2, rfl, _, _⟩ := hsl'.slice
      obtain ⟨a3, cap3, rfl, _, _⟩ := hsf'.slice
      simp only [push_cast, seval, hE.P, zz, f14, f13, f12, f1]
      rw [ia22 hsp (by omega) (by omega), kpure_some]
      simp only [push_cast, seval, hE.P, zz, f14, f13, f12, f1, ↓hac, hw.nb, hw.nb0]
      refine (ih V.parts[i] (by have := parts_sz (v := V) (x := V.parts[i]) (by simp); omega) (hw.push _) (hx.frz.keep (hkeep2.push hw)) hrc).mono ?_
      rintro v h3 ⟨rfl, hk3, hw3⟩
      simp only [push_cast, seval, hE.P, zz, f14, f13, f12, f1]
      refine kif_split (fun hb => ?_) (fun hb => ?_)
      ·have hf : allV p V.parts[i] = false := by simpa using hb
       simp only [push_cast, seval, hE.P, zz]
       refine ⟨?_, (hkeep.push hw).trans hk3, hw3⟩
       rw [allV_eq]
       have : V.parts.all (allV p) = false := by
        rw [List.all_eq_false]
        exact ⟨V.parts[i], by simp, by simp [hf]⟩
       rw [this]; simp
      ·have hf : allV p V.parts[i] = true := by simpa using hb
       simp only [push_cast, seval, hE.P, zz, f14, f13, f12, f1]
       refine ⟨V.parts.length - (i + 1), by omega, i + 1, rfl, by omega, by rw [wr64 (by omega) (by omega)]; rfl, ?_, (hkeep.push hw).trans hk3, (hkeep2.push hw).trans hk3, hw3⟩
       rw [List.take_succ_eq_append_getElem hlt, List.all_append, hall]
       simp [hf]
     ·have hge : i = V.parts.length := by have : ¬ i < V.parts.length := by simpa using hb
                                          omega
      subst hge
      simp only [push_cast, seval, hE.P, zz, f14, f13, f12, f1]
      rw [List.take_length] at hall
      exact ⟨by rw [allV_eq, hpv, hall]; rfl, hkeep, hw⟩
end Go.Proofs.YthfopcdammlmfaaGreatDoor
namespace Go.Proofs.YthfopcdammlmfaaGreatDoor
open Go.Tm
variable {E : Env} (hE : EOk E)
include hE
theorem utfValid_at {h : Heap} {s : ByteArray} (hs : s.size ≤ 9223372036854775807) : CallsTo E 136 [.string s] h fun v h' => v = .bool (vld s) ∧ h' = h := by
 refine en hE Tryz.func136 rfl rfl Tryz.ntmps136 rfl (by decide +kernel) (rs := [.tmp 2]) rfl ?_
 simp only [push_cast, seval, hE.P, zz]
 refine calls_known (v := .bool (vld s)) (by rw [hE.known]; simp [knownT, hs, vld]) ?_
 simp only [push_cast, seval, hE.P, zz]
theorem digits_at {h : Heap} {n : Nat} (hn : n < 18446744073709551616) : CallsTo E 140 [.int .u64 n] h fun v h' => v = .int .i64 (digitsN n) ∧ h' = h := by
 refine en hE Tryz.func140 rfl rfl Tryz.ntmps140 rfl (by decide +kernel) (rs := [.tmp 2]) rfl ?_
 simp only [push_cast, seval, hE.P, zz]
 refine wpc_loop (fun m tm h' => fget tm 0 = .int .u64 m ∧ (∃ d : Int, fget tm 3 = .int .i64 d ∧ d + digitsN m = 1 + digitsN n ∧ m < 18446744073709551616 ∧ 1 ≤ d) ∧ h' = h) n ?_ ?_
 ·simp only [push_cast, seval, hE.P, zz]
  exact ⟨1, rfl, rfl, hn, by omega⟩
 ·rintro m tm h' ⟨f0, ⟨d, f3, hd, hm, hd1⟩, rfl⟩
  simp only [push_cast, seval, hE.P, zz, f0, f3]
  have d1 := digitsN_10 hn
  have d2 := digitsN_pos m
  refine kif_split (fun hb => ?_) (fun hb => ?_)
  ·have hge : 128 ≤ m := by have : (m : Int) ≥ 128 := by simpa using hb
                            omega
   simp only [push_cast, seval, hE.P, zz, f0, f3]
   rw [shr_nat' (by omega), wr64 (by omega) (by omega)]
   refine ⟨m / 128, by omega, rfl, d + 1, rfl, ?_, by omega, by omega⟩
   ·rw [digitsN_eq m, if_neg (by omega)] at hd; omega
  ·have hlt : m < 128 := by have : ¬ (m : Int) ≥ 128 := by simpa using hb
                            omega
   simp only [push_cast, seval, hE.P, zz, f0, f3]
   rw [digitsN_eq m, if_pos hlt] at hd
   exact congrArg _ (by omega)
theorem formed_at : PredOk E 93 formedV := by
 intro G h hW hG V c hV
 obtain ⟨sl, sf, cl, cf, rfl, hsl, hsf, hl, hf, hb1, hb2, hb3⟩ := hV.cells
 obtain ⟨a2, cap2, rfl, _, _⟩ := hsl.slice
 obtain ⟨a3, cap3, rfl, _, _⟩ := hsf.slice
 refine en hE Tryz.func93 rfl rfl Tryz.ntmps93 rfl (by decide +kernel) (rs := [.tmp 2]) rfl ?_
 simp only [push_cast, seval, hE.P, zz, hW.nb, hW.nb0]
 refine kguard_cut (fun tm h' => fget tm 1 = .pointer (some ⟨h.next, 0, none⟩) ∧ fget tm 26 = .bool (decide (V.k < 1) || decide (V.k > 6) || (V.k == 2 && V.n != 0 && V.n != 1)) ∧ h' = h.push (.cells [.int .i64 V.k, .int .i64 V.n, .string V.s, .slice a2 V.l.length cap2, .slice a3 V.f.length cap3] 25 true)) ?_ ?_
 rotate_left
 ·repeat' (first | (refine kguard_splitF (fun hb => ?_) (fun hb => ?_) <;> simp only [push_cast, seval, hE.P, zz, hb, hW.nb, hW.nb0]) | (refine kguard_splitT (fun hb => ?_) (fun hb => ?_) <;> simp only [push_cast, seval, hE.P, zz, hb, hW.nb, hW.nb0]))
  all_goals simp [*]
 ·rintro tm h' ⟨f1, f26, rfl⟩
  simp only [push_cast, seval, hE.P, zz, f1, f26]
  refine kif_split (fun hb1 => ?_) (fun hb1 => ?_)
  ·simp only [push_cast, seval, hE.P, zz, f1, f26]
   refine ⟨?_, (Keep.refl h).push hW, hW.push _⟩
   simp only [formedV, hb1]; rfl
  ·simp only [push_cast, seval, hE.P, zz, f1, hW.nb, hW.nb0]
   refine kguard_cut (fun tm h' => fget tm 1 = .pointer (some ⟨h.next, 0, none⟩) ∧ fget tm 49 = .bool ((V.k != 2 && V.k != 3 && V.n != 0) || (V.k != 4 && !(V.s.data.toList == []))) ∧ h' = h.push (.cells [.int .i64 V.k, .int .i64 V.n, .string V.s, .slice a2 V.l.length cap2, .slice a3 V.f.length cap3] 25 true)) ?_ ?_
   rotate_left
   ·repeat' (first | (refine kguard_splitF (fun hb => ?_) (fun hb => ?_) <;> simp only [push_cast, seval, hE.P, zz, hb, f1, hW.nb, hW.nb0]) | (refine kguard_splitT (fun hb => ?_) (fun hb => ?_) <;> simp only [push_cast, seval, hE.P, zz, hb, f1, hW.nb, hW.nb0]))
    all_goals simp [*]
   ·rintro tm h' ⟨f1, f26, rfl⟩
    simp only [push_cast, seval, hE.P, zz, f1, f26]
    refine kif_split (fun hb2 => ?_) (fun hb2 => ?_)
    ·simp only [push_cast, seval, hE.P, zz, f1, f26]
     refine ⟨?_, (Keep.refl h).push hW, hW.push _⟩
     simp only [formedV, hb1, hb2]; rfl
    ·simp only [push_cast, seval, hE.P, zz, f1, hW.nb, hW.nb0]
     refine kguard_cut (fun tm h' => fget tm 1 = .pointer (some ⟨h.next, 0, none⟩) ∧ fget tm 69 = .bool ((V.k != 5 && decide ((V.l.length : Int) > 0)) || (V.k != 6 && decide ((V.f.length : Int) > 0))) ∧ h' = h.push (.cells [.int .i64 V.k, .int .i64 V.n, .string V.s, .slice a2 V.l.length cap2, .slice a3 V.f.length cap3] 25 true)) ?_ ?_
     rotate_left
     ·repeat' (first | (refine kguard_splitF (fun hb => ?_) (fun hb => ?_) <;> simp only [push_cast, seval, hE.P, zz, hb, f1, hW.nb, hW.nb0]) | (refine kguard_splitT (fun hb => ?_) (fun hb => ?_) <;> simp only [push_cast, seval, hE.P, zz, hb, f1, hW.nb, hW.nb0]))
      all_goals simp [*]
     ·rintro tm h' ⟨f1, f26, rfl⟩
      simp only [push_cast, seval, hE.P, zz, f1, f26]
      refine kif_split (fun hb3 => ?_) (fun hb3 => ?_)
      ·simp only [push_cast, seval, hE.P, zz, f1, f26]
       refine ⟨?_, (Keep.refl h).push hW, hW.push _⟩
       simp only [formedV, hb1, hb2, hb3]; rfl
      ·simp only [push_cast, seval, hE.P, zz, f1]
       have hfo : formedV V = rise (V.f.map (·.1)) := by simp only [formedV, hb1, hb2, hb3]; rfl
       rw [hfo]
       refine wpc_loop (fun m tm h' => ∃ i : Nat, m = V.f.length - i ∧ 1 ≤ i ∧ fget tm 1 = .pointer (some ⟨h.next, 0, none⟩) ∧ fget tm 3 = .int .i64 i ∧ rise ((V.f.map (·.1)).drop (i - 1)) = rise (V.f.map (·.1)) ∧ i ≤ V.f.length + 1 ∧
        h' = h.push (.cells [.int .i64 V.k, .int .i64 V.n, .string V.s, .slice a2 V.l.length cap2, .slice a3 V.f.length cap3] 25 true)) (V.f.length - 1) ?_ ?_
       ·simp only [push_cast, seval, hE.P, zz, f1]
        exact ⟨1, by omega, by omega, rfl, by simp, by omega⟩
       ·rintro m tm h' ⟨i, rfl, h1i, f1, f3, hr, hi, rfl⟩
        simp only [push_cast, seval, hE.P, zz, f1, f3, hW.nb, hW.nb0]
        refine kif_split (fun hb => ?_) (fun hb => ?_)
        ·have hlt : i < V.f.length := by simpa using hb
         simp only [push_cast, seval, hE.P, zz, f1, f3, hW.nb, hW.nb0]
         refine wdraw_calm (by rw [hE.P]; decide +kernel) ?_
         simp only [push_cast, seval, hE.P, zz, f1, f3, hW.nb, hW.nb0]
         have hfr : Frz E G (h.push (.cells [.int .i64 V.k, .int .i64 V.n, .string V.s, .slice a2 V.l.length cap2, .slice a3 V.f.length cap3] 25 true)) := hG.keep ((Keep.refl h).push hW)
         obtain ⟨b, c, e1, hsp, hac⟩ := hsf.elem hfr hlt
         obtain ⟨b', c', e1', hsp', hac'⟩ := hsf.elem hfr (i := i - 1) (by omega)
         injection e1 with e1 e2 e3
         subst e1; subst e3
         injection e1' with e1' e2' e3'
         injection e1' with e1'
         subst e1'; subst e3'
         obtain ⟨c1, hc1, _⟩ := hf.at i V.f[i].1 V.f[i].2 (by simp [hlt])
         obtain ⟨c2, hc2, _⟩ := hf.at (i - 1) V.f[i - 1].1 V.f[i - 1].2 (List.getElem?_eq_getElem (by omega))
         rw [hc1] at hac
         rw [hc2] at hac'
         have n1 := acells_part hac 0 1 (by omega)
         have n2 := acells_part hac' 0 1 (by omega)
         simp only [Nat.add_zero, List.drop_zero, List.take_succ_cons, List.take_zero] at n1 n2
         rw [show IntKind.i64.wrap ((i : Int) - 1) = ((i - 1 : Nat) : Int) by rw [wr64 (by omega) (by omega)]; omega]
         rw [ia23 hsp (by omega) (by omega), kpure_some]
         simp only [push_cast, seval, hE.P, zz, f1, f3, hW.nb, hW.nb0, ↓n1, ↓n2]
         rw [ia23 hsp (by omega) (by omega), kpure_some]
         simp only [push_cast, seval, hE.P, zz, f1, f3, hW.nb, hW.nb0, ↓n1, ↓n2]
         have hdrop : (V.f.map (·.1)).drop (i - 1) = V.f[i - 1].1 :: V.f[i].1 :: (V.f.map (·.1)).drop (i + 1) := by
          rw [List.drop_eq_getElem_cons (by simp; omega)]
          congr 1
          ·simp
          ·rw [show i - 1 + 1 = i by omega, List.drop_eq_getElem_cons (by simp; omega)]
           simp
         have hdrop2 : (V.f.map (·.1)).drop i = V.f[i].1 :: (V.f.map (·.1)).drop (i + 1) := by
          rw [List.drop_eq_getElem_cons (by simp; omega)]
          simp
         rw [hdrop] at hr
         simp only [rise] at hr
         refine kif_split (fun hb4 => ?_) (fun hb4 => ?_)
         ·simp only [push_cast, seval, hE.P, zz, f1, f3]
          refine ⟨?_, (Keep.refl h).push hW, hW.push _⟩
          rw [← hr]
          have : bslt V.f[i - 1].1.data.toList V.f[i].1.data.toList = false := by simpa using hb4
          rw [this]; rfl
         ·simp only [push_cast, seval, hE.P, zz, f1, f3]
          have : bslt V.f[i - 1].1.data.toList V.f[i].1.data.toList = true := by simpa using hb4
          rw [this, Bool.true_and] at hr
          refine ⟨V.f.length - (i + 1), by omega, i + 1, rfl, by omega, by rw [wr64 (by omega) (by omega)]; rfl, ?_, by omega⟩
          rw [Nat.add_sub_cancel, hdrop2]; exact hr
        ·have hge : V.f.length ≤ i := by have : ¬ i < V.f.length := by simpa using hb
                                         omega
         simp only [push_cast, seval, hE.P, zz, f1, f3]
         refine ⟨?_, (Keep.refl h).push hW, hW.push _⟩
         rw [← hr]
         have hlen : ((V.f.map (·.1)).drop (i - 1)).length ≤ 1 := by simp; omega
         match hd : (V.f.map (·.1)).drop (i - 1), hlen with
         | [], _ => rfl
         | [x], _ => rfl
         | x :: y :: r, hl => simp at hl
end Go.Proofs.YthfopcdammlmfaaGreatDoor
namespace Go.Proofs.YthfopcdammlmfaaGreatDoor
open Go.Tm
variable {E : Env} (hE : EOk E)
def FieldOk (E : Env) (g : FuncId) (p : ByteArray → Bool) : Prop :=
 ∀ h, WF E h → ∀ nm c, nm.size ≤ 140737488355328 → c.length = 5 → CallsTo E g [.agg (.string nm :: c).toArray] h fun v h' => v = .bool (p nm) ∧ Keep h h' ∧ WF E h'
include hE
theorem indexFunc_at {g : FuncId} {p : ByteArray → Bool} (hp : FieldOk E g p) {G : Mem} {h : Heap} (hW : WF E h) (hG : Frz E G h) {F : List (ByteArray × Vl)} {cf : List Value} {sf : Value} (hsf : Sl E G 6 F.length cf sf) (hf : RepFs E G F cf) :
 CallsTo E 166 [sf, .func (.func g) #[] #[]] h fun v h' => (∃ r : Int, v = .int .i64 r ∧ decide (r ≥ 0) = F.any fun x => p x.1) ∧ Keep h h' ∧ WF E h' := by
 obtain ⟨a, cap, rfl, hc1, hc2⟩ := hsf.slice
 refine en hE Tryz.func166 rfl rfl Tryz.ntmps166 rfl (by decide +kernel) (rs := [.tmp 4]) rfl ?_
 simp only [push_cast, seval, hE.P, zz]
 refine wpc_loop (fun m tm h' => ∃ i : Nat, m = F.length - i ∧ i ≤ F.length ∧ fget tm 0 = .slice a F.length cap ∧ fget tm 1 = .func (.func g) #[] #[] ∧ fget tm 7 = .int .i64 F.length ∧ fget tm 8 = .int .i64 i ∧ ((F.take i).any fun x => p x.1) = false ∧ Keep h h' ∧ WF E h') F.length ?_ ?_
 ·simp only [push_cast, seval, hE.P, zz]
  exact ⟨0, by omega, by omega, rfl, by simp, Keep.refl _, hW⟩
 ·rintro m tm h' ⟨i, rfl, hi, f0, f1, f7, f8, hany, hk, hw⟩
  simp only [push_cast, seval, hE.P, zz, f0, f1, f7, f8]
  refine kif_split (fun hb => ?_) (fun hb => ?_)
  ·have hlt : i < F.length := by simpa using hb
   obtain ⟨b, c, e1, hsp, hac⟩ := hsf.elem (hG.keep hk) hlt
   injection e1 with e1 e2 e3
   subst e1; subst e3
   obtain ⟨c1, hc1, hrc, hnm⟩ := hf.at i F[i].1 F[i].2 (List.getElem?_eq_getElem hlt)
   rw [hc1] at hac
   simp only [push_cast, seval, hE.P, zz, f0, f1, f7, f8]
   rw [ia23 hsp (by omega) (by omega), kpure_some]
   simp only [push_cast, seval, hE.P, zz, f0, f1, f7, f8, ↓hac]
   refine (hp _ hw F[i].1 c1 hnm hrc.len).mono ?_
   rintro v h2 ⟨rfl, hk2, hw2⟩
   simp only [push_cast, seval, hE.P, zz, f0, f1, f7, f8]
   refine kif_split (fun hb => ?_) (fun hb => ?_)
   ·simp only [push_cast, seval, hE.P, zz, f0, f1, f7, f8]
    refine ⟨⟨i, rfl, ?_⟩, hk.trans hk2, hw2⟩
    have : (F.any fun x => p x.1) = true := by rw [List.any_eq_true]; exact ⟨F[i], by simp, hb⟩
    rw [this]; simp
   ·simp only [push_cast, seval, hE.P, zz, f0, f1, f7, f8]
    refine ⟨F.length - (i + 1), by omega, i + 1, rfl, by omega, by rw [wr64 (by omega) (by omega)]; rfl, ?_, hk.trans hk2, hw2⟩
    rw [List.take_succ_eq_append_getElem hlt, List.any_append, hany]
    simp [hb]
  ·have hge : i = F.length := by have : ¬ i < F.length := by simpa using hb
                                 omega
   subst hge
   simp only [push_cast, seval, hE.P, zz, f0, f1, f7, f8]
   rw [List.take_length] at hany
   exact ⟨⟨-1, rfl, by rw [hany]; rfl⟩, hk, hw⟩
theorem containsFunc_at {g : FuncId} {p : ByteArray → Bool} (hp : FieldOk E g p) {G : Mem} {h : Heap} (hW : WF E h) (hG : Frz E G h) {F : List (ByteArray × Vl)} {cf : List Value} {sf : Value} (hsf : Sl E G 6 F.length cf sf) (hf : RepFs E G F cf) :
 CallsTo E 137 [sf, .func (.func g) #[] #[]] h fun v h' => v = .bool (F.any fun x => p x.1) ∧ Keep h h' ∧ WF E h' := by
 refine en hE Tryz.func137 rfl rfl Tryz.ntmps137 rfl (by decide +kernel) (rs := [.tmp 4]) rfl ?_
 simp only [push_cast, seval, hE.P, zz]
 refine (indexFunc_at hE hp hW hG hsf hf).mono ?_
 rintro v h' ⟨⟨r, rfl, hr⟩, hk, hw⟩
 simp only [push_cast, seval, hE.P, zz]
 exact ⟨congrArg _ hr, hk, hw⟩
theorem spelledF_at : FieldOk E 138 (fun s => !vld s) := by
 intro h hW nm c hn hc
 match c, hc with
 | [c1, c2, c3, c4, c5], _ =>
   refine en hE Tryz.func138 rfl rfl Tryz.ntmps138 rfl (by decide +kernel) (rs := [.tmp 2]) rfl ?_
   simp only [push_cast, seval, hE.P, zz, hW.nb, hW.nb0]
   refine (utfValid_at hE (by omega)).mono ?_
   rintro v h' ⟨rfl, rfl⟩
   simp only [push_cast, seval, hE.P, zz]
   exact ⟨(Keep.refl h).push hW, hW.push _⟩
theorem fewF_at : FieldOk E 139 (fun s => s.data.toList == [] || decide (24 < s.size)) := by
 intro h hW nm c hn hc
 match c, hc with
 | [c1, c2, c3, c4, c5], _ =>
   refine en hE Tryz.func139 rfl rfl Tryz.ntmps139 rfl (by decide +kernel) (rs := [.tmp 2]) rfl ?_
   simp only [push_cast, seval, hE.P, zz, hW.nb, hW.nb0]
   have hfin : Keep h (h.push (.cells [.string nm, c1, c2, c3, c4, c5] 91 true)) ∧ WF E (h.push (.cells [.string nm, c1, c2, c3, c4, c5] 91 true)) := ⟨(Keep.refl h).push hW, hW.push _⟩
   refine kguard_splitF (fun hb => ?_) (fun hb => ?_)
   ·simp only [push_cast, seval, hE.P, zz, hb, hW.nb, hW.nb0]
    refine ⟨congrArg _ ?_, hfin⟩
    rw [decide_eq_decide]; omega
   ·simp only [push_cast, seval, hE.P, zz, hb, hW.nb, hW.nb0]
    exact hfin
theorem spelled_at : PredOk E 94 spelledV := by
 intro G h hW hG V c hV
 obtain ⟨sl, sf, cl, cf, rfl, hsl, hsf, hl, hf, hb1, hb2, hb3⟩ := hV.cells
 refine en hE Tryz.func94 rfl rfl Tryz.ntmps94 rfl (by decide +kernel) (rs := [.tmp 2]) rfl ?_
 simp only [push_cast, seval, hE.P, zz, hW.nb, hW.nb0]
 refine (utfValid_at hE (by omega)).mono ?_
 rintro v h' ⟨rfl, rfl⟩
 simp only [push_cast, seval, hE.P, zz, hW.nb, hW.nb0]
 refine kguard_splitT (fun hb => ?_) (fun hb => ?_)
 ·simp only [push_cast, seval, hE.P, zz, hb, hW.nb, hW.nb0]
  refine (containsFunc_at hE (spelledF_at hE) (hW.push _) (hG.keep ((Keep.refl h).push hW)) hsf hf).mono ?_
  rintro v h' ⟨rfl, hk, hw⟩
  simp only [push_cast, seval, hE.P, zz]
  refine ⟨congrArg _ ?_, ((Keep.refl h).push hW).trans hk, hw⟩
  simp only [spelledV, hb, Bool.true_and]
  rw [all_not_any]
 ·simp only [push_cast, seval, hE.P, zz, hb, hW.nb, hW.nb0]
  refine ⟨?_, (Keep.refl h).push hW, hW.push _⟩
  simp [spelledV, hb]
theorem few_at : PredOk E 95 fewV := by
 intro G h hW hG V c hV
 obtain ⟨sl, sf, cl, cf, rfl, hsl, hsf, hl, hf, hb1, hb2, hb3⟩ := hV.cells
 obtain ⟨a2, cap2, rfl, _, _⟩ := hsl.slice
 obtain ⟨a3, cap3, rfl, _, _⟩ := hsf.slice
 refine en hE Tryz.func95 rfl rfl Tryz.ntmps95 rfl (by decide +kernel) (rs := [.tmp 2]) rfl ?_
 simp only [push_cast, seval, hE.P, zz, hW.nb, hW.nb0]
 have hfin : Keep h (h.push (.cells [.int .i64 V.k, .int .i64 V.n, .string V.s, .slice a2 V.l.length cap2, .slice a3 V.f.length cap3] 25 true)) ∧ WF E (h.push (.cells [.int .i64 V.k, .int .i64 V.n, .string V.s, .slice a2 V.l.length cap2, .slice a3 V.f.length cap3] 25 true)) := ⟨(Keep.refl h).push hW, hW.push _⟩
 refine kguard_splitT (fun hb => ?_) (fun hb => ?_)
 ·have hl1 : V.l.length ≤ 32 := by have : (V.l.length : Int) ≤ 32 := by simpa using hb
                                   omega
  simp only [push_cast, seval, hE.P, zz, hb, hW.nb, hW.nb0]
  refine kguard_splitT (fun hb2 => ?_) (fun hb2 => ?_)
  ·have hl2 : V.f.length ≤ 32 := by have : (V.f.length : Int) ≤ 32 := by simpa using hb2
                                    omega
   simp only [push_cast, seval, hE.P, zz, hb2, hW.nb, hW.nb0]
   refine (containsFunc_at hE (fewF_at hE) (hW.push _) (hG.keep ((Keep.refl h).push hW)) hsf hf).mono ?_
   rintro v h' ⟨rfl, hk, hw⟩
   simp only [push_cast, seval, hE.P, zz]
   refine ⟨congrArg _ ?_, ((Keep.refl h).push hW).trans hk, hw⟩
   simp only [fewV, hl1, hl2, decide_true, Bool.true_and]
   exact all_any_not _ _
  ·have hl2 : ¬ V.f.length ≤ 32 := by have : ¬ (V.f.length : Int) ≤ 32 := by simpa using hb2
                                      omega
   simp only [push_cast, seval, hE.P, zz, hb2, hW.nb, hW.nb0]
   refine ⟨congrArg _ ?_, hfin⟩
   simp [fewV, hl2]
 ·have hl1 : ¬ V.l.length ≤ 32 := by have : ¬ (V.l.length : Int) ≤ 32 := by simpa using hb
                                     omega
  simp only [push_cast, seval, hE.P, zz, hb, hW.nb, hW.nb0]
  refine ⟨congrArg _ ?_, hfin⟩
  simp [fewV, hl1]
theorem depth_at : ∀ (n : Nat) (V : Vl), V.sz ≤ n → n ≤ 1000000 → ∀ {G : Mem} {h : Heap}, WF E h → Frz E G h → ∀ {c : List Value}, Rep E G V c →
 CallsTo E 96 [.agg c.toArray] h fun v h' => v = .int .i64 (depthV V) ∧ Keep h h' ∧ WF E h' := by
 intro n
 induction n with
 | zero => intro V hn; have := sz_eq V; omega
 | succ n ih =>
   intro V hn hn2 G h hW hG c hV
   obtain ⟨sl, sf, cl, cf, rfl, hsl, hsf, hl, hf, hb1, hb2, hb3⟩ := hV.cells
   refine en hE Tryz.func96 rfl rfl Tryz.ntmps96 rfl (by decide +kernel) (rs := [.tmp 2]) rfl ?_
   simp only [push_cast, seval, hE.P, zz, hW.nb, hW.nb0]
   refine kguard_cut (fun tm h' => fget tm 1 = .pointer (some ⟨h.next, 0, none⟩) ∧ fget tm 13 = .bool (V.k != 5 && V.k != 6) ∧ h' = h.push (.cells [.int .i64 V.k, .int .i64 V.n, .string V.s, sl, sf] 25 true)) ?_ ?_
   rotate_left
   ·repeat' (first | (refine kguard_splitF (fun hb => ?_) (fun hb => ?_) <;> simp only [push_cast, seval, hE.P, zz, hb, hW.nb, hW.nb0]) | (refine kguard_splitT (fun hb => ?_) (fun hb => ?_) <;> simp only [push_cast, seval, hE.P, zz, hb, hW.nb, hW.nb0]))
   ·rintro tm h' ⟨f1, f13, rfl⟩
    simp only [push_cast, seval, hE.P, zz, f1, f13]
    refine kif_split (fun hb => ?_) (fun hb => ?_)
    ·have hk : ¬ (V.k = 5 ∨ V.k = 6) := by
      have : V.k ≠ 5 ∧ V.k ≠ 6 := by simpa using hb
      omega
     simp only [push_cast, seval, hE.P, zz, f1, f13]
     refine ⟨?_, (Keep.refl h).push hW, hW.push _⟩
     rw [depthV_eq, if_neg hk]
    ·have hk : V.k = 5 ∨ V.k = 6 := by
      have : V.k ≠ 5 → V.k = 6 := by simpa using hb
      omega
     simp only [push_cast, seval, hE.P, zz, f1, f13, hW.nb, hW.nb0]
     refine (parts_at hE (hW.push _) (hG.keep ((Keep.refl h).push hW)) hV).mono ?_
     rintro v h2 ⟨G', cs, hs, hr, hx⟩
     obtain ⟨a, cap, rfl, hc1, hc2⟩ := hs.slice
     simp only [push_cast, seval, hE.P, zz, f1, hW.nb, hW.nb0]
     refine wpc_loop (fun m tm h' => ∃ i : Nat, m = V.parts.length - i ∧ i ≤ V.parts.length ∧ fget tm 17 = .int .i64 i ∧ fget tm 16 = .int .i64 V.parts.length ∧ fget tm 15 = .slice a V.parts.length cap ∧
      fget tm 3 = .int .i64 (maxL ((V.parts.take i).map depthV)) ∧ Keep h h' ∧ Keep h2 h' ∧ WF E h') V.parts.length ?_ ?_
     ·simp only [push_cast, seval, hE.P, zz]
      exact ⟨0, by omega, by omega, rfl, by simp [maxL], Keep.trans ((Keep.refl h).push hW) hx.keep, Keep.refl _, hx.wf⟩
     ·rintro m tm h' ⟨i, rfl, hi, f17, f16, f15, f3, hkeep, hkeep2, hw⟩
      simp only [push_cast, seval, hE.P, zz, f17, f16, f15, f3]
      refine kif_split (fun hb => ?_) (fun hb => ?_)
      ·have hlt : i < V.parts.length := by simpa using hb
       obtain ⟨b, c, e1, hsp, hac⟩ := hs.elem (hx.frz.keep hkeep2) hlt
       injection e1 with e1 e2 e3
       subst e1; subst e3
       have hrc := hr.at i V.parts[i] (by simp [hlt])
       obtain ⟨sl', sf', cl', cf', hce, hsl', hsf', _⟩ := hrc.cells
       rw [hce] at hac hrc
       obtain ⟨a2, cap2, rfl, _, _⟩ := hsl'.slice
       obtain ⟨a3, cap3, rfl, _, _⟩ := hsf'.slice
       simp only [push_cast, seval, hE.P, zz, f17, f16, f15, f3]
       rw [ia22 hsp (by omega) (by omega), kpure_some]
       simp only [push_cast, seval, hE.P, zz, f17, f16, f15, f3, ↓hac, hw.nb, hw.nb0]
       have hps := parts_sz (v := V) (x := V.parts[i]) (by simp)
       refine (ih V.parts[i] (by omega) (by omega) (hw.push _) (hx.frz.keep (hkeep2.push hw)) hrc).mono ?_
       rintro v h3 ⟨rfl, hk3, hw3⟩
       simp only [push_cast, seval, hE.P, zz, f17, f16, f15, f3]
       refine ⟨V.parts.length - (i + 1), by omega, i + 1, rfl, by omega, by rw [wr64 (by omega) (by omega)]; rfl, ?_, (hkeep.push hw).trans hk3, (hkeep2.push hw).trans hk3, hw3⟩
       rw [List.take_succ_eq_append_getElem hlt, List.map_append, List.map_cons, List.map_nil, maxL_snoc _ _ (depthV_bd _ _ (Nat.le_refl _)).1]
      ·have hge : i = V.parts.length := by have : ¬ i < V.parts.length := by simpa using hb
                                           omega
       subst hge
       rw [List.take_length] at f3
       simp only [push_cast, seval, hE.P, zz, f17, f16, f15, f3]
       have hbd := depthV_bd V.sz V (Nat.le_refl _)
       have he := depthV_eq V
       rw [if_pos hk] at he
       refine ⟨?_, hkeep, hw⟩
       rw [wr64 (by omega) (by omega)]
       exact congrArg _ (by omega)
end Go.Proofs.YthfopcdammlmfaaGreatDoor
