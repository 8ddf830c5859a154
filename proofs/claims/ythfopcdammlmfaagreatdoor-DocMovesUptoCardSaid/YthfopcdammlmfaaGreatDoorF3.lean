/- The reference's depth and its numbers in bytes. -/
/- Merged by a program of ours: G4 G5. -/
import Derived.Test.YthfopcdammlmfaaGreatDoorF2
import Derived.Test.YthfopcdammlmfaaGreatDoorF1
import Derived.Test.YthfopcdammlmfaaGreatDoorD2
set_option maxRecDepth 10000
set_option linter.all false
set_option linter.unusedSimpArgs false
set_option linter.unusedVariables false
/- The reference's look at texts, numbers of parts, depth. -/
namespace Go.Tm
def smallV (v : Vl) : Bool := decide (v.s.size ≤ 1000000000000) && v.f.all fun x => decide (x.1.size ≤ 1000000000000)
theorem allV_part {p : Vl → Bool} {V x : Vl} (h : allV p V = true) (hx : x ∈ V.parts) : allV p x = true := by
 rw [allV_eq, Bool.and_eq_true] at h
 exact List.all_eq_true.1 h.2 x hx
theorem allV_self {p : Vl → Bool} {V : Vl} (h : allV p V = true) : p V = true := by
 rw [allV_eq, Bool.and_eq_true] at h
 exact h.1
theorem all_step {α : Type} {l : List α} {p : α → Bool} {i : Nat} (hi : i < l.length) (h : (l.take i).all p = true) (hp : p l[i] = true) : (l.take (i + 1)).all p = true := by
 rw [List.take_succ_eq_append_getElem hi, List.all_append, h]
 simp [hp]
theorem empty_size (s : ByteArray) : (s.data.toList == []) = decide ((s.size : Int) < 1) := by
 have h : s.size = s.data.toList.length := by simp
 rw [h]
 cases s.data.toList with
 | nil => rfl
 | cons a l =>
   have : ¬ (((a :: l).length : Nat) : Int) < 1 := by simp; omega
   rw [decide_eq_false this]; rfl
theorem all_stop {α : Type} {l : List α} {p : α → Bool} {i : Nat} (hi : i < l.length) (hp : p l[i] = false) : l.all p = false := by
 rw [List.all_eq_false]
 exact ⟨l[i], by simp, by simp [hp]⟩
end Go.Tm
namespace Go.Proofs.YthfopcdammlmfaaGreatDoor
open Go.Tm
variable {E : Env} (hE : EOk E)
include hE
theorem textsR_at : ∀ (n : Nat) (V : Vl), V.sz ≤ n → allV smallV V = true → ∀ {G : Mem} {h : Heap}, WF E h → Frz E G h → ∀ {c : List Value}, Rep E G V c →
 CallsTo E 45 [.agg c.toArray] h fun v h' => v = .bool (allV spelledV V) ∧ Keep h h' ∧ WF E h' := by
 intro n
 induction n with
 | zero => intro V hn; have := sz_eq V; omega
 | succ n ih =>
   intro V hn hsm G h hW hG c hV
   have hs1 := allV_self hsm
   simp only [smallV, Bool.and_eq_true, decide_eq_true_eq, List.all_eq_true] at hs1
   obtain ⟨sl, sf, cl, cf, rfl, hsl, hsf, hl, hf, hb1, hb2, hb3⟩ := hV.cells
   obtain ⟨a2, cap2, rfl, _, _⟩ := hsl.slice
   obtain ⟨a3, cap3, rfl, _, _⟩ := hsf.slice
   refine en hE Tryz.func45 rfl rfl Tryz.ntmps45 rfl (by decide +kernel) (rs := [.tmp 2]) rfl ?_
   simp only [push_cast, seval, hE.P, zz, hW.nb, hW.nb0]
   have w0 : WF E (h.push (.cells [.int .i64 V.k, .int .i64 V.n, .string V.s, .slice a2 V.l.length cap2, .slice a3 V.f.length cap3] 25 true)) := hW.push _
   have g0 : (h.push (.cells [.int .i64 V.k, .int .i64 V.n, .string V.s, .slice a2 V.l.length cap2, .slice a3 V.f.length cap3] 25 true)).get h.next = some (.cells [.int .i64 V.k, .int .i64 V.n, .string V.s, .slice a2 V.l.length cap2, .slice a3 V.f.length cap3] 25 true) := by simp only [get_push, if_true]
   have k0 : Keep h (h.push (.cells [.int .i64 V.k, .int .i64 V.n, .string V.s, .slice a2 V.l.length cap2, .slice a3 V.f.length cap3] 25 true)) := (Keep.refl h).push hW
   generalize h.push (.cells [.int .i64 V.k, .int .i64 V.n, .string V.s, .slice a2 V.l.length cap2, .slice a3 V.f.length cap3] 25 true) = H at *
   refine (valid1_at hE w0 hs1.1).mono ?_
   rintro v h1 ⟨rfl, k1, w1⟩
   have g1 := k1.get _ _ g0
   simp only [push_cast, seval, hE.P, zz]
   refine kif_split (fun hb => ?_) (fun hb => ?_)
   ·have hp : spelledV V = false := by
     have : vld V.s = false := by simpa using hb
     simp [spelledV, this]
    simp only [push_cast, seval, hE.P, zz]
    exact ⟨by rw [allV_eq, hp]; rfl, k0.trans k1, w1⟩
   have hvs : vld V.s = true := by simpa using hb
   simp only [push_cast, seval, hE.P, zz]
   refine wpc_loop (fun m tm h' => ∃ i : Nat, m = V.f.length - i ∧ i ≤ V.f.length ∧ fget tm 1 = .pointer (some ⟨h.next, 0, none⟩) ∧ fget tm 3 = .int .i64 i ∧ ((V.f.take i).all fun x => vld x.1) = true ∧ Keep h1 h' ∧ WF E h') V.f.length ?_ ?_
   ·simp only [push_cast, seval, hE.P, zz]
    exact ⟨0, by omega, by omega, rfl, by simp, Keep.refl _, w1⟩
   ·rintro m tm h' ⟨i, rfl, hi, f1, f3, hall, hk, hw⟩
    have g2 := hk.get _ _ g1
    have k2 := (k0.trans k1).trans hk
    simp only [push_cast, seval, hE.P, zz, f1, f3, g2, hW.nb0]
    refine kif_split (fun hb => ?_) (fun hb => ?_)
    ·have hlt : i < V.f.length := by simpa using hb
     obtain ⟨b, c, e1, hsp, hac⟩ := hsf.elem (hG.keep k2) hlt
     injection e1 with e1 e2 e3
     subst e1; subst e3
     obtain ⟨c1, hc1, hrc, hnm⟩ := hf.at i V.f[i].1 V.f[i].2 (List.getElem?_eq_getElem hlt)
     rw [hc1] at hac
     have n1 := acells_part hac 0 1 (by omega)
     simp only [Nat.add_zero, List.drop_zero, List.take_succ_cons, List.take_zero] at n1
     simp only [push_cast, seval, hE.P, zz, f1, f3, g2, hW.nb0]
     rw [ia23 hsp (by omega) (by omega), kpure_some]
     simp only [push_cast, seval, hE.P, zz, f1, f3, g2, hW.nb0, ↓n1]
     refine (valid1_at hE hw (hs1.2 V.f[i] (by simp))).mono ?_
     rintro v h3 ⟨rfl, hk3, hw3⟩
     simp only [push_cast, seval, hE.P, zz, f1, f3]
     refine kif_split (fun hb2 => ?_) (fun hb2 => ?_)
     ·have hp : spelledV V = false := by
       have : vld V.f[i].1 = false := by simpa using hb2
       simp only [spelledV]
       rw [all_stop hlt this, Bool.and_false]
      simp only [push_cast, seval, hE.P, zz]
      exact ⟨by rw [allV_eq, hp]; rfl, k2.trans hk3, hw3⟩
     ·have hp : vld V.f[i].1 = true := by simpa using hb2
      simp only [push_cast, seval, hE.P, zz, f1, f3]
      exact ⟨V.f.length - (i + 1), by omega, i + 1, rfl, by omega, by rw [wr64 (by omega) (by omega)]; rfl, all_step hlt hall hp, hk.trans hk3, hw3⟩
    ·have hge : i = V.f.length := by have : ¬ i < V.f.length := by simpa using hb
                                     omega
     rw [hge, List.take_length] at hall
     have hri : spelledV V = true := by simp only [spelledV, hvs, hall]; rfl
     clear hb hge hall
     simp only [push_cast, seval, hE.P, zz, f1, f3, g2, hW.nb0]
     refine (partsR_at hE hw (hG.keep k2) hV).mono ?_
     rintro v h2 ⟨G', cs, hs, hr, hx⟩
     obtain ⟨a, cap, rfl, hc1, hc2⟩ := hs.slice
     simp only [push_cast, seval, hE.P, zz, f1]
     refine wpc_loop (fun m tm h' => ∃ i : Nat, m = V.parts.length - i ∧ i ≤ V.parts.length ∧ fget tm 5 = .int .i64 i ∧ fget tm 4 = .slice a V.parts.length cap ∧
      (V.parts.take i).all (allV spelledV) = true ∧ Keep h h' ∧ Keep h2 h' ∧ WF E h') V.parts.length ?_ ?_
     ·simp only [push_cast, seval, hE.P, zz]
      exact ⟨0, by omega, by omega, rfl, by simp, k2.trans hx.keep, Keep.refl _, hx.wf⟩
     ·clear f1 f3
      rintro m tm h' ⟨i, rfl, hi, f5, f4, hall, hkeep, hkeep2, hw⟩
      simp only [push_cast, seval, hE.P, zz, f5, f4]
      refine kif_split (fun hb => ?_) (fun hb => ?_)
      ·have hlt : i < V.parts.length := by simpa using hb
       obtain ⟨b, c, e1, hsp, hac⟩ := hs.elem (hx.frz.keep hkeep2) hlt
       injection e1 with e1 e2 e3
       subst e1; subst e3
       have hrc := hr.at i V.parts[i] (by simp [hlt])
       have hmem : V.parts[i] ∈ V.parts := by simp
       simp only [push_cast, seval, hE.P, zz, f5, f4]
       rw [ia22 hsp (by omega) (by omega), kpure_some]
       simp only [push_cast, seval, hE.P, zz, f5, f4, ↓hac]
       refine (ih V.parts[i] (by have := parts_sz (v := V) hmem; omega) (allV_part hsm hmem) hw (hx.frz.keep hkeep2) hrc).mono ?_
       rintro v h3 ⟨rfl, hk3, hw3⟩
       simp only [push_cast, seval, hE.P, zz, f5, f4]
       refine kif_split (fun hb => ?_) (fun hb => ?_)
       ·have hf : allV spelledV V.parts[i] = false := by simpa using hb
        simp only [push_cast, seval, hE.P, zz]
        refine ⟨?_, hkeep.trans hk3, hw3⟩
        rw [allV_eq, all_stop hlt hf, Bool.and_false]
       ·have hf : allV spelledV V.parts[i] = true := by simpa using hb
        simp only [push_cast, seval, hE.P, zz, f5, f4]
        exact ⟨V.parts.length - (i + 1), by omega, i + 1, rfl, by omega, by rw [wr64 (by omega) (by omega)]; rfl, all_step hlt hall hf, hkeep.trans hk3, hkeep2.trans hk3, hw3⟩
      ·have hge : i = V.parts.length := by have : ¬ i < V.parts.length := by simpa using hb
                                           omega
       subst hge
       simp only [push_cast, seval, hE.P, zz, f5, f4]
       rw [List.take_length] at hall
       exact ⟨by rw [allV_eq, hri, hall]; rfl, hkeep, hw⟩
theorem fewR_at : ∀ (n : Nat) (V : Vl), V.sz ≤ n → ∀ {G : Mem} {h : Heap}, WF E h → Frz E G h → ∀ {c : List Value}, Rep E G V c →
 CallsTo E 46 [.agg c.toArray] h fun v h' => v = .bool (allV fewV V) ∧ Keep h h' ∧ WF E h' := by
 intro n
 induction n with
 | zero => intro V hn; have := sz_eq V; omega
 | succ n ih =>
   intro V hn G h hW hG c hV
   obtain ⟨sl, sf, cl, cf, rfl, hsl, hsf, hl, hf, hb1, hb2, hb3⟩ := hV.cells
   obtain ⟨a2, cap2, rfl, _, _⟩ := hsl.slice
   obtain ⟨a3, cap3, rfl, _, _⟩ := hsf.slice
   refine en hE Tryz.func46 rfl rfl Tryz.ntmps46 rfl (by decide +kernel) (rs := [.tmp 2]) rfl ?_
   simp only [push_cast, seval, hE.P, zz, hW.nb, hW.nb0]
   have w0 : WF E (h.push (.cells [.int .i64 V.k, .int .i64 V.n, .string V.s, .slice a2 V.l.length cap2, .slice a3 V.f.length cap3] 25 true)) := hW.push _
   have g0 : (h.push (.cells [.int .i64 V.k, .int .i64 V.n, .string V.s, .slice a2 V.l.length cap2, .slice a3 V.f.length cap3] 25 true)).get h.next = some (.cells [.int .i64 V.k, .int .i64 V.n, .string V.s, .slice a2 V.l.length cap2, .slice a3 V.f.length cap3] 25 true) := by simp only [get_push, if_true]
   have k0 : Keep h (h.push (.cells [.int .i64 V.k, .int .i64 V.n, .string V.s, .slice a2 V.l.length cap2, .slice a3 V.f.length cap3] 25 true)) := (Keep.refl h).push hW
   generalize h.push (.cells [.int .i64 V.k, .int .i64 V.n, .string V.s, .slice a2 V.l.length cap2, .slice a3 V.f.length cap3] 25 true) = H at *
   refine kguard_cut (fun tm h' => fget tm 1 = .pointer (some ⟨h.next, 0, none⟩) ∧ fget tm 15 = .bool (decide ((V.l.length : Int) > 32) || decide ((V.f.length : Int) > 32)) ∧ h' = H) ?_ ?_
   rotate_left
   ·repeat' (first | (refine kguard_splitF (fun hb => ?_) (fun hb => ?_) <;> simp only [push_cast, seval, hE.P, zz, hb, g0, hW.nb0]) | (refine kguard_splitT (fun hb => ?_) (fun hb => ?_) <;> simp only [push_cast, seval, hE.P, zz, hb, g0, hW.nb0]))
    all_goals simp [hb]
   rintro tm h1 ⟨f1, f15, rfl⟩
   simp only [push_cast, seval, hE.P, zz, f1, f15]
   refine kif_split (fun hb => ?_) (fun hb => ?_)
   ·have hp : fewV V = false := by
     have : V.l.length > 32 ∨ V.f.length > 32 := by
      have : (V.l.length : Int) > 32 ∨ (V.f.length : Int) > 32 := by simpa using hb
      omega
     rcases this with h | h
     ·simp [fewV, show ¬ V.l.length ≤ 32 by omega]
     ·simp [fewV, show ¬ V.f.length ≤ 32 by omega]
    simp only [push_cast, seval, hE.P, zz]
    exact ⟨by rw [allV_eq, hp]; rfl, k0, w0⟩
   have hno : V.l.length ≤ 32 ∧ V.f.length ≤ 32 := by
    have : (V.l.length : Int) ≤ 32 ∧ (V.f.length : Int) ≤ 32 := by simpa using hb
    omega
   simp only [push_cast, seval, hE.P, zz, f1]
   refine wpc_loop (fun m tm h' => ∃ i : Nat, m = V.f.length - i ∧ i ≤ V.f.length ∧ fget tm 1 = .pointer (some ⟨h.next, 0, none⟩) ∧ fget tm 3 = .int .i64 i ∧ ((V.f.take i).all fun x => !(x.1.data.toList == [] || decide (24 < x.1.size))) = true ∧ h' = h1) V.f.length ?_ ?_
   ·simp only [push_cast, seval, hE.P, zz, f1]
    exact ⟨0, by omega, by omega, rfl, by simp⟩
   ·clear f1 f15
    rintro m tm h' ⟨i, rfl, hi, f1, f3, hall, rfl⟩
    simp only [push_cast, seval, hE.P, zz, f1, f3, g0, hW.nb0]
    refine kif_split (fun hb => ?_) (fun hb => ?_)
    ·have hlt : i < V.f.length := by simpa using hb
     obtain ⟨b, c, e1, hsp, hac⟩ := hsf.elem (hG.keep k0) hlt
     injection e1 with e1 e2 e3
     subst e1; subst e3
     obtain ⟨c1, hc1, hrc, hnm⟩ := hf.at i V.f[i].1 V.f[i].2 (List.getElem?_eq_getElem hlt)
     rw [hc1] at hac
     have n1 := acells_part hac 0 1 (by omega)
     simp only [Nat.add_zero, List.drop_zero, List.take_succ_cons, List.take_zero] at n1
     simp only [push_cast, seval, hE.P, zz, f1, f3, g0, hW.nb0]
     rw [ia23 hsp (by omega) (by omega), kpure_some]
     simp only [push_cast, seval, hE.P, zz, f1, f3, g0, hW.nb0, ↓n1]
     refine kguard_cut (fun tm h3 => fget tm 1 = .pointer (some ⟨h.next, 0, none⟩) ∧ fget tm 3 = .int .i64 i ∧ fget tm 40 = .bool (decide ((V.f[i].1.size : Int) < 1) || decide ((V.f[i].1.size : Int) > 24)) ∧ h3 = h') ?_ ?_
     rotate_left
     ·refine kguard_splitF (fun hb => ?_) (fun hb => ?_)
      ·simp only [push_cast, seval, hE.P, zz, hb, f1, f3, g0, hW.nb0]
       rw [ia23 hsp (by omega) (by omega), kpure_some]
       simp only [push_cast, seval, hE.P, zz, hb, f1, f3, g0, hW.nb0, ↓n1]
      ·simp only [push_cast, seval, hE.P, zz, hb, f1, f3, g0, hW.nb0]
     clear f1 f3
     rintro tm h3 ⟨f1, f3, f40, rfl⟩
     simp only [push_cast, seval, hE.P, zz, f1, f3, f40]
     have hemp := empty_size V.f[i].1
     refine kif_split (fun hb2 => ?_) (fun hb2 => ?_)
     ·have hp : fewV V = false := by
       simp only [fewV]
       rw [all_stop hlt (by rw [hemp]; simp at hb2 ⊢; omega), Bool.and_false]
      simp only [push_cast, seval, hE.P, zz]
      exact ⟨by rw [allV_eq, hp]; rfl, k0, w0⟩
     ·have hp : (!(V.f[i].1.data.toList == [] || decide (24 < V.f[i].1.size))) = true := by
       rw [hemp]; simp at hb2 ⊢; omega
      simp only [push_cast, seval, hE.P, zz, f1, f3]
      exact ⟨V.f.length - (i + 1), by omega, i + 1, rfl, by omega, by rw [wr64 (by omega) (by omega)]; rfl, all_step hlt hall hp⟩
    ·have hge : i = V.f.length := by have : ¬ i < V.f.length := by simpa using hb
                                     omega
     rw [hge, List.take_length] at hall
     have hri : fewV V = true := by simp only [fewV, hno, decide_true, hall]; rfl
     clear hb hge hall
     simp only [push_cast, seval, hE.P, zz, f1, f3, g0, hW.nb0]
     refine (partsR_at hE w0 (hG.keep k0) hV).mono ?_
     rintro v h2 ⟨G', cs, hs, hr, hx⟩
     obtain ⟨a, cap, rfl, hc1, hc2⟩ := hs.slice
     simp only [push_cast, seval, hE.P, zz, f1]
     refine wpc_loop (fun m tm h' => ∃ i : Nat, m = V.parts.length - i ∧ i ≤ V.parts.length ∧ fget tm 5 = .int .i64 i ∧ fget tm 4 = .slice a V.parts.length cap ∧
      (V.parts.take i).all (allV fewV) = true ∧ Keep h h' ∧ Keep h2 h' ∧ WF E h') V.parts.length ?_ ?_
     ·simp only [push_cast, seval, hE.P, zz]
      exact ⟨0, by omega, by omega, rfl, by simp, k0.trans hx.keep, Keep.refl _, hx.wf⟩
     ·clear f1 f3
      rintro m tm h' ⟨i, rfl, hi, f5, f4, hall, hkeep, hkeep2, hw⟩
      simp only [push_cast, seval, hE.P, zz, f5, f4]
      refine kif_split (fun hb => ?_) (fun hb => ?_)
      ·have hlt : i < V.parts.length := by simpa using hb
       obtain ⟨b, c, e1, hsp, hac⟩ := hs.elem (hx.frz.keep hkeep2) hlt
       injection e1 with e1 e2 e3
       subst e1; subst e3
       have hrc := hr.at i V.parts[i] (by simp [hlt])
       have hmem : V.parts[i] ∈ V.parts := by simp
       simp only [push_cast, seval, hE.P, zz, f5, f4]
       rw [ia22 hsp (by omega) (by omega), kpure_some]
       simp only [push_cast, seval, hE.P, zz, f5, f4, ↓hac]
       refine (ih V.parts[i] (by have := parts_sz (v := V) hmem; omega) hw (hx.frz.keep hkeep2) hrc).mono ?_
       rintro v h3 ⟨rfl, hk3, hw3⟩
       simp only [push_cast, seval, hE.P, zz, f5, f4]
       refine kif_split (fun hb => ?_) (fun hb => ?_)
       ·have hf : allV fewV V.parts[i] = false := by simpa using hb
        simp only [push_cast, seval, hE.P, zz]
        refine ⟨?_, hkeep.trans hk3, hw3⟩
        rw [allV_eq, all_stop hlt hf, Bool.and_false]
       ·have hf : allV fewV V.parts[i] = true := by simpa using hb
        simp only [push_cast, seval, hE.P, zz, f5, f4]
        exact ⟨V.parts.length - (i + 1), by omega, i + 1, rfl, by omega, by rw [wr64 (by omega) (by omega)]; rfl, all_step hlt hall hf, hkeep.trans hk3, hkeep2.trans hk3, hw3⟩
      ·have hge : i = V.parts.length := by have : ¬ i < V.parts.length := by simpa using hb
                                           omega
       subst hge
       simp only [push_cast, seval, hE.P, zz, f5, f4]
       rw [List.take_length] at hall
       exact ⟨by rw [allV_eq, hri, hall]; rfl, hkeep, hw⟩
end Go.Proofs.YthfopcdammlmfaaGreatDoor
namespace Go.Tm
theorem kwv_ownX {E : Env} {h : Heap} {t t1 e z by_ lo n m : Nat} {cs xs : List Value} {v x : Value} {d : Option Nat} {R : Cont} {tm : Tr Value} (T : Elem E t e z by_) (ht : E.P.underlying t1 = some .string) (hW : WF E h) (hlo : lo ≤ h.next) (H : Own h e z lo n cs v)
 (hm : alenOf x = some m) (h0 : 0 < m) (hx : asrc E h z x m = some xs) (hl : xs.length = m * z) (ho : xs.all Value.oneCell' = true)
 (hb : (n + m) * by_ ≤ 140737488355328) (hn : n + m ≤ 9223372036854775807)
 (K : ∀ v' h', Own h' e z lo (n + m) (cs ++ xs) v' → KeepLo lo h h' → WF E h' → R (aput tm d v') h') : kwv (aappend E h t t1 v x) d R tm h := by
 have : aappend E h t t1 v x = aappend E h t t v x := by
  unfold aappend
  rw [ht, T.und]
  cases v <;> cases alenOf x <;> rfl
 rw [this]
 exact kwv_own T hW hlo H hm h0 hx hl ho hb hn K
theorem kwv_ownT {E : Env} {h : Heap} {t t1 e by_ lo n : Nat} {cs : List Value} {v : Value} {s : ByteArray} {d : Option Nat} {R : Cont} {tm : Tr Value} (T : Elem E t e 1 by_) (ht : E.P.underlying t1 = some .string) (hW : WF E h) (hlo : lo ≤ h.next) (H : Own h e 1 lo n cs v)
 (hb : (n + s.size) * by_ ≤ 140737488355328) (hn : n + s.size ≤ 9223372036854775807)
 (K : ∀ v' h', Own h' e 1 lo (n + s.size) (cs ++ (strB s).map fun x : Nat => Value.int .u8 (x : Int)) v' → KeepLo lo h h' → WF E h' → R (aput tm d v') h') : kwv (aappend E h t t1 v (.string s)) d R tm h := by
 by_cases h0 : s.size = 0
 ·obtain ⟨i, hi, hiz⟩ : ∃ i, E.P.info? e = some i ∧ (i.size, i.bytes) = (1, by_) := by
   have := T.info
   rw [Option.map_eq_some_iff] at this
   exact this
  have hs : ∃ base sCap, v = .slice base n sCap ∧ n ≤ sCap := by
   rcases H with ⟨rfl, rfl, rfl⟩ | ⟨b, cap, rest, fx, rfl, _, _, _, h3, _⟩
   ·exact ⟨_, _, rfl, by omega⟩
   ·exact ⟨_, _, rfl, h3⟩
  obtain ⟨base, sCap, rfl, hle⟩ := hs
  have hb : strB s = [] := by
   have := strB_len s
   exact List.eq_nil_of_length_eq_zero (by omega)
  refine ⟨(.slice base n sCap, h), ?_, K _ _ (by rw [h0, hb]; simpa using H) (KeepLo.refl _ _) hW⟩
  simp only [aappend, T.und, ht, alenOf, isIntD, Bool.false_eq_true, if_false, hi, h0]
  unfold aappendE
  rw [if_pos ⟨rfl, hle⟩]
 ·refine kwv_ownX T ht hW hlo H (m := s.size) rfl (by omega) (xs := (strB s).map fun x : Nat => Value.int .u8 (x : Int)) ?_ ?_ ?_ hb hn K
  ·simp only [asrc]
   rw [List.take_of_length_le (by simp)]
   unfold strB
   rw [List.map_map]; rfl
  ·simp [strB_len]
  ·rw [List.all_map, List.all_eq_true]; intro x _; rfl
end Go.Tm
namespace Go.Proofs.YthfopcdammlmfaaGreatDoor
open Go.Tm
theorem u8s_app (a b : List Nat) : u8s (a ++ b) = u8s a ++ u8s b := by simp [u8s]
variable {E : Env} (hE : EOk E)
include hE
theorem depthR_at : ∀ (n : Nat) (V : Vl), V.sz ≤ n → n ≤ 1000000 → ∀ {G : Mem} {h : Heap}, WF E h → Frz E G h → ∀ {c : List Value}, Rep E G V c →
 CallsTo E 47 [.agg c.toArray] h fun v h' => v = .int .i64 (depthV V) ∧ Keep h h' ∧ WF E h' := by
 intro n
 induction n with
 | zero => intro V hn; have := sz_eq V; omega
 | succ n ih =>
   intro V hn hn2 G h hW hG c hV
   obtain ⟨sl, sf, cl, cf, rfl, hsl, hsf, hl, hf, hb1, hb2, hb3⟩ := hV.cells
   refine en hE Tryz.func47 rfl rfl Tryz.ntmps47 rfl (by decide +kernel) (rs := [.tmp 2]) rfl ?_
   simp only [push_cast, seval, hE.P, zz, hW.nb, hW.nb0]
   refine kguard_cut (fun tm h' => fget tm 1 = .pointer (some ⟨h.next, 0, none⟩) ∧ fget tm 13 = .bool (V.k != 5 && V.k != 6) ∧ h' = h.push (.cells [.int .i64 V.k, .int .i64 V.n, .string V.s, sl, sf] 25 true)) ?_ ?_
   rotate_left
   ·repeat' (first | (refine kguard_splitF (fun hb => ?_) (fun hb => ?_) <;> simp only [push_cast, seval, hE.P, zz, hb, hW.nb, hW.nb0]) | (refine kguard_splitT (fun hb => ?_) (fun hb => ?_) <;> simp only [push_cast, seval, hE.P, zz, hb, hW.nb, hW.nb0]))
   ·rintro tm h' ⟨f1, f13, rfl⟩
    simp only [push_cast, seval, hE.P, zz, f1, f13]
    refine kif_split (fun hb => ?_) (fun hb => ?_)
    ·have hk : ¬ (V.k = 5 ∨ V.k = 6) := by
      have : V.k ≠ 5 ∧ V.k ≠ 6 := by simpa using hb
      omega
     simp only [push_cast, seval, hE.P, zz, f1, f13]
     refine ⟨?_, (Keep.refl h).push hW, hW.push _⟩
     rw [depthV_eq, if_neg hk]
    ·have hk : V.k = 5 ∨ V.k = 6 := by
      have : V.k ≠ 5 → V.k = 6 := by simpa using hb
      omega
     simp only [push_cast, seval, hE.P, zz, f1, f13, hW.nb, hW.nb0]
     refine (partsR_at hE (hW.push _) (hG.keep ((Keep.refl h).push hW)) hV).mono ?_
     rintro v h2 ⟨G', cs, hs, hr, hx⟩
     obtain ⟨a, cap, rfl, hc1, hc2⟩ := hs.slice
     simp only [push_cast, seval, hE.P, zz, f1, hW.nb, hW.nb0]
     refine wpc_loop (fun m tm h' => ∃ i : Nat, m = V.parts.length - i ∧ i ≤ V.parts.length ∧ fget tm 5 = .int .i64 i ∧ fget tm 4 = .slice a V.parts.length cap ∧
      fget tm 3 = .int .i64 (maxL ((V.parts.take i).map depthV)) ∧ Keep h h' ∧ Keep h2 h' ∧ WF E h') V.parts.length ?_ ?_
     ·simp only [push_cast, seval, hE.P, zz]
      exact ⟨0, by omega, by omega, rfl, by simp [maxL], Keep.trans ((Keep.refl h).push hW) hx.keep, Keep.refl _, hx.wf⟩
     ·rintro m tm h' ⟨i, rfl, hi, f5, f4, f3, hkeep, hkeep2, hw⟩
      simp only [push_cast, seval, hE.P, zz, f5, f4, f3]
      refine kif_split (fun hb => ?_) (fun hb => ?_)
      ·have hlt : i < V.parts.length := by simpa using hb
       obtain ⟨b, c, e1, hsp, hac⟩ := hs.elem (hx.frz.keep hkeep2) hlt
       injection e1 with e1 e2 e3
       subst e1; subst e3
       have hrc := hr.at i V.parts[i] (by simp [hlt])
       simp only [push_cast, seval, hE.P, zz, f5, f4, f3]
       rw [ia22 hsp (by omega) (by omega), kpure_some]
       simp only [push_cast, seval, hE.P, zz, f5, f4, f3, ↓hac]
       have hps := parts_sz (v := V) (x := V.parts[i]) (by simp)
       refine (ih V.parts[i] (by omega) (by omega) hw (hx.frz.keep hkeep2) hrc).mono ?_
       rintro v h3 ⟨rfl, hk3, hw3⟩
       simp only [push_cast, seval, hE.P, zz, f5, f4, f3]
       refine ⟨V.parts.length - (i + 1), by omega, i + 1, rfl, by omega, by rw [wr64 (by omega) (by omega)]; rfl, ?_, hkeep.trans hk3, hkeep2.trans hk3, hw3⟩
       rw [List.take_succ_eq_append_getElem hlt, List.map_append, List.map_cons, List.map_nil, maxL_snoc _ _ (depthV_bd _ _ (Nat.le_refl _)).1]
      ·have hge : i = V.parts.length := by have : ¬ i < V.parts.length := by simpa using hb
                                           omega
       subst hge
       rw [List.take_length] at f3
       simp only [push_cast, seval, hE.P, zz, f5, f4, f3]
       have hbd := depthV_bd V.sz V (Nat.le_refl _)
       have he := depthV_eq V
       rw [if_pos hk] at he
       refine ⟨?_, hkeep, hw⟩
       rw [wr64 (by omega) (by omega)]
       exact congrArg _ (by omega)
theorem zigR_at {h : Heap} {n : Int} (h0 : -9223372036854775808 ≤ n) (h1 : n ≤ 9223372036854775807) : CallsTo E 89 [.int .i64 n] h fun v h' => v = .int .u64 (turnedN n) ∧ h' = h := by
 refine en hE Tryz.func89 rfl rfl Tryz.ntmps89 rfl (by decide +kernel) (rs := [.tmp 2]) rfl ?_
 simp only [push_cast, seval, hE.P, zz]
 refine kif_split (fun hb => ?_) (fun hb => ?_)
 ·have hn : n < 0 := by simpa using hb
  simp only [push_cast, seval, hE.P, zz]
  refine congrArg _ ?_
  unfold turnedN
  rw [if_pos hn, wr64 (x := n + 1) (by omega) (by omega)]
  rw [wr64 (x := 0 - (n + 1)) (by omega) (by omega), wru64 (x := 0 - (n + 1)) (by omega) (by omega), wru64 (x := 2 * (0 - (n + 1))) (by omega) (by omega), wru64 (by omega) (by omega)]
  omega
 ·have hn : ¬ n < 0 := by simpa using hb
  simp only [push_cast, seval, hE.P, zz]
  refine congrArg _ ?_
  unfold turnedN
  rw [if_neg hn, wru64 (x := n) (by omega) (by omega), wru64 (by omega) (by omega)]
  omega
theorem varintR_at {h : Heap} (hW : WF E h) {n : Nat} (hn : n < 18446744073709551616) : CallsTo E 88 [.int .u64 n] h fun v h' => Own h' 5 1 h.next (varB n).length (u8s (varB n)) v ∧ Keep h h' ∧ WF E h' := by
 refine en hE Tryz.func88 rfl rfl Tryz.ntmps88 rfl (by decide +kernel) (rs := [.tmp 2]) rfl ?_
 simp only [push_cast, seval, hE.P, zz]
 refine wpc_loop (fun m tm h' => fget tm 0 = .int .u64 m ∧ (∃ l : List Nat, l ++ varB m = varB n ∧ Own h' 5 1 h.next l.length (u8s l) (fget tm 3)) ∧ m < 18446744073709551616 ∧ KeepLo h.next h h' ∧ WF E h') n ?_ ?_
 ·simp only [push_cast, seval, hE.P, zz]
  exact ⟨⟨[], rfl, Own.nil _ _ _ _⟩, hn, KeepLo.refl _ _, hW⟩
 ·rintro m tm h' ⟨f0, ⟨l, hl, hown⟩, hm, hk, hw⟩
  obtain ⟨x3, f3⟩ : ∃ v, fget tm 3 = v := ⟨_, rfl⟩
  rw [f3] at hown
  have := hk.next
  have hlen := congrArg List.length hl
  have hd1 := varB_len n
  have hd2 := digitsN_10 hn
  rw [List.length_append] at hlen
  simp only [push_cast, seval, hE.P, zz, f0, f3]
  refine kif_split (fun hb => ?_) (fun hb => ?_)
  ·have hge : 128 ≤ m := by have : (m : Int) ≥ 128 := by simpa using hb
                            omega
   simp only [push_cast, seval, hE.P, zz, f0, f3]
   rw [show IntKind.u8.wrap (IntKind.u8.wrap ((m : Int).tmod 128) + 128) = ((m % 128 + 128 : Nat) : Int) by rw [Int.tmod_eq_emod_of_nonneg (by omega), IntKind.wrap_u8, IntKind.wrap_u8]; omega]
   rw [bs66 rfl, kalloc_some]
   simp only [push_cast, seval, hE.P, zz, f0, f3]
   refine kwv_own1 (el66 hE.P) hw (lo := h.next) (by omega) hown rfl rfl (by omega) (by omega) ?_
   intro v' h2 hown2 hk2 hw2
   simp only [push_cast, seval, hE.P, zz, f0, f3]
   refine ⟨m / 128, by omega, ?_, ⟨l ++ [m % 128 + 128], ?_, ?_⟩, by omega, hk.trans hk2, hw2⟩
   ·rw [Int.tdiv_eq_ediv_of_nonneg (by omega), wru64 (by omega) (by omega)]; rfl
   ·rw [← hl, varB_eq m, if_neg (by omega)]; simp
   ·rw [List.length_append, u8s_app]; exact hown2
  ·have hlt : m < 128 := by have : ¬ (m : Int) ≥ 128 := by simpa using hb
                            omega
   simp only [push_cast, seval, hE.P, zz, f0, f3]
   rw [show IntKind.u8.wrap (m : Int) = ((m : Nat) : Int) by rw [IntKind.wrap_u8]; omega]
   rw [bs66 rfl, kalloc_some]
   simp only [push_cast, seval, hE.P, zz, f0, f3]
   refine kwv_own1 (el66 hE.P) hw (lo := h.next) (by omega) hown rfl rfl (by omega) (by omega) ?_
   intro v' h2 hown2 hk2 hw2
   simp only [push_cast, seval, hE.P, zz, f0, f3]
   rw [varB_eq m, if_pos hlt] at hl
   refine ⟨?_, (hk.trans hk2).keep hW (Nat.le_refl _), hw2⟩
   rw [← hl, List.length_append, u8s_app]; exact hown2
end Go.Proofs.YthfopcdammlmfaaGreatDoor
