/- The reference's shape of a value. -/
import Derived.Test.YthfopcdammlmfaaGreatDoorF1
set_option maxRecDepth 10000
set_option linter.all false
set_option linter.unusedSimpArgs false
set_option linter.unusedVariables false
namespace Go.Tm
def badV (v : Vl) : Bool := decide (v.k < 1) || decide (v.k > 6) || (v.k != 2 && v.k != 3 && v.n != 0) || (v.k == 2 && v.n != 0 && v.n != 1) || (v.k != 4 && !(v.s.data.toList == [])) || (v.k != 5 && decide ((v.l.length : Int) > 0)) || (v.k != 6 && decide ((v.f.length : Int) > 0))
theorem formed_bad (v : Vl) : formedV v = (!badV v && rise (v.f.map (·.1))) := by
 unfold formedV badV
 generalize decide (v.k < 1) = a
 generalize decide (v.k > 6) = b
 generalize (v.k != 2 && v.k != 3 && v.n != 0) = c
 generalize (v.k == 2 && v.n != 0 && v.n != 1) = d
 generalize (v.k != 4 && !(v.s.data.toList == [])) = e
 generalize (v.k != 5 && decide ((v.l.length : Int) > 0)) = f
 generalize (v.k != 6 && decide ((v.f.length : Int) > 0)) = g
 generalize rise (v.f.map (·.1)) = r
 cases a <;> cases b <;> cases c <;> cases d <;> cases e <;> cases f <;> cases g <;> rfl
end Go.Tm
namespace Go.Proofs.YthfopcdammlmfaaGreatDoor
open Go.Tm
variable {E : Env} (hE : EOk E)
include hE
set_option maxHeartbeats 4000000 in
theorem shapeR_at : ∀ (n : Nat) (V : Vl), V.sz ≤ n → ∀ {G : Mem} {h : Heap}, WF E h → Frz E G h → ∀ {c : List Value}, Rep E G V c →
 CallsTo E 44 [.agg c.toArray] h fun v h' => v = .bool (allV formedV V) ∧ Keep h h' ∧ WF E h' := by
 intro n
 induction n with
 | zero => intro V hn; have := sz_eq V; omega
 | succ n ih =>
   intro V hn G h hW hG c hV
   obtain ⟨sl, sf, cl, cf, rfl, hsl, hsf, hl, hf, hb1, hb2, hb3⟩ := hV.cells
   obtain ⟨a2, cap2, rfl, _, _⟩ := hsl.slice
   obtain ⟨a3, cap3, rfl, _, _⟩ := hsf.slice
   refine en hE Tryz.func44 rfl rfl Tryz.ntmps44 rfl (by decide +kernel) (rs := [.tmp 2]) rfl ?_
   simp only [push_cast, seval, hE.P, zz, hW.nb, hW.nb0]
   simp only [List.append]
   simp only [push_cast, seval, hE.P, zz, hW.nb, hW.nb0]
   refine kguard_cut (fun tm h' => fget tm 1 = .pointer (some ⟨h.next, 0, none⟩) ∧ fget tm 75 = .bool (badV V) ∧ h' = h.push (.cells [.int .i64 V.k, .int .i64 V.n, .string V.s, .slice a2 V.l.length cap2, .slice a3 V.f.length cap3] 25 true)) ?_ ?_
   rotate_left
   ·unfold badV
    clear hV hsl hsf hl hf
    generalize V.k = k at *
    generalize V.n = n at *
    generalize V.s = s at *
    generalize V.l.length = nl at *
    generalize V.f.length = nf at *
    by_cases h1 : k < 1
    ·simp only [push_cast, seval, hE.P, zz, h1, decide_true, hW.nb, hW.nb0]
    by_cases h6 : 6 < k
    ·have e1 : decide (k < 1) = false := by simp [h1]
     have e6 : decide (k > 6) = true := by simp [h6]
     simp only [push_cast, seval, hE.P, zz, e1, e6, hW.nb, hW.nb0]
    have hk : k = 1 ∨ k = 2 ∨ k = 3 ∨ k = 4 ∨ k = 5 ∨ k = 6 := by omega
    rcases hk with rfl | rfl | rfl | rfl | rfl | rfl
    all_goals
     simp only [push_cast, seval, hE.P, zz, decide_true, decide_false, hW.nb, hW.nb0]
     repeat' (first | (refine kguard_splitF (fun hb => ?_) (fun hb => ?_) <;> simp only [push_cast, seval, hE.P, zz, hb, hW.nb, hW.nb0]) | (refine kguard_splitT (fun hb => ?_) (fun hb => ?_) <;> simp only [push_cast, seval, hE.P, zz, hb, hW.nb, hW.nb0]))
    all_goals simp [*]
   ·rintro tm h' ⟨f1, f75, rfl⟩
    have hfo := formed_bad V
    have w0 : WF E (h.push (.cells [.int .i64 V.k, .int .i64 V.n, .string V.s, .slice a2 V.l.length cap2, .slice a3 V.f.length cap3] 25 true)) := hW.push _
    have g0 : (h.push (.cells [.int .i64 V.k, .int .i64 V.n, .string V.s, .slice a2 V.l.length cap2, .slice a3 V.f.length cap3] 25 true)).get h.next = some (.cells [.int .i64 V.k, .int .i64 V.n, .string V.s, .slice a2 V.l.length cap2, .slice a3 V.f.length cap3] 25 true) := by simp only [get_push, if_true]
    have k0 : Keep h (h.push (.cells [.int .i64 V.k, .int .i64 V.n, .string V.s, .slice a2 V.l.length cap2, .slice a3 V.f.length cap3] 25 true)) := (Keep.refl h).push hW
    generalize h.push (.cells [.int .i64 V.k, .int .i64 V.n, .string V.s, .slice a2 V.l.length cap2, .slice a3 V.f.length cap3] 25 true) = H at *
    simp only [push_cast, seval, hE.P, zz, f1, f75]
    refine kif_split (fun hb => ?_) (fun hb => ?_)
    ·have hf : formedV V = false := by rw [hfo, hb]; rfl
     simp only [push_cast, seval, hE.P, zz]
     exact ⟨by rw [allV_eq, hf]; rfl, k0, w0⟩
    rw [hb, Bool.not_false, Bool.true_and] at hfo
    simp only [push_cast, seval, hE.P, zz, f1]
    refine wpc_loop (fun m tm h' => ∃ i : Nat, m = V.f.length - i ∧ 1 ≤ i ∧ fget tm 1 = .pointer (some ⟨h.next, 0, none⟩) ∧ fget tm 3 = .int .i64 i ∧ rise ((V.f.map (·.1)).drop (i - 1)) = rise (V.f.map (·.1)) ∧ i ≤ V.f.length + 1 ∧ h' = H) (V.f.length - 1) ?_ ?_
    ·simp only [push_cast, seval, hE.P, zz, f1]
     exact ⟨1, by omega, by omega, rfl, by simp, by omega⟩
    ·clear f1 f75
     rintro m tm h' ⟨i, rfl, h1i, f1, f3, hr, hi, rfl⟩
     simp only [push_cast, seval, hE.P, zz, f1, f3, g0, hW.nb0]
     refine kif_split (fun hb => ?_) (fun hb => ?_)
     ·have hlt : i < V.f.length := by simpa using hb
      simp only [push_cast, seval, hE.P, zz, f1, f3]
      refine wdraw_calm (by rw [hE.P]; decide +kernel) ?_
      obtain ⟨b, c, e1, hsp, hac⟩ := hsf.elem (hG.keep k0) hlt
      obtain ⟨b', c', e1', hsp', hac'⟩ := hsf.elem (hG.keep k0) (i := i - 1) (by omega)
      injection e1 with e1 e2 e3
      subst e1; subst e3
      injection e1' with e1' e2' e3'
      injection e1' with e1'
      subst e1'; subst e3'
      obtain ⟨c1, hc1, _⟩ := hf.at i V.f[i].1 V.f[i].2 (by simp [hlt])
      obtain ⟨c2, hc2, _⟩ := hf.at (i - 1) V.f[i - 1].1 V.f[i - 1].2 (List.getElem?_eq_getElem (by omega))
      rw [hc1] at hac
      rw [hc2] at hac'
      have n1 := acells_part hac 0 1 (by omega)
      have n2 := acells_part hac' 0 1 (by omega)
      simp only [Nat.add_zero, List.drop_zero, List.take_succ_cons, List.take_zero] at n1 n2
      simp only [push_cast, seval, hE.P, zz, f1, f3, g0, hW.nb0]
      rw [show IntKind.i64.wrap ((i : Int) - 1) = ((i - 1 : Nat) : Int) by rw [wr64 (by omega) (by omega)]; omega]
      rw [ia23 hsp (by omega) (by omega), kpure_some]
      simp only [push_cast, seval, hE.P, zz, f1, f3, g0, hW.nb0, ↓n1, ↓n2]
      rw [ia23 hsp (by omega) (by omega), kpure_some]
      simp only [push_cast, seval, hE.P, zz, f1, f3, g0, hW.nb0, ↓n1, ↓n2]
      have hdrop : (V.f.map (·.1)).drop (i - 1) = V.f[i - 1].1 :: V.f[i].1 :: (V.f.map (·.1)).drop (i + 1) := by
       rw [List.drop_eq_getElem_cons (by simp; omega)]
       congr 1
       ·simp
       ·rw [show i - 1 + 1 = i by omega, List.drop_eq_getElem_cons (by simp; omega)]
        simp
      have hdrop2 : (V.f.map (·.1)).drop i = V.f[i].1 :: (V.f.map (·.1)).drop (i + 1) := by
       rw [List.drop_eq_getElem_cons (by simp; omega)]
       simp
      rw [hdrop] at hr
      simp only [rise] at hr
      refine kif_split (fun hb4 => ?_) (fun hb4 => ?_)
      ·simp only [push_cast, seval, hE.P, zz, f1, f3]
       refine ⟨?_, k0, w0⟩
       have : bslt V.f[i - 1].1.data.toList V.f[i].1.data.toList = false := by simpa using hb4
       rw [this, Bool.false_and] at hr
       rw [allV_eq, hfo, ← hr]; rfl
      ·simp only [push_cast, seval, hE.P, zz, f1, f3]
       have : bslt V.f[i - 1].1.data.toList V.f[i].1.data.toList = true := by simpa using hb4
       rw [this, Bool.true_and] at hr
       refine ⟨V.f.length - (i + 1), by omega, i + 1, rfl, by omega, by rw [wr64 (by omega) (by omega)]; rfl, ?_, by omega⟩
       rw [Nat.add_sub_cancel, hdrop2]; exact hr
     ·have hge : V.f.length ≤ i := by have : ¬ i < V.f.length := by simpa using hb
                                      omega
      have hri : formedV V = true := by
       rw [hfo, ← hr]
       have hlen : ((V.f.map (·.1)).drop (i - 1)).length ≤ 1 := by simp; omega
       match hd : (V.f.map (·.1)).drop (i - 1), hlen with
       | [], _ => rfl
       | [x], _ => rfl
       | x :: y :: r, hl => simp at hl
      clear hr hb
      simp only [push_cast, seval, hE.P, zz, f1, f3, g0, hW.nb0]
      refine (partsR_at hE w0 (hG.keep k0) hV).mono ?_
      rintro v h2 ⟨G', cs, hs, hr, hx⟩
      obtain ⟨a, cap, rfl, hc1, hc2⟩ := hs.slice
      simp only [push_cast, seval, hE.P, zz, f1]
      refine wpc_loop (fun m tm h' => ∃ i : Nat, m = V.parts.length - i ∧ i ≤ V.parts.length ∧ fget tm 5 = .int .i64 i ∧ fget tm 4 = .slice a V.parts.length cap ∧
       (V.parts.take i).all (allV formedV) = true ∧ Keep h h' ∧ Keep h2 h' ∧ WF E h') V.parts.length ?_ ?_
      ·simp only [push_cast, seval, hE.P, zz]
       exact ⟨0, by omega, by omega, rfl, by simp, k0.trans hx.keep, Keep.refl _, hx.wf⟩
      ·rintro m tm h' ⟨i, rfl, hi, f5, f4, hall, hkeep, hkeep2, hw⟩
       simp only [push_cast, seval, hE.P, zz, f5, f4]
       refine kif_split (fun hb => ?_) (fun hb => ?_)
       ·have hlt : i < V.parts.length := by simpa using hb
        obtain ⟨b, c, e1, hsp, hac⟩ := hs.elem (hx.frz.keep hkeep2) hlt
        injection e1 with e1 e2 e3
        subst e1; subst e3
        have hrc := hr.at i V.parts[i] (by simp [hlt])
        simp only [push_cast, seval, hE.P, zz, f5, f4]
        rw [ia22 hsp (by omega) (by omega), kpure_some]
        simp only [push_cast, seval, hE.P, zz, f5, f4, ↓hac]
        refine (ih V.parts[i] (by have := parts_sz (v := V) (x := V.parts[i]) (by simp); omega) hw (hx.frz.keep hkeep2) hrc).mono ?_
        rintro v h3 ⟨rfl, hk3, hw3⟩
        simp only [push_cast, seval, hE.P, zz, f5, f4]
        refine kif_split (fun hb => ?_) (fun hb => ?_)
        ·have hf : allV formedV V.parts[i] = false := by simpa using hb
         simp only [push_cast, seval, hE.P, zz]
         refine ⟨?_, hkeep.trans hk3, hw3⟩
         rw [allV_eq]
         have : V.parts.all (allV formedV) = false := by
          rw [List.all_eq_false]
          exact ⟨V.parts[i], by simp, by simp [hf]⟩
         rw [this]; simp
        ·have hf : allV formedV V.parts[i] = true := by simpa using hb
         simp only [push_cast, seval, hE.P, zz, f5, f4]
         refine ⟨V.parts.length - (i + 1), by omega, i + 1, rfl, by omega, by rw [wr64 (by omega) (by omega)]; rfl, ?_, hkeep.trans hk3, hkeep2.trans hk3, hw3⟩
         rw [List.take_succ_eq_append_getElem hlt, List.all_append, hall]
         simp [hf]
       ·have hge : i = V.parts.length := by have : ¬ i < V.parts.length := by simpa using hb
                                            omega
        subst hge
        simp only [push_cast, seval, hE.P, zz, f5, f4]
        rw [List.take_length] at hall
        exact ⟨by rw [allV_eq, hri, hall]; rfl, hkeep, hw⟩
end Go.Proofs.YthfopcdammlmfaaGreatDoor
