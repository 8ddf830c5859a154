/- The reference's words and objects of a value. -/
/- Merged by a program of ours: Y16 W1. -/
import Derived.Test.YthfopcdammlmfaaGreatDoorD4
import Derived.Test.YthfopcdammlmfaaGreatDoorB2
import Derived.Test.YthfopcdammlmfaaGreatDoorF3
set_option maxRecDepth 10000
set_option linter.all false
set_option linter.unusedSimpArgs false
set_option linter.unusedVariables false
/- How much room a good value takes; parts of good values. -/
namespace Go.Proofs.YthfopcdammlmfaaGreatDoor
open Go.Tm
theorem room_le : ∀ (n : Nat) (V : Vl), V.sz ≤ n → allV formedV V = true → wordsV V + 1 ≤ 4 * sizeV V ∧ objsV V ≤ sizeV V := by
 intro n
 induction n with
 | zero => intro V hn; have := sz_eq V; omega
 | succ n ih =>
   intro V hn hF
   rw [allV_eq, Bool.and_eq_true, List.all_eq_true] at hF
   obtain ⟨fl, ff, k1, k6⟩ := formed_l hF.1
   rw [wordsV_eq, objsV_eq, sizeV_eq]
   unfold headV baseW
   by_cases e5 : V.k = 5
   ·have hp : V.parts = V.l := by simp [Vl.parts, e5]
    have hd := digitsN_pos V.l.length
    have ih' := fun x (hx : x ∈ V.l) => ih x (by have := l_sz hx; omega) (hF.2 x (by rw [hp]; exact hx))
    have a1 : (V.l.map fun x => 1 + wordsV x).sum ≤ (V.l.map fun x => 4 * sizeV x).sum := sum_mono fun x hx => by have := ih' x hx; omega
    have a2 : (V.l.map fun x => objsV x).sum ≤ (V.l.map sizeV).sum := sum_mono fun x hx => (ih' x hx).2
    have a3 : (V.l.map fun x => 4 * sizeV x).sum = 4 * (V.l.map sizeV).sum := by
     generalize V.l = l
     induction l with
     | nil => simp
     | cons x l ih => simp only [List.map_cons, List.sum_cons, ih]; omega
    rw [hp, ff (by omega)]
    simp [e5]
    omega
   ·rw [fl e5]
    by_cases e6 : V.k = 6
    ·have hp : V.parts = V.f.map (·.2) := by simp [Vl.parts, e6]
     have hd := digitsN_pos V.f.length
     have ih' := fun x (hx : x ∈ V.f) => ih x.2 (by have := f_sz hx; omega) (hF.2 x.2 (by rw [hp]; exact List.mem_map.2 ⟨x, hx, rfl⟩))
     have a1 : (V.f.map fun x => 3 + textW x.1 + wordsV x.2).sum ≤ (V.f.map fun x => 4 * (digitsN x.1.size + (x.1.size : Int)) + 4 * sizeV x.2).sum := sum_mono fun x hx => by
      have := ih' x hx; have := digitsN_pos x.1.size; unfold textW; omega
     have a2 : (V.f.map fun x => 1 + objsV x.2).sum ≤ (V.f.map fun x => (digitsN x.1.size + (x.1.size : Int)) + sizeV x.2).sum := sum_mono fun x hx => by
      have := (ih' x hx).2; have := digitsN_pos x.1.size; omega
     have a3 : (V.f.map fun x => 4 * (digitsN x.1.size + (x.1.size : Int)) + 4 * sizeV x.2).sum = 4 * ((V.f.map fun x => digitsN x.1.size + (x.1.size : Int)).sum + (V.f.map fun x => sizeV x.2).sum) := by
      generalize V.f = l
      induction l with
      | nil => simp
      | cons x l ih => simp only [List.map_cons, List.sum_cons, ih]; omega
     have a4 : (V.f.map fun x => (digitsN x.1.size + (x.1.size : Int)) + sizeV x.2).sum = (V.f.map fun x => digitsN x.1.size + (x.1.size : Int)).sum + (V.f.map fun x => sizeV x.2).sum := by
      generalize V.f = l
      induction l with
      | nil => simp
      | cons x l ih => simp only [List.map_cons, List.sum_cons, ih]; omega
     have a5 : ((V.f.map fun x => x.2).map sizeV).sum = (V.f.map fun x => sizeV x.2).sum := by rw [List.map_map]; rfl
     rw [hp, a5]
     simp [e6]
     omega
    ·have hp : V.parts = [] := by simp [Vl.parts, e5, e6]
     rw [hp, ff e6]
     have h3 := digitsN_pos (turnedN V.n)
     have h4 := digitsN_pos V.s.size
     simp [e5, e6]
     by_cases e2 : V.k = 2
     ·simp [e2]
     ·by_cases e3 : V.k = 3
      ·simp [e3]; omega
      ·by_cases e4 : V.k = 4
       ·simp [e4]; unfold textW; omega
       ·simp [e2, e3, e4]
end Go.Proofs.YthfopcdammlmfaaGreatDoor
namespace Go.Proofs.YthfopcdammlmfaaGreatDoor
open Go.Tm
theorem sum_lenL (l : List Vl) : (l.map fun x => 1 + wordsV x).sum = (l.length : Int) + (l.map wordsV).sum := by
 induction l with
 | nil => simp
 | cons x l ih => simp only [List.map_cons, List.sum_cons, List.length_cons, ih]; omega
theorem sum_lenF (l : List (ByteArray × Vl)) : (l.map fun x => 3 + textW x.1 + wordsV x.2).sum = 2 * (l.length : Int) + (l.map fun x => wordsV x.2 + (1 + textW x.1)).sum := by
 induction l with
 | nil => simp
 | cons x l ih => simp only [List.map_cons, List.sum_cons, List.length_cons, ih]; omega
theorem formed_kinds {V : Vl} (h : formedV V = true) : (V.k ≠ 5 → V.l = []) ∧ (V.k ≠ 6 → V.f = []) := by
 simp only [formedV, Bool.and_eq_true, Bool.not_eq_true', Bool.or_eq_false_iff, Bool.and_eq_false_iff, decide_eq_false_iff_not, bne_eq_false_iff_eq] at h
 obtain ⟨⟨⟨_, _⟩, h1, h2⟩, _⟩ := h
 constructor
 ·intro hk
  rcases h1 with h1 | h1
  ·exact absurd h1 hk
  ·exact List.eq_nil_of_length_eq_zero (by omega)
 ·intro hk
  rcases h2 with h2 | h2
  ·exact absurd h2 hk
  ·exact List.eq_nil_of_length_eq_zero (by omega)
variable {E : Env} (hE : EOk E)
include hE
theorem textR_at {h : Heap} {s : ByteArray} (hs : s.size ≤ 140737488355328) : CallsTo E 48 [.string s] h fun v h' => v = .int .i64 (1 + textW s) ∧ h' = h := by
 refine en hE Tryz.func48 rfl rfl Tryz.ntmps48 rfl (by decide +kernel) (rs := [.tmp 2]) rfl ?_
 simp only [push_cast, seval, hE.P, zz]
 rw [wr64 (x := (s.size : Int) + 7) (by omega) (by omega), Int.tdiv_eq_ediv_of_nonneg (by omega), wr64 (x := ((s.size : Int) + 7) / 8) (by omega) (by omega), wr64 (by omega) (by omega)]
 exact congrArg _ (by unfold textW; omega)
theorem wordsR_at : ∀ (n : Nat) (V : Vl), V.sz ≤ n → n ≤ 10000 → allV formedV V = true → ∀ {G : Mem} {h : Heap}, WF E h → Frz E G h → ∀ {c : List Value}, Rep E G V c →
 CallsTo E 14 [.agg c.toArray] h fun v h' => v = .tuple #[.int .i64 (wordsV V), .int .i64 (objsV V)] ∧ Keep h h' ∧ WF E h' := by
 intro n
 induction n with
 | zero => intro V hn; have := sz_eq V; omega
 | succ n ih =>
   intro V hn hn2 hfm G h hW hG c hV
   have hbd := words_bd V.sz V (Nat.le_refl _) hV
   have obd := objs_bd V.sz V (Nat.le_refl _)
   have heq := wordsV_eq V
   have oeq := objsV_eq V
   rw [sum_lenL, sum_lenF] at heq
   have hfk := formed_kinds (allV_self hfm)
   have pl := sum_part V.l wordsV (fun x hx => by obtain ⟨c', hc'⟩ := hV.lpart hx; have := words_bd x.sz x (Nat.le_refl _) hc'; omega)
   have pf := sum_part V.f (fun x => wordsV x.2 + (1 + textW x.1)) (fun x hx => by obtain ⟨h1, c', hc'⟩ := hV.name hx; have := words_bd x.2.sz x.2 (Nat.le_refl _) hc'; have := textW_bd h1; omega)
   have ol := sum_part V.l (fun x => objsV x) (fun x hx => by have := objs_bd x.sz x (Nat.le_refl _); omega)
   have of' := sum_part V.f (fun x => 1 + objsV x.2) (fun x hx => by have := objs_bd x.2.sz x.2 (Nat.le_refl _); omega)
   have hVl : ∀ x ∈ V.l, allV formedV x = true := fun x hx => allV_part hfm (by
    have h5 : V.k = 5 := Classical.byContradiction fun hk => by rw [hfk.1 hk] at hx; cases hx
    simp [Vl.parts, h5, hx])
   have hVf : ∀ x ∈ V.f, allV formedV x.2 = true := fun x hx => allV_part hfm (by
    have h6 : V.k = 6 := Classical.byContradiction fun hk => by rw [hfk.2 hk] at hx; cases hx
    simp only [Vl.parts, h6]
    simp
    exact ⟨x.1, hx⟩)
   obtain ⟨sl, sf, cl, cf, rfl, hsl, hsf, hl, hf, hb1, hb2, hb3⟩ := hV.cells
   obtain ⟨a2, cap2, rfl, _, _⟩ := hsl.slice
   obtain ⟨a3, cap3, rfl, _, _⟩ := hsf.slice
   have htw := textW_bd hb1.1
   refine en hE Tryz.func14 rfl rfl Tryz.ntmps14 rfl (by decide +kernel) (rs := [.tmp 2, .tmp 3]) rfl ?_
   simp only [push_cast, seval, hE.P, zz, hW.nb, hW.nb0]
   have g0 : (h.push (.cells [.int .i64 V.k, .int .i64 V.n, .string V.s, .slice a2 V.l.length cap2, .slice a3 V.f.length cap3] 25 true)).get h.next = some (.cells [.int .i64 V.k, .int .i64 V.n, .string V.s, .slice a2 V.l.length cap2, .slice a3 V.f.length cap3] 25 true) := by simp only [get_push, if_true]
   have k0 : Keep h (h.push (.cells [.int .i64 V.k, .int .i64 V.n, .string V.s, .slice a2 V.l.length cap2, .slice a3 V.f.length cap3] 25 true)) := (Keep.refl h).push hW
   have w0 : WF E (h.push (.cells [.int .i64 V.k, .int .i64 V.n, .string V.s, .slice a2 V.l.length cap2, .slice a3 V.f.length cap3] 25 true)) := hW.push _
   generalize h.push (.cells [.int .i64 V.k, .int .i64 V.n, .string V.s, .slice a2 V.l.length cap2, .slice a3 V.f.length cap3] 25 true) = H at *
   refine kif_split (fun hb => ?_) (fun hb => ?_)
   ·have hk : V.k = 1 := by simpa using hb
    have e1 := hfk.1 (by omega)
    have e2 := hfk.2 (by omega)
    simp only [push_cast, seval, hE.P, zz]
    refine ⟨?_, k0, w0⟩
    rw [heq, oeq, e1, e2]
    simp [baseW, hk]
   have hk1 : V.k ≠ 1 := by simpa using hb
   simp only [push_cast, seval, hE.P, zz]
   refine kif_cutN (fun tm h' => fget tm 1 = .pointer (some ⟨h.next, 0, none⟩) ∧ fget tm 13 = .int .i64 V.k ∧ fget tm 16 = .bool (V.k == 2 || V.k == 3) ∧ h' = H) ?_ ?_
   rotate_left
   ·refine kif_split (fun hb => ?_) (fun hb => ?_)
    ·simp only [push_cast, seval, hE.P, zz, hb]
    ·simp only [push_cast, seval, hE.P, zz, hb]
   rintro tm h' ⟨f1, f13, f16, rfl⟩
   simp only [push_cast, seval, hE.P, zz, f16]
   refine kif_split (fun hb => ?_) (fun hb => ?_)
   ·have hk : V.k = 2 ∨ V.k = 3 := by simpa using hb
    have e1 := hfk.1 (by omega)
    have e2 := hfk.2 (by omega)
    simp only [push_cast, seval, hE.P, zz]
    refine ⟨?_, k0, w0⟩
    rw [heq, oeq, e1, e2]
    rcases hk with hk | hk <;> simp [baseW, hk]
   have hk2 : V.k ≠ 2 ∧ V.k ≠ 3 := by simpa using hb
   simp only [push_cast, seval, hE.P, zz, f13]
   refine kif_split (fun hb => ?_) (fun hb => ?_)
   ·have hk : V.k = 4 := by simpa using hb
    have e1 := hfk.1 (by omega)
    have e2 := hfk.2 (by omega)
    simp only [push_cast, seval, hE.P, zz, f1, g0, hW.nb0]
    refine (textR_at hE hb1.1).mono ?_
    rintro v h2 ⟨rfl, rfl⟩
    simp only [push_cast, seval, hE.P, zz]
    refine ⟨?_, k0, w0⟩
    rw [heq, oeq, e1, e2]
    simp [baseW, hk]
   have hk4 : V.k ≠ 4 := by simpa using hb
   have hbw : baseW V = 1 := by simp [baseW, hk2, hk4]
   rw [hbw] at heq
   clear hb hb1
   obtain ⟨nl, hnl⟩ : ∃ nl, nl = V.l.length := ⟨_, rfl⟩
   obtain ⟨nf, hnf⟩ : ∃ nf, nf = V.f.length := ⟨_, rfl⟩
   have pl0 := pl 0
   have pf0 := pf 0
   have eb : IntKind.i64.wrap (IntKind.i64.wrap ((1 : Int) + V.l.length) + IntKind.i64.wrap ((2 : Int) * V.f.length)) = 1 + (V.l.length : Int) + 2 * (V.f.length : Int) := by
    rw [wr64 (x := (1 : Int) + V.l.length) (by omega) (by omega), wr64 (x := (2 : Int) * V.f.length) (by omega) (by omega), wr64 (by omega) (by omega)]
   simp only [push_cast, seval, hE.P, zz, f1, g0, hW.nb0]
   rw [eb]
   refine wpc_loop (fun m tm h2 => ∃ i : Nat, m = V.l.length - i ∧ i ≤ V.l.length ∧ fget tm 1 = .pointer (some ⟨h.next, 0, none⟩) ∧ fget tm 6 = .int .i64 i ∧
    fget tm 4 = .int .i64 (1 + V.l.length + 2 * V.f.length + ((V.l.take i).map wordsV).sum) ∧ fget tm 5 = .int .i64 (1 + ((V.l.take i).map fun x => objsV x).sum) ∧ Keep h' h2 ∧ WF E h2) V.l.length ?_ ?_
   ·simp only [push_cast, seval, hE.P, zz, f1]
    exact ⟨0, by omega, by omega, rfl, by simp, by simp, Keep.refl _, w0⟩
   ·clear f1 f13 f16
    rintro m tm h2 ⟨i, rfl, hi, f1, f6, f4, f5, hk, hw⟩
    have g1 := hk.get _ _ g0
    simp only [push_cast, seval, hE.P, zz, f1, f6, g1, hW.nb0]
    have p1 := pl i
    have p2 := ol i
    have of0 := of' 0
    have szb : (V.sz : Int) ≤ 10000 := by omega
    refine kif_split (fun hb => ?_) (fun hb => ?_)
    ·have hlt : i < V.l.length := by simpa using hb
     obtain ⟨b, c, e1', hsp, hac⟩ := hsl.elem (hG.keep (k0.trans hk)) hlt
     injection e1' with e1' e2' e3'
     subst e1'; subst e3'
     have hrc := hl.at i V.l[i] (by simp [hlt])
     simp only [push_cast, seval, hE.P, zz, f1, f6, f4, f5, g1, hW.nb0]
     rw [ia22 hsp (by omega) (by omega), kpure_some]
     simp only [push_cast, seval, hE.P, zz, f1, f6, f4, f5, g1, hW.nb0, ↓hac]
     have hps := l_sz (v := V) (x := V.l[i]) (by simp)
     refine (ih V.l[i] (by omega) (by omega) (hVl _ (by simp)) hw (hG.keep (k0.trans hk)) hrc).mono ?_
     rintro v h3 ⟨rfl, hk3, hw3⟩
     simp only [push_cast, seval, hE.P, zz, f1, f6, f4, f5]
     have q1 := pl (i + 1)
     have q2 := ol (i + 1)
     rw [sum_step V.l _ hlt] at q1 q2
     have r1 := words_bd V.l[i].sz V.l[i] (Nat.le_refl _) hrc
     have r2 := objs_bd V.l[i].sz V.l[i] (Nat.le_refl _)
     refine ⟨V.l.length - (i + 1), by omega, i + 1, rfl, by omega, by rw [wr64 (by omega) (by omega)]; rfl, ?_, ?_, hk.trans hk3, hw3⟩
     ·rw [sum_step V.l _ hlt]
      rw [wr64 (by omega) (by omega)]
      exact congrArg _ (by omega)
     ·rw [sum_step V.l _ hlt, wr64 (by omega) (by omega)]
      exact congrArg _ (by omega)
    ·have hge : i = V.l.length := by have : ¬ i < V.l.length := by simpa using hb
                                     omega
     subst hge
     rw [List.take_length] at f4 f5 p1 p2
     simp only [push_cast, seval, hE.P, zz, f1, f6, f4, f5]
     refine wpc_loop (fun m tm h3 => ∃ i : Nat, m = V.f.length - i ∧ i ≤ V.f.length ∧ fget tm 1 = .pointer (some ⟨h.next, 0, none⟩) ∧ fget tm 9 = .int .i64 i ∧
      fget tm 4 = .int .i64 (1 + V.l.length + 2 * V.f.length + (V.l.map wordsV).sum + ((V.f.take i).map fun x => wordsV x.2 + (1 + textW x.1)).sum) ∧ fget tm 5 = .int .i64 (1 + (V.l.map fun x => objsV x).sum + ((V.f.take i).map fun x => 1 + objsV x.2).sum) ∧ Keep h' h3 ∧ WF E h3) V.f.length ?_ ?_
     ·simp only [push_cast, seval, hE.P, zz, f1, f4, f5]
      exact ⟨0, by omega, by omega, rfl, by simp, by simp, hk, hw⟩
     ·clear f1 f4 f5 f6
      rintro m tm h3 ⟨i, rfl, hi, f1, f9, f4, f5, hk3, hw3⟩
      have g3 := hk3.get _ _ g0
      simp only [push_cast, seval, hE.P, zz, f1, f9, g3, hW.nb0]
      have p3 := pf i
      have p4 := of' i
      refine kif_split (fun hb => ?_) (fun hb => ?_)
      ·have hlt : i < V.f.length := by simpa using hb
       obtain ⟨b, c, e1', hsp, hac⟩ := hsf.elem (hG.keep (k0.trans hk3)) hlt
       injection e1' with e1' e2' e3'
       subst e1'; subst e3'
       obtain ⟨c1, hc1, hrc, hnm⟩ := hf.at i V.f[i].1 V.f[i].2 (List.getElem?_eq_getElem hlt)
       rw [hc1] at hac
       have n5 := acells_part hac 1 5 (by omega)
       have hcl : c1.length = 5 := by obtain ⟨_, _, _, _, rfl, _⟩ := hrc.cells; rfl
       simp only [List.drop_succ_cons, List.drop_zero] at n5
       rw [List.take_of_length_le (by omega)] at n5
       simp only [push_cast, seval, hE.P, zz, f1, f9, f4, f5, g3, hW.nb0]
       rw [ia23 hsp (by omega) (by omega), kpure_some]
       simp only [push_cast, seval, hE.P, zz, f1, f9, f4, f5, g3, hW.nb0, ↓n5]
       have hps := f_sz (v := V) (x := V.f[i]) (by simp)
       refine (ih V.f[i].2 (by omega) (by omega) (hVf _ (by simp)) hw3 (hG.keep (k0.trans hk3)) hrc).mono ?_
       rintro v h4 ⟨rfl, hk4, hw4⟩
       have g4 := hk4.get _ _ g3
       obtain ⟨b', c', e1', hsp', hac'⟩ := hsf.elem (hG.keep ((k0.trans hk3).trans hk4)) hlt
       injection e1' with e1' e2' e3'
       injection e1' with e1'; subst e1'
       rw [hc1] at hac'
       have n1 := acells_part hac' 0 1 (by omega)
       simp only [Nat.add_zero, List.drop_zero, List.take_succ_cons, List.take_zero] at n1
       simp only [push_cast, seval, hE.P, zz, f1, f9, f4, f5, g4, hW.nb0]
       rw [ia23 hsp (by omega) (by omega), kpure_some]
       simp only [push_cast, seval, hE.P, zz, f1, f9, f4, f5, g4, hW.nb0, ↓n1]
       refine (textR_at hE hnm).mono ?_
       rintro v h5 ⟨rfl, rfl⟩
       simp only [push_cast, seval, hE.P, zz, f1, f9, f4, f5]
       have q1 := pf (i + 1)
       have q2 := of' (i + 1)
       rw [sum_step V.f _ hlt] at q1 q2
       have r1 := words_bd V.f[i].2.sz V.f[i].2 (Nat.le_refl _) hrc
       have r2 := objs_bd V.f[i].2.sz V.f[i].2 (Nat.le_refl _)
       have r3 := textW_bd hnm
       refine ⟨V.f.length - (i + 1), by omega, i + 1, rfl, by omega, by rw [wr64 (by omega) (by omega)]; rfl, ?_, ?_, hk3.trans hk4, hw4⟩
       ·rw [sum_step V.f _ hlt]
        generalize (V.l.map wordsV).sum = A at *
        generalize ((V.f.take i).map fun x => wordsV x.2 + (1 + textW x.1)).sum = B at *
        rw [wr64 (x := 1 + (V.l.length : Int) + 2 * V.f.length + A + B + wordsV V.f[i].2) (by omega) (by omega), wr64 (by omega) (by omega)]
        exact congrArg _ (by omega)
       ·rw [sum_step V.f _ hlt]
        generalize (V.l.map fun x => objsV x).sum = A at *
        generalize ((V.f.take i).map fun x => 1 + objsV x.2).sum = B at *
        rw [wr64 (x := 1 + A + B + objsV V.f[i].2) (by omega) (by omega), wr64 (by omega) (by omega)]
        exact congrArg _ (by omega)
      ·have hge : i = V.f.length := by have : ¬ i < V.f.length := by simpa using hb
                                       omega
       subst hge
       rw [List.take_length] at f4 f5
       simp only [push_cast, seval, hE.P, zz, f1, f9, f4, f5]
       refine ⟨?_, k0.trans hk3, hw3⟩
       rw [heq, oeq]
       have e7 : (1 : Int) + V.l.length + 2 * V.f.length + (V.l.map wordsV).sum + (V.f.map fun x => wordsV x.2 + (1 + textW x.1)).sum = 1 + (V.l.length + (V.l.map wordsV).sum) + (2 * V.f.length + (V.f.map fun x => wordsV x.2 + (1 + textW x.1)).sum) := by omega
       rw [e7]
end Go.Proofs.YthfopcdammlmfaaGreatDoor
