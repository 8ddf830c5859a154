/- The law DocBuilds. -/
/- Merged by a program of ours: W1 W2. -/
import Derived.Test.YthfopcdammlmfaaGreatDoorB2
import Derived.Test.YthfopcdammlmfaaGreatDoorF3
import Derived.Test.YthfopcdammlmfaaGreatDoorQ2
import Derived.Test.YthfopcdammlmfaaGreatDoorF4
import Derived.Test.YthfopcdammlmfaaGreatDoorB3
import Derived.Test.YthfopcdammlmfaaGreatDoorD7
set_option maxRecDepth 10000
set_option linter.all false
set_option linter.unusedSimpArgs false
set_option linter.unusedVariables false
/- The reference's words and objects of a value. -/
namespace Go.Proofs.YthfopcdammlmfaaGreatDoor
open Go.Tm
theorem sum_lenL (l : List Vl) : (l.map fun x => 1 + wordsV x).sum = (l.length : Int) + (l.map wordsV).sum := by
  induction l with
  | nil => simp
  | cons x l ih => simp only [List.map_cons, List.sum_cons, List.length_cons, ih]; omega
theorem sum_lenF (l : List (ByteArray × Vl)) : (l.map fun x => 3 + textW x.1 + wordsV x.2).sum = 2 * (l.length : Int) + (l.map fun x => wordsV x.2 + (1 + textW x.1)).sum := by
  induction l with
  | nil => simp
  | cons x l ih => simp only [List.map_cons, List.sum_cons, List.length_cons, ih]; omega
/-- What a value of a good form has of parts, by its kind. -/
theorem formed_kinds {V : Vl} (h : formedV V = true) : (V.k ≠ 5 → V.l = []) ∧ (V.k ≠ 6 → V.f = []) := by
  simp only [formedV, Bool.and_eq_true, Bool.not_eq_true', Bool.or_eq_false_iff, Bool.and_eq_false_iff, decide_eq_false_iff_not, bne_eq_false_iff_eq] at h
  obtain ⟨⟨⟨_, _⟩, h1, h2⟩, _⟩ := h
  constructor
  · intro hk
    rcases h1 with h1 | h1
    · exact absurd h1 hk
    · exact List.eq_nil_of_length_eq_zero (by omega)
  · intro hk
    rcases h2 with h2 | h2
    · exact absurd h2 hk
    · exact List.eq_nil_of_length_eq_zero (by omega)
variable {E : Env} (hE : EOk E)
include hE
theorem textR_at {h : Heap} {s : ByteArray} (hs : s.size ≤ 140737488355328) : CallsTo E 48 [.string s] h fun v h' => v = .int .i64 (1 + textW s) ∧ h' = h := by
  refine calls_of_runs (fn := Tryz.f48) (by rw [hE.P]; exact Tryz.func48) rfl (by rw [hE.known]; rfl) (by rw [Tryz.ntmps48]; exact Nat.le_of_ble_eq_true rfl) (by decide +kernel) (rs := [.tmp 2]) rfl (wpc_runs _ _ _ _ ?_)
  simp only [push_cast, seval, hE.P, awrite, wpc_label, wpc_block]
  rw [wr64 (x := (s.size : Int) + 7) (by omega) (by omega), Int.tdiv_eq_ediv_of_nonneg (by omega), wr64 (x := ((s.size : Int) + 7) / 8) (by omega) (by omega), wr64 (by omega) (by omega)]
  exact congrArg _ (by unfold textW; omega)
theorem wordsR_at : ∀ (n : Nat) (V : Vl), V.sz ≤ n → n ≤ 10000 → allV formedV V = true → ∀ {G : Mem} {h : Heap}, WF E h → Frz E G h → ∀ {c : List Value}, Rep E G V c →
    CallsTo E 14 [.agg c.toArray] h fun v h' => v = .tuple #[.int .i64 (wordsV V), .int .i64 (objsV V)] ∧ Keep h h' ∧ WF E h' := by
  intro n
  induction n with
  | zero => intro V hn; have := sz_eq V; omega
  | succ n ih =>
    intro V hn hn2 hfm G h hW hG c hV
    have hbd := words_bd V.sz V (Nat.le_refl _) hV
    have obd := objs_bd V.sz V (Nat.le_refl _)
    have heq := wordsV_eq V
    have oeq := objsV_eq V
    rw [sum_lenL, sum_lenF] at heq
    have hfk := formed_kinds (allV_self hfm)
    have pl := sum_part V.l wordsV (fun x hx => by obtain ⟨c', hc'⟩ := hV.lpart hx; have := words_bd x.sz x (Nat.le_refl _) hc'; omega)
    have pf := sum_part V.f (fun x => wordsV x.2 + (1 + textW x.1)) (fun x hx => by obtain ⟨h1, c', hc'⟩ := hV.name hx; have := words_bd x.2.sz x.2 (Nat.le_refl _) hc'; have := textW_bd h1; omega)
    have ol := sum_part V.l (fun x => objsV x) (fun x hx => by have := objs_bd x.sz x (Nat.le_refl _); omega)
    have of' := sum_part V.f (fun x => 1 + objsV x.2) (fun x hx => by have := objs_bd x.2.sz x.2 (Nat.le_refl _); omega)
    have hVl : ∀ x ∈ V.l, allV formedV x = true := fun x hx => allV_part hfm (by
      have h5 : V.k = 5 := Classical.byContradiction fun hk => by rw [hfk.1 hk] at hx; cases hx
      simp [Vl.parts, h5, hx])
    have hVf : ∀ x ∈ V.f, allV formedV x.2 = true := fun x hx => allV_part hfm (by
      have h6 : V.k = 6 := Classical.byContradiction fun hk => by rw [hfk.2 hk] at hx; cases hx
      simp only [Vl.parts, h6]
      simp
      exact ⟨x.1, hx⟩)
    obtain ⟨sl, sf, cl, cf, rfl, hsl, hsf, hl, hf, hb1, hb2, hb3⟩ := hV.cells
    obtain ⟨a2, cap2, rfl, _, _⟩ := hsl.slice
    obtain ⟨a3, cap3, rfl, _, _⟩ := hsf.slice
    have htw := textW_bd hb1.1
    refine calls_of_runs (fn := Tryz.f14) (by rw [hE.P]; exact Tryz.func14) rfl (by rw [hE.known]; rfl) (by rw [Tryz.ntmps14]; exact Nat.le_of_ble_eq_true rfl) (by decide +kernel) (rs := [.tmp 2, .tmp 3]) rfl (wpc_runs _ _ _ _ ?_)
    simp only [push_cast, seval, hE.P, awrite, wpc_label, wpc_block, hW.nb, hW.nb0]
    have g0 : (h.push (.cells [.int .i64 V.k, .int .i64 V.n, .string V.s, .slice a2 V.l.length cap2, .slice a3 V.f.length cap3] 25 true)).get h.next = some (.cells [.int .i64 V.k, .int .i64 V.n, .string V.s, .slice a2 V.l.length cap2, .slice a3 V.f.length cap3] 25 true) := by simp only [get_push, if_true]
    have k0 : Keep h (h.push (.cells [.int .i64 V.k, .int .i64 V.n, .string V.s, .slice a2 V.l.length cap2, .slice a3 V.f.length cap3] 25 true)) := (Keep.refl h).push hW
    have w0 : WF E (h.push (.cells [.int .i64 V.k, .int .i64 V.n, .string V.s, .slice a2 V.l.length cap2, .slice a3 V.f.length cap3] 25 true)) := hW.push _
    generalize h.push (.cells [.int .i64 V.k, .int .i64 V.n, .string V.s, .slice a2 V.l.length cap2, .slice a3 V.f.length cap3] 25 true) = H at *
    refine kif_split (fun hb => ?_) (fun hb => ?_)
    · have hk : V.k = 1 := by simpa using hb
      have e1 := hfk.1 (by omega)
      have e2 := hfk.2 (by omega)
      simp only [push_cast, seval, hE.P, awrite, wpc_label, wpc_block]
      refine ⟨?_, k0, w0⟩
      rw [heq, oeq, e1, e2]
      simp [baseW, hk]
    have hk1 : V.k ≠ 1 := by simpa using hb
    simp only [push_cast, seval, hE.P, awrite, wpc_label, wpc_block]
    refine kif_cutN (fun tm h' => fget tm 1 = .pointer (some ⟨h.next, 0, none⟩) ∧ fget tm 13 = .int .i64 V.k ∧ fget tm 16 = .bool (V.k == 2 || V.k == 3) ∧ h' = H) ?_ ?_
    rotate_left
    · refine kif_split (fun hb => ?_) (fun hb => ?_)
      · simp only [push_cast, seval, hE.P, awrite, wpc_label, wpc_block, hb]
      · simp only [push_cast, seval, hE.P, awrite, wpc_label, wpc_block, hb]
    rintro tm h' ⟨f1, f13, f16, rfl⟩
    simp only [push_cast, seval, hE.P, awrite, wpc_label, wpc_block, f16]
    refine kif_split (fun hb => ?_) (fun hb => ?_)
    · have hk : V.k = 2 ∨ V.k = 3 := by simpa using hb
      have e1 := hfk.1 (by omega)
      have e2 := hfk.2 (by omega)
      simp only [push_cast, seval, hE.P, awrite, wpc_label, wpc_block]
      refine ⟨?_, k0, w0⟩
      rw [heq, oeq, e1, e2]
      rcases hk with hk | hk <;> simp [baseW, hk]
    have hk2 : V.k ≠ 2 ∧ V.k ≠ 3 := by simpa using hb
    simp only [push_cast, seval, hE.P, awrite, wpc_label, wpc_block, f13]
    refine kif_split (fun hb => ?_) (fun hb => ?_)
    · have hk : V.k = 4 := by simpa using hb
      have e1 := hfk.1 (by omega)
      have e2 := hfk.2 (by omega)
      simp only [push_cast, seval, hE.P, awrite, wpc_label, wpc_block, f1, g0, hW.nb0]
      refine (textR_at hE hb1.1).mono ?_
      rintro v h2 ⟨rfl, rfl⟩
      simp only [push_cast, seval, hE.P, awrite, wpc_label, wpc_block]
      refine ⟨?_, k0, w0⟩
      rw [heq, oeq, e1, e2]
      simp [baseW, hk]
    have hk4 : V.k ≠ 4 := by simpa using hb
    have hbw : baseW V = 1 := by simp [baseW, hk2, hk4]
    rw [hbw] at heq
    clear hb hb1
    obtain ⟨nl, hnl⟩ : ∃ nl, nl = V.l.length := ⟨_, rfl⟩
    obtain ⟨nf, hnf⟩ : ∃ nf, nf = V.f.length := ⟨_, rfl⟩
    have pl0 := pl 0
    have pf0 := pf 0
    have eb : IntKind.i64.wrap (IntKind.i64.wrap ((1 : Int) + V.l.length) + IntKind.i64.wrap ((2 : Int) * V.f.length)) = 1 + (V.l.length : Int) + 2 * (V.f.length : Int) := by
      rw [wr64 (x := (1 : Int) + V.l.length) (by omega) (by omega), wr64 (x := (2 : Int) * V.f.length) (by omega) (by omega), wr64 (by omega) (by omega)]
    simp only [push_cast, seval, hE.P, awrite, wpc_label, wpc_block, f1, g0, hW.nb0]
    rw [eb]
    refine wpc_loop (fun m tm h2 => ∃ i : Nat, m = V.l.length - i ∧ i ≤ V.l.length ∧ fget tm 1 = .pointer (some ⟨h.next, 0, none⟩) ∧ fget tm 6 = .int .i64 i ∧
        fget tm 4 = .int .i64 (1 + V.l.length + 2 * V.f.length + ((V.l.take i).map wordsV).sum) ∧ fget tm 5 = .int .i64 (1 + ((V.l.take i).map fun x => objsV x).sum) ∧ Keep h' h2 ∧ WF E h2) V.l.length ?_ ?_
    · simp only [push_cast, seval, hE.P, awrite, wpc_label, wpc_block, f1]
      exact ⟨0, by omega, by omega, rfl, by simp, by simp, Keep.refl _, w0⟩
    · clear f1 f13 f16
      rintro m tm h2 ⟨i, rfl, hi, f1, f6, f4, f5, hk, hw⟩
      have g1 := hk.get _ _ g0
      simp only [push_cast, seval, hE.P, awrite, wpc_label, wpc_block, f1, f6, g1, hW.nb0]
      have p1 := pl i
      have p2 := ol i
      have of0 := of' 0
      have szb : (V.sz : Int) ≤ 10000 := by omega
      refine kif_split (fun hb => ?_) (fun hb => ?_)
      · have hlt : i < V.l.length := by simpa using hb
        obtain ⟨b, c, e1', hsp, hac⟩ := hsl.elem (hG.keep (k0.trans hk)) hlt
        injection e1' with e1' e2' e3'
        subst e1'; subst e3'
        have hrc := hl.at i V.l[i] (by simp [hlt])
        simp only [push_cast, seval, hE.P, awrite, wpc_label, wpc_block, f1, f6, f4, f5, g1, hW.nb0]
        rw [ia22 hsp (by omega) (by omega), kpure_some]
        simp only [push_cast, seval, hE.P, awrite, wpc_label, wpc_block, f1, f6, f4, f5, g1, hW.nb0, ↓hac]
        have hps := l_sz (v := V) (x := V.l[i]) (by simp)
        refine (ih V.l[i] (by omega) (by omega) (hVl _ (by simp)) hw (hG.keep (k0.trans hk)) hrc).mono ?_
        rintro v h3 ⟨rfl, hk3, hw3⟩
        simp only [push_cast, seval, hE.P, awrite, wpc_label, wpc_block, f1, f6, f4, f5]
        have q1 := pl (i + 1)
        have q2 := ol (i + 1)
        rw [sum_step V.l _ hlt] at q1 q2
        have r1 := words_bd V.l[i].sz V.l[i] (Nat.le_refl _) hrc
        have r2 := objs_bd V.l[i].sz V.l[i] (Nat.le_refl _)
        refine ⟨V.l.length - (i + 1), by omega, i + 1, rfl, by omega, by rw [wr64 (by omega) (by omega)]; rfl, ?_, ?_, hk.trans hk3, hw3⟩
        · rw [sum_step V.l _ hlt]
          rw [wr64 (by omega) (by omega)]
          exact congrArg _ (by omega)
        · rw [sum_step V.l _ hlt, wr64 (by omega) (by omega)]
          exact congrArg _ (by omega)
      · have hge : i = V.l.length := by have : ¬ i < V.l.length := by simpa using hb
                                        omega
        subst hge
        rw [List.take_length] at f4 f5 p1 p2
        simp only [push_cast, seval, hE.P, awrite, wpc_label, wpc_block, f1, f6, f4, f5]
        refine wpc_loop (fun m tm h3 => ∃ i : Nat, m = V.f.length - i ∧ i ≤ V.f.length ∧ fget tm 1 = .pointer (some ⟨h.next, 0, none⟩) ∧ fget tm 9 = .int .i64 i ∧
          fget tm 4 = .int .i64 (1 + V.l.length + 2 * V.f.length + (V.l.map wordsV).sum + ((V.f.take i).map fun x => wordsV x.2 + (1 + textW x.1)).sum) ∧ fget tm 5 = .int .i64 (1 + (V.l.map fun x => objsV x).sum + ((V.f.take i).map fun x => 1 + objsV x.2).sum) ∧ Keep h' h3 ∧ WF E h3) V.f.length ?_ ?_
        · simp only [push_cast, seval, hE.P, awrite, wpc_label, wpc_block, f1, f4, f5]
          exact ⟨0, by omega, by omega, rfl, by simp, by simp, hk, hw⟩
        · clear f1 f4 f5 f6
          rintro m tm h3 ⟨i, rfl, hi, f1, f9, f4, f5, hk3, hw3⟩
          have g3 := hk3.get _ _ g0
          simp only [push_cast, seval, hE.P, awrite, wpc_label, wpc_block, f1, f9, g3, hW.nb0]
          have p3 := pf i
          have p4 := of' i
          refine kif_split (fun hb => ?_) (fun hb => ?_)
          · have hlt : i < V.f.length := by simpa using hb
            obtain ⟨b, c, e1', hsp, hac⟩ := hsf.elem (hG.keep (k0.trans hk3)) hlt
            injection e1' with e1' e2' e3'
            subst e1'; subst e3'
            obtain ⟨c1, hc1, hrc, hnm⟩ := hf.at i V.f[i].1 V.f[i].2 (List.getElem?_eq_getElem hlt)
            rw [hc1] at hac
            have n5 := acells_part hac 1 5 (by omega)
            have hcl : c1.length = 5 := by obtain ⟨_, _, _, _, rfl, _⟩ := hrc.cells; rfl
            simp only [List.drop_succ_cons, List.drop_zero] at n5
            rw [List.take_of_length_le (by omega)] at n5
            simp only [push_cast, seval, hE.P, awrite, wpc_label, wpc_block, f1, f9, f4, f5, g3, hW.nb0]
            rw [ia23 hsp (by omega) (by omega), kpure_some]
            simp only [push_cast, seval, hE.P, awrite, wpc_label, wpc_block, f1, f9, f4, f5, g3, hW.nb0, ↓n5]
            have hps := f_sz (v := V) (x := V.f[i]) (by simp)
            refine (ih V.f[i].2 (by omega) (by omega) (hVf _ (by simp)) hw3 (hG.keep (k0.trans hk3)) hrc).mono ?_
            rintro v h4 ⟨rfl, hk4, hw4⟩
            have g4 := hk4.get _ _ g3
            obtain ⟨b', c', e1', hsp', hac'⟩ := hsf.elem (hG.keep ((k0.trans hk3).trans hk4)) hlt
            injection e1' with e1' e2' e3'
            injection e1' with e1'; subst e1'
            rw [hc1] at hac'
            have n1 := acells_part hac' 0 1 (by omega)
            simp only [Nat.add_zero, List.drop_zero, List.take_succ_cons, List.take_zero] at n1
            simp only [push_cast, seval, hE.P, awrite, wpc_label, wpc_block, f1, f9, f4, f5, g4, hW.nb0]
            rw [ia23 hsp (by omega) (by omega), kpure_some]
            simp only [push_cast, seval, hE.P, awrite, wpc_label, wpc_block, f1, f9, f4, f5, g4, hW.nb0, ↓n1]
            refine (textR_at hE hnm).mono ?_
            rintro v h5 ⟨rfl, rfl⟩
            simp only [push_cast, seval, hE.P, awrite, wpc_label, wpc_block, f1, f9, f4, f5]
            have q1 := pf (i + 1)
            have q2 := of' (i + 1)
            rw [sum_step V.f _ hlt] at q1 q2
            have r1 := words_bd V.f[i].2.sz V.f[i].2 (Nat.le_refl _) hrc
            have r2 := objs_bd V.f[i].2.sz V.f[i].2 (Nat.le_refl _)
            have r3 := textW_bd hnm
            refine ⟨V.f.length - (i + 1), by omega, i + 1, rfl, by omega, by rw [wr64 (by omega) (by omega)]; rfl, ?_, ?_, hk3.trans hk4, hw4⟩
            · rw [sum_step V.f _ hlt]
              generalize (V.l.map wordsV).sum = A at *
              generalize ((V.f.take i).map fun x => wordsV x.2 + (1 + textW x.1)).sum = B at *
              rw [wr64 (x := 1 + (V.l.length : Int) + 2 * V.f.length + A + B + wordsV V.f[i].2) (by omega) (by omega), wr64 (by omega) (by omega)]
              exact congrArg _ (by omega)
            · rw [sum_step V.f _ hlt]
              generalize (V.l.map fun x => objsV x).sum = A at *
              generalize ((V.f.take i).map fun x => 1 + objsV x.2).sum = B at *
              rw [wr64 (x := 1 + A + B + objsV V.f[i].2) (by omega) (by omega), wr64 (by omega) (by omega)]
              exact congrArg _ (by omega)
          · have hge : i = V.f.length := by have : ¬ i < V.f.length := by simpa using hb
                                            omega
            subst hge
            rw [List.take_length] at f4 f5
            simp only [push_cast, seval, hE.P, awrite, wpc_label, wpc_block, f1, f9, f4, f5]
            refine ⟨?_, k0.trans hk3, hw3⟩
            rw [heq, oeq]
            have e7 : (1 : Int) + V.l.length + 2 * V.f.length + (V.l.map wordsV).sum + (V.f.map fun x => wordsV x.2 + (1 + textW x.1)).sum = 1 + (V.l.length + (V.l.map wordsV).sum) + (2 * V.f.length + (V.f.map fun x => wordsV x.2 + (1 + textW x.1)).sum) := by omega
            rw [e7]
end Go.Proofs.YthfopcdammlmfaaGreatDoor
namespace Go.Proofs.YthfopcdammlmfaaGreatDoor
open Go.Tm
theorem andi_mask (n : Int) (k : Nat) (hk : k ≤ 62) : bits .and .i64 n ((2 ^ k - 1 : Nat) : Int) = n % ((2 ^ k : Nat) : Int) := by
  have h2 : (2 : Nat) ^ k ≤ 2 ^ 62 := Nat.pow_le_pow_right (by omega) hk
  have h127 : (BitVec.ofInt 64 ((2 ^ k - 1 : Nat) : Int)).toNat = 2 ^ k - 1 := by
    rw [BitVec.toNat_ofInt]
    have : (2 : Nat) ^ 62 < 2 ^ 64 := by decide
    have hp : 0 < (2 : Nat) ^ k := Nat.two_pow_pos k
    omega
  have key : (BitVec.ofInt 64 n &&& BitVec.ofInt 64 ((2 ^ k - 1 : Nat) : Int)).toNat = (n % ((2 ^ 64 : Nat) : Int)).toNat % 2 ^ k := by
    rw [BitVec.toNat_and, BitVec.toNat_ofInt, h127, Nat.and_two_pow_sub_one_eq_mod]
  show IntKind.i64.wrap ((BitVec.ofInt 64 n &&& BitVec.ofInt 64 ((2 ^ k - 1 : Nat) : Int)).toNat : Nat) = _
  have hd : ((2 ^ k : Nat) : Int) ∣ ((2 ^ 64 : Nat) : Int) := Int.natCast_dvd_natCast.2 (Nat.pow_dvd_pow 2 (by omega))
  have hm : 0 ≤ n % ((2 ^ 64 : Nat) : Int) := Int.emod_nonneg _ (by decide)
  have e1 : (((n % ((2 ^ 64 : Nat) : Int)).toNat % 2 ^ k : Nat) : Int) = n % ((2 ^ k : Nat) : Int) := by
    rw [Int.natCast_emod, Int.toNat_of_nonneg hm, Int.emod_emod_of_dvd _ hd]
  rw [key, e1, wr64]
  · exact Int.le_trans (by decide) (Int.emod_nonneg _ (by have := Nat.two_pow_pos k; omega))
  · have := Int.emod_lt_of_pos n (b := ((2 ^ k : Nat) : Int)) (by have := Nat.two_pow_pos k; omega)
    have : (2 : Nat) ^ 62 = 4611686018427387904 := by decide
    omega
theorem andi2047 (n : Int) : bits .and .i64 n 2047 = n % 2048 := andi_mask n 11 (by omega)
theorem andi255 (n : Int) : bits .and .i64 n 255 = n % 256 := andi_mask n 8 (by omega)
/-- A value's objects refer to its objects. -/
theorem obsL_refs {l : List Vl} (h : ∀ v, v ∈ l → ∀ b o, o ∈ obs b v → ∀ k x, k < o.refs → o.ws[k]? = some x → ∃ j, x = hOf j ∧ j < b + (obs b v).length) : ∀ b o, o ∈ (obsL b l).1 → ∀ k x, k < o.refs → o.ws[k]? = some x → ∃ j, x = hOf j ∧ j < b + (obsL b l).1.length := by
  induction l with
  | nil => intro b o ho; simp [obsL] at ho
  | cons v l ih =>
    intro b o ho k x hk hx
    simp only [obsL, List.mem_append, List.length_append] at ho ⊢
    rcases ho with ho | ho
    · obtain ⟨j, h1, h2⟩ := h v (by simp) b o ho k x hk hx
      exact ⟨j, h1, by omega⟩
    · obtain ⟨j, h1, h2⟩ := ih (fun v hv => h v (by simp [hv])) _ o ho k x hk hx
      exact ⟨j, h1, by omega⟩
theorem obsF_refs {l : List (ByteArray × Vl)} (h : ∀ v, v ∈ l → ∀ b o, o ∈ obs b v.2 → ∀ k x, k < o.refs → o.ws[k]? = some x → ∃ j, x = hOf j ∧ j < b + (obs b v.2).length) : ∀ b o, o ∈ (obsF b l).1 → ∀ k x, k < o.refs → o.ws[k]? = some x → ∃ j, x = hOf j ∧ j < b + (obsF b l).1.length := by
  induction l with
  | nil => intro b o ho; simp [obsF] at ho
  | cons v l ih =>
    intro b o ho k x hk hx
    obtain ⟨nm, v⟩ := v
    simp only [obsF, List.mem_cons, List.mem_append, List.length_append, List.length_cons] at ho ⊢
    rcases ho with ho | ho | ho
    · subst ho; simp at hk
    · obtain ⟨j, h1, h2⟩ := h (nm, v) (by simp) (b + 1) o ho k x hk hx
      simp only at h2
      exact ⟨j, h1, by omega⟩
    · obtain ⟨j, h1, h2⟩ := ih (fun v hv => h v (by simp [hv])) _ o ho k x hk hx
      exact ⟨j, h1, by omega⟩
theorem obs_refs : ∀ (n : Nat) (V : Vl), V.sz ≤ n → ∀ b o, o ∈ obs b V → ∀ k x, k < o.refs → o.ws[k]? = some x → ∃ j, x = hOf j ∧ j < b + (obs b V).length := by
  intro n
  induction n with
  | zero => intro V hn; have := sz_eq V; omega
  | succ n ih =>
    intro V hn b o ho k x hk hx
    rw [obs_eq] at ho ⊢
    by_cases h2 : V.k = 2
    · rw [if_pos h2] at ho; simp only [List.mem_singleton] at ho; subst ho; simp at hk
    rw [if_neg h2] at ho ⊢
    by_cases h3 : V.k = 3
    · rw [if_pos h3] at ho; simp only [List.mem_singleton] at ho; subst ho; simp at hk
    rw [if_neg h3] at ho ⊢
    by_cases h4 : V.k = 4
    · rw [if_pos h4] at ho; simp only [List.mem_singleton] at ho; subst ho; simp at hk
    rw [if_neg h4] at ho ⊢
    by_cases h5 : V.k = 5
    · rw [if_pos h5] at ho ⊢
      simp only [List.mem_append, List.mem_singleton, List.length_append, List.length_cons, List.length_nil] at ho ⊢
      rcases ho with ho | ho
      · obtain ⟨j, e1, e2⟩ := obsL_refs (fun v hv => ih v (by have := l_sz hv; omega)) b o ho k x hk hx
        exact ⟨j, e1, by omega⟩
      · subst ho
        obtain ⟨j, e1, _, e2⟩ := obsL_h V.l b x (List.mem_of_getElem? hx)
        exact ⟨j, e1, by omega⟩
    rw [if_neg h5] at ho ⊢
    by_cases h6 : V.k = 6
    · rw [if_pos h6] at ho ⊢
      simp only [List.mem_append, List.mem_singleton, List.length_append, List.length_cons, List.length_nil] at ho ⊢
      rcases ho with ho | ho
      · obtain ⟨j, e1, e2⟩ := obsF_refs (fun v hv => ih v.2 (by have := f_sz hv; omega)) b o ho k x hk hx
        exact ⟨j, e1, by omega⟩
      · subst ho
        obtain ⟨j, e1, _, e2⟩ := obsF_h V.f b x (List.mem_of_getElem? hx)
        exact ⟨j, e1, by omega⟩
    rw [if_neg h6] at ho
    simp only [List.mem_singleton] at ho; subst ho; simp at hk
theorem obs_ok (V : Vl) : RefsOk (obs 0 V) := fun i o hi k x hk hx => by
  obtain ⟨j, e1, e2⟩ := obs_refs V.sz V (Nat.le_refl _) 0 o (List.mem_of_getElem? hi) k x hk hx
  rw [e1]; exact .inr (hOf_obj (by omega))
variable {E : Env} (hE : EOk E)
include hE
set_option maxHeartbeats 1000000 in
theorem builds_at {h : Heap} (hW : WF E h) {G : Mem} (hG : Frz E G h) {V : Vl} {c : List Value} (hV : Rep E G V c) (hsm : allV smallV V = true) (hbl : V.sz ≤ 5000 → (bytesV V).length ≤ 1000000000000) {a b : Int} :
    CallsTo E 3 [.agg c.toArray, .int .i64 a, .int .i64 b] h fun r h' => r = .bool true ∧ Keep h h' ∧ WF E h' := by
  have hV0 := hV
  obtain ⟨sl, sf, cl, cf, rfl, hsl, hsf, hl, hf, hb1, hb2, hb3⟩ := hV.cells
  obtain ⟨a2, cap2, rfl, _, _⟩ := hsl.slice
  obtain ⟨a3, cap3, rfl, _, _⟩ := hsf.slice
  obtain ⟨W, hWd⟩ : ∃ W : Nat, (W : Int) = 1 + a % 2048 := ⟨(1 + a % 2048).toNat, by omega⟩
  obtain ⟨nS, hnS⟩ : ∃ nS : Nat, (nS : Int) = 1 + b % 256 := ⟨(1 + b % 256).toNat, by omega⟩
  have eW : IntKind.i64.wrap (1 + bits .and .i64 a 2047) = W := by rw [andi2047, wr64 (by omega) (by omega)]; omega
  have eS : IntKind.i64.wrap (1 + bits .and .i64 b 255) = nS := by rw [andi255, wr64 (by omega) (by omega)]; omega
  refine calls_of_runs (fn := Tryz.f3) (by rw [hE.P]; exact Tryz.func3) rfl (by rw [hE.known]; rfl) (by rw [Tryz.ntmps3]; exact Nat.le_of_ble_eq_true rfl) (by decide +kernel) (rs := [.tmp 6]) rfl (wpc_runs _ _ _ _ ?_)
  simp only [push_cast, seval, hE.P, awrite, wpc_label, hW.nb, hW.nb0]
  have g0 : (h.push (.cells [.int .i64 V.k, .int .i64 V.n, .string V.s, .slice a2 V.l.length cap2, .slice a3 V.f.length cap3] 25 true)).get h.next = some (.cells [.int .i64 V.k, .int .i64 V.n, .string V.s, .slice a2 V.l.length cap2, .slice a3 V.f.length cap3] 25 true) := by simp only [get_push, if_true]
  have k0 : Keep h (h.push (.cells [.int .i64 V.k, .int .i64 V.n, .string V.s, .slice a2 V.l.length cap2, .slice a3 V.f.length cap3] 25 true)) := (Keep.refl h).push hW
  have w0 : WF E (h.push (.cells [.int .i64 V.k, .int .i64 V.n, .string V.s, .slice a2 V.l.length cap2, .slice a3 V.f.length cap3] 25 true)) := hW.push _
  generalize h.push (.cells [.int .i64 V.k, .int .i64 V.n, .string V.s, .slice a2 V.l.length cap2, .slice a3 V.f.length cap3] 25 true) = H0 at *
  refine (awake_at hE w0).mono ?_
  rintro v h1 ⟨rfl, k1', w1⟩
  have g1 := k1'.get _ _ g0
  have k1 := k0.trans k1'
  simp only [push_cast, seval, hE.P, awrite, wpc_label, g1, hW.nb0]
  rw [bs22 rfl, kalloc_some]
  have hx1 : Own (h1.push (.cells [.int .i64 V.k, .int .i64 V.n, .string V.s, .slice a2 V.l.length cap2, .slice a3 V.f.length cap3] 25 true)) 25 5 h1.next 1 [.int .i64 V.k, .int .i64 V.n, .string V.s, .slice a2 V.l.length cap2, .slice a3 V.f.length cap3] (.slice (some ⟨h1.next, 0, none⟩) 1 1) :=
    .inr ⟨h1.next, 1, [], true, rfl, by simp [get_push], rfl, rfl, Nat.le_refl _, Nat.le_refl _, by omega⟩
  have k2' : Keep h1 (h1.push (.cells [.int .i64 V.k, .int .i64 V.n, .string V.s, .slice a2 V.l.length cap2, .slice a3 V.f.length cap3] 25 true)) := (Keep.refl h1).push w1
  have w2 := w1.push (.cells [.int .i64 V.k, .int .i64 V.n, .string V.s, .slice a2 V.l.length cap2, .slice a3 V.f.length cap3] 25 true)
  have g2 := k2'.get _ _ g1
  have k2 := k1.trans k2'
  have ev : vcells (.agg #[.int .i64 V.k, .int .i64 V.n, .string V.s, .slice a2 V.l.length cap2, .slice a3 V.f.length cap3]) = [.int .i64 V.k, .int .i64 V.n, .string V.s, .slice a2 V.l.length cap2, .slice a3 V.f.length cap3] := rfl
  rw [ev]
  generalize h1.push (.cells [.int .i64 V.k, .int .i64 V.n, .string V.s, .slice a2 V.l.length cap2, .slice a3 V.f.length cap3] 25 true) = H2 at *
  obtain ⟨G', hsl', hsub, hfz', _⟩ := Own.addF w2 (hG.keep k2) hx1
  simp only [push_cast, seval, hE.P, awrite, wpc_label]
  refine (vast_at hE w2 hfz' (l := [V]) hsl' (RepLs.one (hV0.sub hsub))).mono ?_
  rintro v h3 ⟨⟨bb, rfl, hsum⟩, k3', w3⟩
  have g3 := k3'.get _ _ g2
  have k3 := k2.trans k3'
  simp only [push_cast, seval, hE.P, awrite, wpc_label]
  refine kif_split (fun hb => ?_) (fun hb => ?_)
  · subst hb
    simp only [push_cast, seval, hE.P, awrite, wpc_label]
    exact ⟨k3, w3⟩
  subst hb
  have hsz : V.sz ≤ 5000 := by have := hsum rfl; simp at this; omega
  clear hsum hsl' hfz' hsub hx1
  simp only [push_cast, seval, hE.P, awrite, wpc_label, eW, eS]
  refine (fresh_at hE w3 (W := W) (nS := nS) (by omega) (by omega) (by omega) (by omega)).mono ?_
  rintro v h4 ⟨L, rfl, H4, hL, k4', w4⟩
  have g4 := k4'.get _ _ g3
  have k4 := k3.trans k4'
  simp only [push_cast, seval, hE.P, awrite, wpc_label, nilH, g4, hW.nb0]
  refine (Words_at hE (V := V) (by omega) w4 (hG.keep k4) hV0).mono ?_
  rintro v h5 ⟨rfl, k5', w5⟩
  have g5 := k5'.get _ _ g4
  have k5 := k4.trans k5'
  have H5 := H4.keep k5'
  have hlow : ∀ b, b ∈ L.blocks → h.next < b := fun b hb => by
    have := hL b hb; have := k3'.next; have := (w0.live _ _ g0).2; have := k1'.next; have := k2'.next; omega
  have hGlt : ∀ b c, G b = some c → b < h.next := fun b c hb => by
    obtain ⟨e, fx, hh⟩ := hG b c hb
    exact (hW.live _ _ hh).2
  have hsep : Sep L G := fun b hb => by
    cases hc : G b with
    | none => rfl
    | some c => have := hGlt b c hc; have := hlow b hb; omega
  obtain ⟨gd, hgd⟩ : ∃ gd, gd = goodV V := ⟨_, rfl⟩
  have hob := obs_words V.sz V (Nat.le_refl _)
  by_cases hg : goodV V = 0
  · have hgp := good_parts hg
    obtain ⟨ow, oc⟩ := hob hgp.1 0
    have hnm := Rep.nums V.sz V (Nat.le_refl _) hV0
    rw [if_pos hg]
    obtain ⟨wv, hwv⟩ : ∃ wv, wv = allO (obs 0 V) := ⟨_, rfl⟩
    obtain ⟨nv, hnv⟩ : ∃ nv, nv = (obs 0 V).length := ⟨_, rfl⟩
    rw [← hwv] at ow
    rw [← hnv] at oc
    rw [← ow, ← oc]
    simp only [push_cast, seval, hE.P, awrite, wpc_label, g5, hW.nb0]
    refine (build_at hE H5 (V := V) (by omega) w5 (hG.keep k5) hsep hV0).mono ?_
    rintro v h6 ⟨rfl, H6, k6', w6⟩
    have g6 := k6'.get _ _ (fun hh => by have := hlow _ hh; omega) g5
    have hG6 := hsep.frz (hG.keep k5) k6'
    have k6 : Keep h h6 := ⟨fun b o hb => k6'.get b o (fun hh => by have := hlow _ hh; have := (hW.live _ _ hb).2; omega) (k5.get b o hb), by have := k5.next; have := k6'.next; omega⟩
    by_cases hroom : wv ≤ W ∧ nv ≤ nS
    · have hbo : buildO W nS [] V = (.tuple #[.int .u64 (hOf (nv - 1)), .int .i64 0], obs 0 V) := by
        unfold buildO
        have h1 : allO [] + allO (obs ([] : List Ob).length V) ≤ W ∧ ([] : List Ob).length + (obs ([] : List Ob).length V).length ≤ nS := by
          show 0 + allO (obs 0 V) ≤ W ∧ 0 + (obs 0 V).length ≤ nS
          omega
        rw [if_pos hg, if_pos h1]
        show (Value.tuple #[.int .u64 (hOf (0 + (obs 0 V).length - 1) : Nat), .int .i64 0], [] ++ obs 0 V) = _
        rw [← hnv, Nat.zero_add, List.nil_append]
      rw [hbo] at H6 ⊢
      simp only at H6 ⊢
      simp only [push_cast, seval, hE.P, awrite, wpc_label, g6, hW.nb0]
      refine (goodR_at hE (V := V) (by omega) hsm (hbl hsz) w6 hG6 hV0).mono ?_
      rintro v h7 ⟨rfl, k7', w7⟩
      have g7 := k7'.get _ _ g6
      have k7 := k6.trans k7'
      rw [hg]
      simp only [push_cast, seval, hE.P, awrite, wpc_label, g7, hW.nb0]
      refine (wordsR_at hE V.sz V (Nat.le_refl _) (by omega) hgp.1 w7 (hG6.keep k7') hV0).mono ?_
      rintro v h8 ⟨rfl, k8', w8⟩
      have g8 := k8'.get _ _ g7
      have k8 := k7.trans k8'
      have H8 := (H6.keep k7').keep k8'
      rw [← ow, ← oc]
      have e1 : decide ((wv : Int) > W) = false := by simp; omega
      have e2 : decide ((nv : Int) > nS) = false := by simp; omega
      have e3 : ((wv : Int) != wv) = false := by simp
      have e4 : ((nv : Int) != nv) = false := by simp
      have e5 : ((allO (obs 0 V) : Int) == wv) = true := by simp [hwv]
      have e6 : (((obs 0 V).length : Int) == nv) = true := by simp [hnv]
      have hnp := obs_pos 0 V
      have hxl : hOf (nv - 1) < 18446744073709551616 := hOf_lt (by omega)
      simp only [push_cast, seval, hE.P, awrite, wpc_label, e1, e2, e3, e4, eW, eS, g8, hW.nb0]
      refine (reads_at hE H8 w8 hxl (by
        have := built_rd (O := obs 0 V) (V := V) (b := 0) (There.self [] _) hg hnm
        rw [← hnv, Nat.zero_add] at this; exact this) hg (hG6.keep (k7'.trans k8')) hV0).mono ?_
      rintro v h9 ⟨rfl, k9', w9⟩
      have H9 := H8.keep k9'
      simp only [push_cast, seval, hE.P, awrite, wpc_label]
      refine (oarena_at hE H9).mono ?_
      rintro v h10 ⟨rfl, rfl⟩
      simp only [push_cast, seval, hE.P, awrite, wpc_label]
      refine (otop_at hE H9).mono ?_
      rintro v h10 ⟨rfl, rfl⟩
      simp only [push_cast, seval, hE.P, awrite, wpc_label, e5]
      refine (otable_at hE H9).mono ?_
      rintro v h11 ⟨rfl, rfl⟩
      simp only [push_cast, seval, hE.P, awrite, wpc_label]
      refine (ocount_at hE H9).mono ?_
      rintro v h11 ⟨rfl, rfl⟩
      simp only [push_cast, seval, hE.P, awrite, wpc_label, e6]
      refine (setRoot_at hE H9 w9 (i := 0) (y := hOf (nv - 1)) (by omega) hxl (.inr (hOf_obj (by omega)))).mono ?_
      rintro v h12 ⟨rfl, H12, k12', w12⟩
      simp only [push_cast, seval, hE.P, awrite, wpc_label]
      refine (check_at hE H12 w12 (obs_ok V) (fun r hr => ?_)).mono ?_
      · rcases List.mem_or_eq_of_mem_set hr with h | h
        · have : r = 0 := by simpa using h
          subst this; exact ⟨by omega, .inl rfl⟩
        · subst h; exact ⟨hxl, .inr (hOf_obj (by omega))⟩
      rintro v h13 ⟨rfl, k13', w13⟩
      simp only [push_cast, seval, hE.P, awrite, wpc_label]
      have k9 := k8.trans k9'
      have k12 : Keep h h12 := ⟨fun b o hb => k12'.get b o (fun hh => by have := hlow _ hh; have := (hW.live _ _ hb).2; omega) (k9.get b o hb), by have := k9.next; have := k12'.next; omega⟩
      exact ⟨k12.trans k13', w13⟩
    · have hbo : buildO W nS [] V = (.tuple #[.int .u64 0, .int .i64 5], []) := by
        unfold buildO
        have h1 : ¬ (allO [] + allO (obs ([] : List Ob).length V) ≤ W ∧ ([] : List Ob).length + (obs ([] : List Ob).length V).length ≤ nS) := by
          show ¬ (0 + allO (obs 0 V) ≤ W ∧ 0 + (obs 0 V).length ≤ nS)
          omega
        rw [if_pos hg, if_neg h1]
      rw [hbo] at H6 ⊢
      simp only at H6 ⊢
      simp only [push_cast, seval, hE.P, awrite, wpc_label, g6, hW.nb0]
      refine (goodR_at hE (V := V) (by omega) hsm (hbl hsz) w6 hG6 hV0).mono ?_
      rintro v h7 ⟨rfl, k7', w7⟩
      have g7 := k7'.get _ _ g6
      have k7 := k6.trans k7'
      rw [hg]
      simp only [push_cast, seval, hE.P, awrite, wpc_label, g7, hW.nb0]
      refine (wordsR_at hE V.sz V (Nat.le_refl _) (by omega) hgp.1 w7 (hG6.keep k7') hV0).mono ?_
      rintro v h8 ⟨rfl, k8', w8⟩
      have k8 := k7.trans k8'
      have H8 := (H6.keep k7').keep k8'
      rw [← ow, ← oc]
      have e3 : ((wv : Int) != wv) = false := by simp
      have e4 : ((nv : Int) != nv) = false := by simp
      have e5 : ((allO [] : Nat) : Int) = 0 := rfl
      have e6 : ((([] : List Ob).length : Nat) : Int) = 0 := rfl
      simp only [push_cast, seval, hE.P, awrite, wpc_label, e3, e4, eW, eS]
      refine kguard_cut (fun tm' h2 => fget tm' 100 = .bool true ∧ fget tm' 12 = .int .i64 5 ∧ fget tm' 11 = .int .u64 0 ∧ fget tm' 7 = .pointer (some ⟨L.ph, 0, none⟩) ∧ h2 = h8) ?_ ?_
      rotate_left
      · refine kguard_splitF (fun hb => ?_) (fun hb => ?_)
        · have h1 : ¬ (wv : Int) > W := by simpa using hb
          have e2 : decide ((nv : Int) > nS) = true := by simp; omega
          simp only [push_cast, seval, hE.P, awrite, wpc_label, hb, e2, eS]
        · simp only [push_cast, seval, hE.P, awrite, wpc_label, hb]
      rintro tm' h9 ⟨f100, f12, f11, f7, rfl⟩
      simp only [push_cast, seval, hE.P, awrite, wpc_label, f100, f12, f11, f7]
      refine (oarena_at hE H8).mono ?_
      rintro v h10 ⟨rfl, rfl⟩
      simp only [push_cast, seval, hE.P, awrite, wpc_label]
      refine (otop_at hE H8).mono ?_
      rintro v h10 ⟨rfl, rfl⟩
      rw [e5]
      simp only [push_cast, seval, hE.P, awrite, wpc_label, f7]
      refine (otable_at hE H8).mono ?_
      rintro v h11 ⟨rfl, rfl⟩
      simp only [push_cast, seval, hE.P, awrite, wpc_label]
      refine (ocount_at hE H8).mono ?_
      rintro v h11 ⟨rfl, rfl⟩
      rw [e6]
      simp only [push_cast, seval, hE.P, awrite, wpc_label]
      exact ⟨k8, w8⟩
  · rw [if_neg hg]
    rw [← hgd] at hg ⊢
    simp only [push_cast, seval, hE.P, awrite, wpc_label, g5, hW.nb0]
    refine (build_at hE H5 (V := V) (by omega) w5 (hG.keep k5) hsep hV0).mono ?_
    rintro v h6 ⟨rfl, H6, k6', w6⟩
    have g6 := k6'.get _ _ (fun hh => by have := hlow _ hh; omega) g5
    have hG6 := hsep.frz (hG.keep k5) k6'
    have k6 : Keep h h6 := ⟨fun b o hb => k6'.get b o (fun hh => by have := hlow _ hh; have := (hW.live _ _ hb).2; omega) (k5.get b o hb), by have := k5.next; have := k6'.next; omega⟩
    have hbo : buildO W nS [] V = (.tuple #[.int .u64 0, .int .i64 gd], []) := by
      unfold buildO
      rw [if_neg (by rw [← hgd]; exact hg), hgd]
    rw [hbo] at H6 ⊢
    simp only at H6 ⊢
    simp only [push_cast, seval, hE.P, awrite, wpc_label, g6, hW.nb0]
    refine (goodR_at hE (V := V) (by omega) hsm (hbl hsz) w6 hG6 hV0).mono ?_
    rintro v h7 ⟨rfl, k7', w7⟩
    have k7 := k6.trans k7'
    have H7 := H6.keep k7'
    rw [← hgd]
    have eg : (gd != 0) = true := by simp [hg]
    have e5 : ((allO [] : Nat) : Int) = 0 := rfl
    simp only [push_cast, seval, hE.P, awrite, wpc_label, eg]
    refine (oarena_at hE H7).mono ?_
    rintro v h10 ⟨rfl, rfl⟩
    simp only [push_cast, seval, hE.P, awrite, wpc_label]
    refine (otop_at hE H7).mono ?_
    rintro v h10 ⟨rfl, rfl⟩
    rw [e5]
    simp only [push_cast, seval, hE.P, awrite, wpc_label]
    exact ⟨k7, w7⟩
end Go.Proofs.YthfopcdammlmfaaGreatDoor
