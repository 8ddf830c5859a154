/- path.isName. -/
/- Merged by a program of ours: Y7 P10 Y8 Y9. -/
import Derived.Test.YthfopcdammlmfaaGreatDoorJ2
import Derived.Test.YthfopcdammlmfaaGreatDoorF3
import Derived.Test.YthfopcdammlmfaaGreatDoorF1
import Derived.Laws.RangeAny
import Derived.Test.YthfopcdammlmfaaGreatDoorC6
set_option maxRecDepth 10000
set_option linter.all false
set_option linter.unusedSimpArgs false
set_option linter.unusedVariables false
/- The reference's Compare. -/
namespace Go.Proofs.YthfopcdammlmfaaGreatDoor
open Go.Tm
theorem cmp_bslt : ∀ a b : List UInt8, Lib.compareBytes a b = if bslt a b = true then -1 else if (a == b) = true then 0 else 1
  | [], [] => rfl
  | [], _ :: _ => rfl
  | _ :: _, [] => rfl
  | a :: p, b :: q => by
    have ih := cmp_bslt p q
    unfold bslt at ih ⊢
    simp only [Lib.compareBytes, Op.bytesLess]
    by_cases h1 : a < b
    · simp [h1]
    · by_cases h2 : b < a
      · have h3 : a ≠ b := fun h => UInt8.lt_irrefl b (by rw [h] at h2; exact h2)
        simp [h1, h2, h3]
      · have : a = b := UInt8.le_antisymm (UInt8.not_lt.1 h2) (UInt8.not_lt.1 h1)
        subst this
        simp only [h1, if_false]
        rw [ih]
        simp
variable {E : Env} (hE : EOk E)
include hE
theorem cmpR_at {h : Heap} {a b : Int} : CallsTo E 86 [.int .i64 a, .int .i64 b] h fun v h' => v = .int .i64 (cmpI a b) ∧ h' = h := by
  refine en hE Tryz.func86 rfl rfl Tryz.ntmps86 rfl (by decide +kernel) (rs := [.tmp 4]) rfl ?_
  simp only [push_cast, seval, hE.P, zz]
  unfold cmpI
  refine kif_split (fun hb => ?_) (fun hb => ?_)
  · have h1 : a < b := by simpa using hb
    simp only [push_cast, seval, hE.P, zz]
    rw [if_pos h1]
  · have h1 : ¬ a < b := by simpa using hb
    simp only [push_cast, seval, hE.P, zz]
    refine kif_split (fun hb => ?_) (fun hb => ?_)
    · have h2 : a > b := by simpa using hb
      simp only [push_cast, seval, hE.P, zz]
      rw [if_neg h1, if_pos h2]
    · have h2 : ¬ a > b := by simpa using hb
      simp only [push_cast, seval, hE.P, zz]
      rw [if_neg h1, if_neg h2]
theorem strR_at {h : Heap} {a b : ByteArray} : CallsTo E 87 [.string a, .string b] h fun v h' => v = .int .i64 (cmpS a b) ∧ h' = h := by
  refine en hE Tryz.func87 rfl rfl Tryz.ntmps87 rfl (by decide +kernel) (rs := [.tmp 4]) rfl ?_
  simp only [push_cast, seval, hE.P, zz]
  have e := cmp_bslt a.data.toList b.data.toList
  refine kif_split (fun hb => ?_) (fun hb => ?_)
  · simp only [push_cast, seval, hE.P, zz]
    unfold cmpS
    rw [e, if_pos hb]
  · simp only [push_cast, seval, hE.P, zz]
    refine kif_split (fun hb2 => ?_) (fun hb2 => ?_)
    · have hne : (a.data.toList == b.data.toList) = false := by rw [hb] at hb2; simpa using hb2
      simp only [push_cast, seval, hE.P, zz]
      unfold cmpS
      rw [e, if_neg (by rw [hb]; simp), if_neg (by rw [hne]; simp)]
    · have hq : (a.data.toList == b.data.toList) = true := by rw [hb] at hb2; simpa using hb2
      simp only [push_cast, seval, hE.P, zz]
      unfold cmpS
      rw [e, if_neg (by rw [hb]; simp), if_pos hq]
theorem compareR_at : ∀ (n : Nat) (V : Vl), V.sz ≤ n → ∀ (W : Vl), allV formedV V = true → allV formedV W = true → ∀ {G G2 : Mem} {h : Heap}, WF E h → Frz E G h → Frz E G2 h → ∀ {c d : List Value}, Rep E G V c → Rep E G2 W d →
    CallsTo E 31 [.agg c.toArray, .agg d.toArray] h fun v h' => v = .int .i64 (cmpV V W) ∧ Keep h h' ∧ WF E h' := by
  intro n
  induction n with
  | zero => intro V hn; have := sz_eq V; omega
  | succ n ih =>
    intro V hn W hfV hfW G G2 h hW hG hG2 c d hV hV2
    have heq := cmpV_eq V W
    have hun := formed_unused (allV_self hfV)
    have hunW := formed_unused (allV_self hfW)
    have hVl : ∀ x ∈ V.l, allV formedV x = true := fun x hx => allV_part hfV (by
      have h5 : V.k = 5 := Classical.byContradiction fun hk => by rw [hun.2.2.1 hk] at hx; cases hx
      simp [Vl.parts, h5, hx])
    have hVf : ∀ x ∈ V.f, allV formedV x.2 = true := fun x hx => allV_part hfV (by
      have h6 : V.k = 6 := Classical.byContradiction fun hk => by rw [hun.2.2.2 hk] at hx; cases hx
      simp only [Vl.parts, h6]
      simp
      exact ⟨x.1, hx⟩)
    have hWl : ∀ x ∈ W.l, allV formedV x = true := fun x hx => allV_part hfW (by
      have h5 : W.k = 5 := Classical.byContradiction fun hk => by rw [hunW.2.2.1 hk] at hx; cases hx
      simp [Vl.parts, h5, hx])
    have hWf : ∀ x ∈ W.f, allV formedV x.2 = true := fun x hx => allV_part hfW (by
      have h6 : W.k = 6 := Classical.byContradiction fun hk => by rw [hunW.2.2.2 hk] at hx; cases hx
      simp only [Vl.parts, h6]
      simp
      exact ⟨x.1, hx⟩)
    obtain ⟨sl, sf, cl, cf, rfl, hsl, hsf, hl, hf, hb1, hb2, hb3⟩ := hV.cells
    obtain ⟨a2, cap2, rfl, _, _⟩ := hsl.slice
    obtain ⟨a3, cap3, rfl, _, _⟩ := hsf.slice
    obtain ⟨sl2, sf2, cl2, cf2, rfl, hsl2, hsf2, hl2, hf2, hd1, hd2, hd3⟩ := hV2.cells
    obtain ⟨d2, dap2, rfl, _, _⟩ := hsl2.slice
    obtain ⟨d3, dap3, rfl, _, _⟩ := hsf2.slice
    refine en hE Tryz.func31 rfl rfl Tryz.ntmps31 rfl (by decide +kernel) (rs := [.tmp 4]) rfl ?_
    simp only [push_cast, seval, hE.P, zz, hW.nb, hW.nb0]
    obtain ⟨CV, hCV⟩ : ∃ CV : AObj, CV = .cells [.int .i64 V.k, .int .i64 V.n, .string V.s, .slice a2 V.l.length cap2, .slice a3 V.f.length cap3] 25 true := ⟨_, rfl⟩
    obtain ⟨CW, hCW⟩ : ∃ CW : AObj, CW = .cells [.int .i64 W.k, .int .i64 W.n, .string W.s, .slice d2 W.l.length dap2, .slice d3 W.f.length dap3] 25 true := ⟨_, rfl⟩
    rw [← hCV, ← hCW]
    have k0 : Keep h ((h.push CV).push CW) := ((Keep.refl h).push hW).push (hW.push _)
    have w0 : WF E ((h.push CV).push CW) := (hW.push _).push _
    have ga : ((h.push CV).push CW).get h.next = some CV := by rw [get_push, if_neg (by simp), get_push, if_pos rfl]
    have gb : ((h.push CV).push CW).get (h.next + 1) = some CW := by rw [get_push, if_pos (by simp)]
    generalize (h.push CV).push CW = H at *
    rw [hCV] at ga
    rw [hCW] at gb
    have nb0 : (h.next < E.base) = False := hW.nb0
    have nb1 : (h.next + 1 < E.base) = False := hW.nb 1
    refine kif_split (fun hb => ?_) (fun hb => ?_)
    · have hne : V.k ≠ W.k := by simpa using hb
      have hc : cmpI V.k W.k ≠ 0 := fun h => hne (cmpI_eq h)
      simp only [push_cast, seval, hE.P, zz, ga, gb, nb0, nb1]
      refine (cmpR_at hE).mono ?_
      rintro v h1 ⟨rfl, rfl⟩
      simp only [push_cast, seval, hE.P, zz]
      exact ⟨by rw [heq, orI_ne hc], k0, w0⟩
    have hk : V.k = W.k := by simpa using hb
    have href := cmp_ref (allV_self hfV) (allV_self hfW) hk
    clear hb heq
    simp only [push_cast, seval, hE.P, zz, ga, gb, nb0, nb1]
    refine kif_split (fun hb => ?_) (fun hb => ?_)
    · have hne : V.n ≠ W.n := by simpa using hb
      have hc : cmpI V.n W.n ≠ 0 := fun h => hne (cmpI_eq h)
      rw [orI_ne hc] at href
      rw [← href]
      simp only [push_cast, seval, hE.P, zz, ga, gb, nb0, nb1]
      refine kif_split (fun hb => ?_) (fun hb => ?_)
      · have h1 : V.n < W.n := by simpa using hb
        simp only [push_cast, seval, hE.P, zz]
        exact ⟨by simp [cmpI, h1], k0, w0⟩
      · have h1 : ¬ V.n < W.n := by simpa using hb
        simp only [push_cast, seval, hE.P, zz]
        exact ⟨by unfold cmpI; rw [if_neg h1, if_pos (by omega)], k0, w0⟩
    have hnn : V.n = W.n := by simpa using hb
    rw [hnn, cmpI_self, orI_0] at href
    clear hb
    simp only [push_cast, seval, hE.P, zz, ga, gb, nb0, nb1]
    refine (strR_at hE).mono ?_
    rintro v h1 ⟨rfl, rfl⟩
    rw [← orI_assoc, ← orI_assoc] at href
    obtain ⟨c0, hc0⟩ : ∃ c0, c0 = cmpS V.s W.s := ⟨_, rfl⟩
    rw [← hc0] at href ⊢
    simp only [push_cast, seval, hE.P, zz]
    refine wpc_loop (fun m tm h' => ∃ (i : Nat) (c : Int), m = V.l.length + 1 - i ∧ i ≤ V.l.length ∧ fget tm 6 = .int .i64 i ∧ fget tm 5 = .int .i64 c ∧ fget tm 2 = .pointer (some ⟨h.next, 0, none⟩) ∧ fget tm 3 = .pointer (some ⟨h.next + 1, 0, none⟩) ∧ orI c0 (cmpL V.l W.l) = orI c (cmpL (V.l.drop i) (W.l.drop i)) ∧ Keep h1 h' ∧ WF E h') (V.l.length + 1) ?_ ?_
    · exact ⟨0, c0, by omega, by omega, by simp only [push_cast, seval, hE.P, zz], by simp only [push_cast, seval, hE.P, zz], by simp only [push_cast, seval, hE.P, zz], by simp only [push_cast, seval, hE.P, zz], rfl, Keep.refl _, w0⟩
    · rintro m tm h2 ⟨i, c, rfl, hi, f6, f5, f2, f3, hc, hk2, hw⟩
      have ga2 := hk2.get _ _ ga
      have gb2 := hk2.get _ _ gb
      simp only [push_cast, seval, hE.P, zz, f6, f5]
      refine kguard_cut (fun tm' h' => fget tm' 48 = .bool ((c == 0) && (decide (i < V.l.length) && decide (i < W.l.length))) ∧ fget tm' 6 = .int .i64 i ∧ fget tm' 5 = .int .i64 c ∧ fget tm' 2 = .pointer (some ⟨h.next, 0, none⟩) ∧ fget tm' 3 = .pointer (some ⟨h.next + 1, 0, none⟩) ∧ h' = h2) ?_ ?_
      rotate_left
      · refine kguard_splitT (fun hb => ?_) (fun hb => ?_)
        · simp only [push_cast, seval, hE.P, zz, hb, f6, f5, f2, f3, ga2, gb2, nb0, nb1]
          refine kguard_splitT (fun hb3 => ?_) (fun hb3 => ?_)
          · simp only [push_cast, seval, hE.P, zz, hb, hb3, f6, f5, f2, f3, ga2, gb2, nb0, nb1]
            have hlt : i < V.l.length := by simpa using hb3
            simp [hlt]
          · simp only [push_cast, seval, hE.P, zz, hb, hb3, f6, f5, f2, f3, ga2, gb2, nb0, nb1]
            have hlt : ¬ i < V.l.length := by simpa using hb3
            simp [hlt]
        · simp only [push_cast, seval, hE.P, zz, hb, f6, f5, f2, f3, ga2, gb2, nb0, nb1]
      rintro tm' h' ⟨f48, f6', f5', f2', f3', rfl⟩
      clear f6 f5 f2 f3
      simp only [push_cast, seval, hE.P, zz, f48]
      refine kif_split (fun hb => ?_) (fun hb => ?_)
      · obtain ⟨hcz, hi1', hi2'⟩ : c = 0 ∧ i < V.l.length ∧ i < W.l.length := by simpa using hb
        obtain ⟨a, cc, e1', hsp, hac⟩ := hsl.elem (hG.keep (k0.trans hk2)) hi1'
        injection e1' with e1' e2' e3'; subst e1'; subst e3'
        obtain ⟨b, d, e1', hsp2, hac2⟩ := hsl2.elem (hG2.keep (k0.trans hk2)) hi2'
        injection e1' with e1' e2' e3'; subst e1'; subst e3'
        have hrc := hl.at i V.l[i] (by simp [hi1'])
        have hrd := hl2.at i W.l[i] (by simp [hi2'])
        have hps := l_sz (v := V) (x := V.l[i]) (by simp)
        obtain ⟨i1, hi1⟩ : ∃ i1, i1 = i + 1 := ⟨_, rfl⟩
        have e1 : (i : Int) + 1 = i1 := by omega
        have e2 : IntKind.i64.wrap (i1 : Int) = i1 := wrN (by omega)
        rw [hcz, orI_0, cmpL_step hi1' hi2', ← hi1] at hc
        simp only [push_cast, seval, hE.P, zz]
        refine wdraw_calm (by rw [hE.P]; decide +kernel) ?_
        simp only [push_cast, seval, hE.P, zz, f6', f2', f3', ga2, gb2, nb0, nb1]
        rw [ia22 hsp (by omega) (by omega), kpure_some]
        simp only [push_cast, seval, hE.P, zz, f6', f2', f3', ga2, gb2, nb0, nb1, ↓hac]
        rw [ia22 hsp2 (by omega) (by omega), kpure_some]
        simp only [push_cast, seval, hE.P, zz, f6', f2', f3', ga2, gb2, nb0, nb1, ↓hac2]
        refine (ih V.l[i] (by omega) W.l[i] (hVl _ (by simp)) (hWl _ (by simp)) hw (hG.keep (k0.trans hk2)) (hG2.keep (k0.trans hk2)) hrc hrd).mono ?_
        rintro v h3 ⟨rfl, k3, w3⟩
        simp only [push_cast, seval, hE.P, zz, f6', f2', f3', e1, e2]
        exact ⟨V.l.length + 1 - i1, by omega, i1, _, rfl, by omega, rfl, rfl, hc, hk2.trans k3, w3⟩
      · have hex : orI c (cmpL (V.l.drop i) (W.l.drop i)) = c := by
          by_cases hcz : c = 0
          · have hge : ¬ (i < V.l.length ∧ i < W.l.length) := fun hh => by
              rw [hcz] at hb
              simp [hh.1, hh.2] at hb
            rw [cmpL_end hge, orI_r0]
          · exact orI_ne hcz
        rw [hc, hex] at href
        clear hc hex hb hi f48 f6'
        simp only [push_cast, seval, hE.P, zz, f2', f3']
        refine wpc_loop (fun m tm h'' => ∃ (i : Nat) (x : Int), m = V.f.length + 1 - i ∧ i ≤ V.f.length ∧ fget tm 7 = .int .i64 i ∧ fget tm 5 = .int .i64 x ∧ fget tm 2 = .pointer (some ⟨h.next, 0, none⟩) ∧ fget tm 3 = .pointer (some ⟨h.next + 1, 0, none⟩) ∧ orI c (cmpF V.f W.f) = orI x (cmpF (V.f.drop i) (W.f.drop i)) ∧ Keep h1 h'' ∧ WF E h'') (V.f.length + 1) ?_ ?_
        · exact ⟨0, c, by omega, by omega, by simp only [push_cast, seval, hE.P, zz], by simp only [push_cast, seval, hE.P, zz, f5'], by simp only [push_cast, seval, hE.P, zz, f2'], by simp only [push_cast, seval, hE.P, zz, f3'], rfl, hk2, hw⟩
        · clear f2' f3' f5' ga2 gb2 hk2 hw
          clear i tm tm'
          rintro m tm h2 ⟨i, x, rfl, hi, f7, f5, f2, f3, hc, hk2, hw⟩
          have ga2 := hk2.get _ _ ga
          have gb2 := hk2.get _ _ gb
          simp only [push_cast, seval, hE.P, zz, f7, f5]
          refine kguard_cut (fun tm' h'' => fget tm' 77 = .bool ((x == 0) && (decide (i < V.f.length) && decide (i < W.f.length))) ∧ fget tm' 7 = .int .i64 i ∧ fget tm' 5 = .int .i64 x ∧ fget tm' 2 = .pointer (some ⟨h.next, 0, none⟩) ∧ fget tm' 3 = .pointer (some ⟨h.next + 1, 0, none⟩) ∧ h'' = h2) ?_ ?_
          rotate_left
          · refine kguard_splitT (fun hb => ?_) (fun hb => ?_)
            · simp only [push_cast, seval, hE.P, zz, hb, f7, f5, f2, f3, ga2, gb2, nb0, nb1]
              refine kguard_splitT (fun hb3 => ?_) (fun hb3 => ?_)
              · simp only [push_cast, seval, hE.P, zz, hb, hb3, f7, f5, f2, f3, ga2, gb2, nb0, nb1]
                have hlt : i < V.f.length := by simpa using hb3
                simp [hlt]
              · simp only [push_cast, seval, hE.P, zz, hb, hb3, f7, f5, f2, f3, ga2, gb2, nb0, nb1]
                have hlt : ¬ i < V.f.length := by simpa using hb3
                simp [hlt]
            · simp only [push_cast, seval, hE.P, zz, hb, f7, f5, f2, f3, ga2, gb2, nb0, nb1]
          rintro tm' h'' ⟨f77, f7', f5', f2', f3', rfl⟩
          clear f7 f5 f2 f3
          simp only [push_cast, seval, hE.P, zz, f77]
          refine kif_split (fun hb => ?_) (fun hb => ?_)
          · obtain ⟨hcz, hi1', hi2'⟩ : x = 0 ∧ i < V.f.length ∧ i < W.f.length := by simpa using hb
            obtain ⟨a, cc, e1', hsp, hac⟩ := hsf.elem (hG.keep (k0.trans hk2)) hi1'
            injection e1' with e1' e2' e3'; subst e1'; subst e3'
            obtain ⟨b, d, e1', hsp2, hac2⟩ := hsf2.elem (hG2.keep (k0.trans hk2)) hi2'
            injection e1' with e1' e2' e3'; subst e1'; subst e3'
            obtain ⟨c1, hc1, hrc, hnm⟩ := hf.at i V.f[i].1 V.f[i].2 (List.getElem?_eq_getElem hi1')
            obtain ⟨c2, hc2, hrd, hnm2⟩ := hf2.at i W.f[i].1 W.f[i].2 (List.getElem?_eq_getElem hi2')
            rw [hc1] at hac
            rw [hc2] at hac2
            have p1 := acells_part hac 0 1 (by omega)
            have p2 := acells_part hac 1 5 (by omega)
            have q1 := acells_part hac2 0 1 (by omega)
            have q2 := acells_part hac2 1 5 (by omega)
            have hcl1 : c1.length = 5 := by obtain ⟨_, _, _, _, rfl, _⟩ := hrc.cells; rfl
            have hcl2 : c2.length = 5 := by obtain ⟨_, _, _, _, rfl, _⟩ := hrd.cells; rfl
            simp only [Nat.add_zero, List.drop_zero, List.take_succ_cons, List.take_zero] at p1 q1
            simp only [List.drop_succ_cons, List.drop_zero] at p2 q2
            rw [List.take_of_length_le (by omega)] at p2 q2
            have hps := f_sz (v := V) (x := V.f[i]) (by simp)
            obtain ⟨i1, hi1⟩ : ∃ i1, i1 = i + 1 := ⟨_, rfl⟩
            have e1 : (i : Int) + 1 = i1 := by omega
            have e2 : IntKind.i64.wrap (i1 : Int) = i1 := wrN (by omega)
            rw [hcz, orI_0, cmpF_step hi1' hi2', ← hi1] at hc
            simp only [push_cast, seval, hE.P, zz]
            refine wdraw_calm (by rw [hE.P]; decide +kernel) ?_
            simp only [push_cast, seval, hE.P, zz, f7', f2', f3', ga2, gb2, nb0, nb1]
            rw [ia23 hsp (by omega) (by omega), kpure_some]
            simp only [push_cast, seval, hE.P, zz, f7', f2', f3', ga2, gb2, nb0, nb1, ↓p1]
            rw [ia23 hsp2 (by omega) (by omega), kpure_some]
            simp only [push_cast, seval, hE.P, zz, f7', f2', f3', ga2, gb2, nb0, nb1, ↓q1]
            refine (strR_at hE).mono ?_
            rintro v h3 ⟨rfl, rfl⟩
            obtain ⟨y, hy⟩ : ∃ y, y = cmpS V.f[i].1 W.f[i].1 := ⟨_, rfl⟩
            rw [← hy] at hc ⊢
            simp only [push_cast, seval, hE.P, zz]
            refine kif_split (fun hb2 => ?_) (fun hb2 => ?_)
            · have hyz : y = 0 := by simpa using hb2
              rw [hyz, orI_0] at hc
              simp only [push_cast, seval, hE.P, zz]
              refine wdraw_calm (by rw [hE.P]; decide +kernel) ?_
              simp only [push_cast, seval, hE.P, zz, f7', f2', f3', ga2, gb2, nb0, nb1]
              rw [ia23 hsp (by omega) (by omega), kpure_some]
              simp only [push_cast, seval, hE.P, zz, f7', f2', f3', ga2, gb2, nb0, nb1, ↓p2]
              rw [ia23 hsp2 (by omega) (by omega), kpure_some]
              simp only [push_cast, seval, hE.P, zz, f7', f2', f3', ga2, gb2, nb0, nb1, ↓q2]
              refine (ih V.f[i].2 (by omega) W.f[i].2 (hVf _ (by simp)) (hWf _ (by simp)) hw (hG.keep (k0.trans hk2)) (hG2.keep (k0.trans hk2)) hrc hrd).mono ?_
              rintro v h4 ⟨rfl, k4, w4⟩
              simp only [push_cast, seval, hE.P, zz, f7', f2', f3', e1, e2]
              exact ⟨V.f.length + 1 - i1, by omega, i1, _, rfl, by omega, rfl, rfl, hc, hk2.trans k4, w4⟩
            · have hyz : y ≠ 0 := by simpa using hb2
              simp only [push_cast, seval, hE.P, zz, f7', f2', f3', e1, e2]
              refine ⟨V.f.length + 1 - i1, by omega, i1, _, rfl, by omega, rfl, rfl, ?_, hk2, hw⟩
              rw [hc, orI_ne hyz, orI_ne hyz]
          · have hex : orI x (cmpF (V.f.drop i) (W.f.drop i)) = x := by
              by_cases hcz : x = 0
              · have hge : ¬ (i < V.f.length ∧ i < W.f.length) := fun hh => by
                  rw [hcz] at hb
                  simp [hh.1, hh.2] at hb
                rw [cmpF_end hge, orI_r0]
              · exact orI_ne hcz
            rw [hc, hex] at href
            simp only [push_cast, seval, hE.P, zz, f5', f2', f3']
            refine kif_split (fun hb2 => ?_) (fun hb2 => ?_)
            · have hxz : x ≠ 0 := by simpa using hb2
              rw [orI_ne hxz] at href
              simp only [push_cast, seval, hE.P, zz, f5']
              exact ⟨by rw [href], k0.trans hk2, hw⟩
            · have hxz : x = 0 := by simpa using hb2
              rw [hxz, orI_0] at href
              have s1 : IntKind.i64.wrap ((V.l.length : Int) + V.f.length) = (V.l.length : Int) + V.f.length := wr64 (by omega) (by omega)
              have s2 : IntKind.i64.wrap ((W.l.length : Int) + W.f.length) = (W.l.length : Int) + W.f.length := wr64 (by omega) (by omega)
              simp only [push_cast, seval, hE.P, zz, f5', f2', f3', ga2, gb2, nb0, nb1, s1, s2]
              refine (cmpR_at hE).mono ?_
              rintro v h3 ⟨rfl, rfl⟩
              rw [href]
              simp only [push_cast, seval, hE.P, zz]
              exact ⟨k0.trans hk2, hw⟩
end Go.Proofs.YthfopcdammlmfaaGreatDoor
/- PLAIN: steps of paths, by their bytes. No program in sight. -/
namespace Go.Tm
def digN (d : Nat) : Bool := decide (48 ≤ d) && decide (d ≤ 57)
def letN (d : Nat) : Bool := (decide (97 ≤ d) && decide (d ≤ 122)) || ((decide (65 ≤ d) && decide (d ≤ 90)) || d == 95)
def valD (l : List Nat) : Nat := l.foldl (fun n d => 10 * n + (d - 48)) 0
theorem valD_app (l : List Nat) (d : Nat) : valD (l ++ [d]) = 10 * valD l + (d - 48) := by unfold valD; rw [List.foldl_append]; rfl
def placeB (l : List Nat) : Int := if l.length < 1 ∨ l.length > 2 ∨ (l.length = 2 ∧ l.getD 0 0 = 48) then -1 else if l.all digN = true then (valD l : Int) else -1
def nameB (l : List Nat) : Bool := decide (1 ≤ l.length) && decide (l.length ≤ 24) && letN (l.getD 0 0) && (l.drop 1).all fun d => letN d || digN d
theorem valD_lt2 {l : List Nat} (h : l.length ≤ 2) (hd : l.all digN = true) : valD l ≤ 99 :=
  match l, h with
  | [], _ => by decide
  | [a], _ => by
    simp [digN] at hd
    simp [valD]; omega
  | [a, b], _ => by
    simp [digN] at hd
    simp [valD]; omega
theorem decode_lo (s : ByteArray) (pos : Nat) (h : pos < s.size) (ha : (strB s)[pos]'(by rw [strB_len]; exact h) < 128) : Utf8.decode s pos = ((strB s)[pos]'(by rw [strB_len]; exact h), 1) := by
  have e : (strB s)[pos]'(by rw [strB_len]; exact h) = (s[pos]'h).toNat := by simp [strB]; rfl
  rw [e] at ha ⊢
  exact decode_ascii s pos h ha
theorem decode_hi (s : ByteArray) (pos : Nat) (h : pos < s.size) (ha : 128 ≤ (strB s)[pos]'(by rw [strB_len]; exact h)) : 128 ≤ (Utf8.decode s pos).1 ∧ 1 ≤ (Utf8.decode s pos).2 ∧ (Utf8.decode s pos).1 ≤ 2147483647 := by
  have e : (strB s)[pos]'(by rw [strB_len]; exact h) = (s[pos]'h).toNat := by simp [strB]; rfl
  rw [e] at ha
  obtain ⟨a, b⟩ := decode_high s pos h ha
  exact ⟨a, b, decode_le s pos⟩
end Go.Tm
/- path.place, path.isName: steps, rune by rune. -/
namespace Go.Proofs.YthfopcdammlmfaaGreatDoor
open Go.Tm
theorem rg_str {ev : Operand → Value} {x : Operand} {s : ByteArray} (h : ev x = .string s) : aalloc Tryz.prog ev (.range 9 x) = some (fun b => .pointer (some ⟨b, 0, none⟩), .iter s 0) := by
  simp only [aalloc, h, Tryz.underlying9]
theorem nx_more {h : Heap} {b pos : Nat} {s : ByteArray} (hg : h.get b = some (.iter s pos)) (hp : pos < s.size) : anext h (.pointer (some ⟨b, 0, none⟩)) true = some (.tuple #[.bool true, .int .i64 pos, .int .i32 ((Utf8.decode s pos).1 : Nat)], h.put b (.iter s (pos + (Utf8.decode s pos).2))) := by
  simp only [anext, hg, hp, if_true]
theorem nx_end {h : Heap} {b pos : Nat} {s : ByteArray} (hg : h.get b = some (.iter s pos)) (hp : ¬ pos < s.size) : anext h (.pointer (some ⟨b, 0, none⟩)) true = some (.tuple #[.bool false], h) := by
  simp only [anext, hg, hp, if_false]
theorem beq_cast (r k : Nat) : ((r : Int) == (k : Int)) = (r == k) := by rw [Bool.eq_iff_iff]; simp; omega
variable {E : Env} (hE : EOk E)
include hE
theorem digit_at {h : Heap} {r : Nat} : CallsTo E 161 [.int .i32 (r : Int)] h fun v h' => v = .bool (digN r) ∧ h' = h := by
  refine en hE Tryz.func161 rfl rfl Tryz.ntmps161 rfl (by decide +kernel) (rs := [.tmp 2]) rfl ?_
  simp only [push_cast, seval, hE.P, zz]
  refine kguard_splitT (fun hb => ?_) (fun hb => ?_)
  · have h1 : 48 ≤ r := by have : (48 : Int) ≤ r := by simpa using hb
                           omega
    simp only [push_cast, seval, hE.P, zz, hb]
    have e : decide ((r : Int) ≤ 57) = decide (r ≤ 57) := by apply decide_eq_decide.2; omega
    rw [digN, decide_eq_true h1, Bool.true_and, e]
  · have h1 : ¬ 48 ≤ r := by have : ¬ (48 : Int) ≤ r := by simpa using hb
                             omega
    simp only [push_cast, seval, hE.P, zz, hb]
    simp [digN, h1]
theorem letter_at {h : Heap} {r : Nat} : CallsTo E 162 [.int .i32 (r : Int)] h fun v h' => v = .bool (letN r) ∧ h' = h := by
  have d1 : decide ((r : Int) ≥ 97) = decide (97 ≤ r) := decide_eq_decide.2 (by omega)
  have d2 : decide ((r : Int) ≤ 122) = decide (r ≤ 122) := decide_eq_decide.2 (by omega)
  have d3 : decide ((r : Int) ≥ 65) = decide (65 ≤ r) := decide_eq_decide.2 (by omega)
  have d4 : decide ((r : Int) ≤ 90) = decide (r ≤ 90) := decide_eq_decide.2 (by omega)
  have d5 : ((r : Int) == 95) = (r == 95) := beq_cast r 95
  refine en hE Tryz.func162 rfl rfl Tryz.ntmps162 rfl (by decide +kernel) (rs := [.tmp 2]) rfl ?_
  by_cases c1 : 97 ≤ r
  · by_cases c2 : r ≤ 122
    · simp only [push_cast, seval, hE.P, zz, d1, d2, d3, d4, d5, c1, c2]
      simp [letN, c1, c2]
    · have c3 : ¬ r ≤ 90 := by omega
      have c4 : 65 ≤ r := by omega
      have c5 : (r == 95) = false := by simp; omega
      simp only [push_cast, seval, hE.P, zz, d1, d2, d3, d4, d5, c1, c2, c3, c4, c5]
      simp [letN, c2, c3, c5]
  · by_cases c4 : 65 ≤ r
    · by_cases c3 : r ≤ 90
      · simp only [push_cast, seval, hE.P, zz, d1, d2, d3, d4, d5, c1, c4, c3]
        simp [letN, c4, c3]
      · simp only [push_cast, seval, hE.P, zz, d1, d2, d3, d4, d5, c1, c4, c3]
        simp [letN, c1, c3]
    · have c5 : (r == 95) = false := by simp; omega
      simp only [push_cast, seval, hE.P, zz, d1, d2, d3, d4, d5, c1, c4, c5]
      simp [letN, c1, c4, c5]
theorem place_at {h : Heap} (hW : WF E h) {s : ByteArray} (hs : s.size ≤ 140737488355328) : CallsTo E 129 [.string s] h fun v h' => (∃ n : Int, v = .tuple #[.int .i64 n, .bool (decide (0 ≤ placeB (strB s)))] ∧ (0 ≤ placeB (strB s) → n = placeB (strB s))) ∧ Keep h h' ∧ WF E h' := by
  have hlen := strB_len s
  refine en hE Tryz.func129 rfl rfl Tryz.ntmps129 rfl (by decide +kernel) (rs := [.tmp 2, .tmp 3]) rfl ?_
  simp only [push_cast, seval, hE.P, zz]
  rw [rg_str (s := s) (by simp only [push_cast, seval, hE.P, zz]), kalloc_some]
  have k0 := (Keep.refl h).push (o := .iter s 0) hW
  have w0 := hW.push (.iter s 0)
  have g0 : (h.push (.iter s 0)).get h.next = some (.iter s 0) := by rw [get_push, if_pos rfl]
  generalize h.push (.iter s 0) = H at *
  simp only [push_cast, seval, hE.P, zz]
  refine wpc_loop (fun m tm h' => ∃ i n : Nat, m = s.size - i ∧ i ≤ s.size ∧ fget tm 8 = .pointer (some ⟨h.next, 0, none⟩) ∧ fget tm 4 = .int .i64 n ∧ fget tm 0 = .string s ∧ h'.get h.next = some (.iter s i) ∧ ((strB s).take i).all digN = true ∧ n = valD ((strB s).take i) ∧ n ≤ 99 ∧ Keep h h' ∧ WF E h') s.size ?_ ?_
  · exact ⟨0, 0, by omega, by omega, by simp only [push_cast, seval, hE.P, zz], by simp only [push_cast, seval, hE.P, zz], by simp only [push_cast, seval, hE.P, zz], g0, rfl, rfl, by omega, k0, w0⟩
  · rintro m tm h1 ⟨i, n, rfl, hi, f8, f4, f0, hg, hall, hn, hn99, hk, hw⟩
    by_cases hlt : i < s.size
    · have hil : i < (strB s).length := by omega
      obtain ⟨w, hw1, hw2⟩ : ∃ w, (Utf8.decode s i).2 = w ∧ 1 ≤ w := by
        by_cases hc : (strB s)[i] < 128
        · exact ⟨1, by rw [decode_lo s i hlt hc], Nat.le_refl _⟩
        · exact ⟨_, rfl, (decode_hi s i hlt (by omega)).2.1⟩
      obtain ⟨r, hr⟩ : ∃ r, (Utf8.decode s i).1 = r := ⟨_, rfl⟩
      have hnx := nx_more hg hlt
      rw [hw1, hr] at hnx
      have kp : Keep h (h1.put h.next (.iter s (i + w))) := Keep.putNew hk hW (Nat.le_refl _)
      have wp : WF E (h1.put h.next (.iter s (i + w))) := hw.put hg
      have gp : (h1.put h.next (.iter s (i + w))).get h.next = some (.iter s (i + w)) := by rw [get_put, if_pos rfl]
      generalize h1.put h.next (.iter s (i + w)) = h2 at *
      simp only [push_cast, seval, hE.P, zz, f8, hnx]
      refine (digit_at hE).mono ?_
      rintro v h3 ⟨rfl, rfl⟩
      by_cases hd : digN r = true
      · have hc : (strB s)[i] < 128 := by
          apply Classical.byContradiction; intro hc
          have := (decode_hi s i hlt (by omega)).1
          rw [hr] at this
          simp [digN] at hd; omega
        have hdl := decode_lo s i hlt hc
        rw [hdl] at hr hw1
        simp only at hr hw1
        subst hw1
        have hd2 := hd
        simp [digN] at hd2
        have e0 : IntKind.i64.wrap (10 * (n : Int)) = ((10 * n : Nat) : Int) := by rw [wr64 (by omega) (by omega)]; omega
        have e1 : IntKind.i32.wrap ((r : Int) - 48) = ((r - 48 : Nat) : Int) := by unfold IntKind.wrap; simp [IntKind.signed, IntKind.bits]; omega
        have e2 : IntKind.i64.wrap ((r - 48 : Nat) : Int) = ((r - 48 : Nat) : Int) := wrN (by omega)
        obtain ⟨d, hdd⟩ : ∃ d, d = r - 48 := ⟨_, rfl⟩
        rw [← hdd] at e1 e2
        obtain ⟨n10, hn10⟩ : ∃ n10, n10 = 10 * n := ⟨_, rfl⟩
        rw [← hn10] at e0
        obtain ⟨n2, hn2⟩ : ∃ n2, n2 = n10 + d := ⟨_, rfl⟩
        have e3 : (n10 : Int) + d = n2 := by omega
        have e4 : IntKind.i64.wrap (n2 : Int) = n2 := wrN (by omega)
        have hv : valD ((strB s).take (i + 1)) = n2 := by
          rw [List.take_succ_eq_append_getElem hil, valD_app, ← hn, hr]; omega
        have hall2 : ((strB s).take (i + 1)).all digN = true := by
          rw [List.take_succ_eq_append_getElem hil, List.all_append, hall, hr]; simp [hd]
        simp only [push_cast, seval, hE.P, zz, f4, hd, e0, e1, e2, e3, e4]
        refine kif_split (fun hb => ?_) (fun hb => ?_)
        · have hgt : n2 > 99 := by have : (n2 : Int) > 99 := by simpa using hb
                                   omega
          have hpl : placeB (strB s) = -1 := by
            unfold placeB
            by_cases h2 : (strB s).length ≤ 2
            · have := valD_lt2 (l := (strB s).take (i + 1)) (by rw [List.length_take]; omega) hall2
              omega
            · rw [if_pos (.inr (.inl (by omega)))]
          simp only [push_cast, seval, hE.P, zz]
          exact ⟨⟨0, by rw [hpl]; rfl, fun hh => by rw [hpl] at hh; omega⟩, kp, wp⟩
        · have hle : n2 ≤ 99 := by have : ¬ (n2 : Int) > 99 := by simpa using hb
                                   omega
          simp only [push_cast, seval, hE.P, zz, f8, f0]
          exact ⟨s.size - (i + 1), by omega, i + 1, n2, rfl, by omega, rfl, gp, hall2, hv.symm, hle, kp, wp⟩
      · have hd' : digN r = false := by simpa using hd
        have hpl : placeB (strB s) = -1 := by
          unfold placeB
          by_cases h2 : (strB s).length < 1 ∨ (strB s).length > 2 ∨ ((strB s).length = 2 ∧ (strB s).getD 0 0 = 48)
          · rw [if_pos h2]
          · rw [if_neg h2, if_neg]
            intro hh
            have h3 := List.all_eq_true.1 hh ((strB s)[i]) (List.getElem_mem hil)
            have hc : (strB s)[i] < 128 := by simp [digN] at h3; omega
            rw [decode_lo s i hlt hc] at hr
            simp only at hr
            rw [hr] at h3; exact hd h3
        simp only [push_cast, seval, hE.P, zz, hd']
        exact ⟨⟨0, by rw [hpl]; rfl, fun hh => by rw [hpl] at hh; omega⟩, kp, wp⟩
    · have hnx := nx_end hg hlt
      have hie : i = s.size := by omega
      rw [hie, List.take_of_length_le (by omega)] at hall hn
      simp only [push_cast, seval, hE.P, zz, f8, hnx]
      refine wdraw_calm (by rw [hE.P]; decide +kernel) ?_
      by_cases h1 : s.size = 1
      · have e1 : ((s.size : Int) == 1) = true := by simp [h1]
        have hpl : placeB (strB s) = valD (strB s) := by
          unfold placeB
          rw [if_neg (by omega), if_pos hall]
        simp only [push_cast, seval, hE.P, zz, f4, f0, e1]
        exact ⟨⟨n, by rw [hpl, decide_eq_true (by omega)], fun _ => by rw [hpl, hn]⟩, hk, hw⟩
      · have e1 : ((s.size : Int) == 1) = false := by simp; omega
        by_cases h2 : s.size = 2
        · have e2 : ((s.size : Int) == 2) = true := by simp [h2]
          have hix : aindex Tryz.prog 9 (.string s) (.int .i64 0) = some (.int .u8 ((s.data.toList.getD 0 0).toNat : Nat)) := aidx (s := s) (k := .i64) (i := 0) (by omega)
          obtain ⟨c, hc⟩ : ∃ c, c = (s.data.toList.getD 0 0).toNat := ⟨_, rfl⟩
          rw [← hc] at hix
          have hc0 : (strB s).getD 0 0 = c := by
            rw [hc]; unfold strB
            have : 0 < s.data.toList.length := by simp; omega
            rw [List.getD_eq_getElem?_getD, List.getD_eq_getElem?_getD, List.getElem?_map, List.getElem?_eq_getElem this]; rfl
          have e3 : ((c : Int) != 48) = !(c == 48) := by
            show (!((c : Int) == ((48 : Nat) : Int))) = _
            rw [beq_cast]
          simp only [push_cast, seval, hE.P, zz, f4, f0, e1, e2, hix, e3]
          by_cases e : c = 48
          · have hpl : placeB (strB s) = -1 := by
              unfold placeB
              rw [if_pos (.inr (.inr ⟨by omega, by rw [hc0]; exact e⟩))]
            exact ⟨⟨n, by rw [hpl]; simp [e], fun hh => by rw [hpl] at hh; omega⟩, hk, hw⟩
          · have hpl : placeB (strB s) = valD (strB s) := by
              unfold placeB
              rw [if_neg (by rw [hc0]; omega), if_pos hall]
            exact ⟨⟨n, by rw [hpl, decide_eq_true (by omega)]; simp [e], fun _ => by rw [hpl, hn]⟩, hk, hw⟩
        · have e2 : ((s.size : Int) == 2) = false := by simp; omega
          have hpl : placeB (strB s) = -1 := by
            unfold placeB
            rw [if_pos (by omega)]
          simp only [push_cast, seval, hE.P, zz, f4, f0, e1, e2]
          exact ⟨⟨n, by rw [hpl]; rfl, fun hh => by rw [hpl] at hh; omega⟩, hk, hw⟩
end Go.Proofs.YthfopcdammlmfaaGreatDoor
namespace Go.Proofs.YthfopcdammlmfaaGreatDoor
open Go.Tm
theorem empty_size2 (s : ByteArray) : (s.data.toList == []) = decide (s.size < 1) := by
  have h : s.size = s.data.toList.length := by simp
  rw [h]
  cases s.data.toList with
  | nil => rfl
  | cons a l => rfl
variable {E : Env} (hE : EOk E)
include hE
theorem isName_at {h : Heap} (hW : WF E h) {s : ByteArray} (hs : s.size ≤ 140737488355328) : CallsTo E 130 [.string s] h fun v h' => v = .bool (nameB (strB s)) ∧ Keep h h' ∧ WF E h' := by
  have hlen := strB_len s
  refine en hE Tryz.func130 rfl rfl Tryz.ntmps130 rfl (by decide +kernel) (rs := [.tmp 2]) rfl ?_
  simp only [push_cast, seval, hE.P, zz]
  rw [rg_str (s := s) (by simp only [push_cast, seval, hE.P, zz]), kalloc_some]
  have k0 := (Keep.refl h).push (o := .iter s 0) hW
  have w0 := hW.push (.iter s 0)
  have g0 : (h.push (.iter s 0)).get h.next = some (.iter s 0) := by rw [get_push, if_pos rfl]
  generalize h.push (.iter s 0) = H at *
  simp only [push_cast, seval, hE.P, zz]
  refine wpc_loop (fun m tm h' => ∃ i : Nat, m = s.size - i ∧ i ≤ s.size ∧ fget tm 6 = .pointer (some ⟨h.next, 0, none⟩) ∧ fget tm 0 = .string s ∧ h'.get h.next = some (.iter s i) ∧ (1 ≤ i → letN ((strB s).getD 0 0) = true) ∧ (((strB s).take i).drop 1).all (fun d => letN d || digN d) = true ∧ Keep h h' ∧ WF E h') s.size ?_ ?_
  · exact ⟨0, by omega, by omega, by simp only [push_cast, seval, hE.P, zz], by simp only [push_cast, seval, hE.P, zz], g0, by omega, rfl, k0, w0⟩
  · rintro m tm h1 ⟨i, rfl, hi, f6, f0, hg, hfst, hall, hk, hw⟩
    by_cases hlt : i < s.size
    · have hil : i < (strB s).length := by omega
      have hil2 : 0 < (strB s).length := by omega
      obtain ⟨w, hw1⟩ : ∃ w, (Utf8.decode s i).2 = w := ⟨_, rfl⟩
      obtain ⟨r, hr⟩ : ∃ r, (Utf8.decode s i).1 = r := ⟨_, rfl⟩
      have hnx := nx_more hg hlt
      rw [hw1, hr] at hnx
      have kp : Keep h (h1.put h.next (.iter s (i + w))) := Keep.putNew hk hW (Nat.le_refl _)
      have wp : WF E (h1.put h.next (.iter s (i + w))) := hw.put hg
      have gp : (h1.put h.next (.iter s (i + w))).get h.next = some (.iter s (i + w)) := by rw [get_put, if_pos rfl]
      generalize h1.put h.next (.iter s (i + w)) = h2 at *
      have hrb : r < 128 → r = (strB s)[i] ∧ w = 1 := fun hh => by
        have hc : (strB s)[i] < 128 := by
          apply Classical.byContradiction; intro hc
          have := (decode_hi s i hlt (by omega)).1
          omega
        rw [decode_lo s i hlt hc] at hr hw1
        exact ⟨hr.symm, hw1.symm⟩
      have hbad : (i = 0 → letN (strB s)[i] = false) → (letN (strB s)[i] || digN (strB s)[i]) = false ∨ i = 0 → nameB (strB s) = false := fun h0 h1 => by
        unfold nameB
        rcases Nat.eq_zero_or_pos i with e | e
        · have e2 : (strB s).getD 0 0 = (strB s)[i] := by subst e; rw [List.getD_eq_getElem?_getD, List.getElem?_eq_getElem hil2]; rfl
          rw [e2, h0 e]; simp
        · have h2 : (letN (strB s)[i] || digN (strB s)[i]) = false := by
            rcases h1 with h1 | h1
            · exact h1
            · omega
          have h3 : ((strB s).drop 1).all (fun d => letN d || digN d) = false := by
            rw [List.all_eq_false]
            exact ⟨(strB s)[i], List.mem_of_getElem? (i := i - 1) (by rw [List.getElem?_drop, show 1 + (i - 1) = i by omega]; exact List.getElem?_eq_getElem hil), by rw [h2]; simp⟩
          rw [h3, Bool.and_false]
      have hout : letN r = false → digN r = false ∨ i = 0 → nameB (strB s) = false := fun a b => by
        by_cases hr2 : r < 128
        · have hq := (hrb hr2).1
          rw [hq] at a
          refine hbad (fun _ => a) ?_
          rcases b with b | b
          · rw [hq] at b; exact .inl (by rw [a, b]; rfl)
          · exact .inr b
        · have hc : 128 ≤ (strB s)[i] := by
            apply Classical.byContradiction; intro hc
            rw [decode_lo s i hlt (by omega)] at hr
            simp only at hr; omega
          have a1 : letN (strB s)[i] = false := by simp [letN]; omega
          have a2 : digN (strB s)[i] = false := by simp [digN]; omega
          exact hbad (fun _ => a1) (.inl (by rw [a1, a2]; rfl))
      have hgo : (letN r || (digN r && !(i == 0))) = true → w = 1 ∧ (1 ≤ i + 1 → letN ((strB s).getD 0 0) = true) ∧ (((strB s).take (i + 1)).drop 1).all (fun d => letN d || digN d) = true := fun hh => by
        have hr2 : r < 128 := by
          simp only [letN, digN, Bool.or_eq_true, Bool.and_eq_true, decide_eq_true_eq, beq_iff_eq] at hh
          omega
        obtain ⟨hq, hw3⟩ := hrb hr2
        refine ⟨hw3, fun _ => ?_, ?_⟩
        · rcases Nat.eq_zero_or_pos i with e | e
          · have e2 : (strB s).getD 0 0 = (strB s)[i] := by subst e; rw [List.getD_eq_getElem?_getD, List.getElem?_eq_getElem hil2]; rfl
            rw [e2, ← hq]
            subst e
            simpa using hh
          · exact hfst e
        · rw [List.take_succ_eq_append_getElem hil]
          rcases Nat.eq_zero_or_pos i with e | e
          · subst e; simp
          · rw [List.drop_append_of_le_length (by rw [List.length_take]; omega), List.all_append, hall]
            simp only [List.all_cons, List.all_nil, Bool.and_true, Bool.true_and]
            rw [← hq]
            have : (i == 0) = false := by simp; omega
            rw [this] at hh
            simpa using hh
      simp only [push_cast, seval, hE.P, zz, f6, hnx]
      refine (letter_at hE).mono ?_
      rintro v h3 ⟨rfl, rfl⟩
      by_cases hl : letN r = true
      · obtain ⟨rfl, q1, q2⟩ := hgo (by rw [hl]; rfl)
        simp only [push_cast, seval, hE.P, zz, hl, f6, f0]
        exact ⟨s.size - (i + 1), by omega, i + 1, rfl, by omega, gp, q1, q2, kp, wp⟩
      · have hl' : letN r = false := by simpa using hl
        by_cases hz : i = 0
        · have ez : ((i : Int) == 0) = true := by simp [hz]
          simp only [push_cast, seval, hE.P, zz, hl', ez, f6, f0]
          exact ⟨by rw [hout hl' (.inr hz)], kp, wp⟩
        · have ez : ((i : Int) == 0) = false := by simp [hz]
          simp only [push_cast, seval, hE.P, zz, hl', ez, f6, f0]
          refine (digit_at hE).mono ?_
          rintro v h4 ⟨rfl, rfl⟩
          by_cases hd : digN r = true
          · obtain ⟨rfl, q1, q2⟩ := hgo (by rw [hd]; simp [hz])
            simp only [push_cast, seval, hE.P, zz, hd, f6, f0]
            exact ⟨s.size - (i + 1), by omega, i + 1, rfl, by omega, gp, q1, q2, kp, wp⟩
          · have hd' : digN r = false := by simpa using hd
            simp only [push_cast, seval, hE.P, zz, hd', f6, f0]
            exact ⟨by rw [hout hl' (.inl hd')], kp, wp⟩
    · have hnx := nx_end hg hlt
      have hie : i = s.size := by omega
      rw [hie, List.take_of_length_le (by omega)] at hall
      rw [hie] at hfst
      have hes := empty_size2 s
      by_cases h1 : s.size < 1
      · rw [decide_eq_true h1] at hes
        have hpl : nameB (strB s) = false := by
          unfold nameB
          have : ¬ 1 ≤ (strB s).length := by omega
          simp [this]
        simp only [push_cast, seval, hE.P, zz, f6, hnx, f0, hes]
        exact ⟨by rw [hpl], hk, hw⟩
      · rw [decide_eq_false h1] at hes
        have hpl : nameB (strB s) = decide (s.size ≤ 24) := by
          unfold nameB
          have : 1 ≤ (strB s).length := by omega
          rw [hall, hfst (by omega), decide_eq_true this, hlen]; simp
        have e24 : decide ((s.size : Int) ≤ 24) = decide (s.size ≤ 24) := decide_eq_decide.2 (by omega)
        simp only [push_cast, seval, hE.P, zz, f6, hnx, f0, hes]
        exact ⟨by rw [hpl, e24], hk, hw⟩
end Go.Proofs.YthfopcdammlmfaaGreatDoor
