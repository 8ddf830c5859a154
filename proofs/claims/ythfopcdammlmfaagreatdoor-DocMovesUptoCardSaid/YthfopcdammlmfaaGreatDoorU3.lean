/- Building a value, whatever was freed, whoever watches. -/
/- Merged by a program of ours: B6 B7. -/
import Derived.Test.YthfopcdammlmfaaGreatDoorU2
import Derived.Test.YthfopcdammlmfaaGreatDoorC5
import Derived.Test.YthfopcdammlmfaaGreatDoorC6
set_option maxRecDepth 10000
set_option linter.all false
set_option linter.unusedSimpArgs false
set_option linter.unusedVariables false
/- The builder: values, whatever was freed, whoever watches. -/
namespace Go.Proofs.YthfopcdammlmfaaGreatDoor.B
open Go.Tm
theorem hasLo.up {lo lo' : Nat} {L : HL} {w : Wv} (h : hasLo lo L w) (hl : lo ≤ lo') : hasLo lo' L w := by
 cases w with
 | no => trivial
 | mk mb => exact Nat.lt_of_lt_of_le h hl
 | co cb mb => exact ⟨Nat.lt_of_lt_of_le h.1 hl, Nat.lt_of_lt_of_le h.2 hl⟩
theorem IsO.f_lt {E : Env} {h : Heap} {L : HL} {W nS : Nat} {R : Bs} {O : List Ob} (H : IsO E h L W nS R O) {j : Nat} (hj : j < O.length) : R.f j < 18446744073709551616 := by
 obtain ⟨S, N, F, H, w, l, hN, hf, _⟩ := H
 have hj2 : j < N.length := by rw [← hN, List.length_map] at hj; exact hj
 have := hf j N[j] (List.getElem?_eq_getElem hj2)
 rw [← this.1]
 exact (w.hd_lt H.ok (by simp)).1
variable {E : Env} (hE : EOk E)
include hE
theorem value_at : ∀ (n : Nat) (V : Vl), V.sz ≤ n → ∀ {G : Mem} {h : Heap} {L : HL} {W nS : Nat} {R : Bs} {O : List Ob}, IsO E h L W nS R O → WF E h → Frz E G h → Sep L G → ∀ {c : List Value}, Rep E G V c → allV canB V = true →
 allO O + allO (obg R.f O.length V) ≤ W → O.length + (obg R.f O.length V).length ≤ nS →
 CallsTo E 43 [.agg #[.pointer (some ⟨L.ph, 0, none⟩)], .agg c.toArray] h fun v h' =>
  v = .int .u64 (R.f (O.length + (obg R.f O.length V).length - 1)) ∧ IsO E h' L W nS R (O ++ obg R.f O.length V) ∧ KeepB L h h' ∧ WF E h' := by
 intro n
 induction n with
 | zero => intro V hV; have := sz_eq V; omega
 | succ n ih =>
   intro V hVn G h L W nS R O H hW hG hS c hV hcan hroom1 hroom2
   obtain ⟨sl, sf, cl, cf, rfl, hsl, hsf, hl, hf, hb1, hb2, hb3⟩ := hV.cells
   obtain ⟨a2, cap2, rfl, _, _⟩ := hsl.slice
   obtain ⟨a3, cap3, rfl, _, _⟩ := hsf.slice
   rw [allV_eq, Bool.and_eq_true] at hcan
   obtain ⟨hcan1, hcan2⟩ := hcan
   have hcan3 := hcan1
   simp only [canB, fewV, Bool.and_eq_true, decide_eq_true_eq] at hcan3
   obtain ⟨⟨⟨hll, hfl⟩, hnm⟩, hss⟩ := hcan3
   have hlt := H.lt hW
   have hwl := H.wlt hW
   have hnS : nS ≤ 1048576 := H.room.2.1
   refine en hE Tryz.func43 rfl rfl Tryz.ntmps43 rfl (by decide +kernel) (rs := [.tmp 4]) rfl ?_
   simp only [push_cast, seval, hE.P, zz, hW.nb, hW.nb0]
   have hw0 : WF E ((h.push (.cells [.pointer (some ⟨L.ph, 0, none⟩)] 79 true)).push (.cells [.int .i64 V.k, .int .i64 V.n, .string V.s, .slice a2 V.l.length cap2, .slice a3 V.f.length cap3] 25 true)) := (hW.push _).push _
   have k0 : Keep h ((h.push (.cells [.pointer (some ⟨L.ph, 0, none⟩)] 79 true)).push (.cells [.int .i64 V.k, .int .i64 V.n, .string V.s, .slice a2 V.l.length cap2, .slice a3 V.f.length cap3] 25 true)) := ((Keep.refl h).push hW).push (hW.push _)
   have g0 : ((h.push (.cells [.pointer (some ⟨L.ph, 0, none⟩)] 79 true)).push (.cells [.int .i64 V.k, .int .i64 V.n, .string V.s, .slice a2 V.l.length cap2, .slice a3 V.f.length cap3] 25 true)).get h.next = some (.cells [.pointer (some ⟨L.ph, 0, none⟩)] 79 true) := by
    rw [get_push, if_neg (by simp), get_push, if_pos rfl]
   have g1 : ((h.push (.cells [.pointer (some ⟨L.ph, 0, none⟩)] 79 true)).push (.cells [.int .i64 V.k, .int .i64 V.n, .string V.s, .slice a2 V.l.length cap2, .slice a3 V.f.length cap3] 25 true)).get (h.next + 1) = some (.cells [.int .i64 V.k, .int .i64 V.n, .string V.s, .slice a2 V.l.length cap2, .slice a3 V.f.length cap3] 25 true) := by
    rw [get_push, if_pos (by simp)]
   have nb1 : (h.next + 1 < E.base) = False := by have := hW.base; simp; omega
   have hnx : ((h.push (.cells [.pointer (some ⟨L.ph, 0, none⟩)] 79 true)).push (.cells [.int .i64 V.k, .int .i64 V.n, .string V.s, .slice a2 V.l.length cap2, .slice a3 V.f.length cap3] 25 true)).next = h.next + 2 := by simp
   generalize hH0 : (h.push (.cells [.pointer (some ⟨L.ph, 0, none⟩)] 79 true)).push (.cells [.int .i64 V.k, .int .i64 V.n, .string V.s, .slice a2 V.l.length cap2, .slice a3 V.f.length cap3] 25 true) = H0 at *
   have hk0 := H.keep k0
   rw [obg_eq] at hroom1 hroom2 ⊢
   have hscalar : ∀ (t : Nat), 1 ≤ t → t ≤ 255 → ∀ {R' : Value → Heap → Prop}, fitsO W nS O 1 → (∀ h2, IsO E h2 L W nS R (O ++ [⟨t, 0, [u64N V.n]⟩]) → KeepB L h h2 → WF E h2 → R' (.int .u64 (R.f O.length)) h2) →
    CallsTo E 100 [.agg #[.pointer (some ⟨L.ph, 0, none⟩)], .int .i64 t, .slice none 0 0, .slice (some ⟨H0.next, 0, none⟩) 1 1] (H0.push (.cells [.int .u64 (u64N V.n : Nat)] 33 true)) R' := by
    intro t ht1 ht2 R' hfit hK
    have w1 := hw0.push (.cells [.int .u64 (u64N V.n : Nat)] 33 true)
    have k1 := (Keep.refl H0).push (o := .cells [.int .u64 (u64N V.n : Nat)] 33 true) hw0
    obtain ⟨G', hsl', hfz', hlo'⟩ := own_sl (E := E) (h := H0.push (.cells [.int .u64 (u64N V.n : Nat)] 33 true)) (e := 33) (z := 1) (lo := H0.next) (n := 1) (cs := u64s [u64N V.n]) (v := .slice (some ⟨H0.next, 0, none⟩) 1 1) w1
     (.inr ⟨H0.next, 1, [], true, rfl, by rw [get_push, if_pos rfl]; rfl, rfl, rfl, Nat.le_refl _, Nat.le_refl _, by omega⟩)
    have hsep' : Sep L G' := fun b hb => by
     cases hc : G' b with
     | none => rfl
     | some c => have := hlo' b c hc; have := (hlt b hb).2; omega
    refine (of_at hE (hk0.keep k1) w1 hfz' hsep' (t := t) ht1 ht2 (hs := []) (ws := [u64N V.n]) (by simp) (fun y hy => by cases hy) (fun y hy => by simp at hy; subst hy; exact u64N_lt _) sl_nil hsl' hfit).mono ?_
    rintro v h2 ⟨rfl, H2, k2, w2⟩
    exact hK h2 H2 (((k0.trans k1).b L).trans k2) w2
   refine kif_split (fun hb => ?_) (fun hb => ?_)
   ·have hk : V.k = 2 := by simpa using hb
    simp only [if_pos hk] at hroom1 hroom2 ⊢
    simp only [push_cast, seval, hE.P, zz, g0, g1, hW.nb0, nb1]
    rw [u64N_cast]
    rw [bs50 rfl, kalloc_some]
    simp only [push_cast, seval, hE.P, zz, g0, g1, hW.nb0, nb1]
    refine hscalar 2 (by omega) (by omega) ⟨by simpa [allO_cons, allO_nil] using hroom1, by simp at hroom2; omega⟩ fun h2 H2 k2 w2 => ?_
    simp only [push_cast, seval, hE.P, zz]
    exact ⟨H2, k2, w2⟩
   ·have hk2 : V.k ≠ 2 := by simpa using hb
    simp only [if_neg hk2] at hroom1 hroom2 ⊢
    simp only [push_cast, seval, hE.P, zz]
    refine kif_split (fun hb => ?_) (fun hb => ?_)
    ·have hk : V.k = 3 := by simpa using hb
     simp only [if_pos hk] at hroom1 hroom2 ⊢
     simp only [push_cast, seval, hE.P, zz, g0, g1, hW.nb0, nb1]
     rw [u64N_cast]
     rw [bs50 rfl, kalloc_some]
     simp only [push_cast, seval, hE.P, zz, g0, g1, hW.nb0, nb1]
     refine hscalar 3 (by omega) (by omega) ⟨by simpa [allO_cons, allO_nil] using hroom1, by simp at hroom2; omega⟩ fun h2 H2 k2 w2 => ?_
     simp only [push_cast, seval, hE.P, zz]
     exact ⟨H2, k2, w2⟩
    ·have hk3 : V.k ≠ 3 := by simpa using hb
     simp only [if_neg hk3] at hroom1 hroom2 ⊢
     simp only [push_cast, seval, hE.P, zz]
     refine kif_split (fun hb => ?_) (fun hb => ?_)
     ·have hk : V.k = 4 := by simpa using hb
      simp only [if_pos hk] at hroom1 hroom2 ⊢
      simp only [push_cast, seval, hE.P, zz, g0, g1, hW.nb0, nb1]
      refine (text_at hE hk0 hw0 hss ⟨by simpa [allO_cons, allO_nil] using hroom1, by simp at hroom2; omega⟩).mono ?_
      rintro v h2 ⟨rfl, H2, k2, w2⟩
      simp only [push_cast, seval, hE.P, zz]
      exact ⟨H2, (k0.b L).trans k2, w2⟩
     ·have hk4 : V.k ≠ 4 := by simpa using hb
      simp only [if_neg hk4] at hroom1 hroom2 ⊢
      simp only [push_cast, seval, hE.P, zz]
      refine kif_split (fun hb => ?_) (fun hb => ?_)
      ·have hk : V.k = 5 := by simpa using hb
       simp only [if_pos hk] at hroom1 hroom2 ⊢
       have hp : V.parts = V.l := by simp [Vl.parts, hk]
       rw [hp, List.all_eq_true] at hcan2
       simp only [push_cast, seval, hE.P, zz, g0, g1, hW.nb0, nb1]
       rw [mk50 (by omega) (by omega) (by omega) (by omega), kalloc_some]
       simp only [push_cast, seval, hE.P, zz, g0, g1, hW.nb0, nb1, hnx]
       refine wpc_loop (fun m tm h' => ∃ i, m = V.l.length - i ∧ i ≤ V.l.length ∧ fget tm 44 = .int .i64 i ∧ fget tm 43 = .int .i64 V.l.length ∧ fget tm 42 = .slice a2 V.l.length cap2 ∧ fget tm 2 = .pointer (some ⟨h.next, 0, none⟩) ∧
        Own h' 33 1 (h.next + 2) i (u64s (obgL R.f O.length (V.l.take i)).2) (fget tm 5) ∧ IsO E h' L W nS R (O ++ (obgL R.f O.length (V.l.take i)).1) ∧ KeepB L H0 h' ∧ WF E h') V.l.length ?_ ?_
       ·refine ⟨0, by omega, by omega, by simp only [push_cast, seval, hE.P, zz], by simp only [push_cast, seval, hE.P, zz], by simp only [push_cast, seval, hE.P, zz], by simp only [push_cast, seval, hE.P, zz], ?_, ?_, ((Keep.refl H0).push hw0).b L, hw0.push _⟩
        ·simp only [push_cast, seval, hE.P, zz]
         have := Own.made (h := H0) (e := 33) (z := 1) (lo := h.next + 2) (c := V.l.length) (zs := [.int .u64 0]) rfl (by omega) (by omega)
         rw [hnx] at this
         exact this
        ·simpa [obgL] using hk0.keep ((Keep.refl H0).push hw0)
       ·rintro m tm h' ⟨i, rfl, hi, f44, f43, f42, f2, hown, H', k', w'⟩
        obtain ⟨v5, f5⟩ : ∃ v, fget tm 5 = v := ⟨_, rfl⟩
        rw [f5] at hown
        have hlo2 : ∀ b, b ∈ L.blocks → b < h.next + 2 := fun b hb => by have := (hlt b hb).2; omega
        have hwl2 : hasLo (h.next + 2) L R.w := hasLo.up hwl (by omega)
        have gB := k'.get h.next _ (fun hm => by have := (hlt _ hm).2; omega) g0
        have hG' : Frz E G h' := hS.frz hG ((k0.b L).trans k')
        have hkn := k'.next
        simp only [push_cast, seval, hE.P, zz, f44, f43]
        refine kif_split (fun hb => ?_) (fun hb => ?_)
        ·have hli : i < V.l.length := by simpa using hb
         obtain ⟨a, c, hsl1, hsp, hac⟩ := hsl.elem hG' hli
         injection hsl1 with hsl2 hsl3 hsl4; subst hsl2; subst hsl4
         have hrc := hl.at i V.l[i] (by simp [hli])
         have hxz : V.l[i].sz ≤ n := by have := l_sz (List.getElem_mem hli); omega
         have hxc := hcan2 V.l[i] (List.getElem_mem hli)
         obtain ⟨ci, hci⟩ : ∃ ci, ci = (cl.drop (i * 5)).take 5 := ⟨_, rfl⟩
         rw [← hci] at hrc hac
         obtain ⟨sl', sf', cl', cf', rfl, hsl', hsf', _⟩ := hrc.cells
         obtain ⟨a4, cap4, rfl, _, _⟩ := hsl'.slice
         obtain ⟨a5, cap5, rfl, _, _⟩ := hsf'.slice
         have htk := obgL_take (g := R.f) hli O.length
         obtain ⟨B, hB⟩ := obgL_pre (g := R.f) (l := V.l) (b := O.length) (i + 1)
         rw [htk] at hB
         simp only at hB
         rw [hB, allO_app, allO_app, allO_app] at hroom1
         rw [hB] at hroom2
         simp only [List.length_append] at hroom2
         have w'' := w'.push (.cells [.int .i64 V.l[i].k, .int .i64 V.l[i].n, .string V.l[i].s, .slice a4 V.l[i].l.length cap4, .slice a5 V.l[i].f.length cap5] 25 true)
         have k'' := (Keep.refl h').push (o := .cells [.int .i64 V.l[i].k, .int .i64 V.l[i].n, .string V.l[i].s, .slice a4 V.l[i].l.length cap4, .slice a5 V.l[i].f.length cap5] 25 true) w'
         have nbB : (h.next < E.base) = False := by have := hW.base; simp; omega
         have nbN : (h'.next < E.base) = False := by have := w'.base; simp; omega
         have hne : ¬ h'.next = h.next := by omega
         simp only [push_cast, seval, hE.P, zz, f44, f43, f42, f2, f5]
         rw [ia22 hsp (by omega) (by omega), kpure_some]
         simp only [push_cast, seval, hE.P, zz, f44, f43, f42, f2, f5, ↓hac, gB, nbB, nbN, hne]
         refine (ih V.l[i] hxz (H'.keep k'') w'' (hG'.keep k'') hS hrc hxc (by rw [allO_app, List.length_append]; omega) (by rw [List.length_append]; omega)).mono ?_
         rintro v h2 ⟨rfl, H2, k2, w2⟩
         rw [List.length_append] at H2 ⊢
         have hown2 := Own.keepB (hown.keep k'') hlo2 k2
         simp only [push_cast, seval, hE.P, zz, f44, f43, f42, f2, f5]
         rw [bs50 rfl, kalloc_some]
         simp only [push_cast, seval, hE.P, zz, f44, f43, f42, f2, f5]
         refine kwv_own1 (el50 hE.P) w2 (lo := h.next + 2) (by have := k2.next; simp at this; omega) hown2 rfl rfl (by omega) (by omega) ?_
         intro v' h3 hown3 hk3 hw3
         obtain ⟨i1, hi1⟩ : ∃ i1, i1 = i + 1 := ⟨_, rfl⟩
         have hi2 : (i : Int) + 1 = i1 := by omega
         have hi3 : IntKind.i64.wrap (i1 : Int) = i1 := wrN (by omega)
         simp only [push_cast, seval, hE.P, zz, f44, f43, f42, f2, f5, hi2, hi3]
         rw [← hi1] at hown3
         refine ⟨V.l.length - i1, by omega, i1, rfl, by omega, rfl, ?_, ?_, ?_, hw3⟩
         ·rw [← hi1] at htk
          rw [htk]
          unfold u64s
          rw [List.map_append]
          rw [List.length_append] at hown3
          exact hown3
         ·rw [← hi1] at htk
          rw [htk]
          rw [List.append_assoc] at H2
          exact IsO.keepLo H2 hlo2 hwl2 hk3
         ·exact KeepB.thenLo hw0 ((k'.trans (k''.b L)).trans k2) hk3 (by omega)
        ·have hge : i = V.l.length := by have : ¬ i < V.l.length := by simpa using hb
                                         omega
         subst hge
         rw [List.take_length] at H' hown
         obtain ⟨G2, hsl2, hfz2, hlo3⟩ := own_sl w' hown
         have hsep2 : Sep L G2 := fun b hb => by
          cases hc : G2 b with
          | none => rfl
          | some c => have := hlo3 b c hc; have := (hlt b hb).2; omega
         have hl2 := obgL_len (g := R.f) V.l O.length
         rw [← hl2] at hsl2
         rw [allO_app, allO_cons, allO_nil] at hroom1
         replace hroom1 : allO O + (allO (obgL R.f O.length V.l).1 + ((obgL R.f O.length V.l).2.length + 1 + 0)) ≤ W := hroom1
         simp only [List.length_append, List.length_cons, List.length_nil] at hroom2
         simp only [push_cast, seval, hE.P, zz, f2, f5, gB, hW.nb0]
         refine (of_at hE H' w' hfz2 hsep2 (t := 5) (by omega) (by omega) (hs := (obgL R.f O.length V.l).2) (ws := []) (by simp; omega) ?_ (fun y hy => by cases hy) hsl2 sl_nil ⟨by rw [allO_app]; simp; omega, by rw [List.length_append]; omega⟩).mono ?_
         ·intro y hy
          obtain ⟨j, rfl, hj1, hj2⟩ := obgL_h (g := R.f) V.l O.length y hy
          exact ⟨H'.f_lt (by rw [List.length_append]; omega), j, rfl, by rw [List.length_append]; omega⟩
         ·rintro v h2 ⟨rfl, H2, k2, w2⟩
          simp only [push_cast, seval, hE.P, zz]
          refine ⟨?_, ?_, ((k0.b L).trans k').trans k2, w2⟩
          ·rw [List.length_append, List.length_append, List.length_cons, List.length_nil]; rfl
          ·rw [List.append_nil, List.append_assoc] at H2; exact H2
      ·have hk5 : V.k ≠ 5 := by simpa using hb
       simp only [if_neg hk5] at hroom1 hroom2 ⊢
       simp only [push_cast, seval, hE.P, zz]
       refine kif_split (fun hb => ?_) (fun hb => ?_)
       ·have hk : V.k = 6 := by simpa using hb
        simp only [if_pos hk] at hroom1 hroom2 ⊢
        have hp : V.parts = V.f.map (·.2) := by simp [Vl.parts, hk]
        rw [hp, List.all_eq_true] at hcan2
        obtain ⟨c2, hc2⟩ : ∃ c2, c2 = 2 * V.f.length := ⟨_, rfl⟩
        have hc3 : (2 : Int) * V.f.length = c2 := by omega
        have hc4 : IntKind.i64.wrap (c2 : Int) = c2 := wrN (by omega)
        simp only [push_cast, seval, hE.P, zz, g0, g1, hW.nb0, nb1, hc3, hc4]
        rw [mk50 (by omega) (by omega) (by omega) (by omega), kalloc_some]
        simp only [push_cast, seval, hE.P, zz, g0, g1, hW.nb0, nb1, hnx]
        refine wpc_loop (fun m tm h' => ∃ i, m = V.f.length - i ∧ i ≤ V.f.length ∧ fget tm 68 = .int .i64 i ∧ fget tm 67 = .int .i64 V.f.length ∧ fget tm 66 = .slice a3 V.f.length cap3 ∧ fget tm 2 = .pointer (some ⟨h.next, 0, none⟩) ∧
         Own h' 33 1 (h.next + 2) (2 * i) (u64s (obgF R.f O.length (V.f.take i)).2) (fget tm 8) ∧ IsO E h' L W nS R (O ++ (obgF R.f O.length (V.f.take i)).1) ∧ KeepB L H0 h' ∧ WF E h') V.f.length ?_ ?_
        ·refine ⟨0, by omega, by omega, by simp only [push_cast, seval, hE.P, zz], by simp only [push_cast, seval, hE.P, zz], by simp only [push_cast, seval, hE.P, zz], by simp only [push_cast, seval, hE.P, zz], ?_, ?_, ((Keep.refl H0).push hw0).b L, hw0.push _⟩
         ·simp only [push_cast, seval, hE.P, zz]
          have := Own.made (h := H0) (e := 33) (z := 1) (lo := h.next + 2) (c := c2) (zs := [.int .u64 0]) rfl (by omega) (by omega)
          rw [hnx] at this
          exact this
         ·simpa [obgF] using hk0.keep ((Keep.refl H0).push hw0)
        ·rintro m tm h' ⟨i, rfl, hi, f68, f67, f66, f2, hown, H', k', w'⟩
         obtain ⟨v8, f8⟩ : ∃ v, fget tm 8 = v := ⟨_, rfl⟩
         rw [f8] at hown
         have hlo2 : ∀ b, b ∈ L.blocks → b < h.next + 2 := fun b hb => by have := (hlt b hb).2; omega
         have hwl2 : hasLo (h.next + 2) L R.w := hasLo.up hwl (by omega)
         have gB := k'.get h.next _ (fun hm => by have := (hlt _ hm).2; omega) g0
         have hG' : Frz E G h' := hS.frz hG ((k0.b L).trans k')
         have hkn := k'.next
         simp only [push_cast, seval, hE.P, zz, f68, f67]
         refine kif_split (fun hb => ?_) (fun hb => ?_)
         ·have hli : i < V.f.length := by simpa using hb
          obtain ⟨a, c, hsl1, hsp, hac⟩ := hsf.elem hG' hli
          injection hsl1 with hsl2 hsl3 hsl4; subst hsl2; subst hsl4
          obtain ⟨ci, hci, hrc, hnmb⟩ := hf.at i V.f[i].1 V.f[i].2 (by simp [hli])
          have hxz : V.f[i].2.sz ≤ n := by have := f_sz (List.getElem_mem hli); omega
          have hxc := hcan2 V.f[i].2 (List.mem_map.2 ⟨_, List.getElem_mem hli, rfl⟩)
          have hnms : V.f[i].1.size ≤ 10000 := by
           have := List.all_eq_true.1 hnm _ (List.getElem_mem hli)
           simp at this; omega
          rw [hci] at hac
          obtain ⟨sl', sf', cl', cf', rfl, hsl', hsf', _⟩ := hrc.cells
          obtain ⟨a4, cap4, rfl, _, _⟩ := hsl'.slice
          obtain ⟨a5, cap5, rfl, _, _⟩ := hsf'.slice
          have htk := obgF_take (g := R.f) hli O.length
          obtain ⟨B, hB⟩ := obgF_pre (g := R.f) (l := V.f) (b := O.length) (i + 1)
          rw [htk] at hB
          simp only at hB
          rw [hB, allO_app, allO_app, allO_app, allO_cons] at hroom1
          replace hroom1 : allO O + (allO (obgF R.f O.length (List.take i V.f)).1 + ((packW V.f[i].1).length + 1 + allO (obg R.f (O.length + (obgF R.f O.length (List.take i V.f)).1.length + 1) V.f[i].2)) + allO B + allO [⟨6, (obgF R.f O.length V.f).2.length, (obgF R.f O.length V.f).2⟩]) ≤ W := hroom1
          rw [hB] at hroom2
          simp only [List.length_append, List.length_cons] at hroom2
          have w'' := w'.push (.cells [.string V.f[i].1, .int .i64 V.f[i].2.k, .int .i64 V.f[i].2.n, .string V.f[i].2.s, .slice a4 V.f[i].2.l.length cap4, .slice a5 V.f[i].2.f.length cap5] 91 true)
          have k'' := (Keep.refl h').push (o := .cells [.string V.f[i].1, .int .i64 V.f[i].2.k, .int .i64 V.f[i].2.n, .string V.f[i].2.s, .slice a4 V.f[i].2.l.length cap4, .slice a5 V.f[i].2.f.length cap5] 91 true) w'
          have nbB : (h.next < E.base) = False := by have := hW.base; simp; omega
          have nbN : (h'.next < E.base) = False := by have := w'.base; simp; omega
          have hne : ¬ h'.next = h.next := by omega
          have hnmN : h'.next ∉ L.blocks := fun hm => by have := (hlt _ hm).2; omega
          have hnmB : h.next ∉ L.blocks := fun hm => by have := (hlt _ hm).2; omega
          simp only [push_cast, seval, hE.P, zz, f68, f67, f66, f2, f8]
          rw [ia23 hsp (by omega) (by omega), kpure_some]
          simp only [push_cast, seval, hE.P, zz, f68, f67, f66, f2, f8, ↓hac, gB, nbB, nbN, hne]
          refine wdraw_pairs [(5, 4), (7, 4)] (by rw [hE.P]; decide +kernel) (by rw [hE.P]; decide +kernel) (by rw [hE.P]; decide +kernel) ?_
          simp only [push_cast, seval, hE.P, zz, f68, f67, f66, f2, f8, gB, nbB, nbN, hne]
          refine (text_at hE (H'.keep k'') w'' hnms ⟨by rw [allO_app]; omega, by rw [List.length_append]; omega⟩).mono ?_
          rintro v h2 ⟨rfl, H2, k2, w2⟩
          have gB2 := k2.get h.next _ hnmB (k''.get _ _ gB)
          have gN2 := k2.get h'.next _ hnmN (show _ = some _ by rw [get_push, if_pos rfl])
          have hT : ∀ x : Nat, (O ++ (obgF R.f O.length (List.take i V.f)).1 ++ [(⟨4, 0, packW V.f[i].1⟩ : Ob)]).length = O.length + (obgF R.f O.length (List.take i V.f)).1.length + 1 := fun _ => by simp; omega
          simp only [push_cast, seval, hE.P, zz, f68, f67, f66, f2, f8, gB2, gN2, nbB, nbN, hne]
          refine (ih V.f[i].2 hxz H2 w2 (hS.frz (hG'.keep k'') k2) hS hrc hxc (by rw [hT 0, allO_app, allO_app, allO_cons, allO_nil]; show allO O + allO _ + ((packW V.f[i].1).length + 1 + 0) + _ ≤ W; omega) (by rw [hT 0]; omega)).mono ?_
          rintro v h3 ⟨rfl, H3, k3, w3⟩
          rw [hT 0] at H3 ⊢
          have hown3 := Own.keepB (Own.keepB (hown.keep k'') hlo2 k2) hlo2 k3
          simp only [push_cast, seval, hE.P, zz, f68, f67, f66, f2, f8, gB2, gN2, nbB, nbN, hne]
          have b2 := fun (x y : Nat) => buildSlice_two (el50 hE.P) (v := .int .u64 x) (w := .int .u64 y) rfl rfl
          simp only [hE.P] at b2
          rw [b2, kalloc_some]
          simp only [push_cast, seval, hE.P, zz, f68, f67, f66, f2, f8, gB2, gN2, nbB, nbN, hne]
          refine kwv_own2 (el50 hE.P) w3 (lo := h.next + 2) (by have := k2.next; have := k3.next; simp at *; omega) hown3 rfl rfl (by omega) (by omega) ?_
          intro v' h4 hown4 hk4 hw4
          obtain ⟨i1, hi1⟩ : ∃ i1, i1 = i + 1 := ⟨_, rfl⟩
          have hi2 : (i : Int) + 1 = i1 := by omega
          have hi3 : IntKind.i64.wrap (i1 : Int) = i1 := wrN (by omega)
          simp only [push_cast, seval, hE.P, zz, f68, f67, f66, f2, f8, hi2, hi3, gB, gB2, gN2, nbB, nbN, hne]
          rw [List.length_append] at hown4
          refine ⟨V.f.length - i1, by omega, i1, rfl, by omega, rfl, ?_, ?_, ?_, hw4⟩
          ·rw [← hi1] at htk
           rw [htk]
           have e2 : 2 * i1 = 2 * i + 2 := by omega
           unfold u64s at hown4 ⊢
           rw [List.map_append, e2]
           exact hown4
          ·rw [← hi1] at htk
           rw [htk]
           rw [List.append_assoc, List.append_assoc] at H3
           exact IsO.keepLo H3 hlo2 hwl2 hk4
          ·exact KeepB.thenLo hw0 (((k'.trans (k''.b L)).trans k2).trans k3) hk4 (by omega)
         ·have hge : i = V.f.length := by have : ¬ i < V.f.length := by simpa using hb
                                          omega
          subst hge
          rw [List.take_length] at H' hown
          obtain ⟨G2, hsl2, hfz2, hlo3⟩ := own_sl w' hown
          have hsep2 : Sep L G2 := fun b hb => by
           cases hc : G2 b with
           | none => rfl
           | some c => have := hlo3 b c hc; have := (hlt b hb).2; omega
          have hl2 := obgF_len (g := R.f) V.f O.length
          rw [← hl2] at hsl2
          rw [allO_app, allO_cons, allO_nil] at hroom1
          replace hroom1 : allO O + (allO (obgF R.f O.length V.f).1 + ((obgF R.f O.length V.f).2.length + 1 + 0)) ≤ W := hroom1
          simp only [List.length_append, List.length_cons, List.length_nil] at hroom2
          simp only [push_cast, seval, hE.P, zz, f2, f8, gB, hW.nb0]
          refine (of_at hE H' w' hfz2 hsep2 (t := 6) (by omega) (by omega) (hs := (obgF R.f O.length V.f).2) (ws := []) (by simp; omega) ?_ (fun y hy => by cases hy) hsl2 sl_nil ⟨by rw [allO_app]; simp; omega, by rw [List.length_append]; omega⟩).mono ?_
          ·intro y hy
           obtain ⟨j, rfl, hj1, hj2⟩ := obgF_h (g := R.f) V.f O.length y hy
           exact ⟨H'.f_lt (by rw [List.length_append]; omega), j, rfl, by rw [List.length_append]; omega⟩
          ·rintro v h2 ⟨rfl, H2, k2, w2⟩
           simp only [push_cast, seval, hE.P, zz]
           refine ⟨?_, ?_, ((k0.b L).trans k').trans k2, w2⟩
           ·rw [List.length_append, List.length_append, List.length_cons, List.length_nil]; rfl
           ·rw [List.append_nil, List.append_assoc] at H2; exact H2
       ·have hk6 : V.k ≠ 6 := by simpa using hb
        simp only [if_neg hk6] at hroom1 hroom2 ⊢
        simp only [push_cast, seval, hE.P, zz, g0, g1, hW.nb0, nb1]
        refine (of_at hE hk0 hw0 (noMem_frz E _) (fun _ _ => rfl) (t := 1) (by omega) (by omega) (hs := []) (ws := []) (by simp) (fun y hy => by cases hy) (fun y hy => by cases hy) sl_nil sl_nil ⟨by simpa [allO_cons, allO_nil] using hroom1, by simp at hroom2; omega⟩).mono ?_
        rintro v h2 ⟨rfl, H2, k2, w2⟩
        simp only [push_cast, seval, hE.P, zz]
        exact ⟨by simpa using H2, (k0.b L).trans k2, w2⟩
end Go.Proofs.YthfopcdammlmfaaGreatDoor.B
namespace Go.Proofs.YthfopcdammlmfaaGreatDoor.B
open Go.Tm
variable {E : Env} (hE : EOk E)
include hE
section
variable {h : Heap} {L : HL} {W nS : Nat} {R : Bs} {O : List Ob} (H : IsO E h L W nS R O)
include H
theorem room_at {w n : Int} (h1 : 0 ≤ w) (h2 : 0 ≤ n) : CallsTo E 42 [.pointer (some ⟨L.ph, 0, none⟩), .int .i64 w, .int .i64 n] h fun v h' =>
 v = .bool (decide (w ≤ (W : Int) - allO O) && decide (n ≤ (nS : Int) - O.length)) ∧ h' = h := by
 have hWb := H.room
 refine en hE Tryz.func42 rfl rfl Tryz.ntmps42 rfl (by decide +kernel) (rs := [.tmp 6]) rfl ?_
 simp only [push_cast, seval, hE.P, zz]
 refine (oarena_at hE H).mono ?_
 rintro v h' ⟨rfl, rfl⟩
 simp only [push_cast, seval, hE.P, zz]
 refine (ofree_at hE H).mono ?_
 rintro v h' ⟨rfl, rfl⟩
 simp only [push_cast, seval, hE.P, zz]
 refine kguard_splitT (fun hb => ?_) (fun hb => ?_)
 ·have h3 : w ≤ (W : Int) - allO O := by simpa using hb
  simp only [push_cast, seval, hE.P, zz, hb]
  refine (otable_at hE H).mono ?_
  rintro v h' ⟨rfl, rfl⟩
  simp only [push_cast, seval, hE.P, zz, hb]
  refine (oslots_at hE H).mono ?_
  rintro v h' ⟨rfl, rfl⟩
  simp only [push_cast, seval, hE.P, zz, hb]
  refine (otable_at hE H).mono ?_
  rintro v h' ⟨rfl, rfl⟩
  simp only [push_cast, seval, hE.P, zz, hb]
  refine (ocount_at hE H).mono ?_
  rintro v h' ⟨rfl, rfl⟩
  have hw : IntKind.i64.wrap ((R.cnt : Int) + nS - ((R.cnt : Int) + O.length)) = (nS : Int) - O.length := by
   rw [show (R.cnt : Int) + nS - ((R.cnt : Int) + O.length) = (nS : Int) - O.length by omega]
   exact wr64 (by omega) (by omega)
  have h4 : decide (w ≤ (W : Int) - allO O) = true := decide_eq_true h3
  simp only [push_cast, seval, hE.P, zz, hb, hw, h4]
 ·have h3 : ¬ w ≤ (W : Int) - allO O := by simpa using hb
  have h4 : decide (w ≤ (W : Int) - allO O) = false := decide_eq_false h3
  simp only [push_cast, seval, hE.P, zz, hb, h4]
def buildO (W nS : Nat) (R : Bs) (O : List Ob) (V : Vl) : Value × List Ob :=
 if goodV V = 0 then (if allO O + allO (obg R.f O.length V) ≤ W ∧ O.length + (obg R.f O.length V).length ≤ nS then (.tuple #[.int .u64 (R.f (O.length + (obg R.f O.length V).length - 1)), .int .i64 0], O ++ obg R.f O.length V) else (.tuple #[.int .u64 0, .int .i64 5], O))
 else (.tuple #[.int .u64 0, .int .i64 (goodV V)], O)
theorem build_at {V : Vl} (hz : V.sz ≤ 10000) (hW : WF E h) {G : Mem} (hG : Frz E G h) (hS : Sep L G) {c : List Value} (hV : Rep E G V c) : CallsTo E 10 [.pointer (some ⟨L.ph, 0, none⟩), .agg c.toArray] h fun v h' =>
 v = (buildO W nS R O V).1 ∧ IsO E h' L W nS R (buildO W nS R O V).2 ∧ KeepB L h h' ∧ WF E h' := by
 have hWb := H.room
 have hlt := H.lt hW
 have hV0 := hV
 obtain ⟨sl, sf, cl, cf, rfl, hsl, hsf, hl, hf, hb1, hb2, hb3⟩ := hV.cells
 unfold buildO
 refine en hE Tryz.func10 rfl rfl Tryz.ntmps10 rfl (by decide +kernel) (rs := [.tmp 4, .tmp 5]) rfl ?_
 simp only [push_cast, seval, hE.P, zz, hW.nb, hW.nb0]
 have k0 := (Keep.refl h).push (o := .cells [.int .i64 V.k, .int .i64 V.n, .string V.s, sl, sf] 25 true) hW
 have w0 := hW.push (.cells [.int .i64 V.k, .int .i64 V.n, .string V.s, sl, sf] 25 true)
 have g0 : (h.push (.cells [.int .i64 V.k, .int .i64 V.n, .string V.s, sl, sf] 25 true)).get h.next = some (.cells [.int .i64 V.k, .int .i64 V.n, .string V.s, sl, sf] 25 true) := by rw [get_push, if_pos rfl]
 refine (Words_at hE hz w0 (hG.keep k0) hV0).mono ?_
 rintro v h1 ⟨rfl, k1, w1⟩
 have g1 := k1.get _ _ g0
 have H1 := H.keep (k0.trans k1)
 by_cases hg : goodV V = 0
 ·obtain ⟨p1, p2, p3, p4, p5⟩ := good_parts hg
  obtain ⟨q1, q2⟩ := obg_words (g := R.f) _ V (Nat.le_refl _) p1 O.length
  have hcan := can_of _ V (Nat.le_refl _) p1 p3 (by omega)
  simp only [if_pos hg]
  simp only [push_cast, seval, hE.P, zz, hW.nb0, g1]
  refine (room_at hE H1 (w := wordsV V) (n := objsV V) (by omega) (by omega)).mono ?_
  rintro v h2 ⟨rfl, rfl⟩
  by_cases hr : allO O + allO (obg R.f O.length V) ≤ W ∧ O.length + (obg R.f O.length V).length ≤ nS
  ·simp only [if_pos hr]
   have e1 : (decide (wordsV V ≤ (W : Int) - allO O) && decide (objsV V ≤ (nS : Int) - O.length)) = true := by
    rw [decide_eq_true (by omega), decide_eq_true (by omega)]; rfl
   simp only [push_cast, seval, hE.P, zz, e1, hW.nb0, g1]
   refine (value_at hE V.sz V (Nat.le_refl _) H1 w1 (hG.keep (k0.trans k1)) hS hV0 hcan hr.1 hr.2).mono ?_
   rintro v h3 ⟨rfl, H3, k3, w3⟩
   simp only [push_cast, seval, hE.P, zz]
   exact ⟨H3, ((k0.trans k1).b L).trans k3, w3⟩
  ·simp only [if_neg hr]
   have e1 : (decide (wordsV V ≤ (W : Int) - allO O) && decide (objsV V ≤ (nS : Int) - O.length)) = false := by
    rw [Bool.and_eq_false_iff, decide_eq_false_iff_not, decide_eq_false_iff_not]; omega
   simp only [push_cast, seval, hE.P, zz, e1]
   exact ⟨H1, (k0.trans k1).b L, w1⟩
 ·simp only [if_neg hg]
  have e0 : (goodV V != 0) = true := by simpa using hg
  simp only [push_cast, seval, hE.P, zz, e0]
  exact ⟨H1, (k0.trans k1).b L, w1⟩
end
end Go.Proofs.YthfopcdammlmfaaGreatDoor.B
