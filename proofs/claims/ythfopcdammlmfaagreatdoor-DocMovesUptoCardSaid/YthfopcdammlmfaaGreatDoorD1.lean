/- A value in new memory. -/
import Derived.Test.YthfopcdammlmfaaGreatDoorC3
import Derived.Test.YthfopcdammlmfaaGreatDoorA9
set_option maxRecDepth 10000
set_option linter.all false
set_option linter.unusedSimpArgs false
set_option linter.unusedVariables false
namespace Go.Proofs.YthfopcdammlmfaaGreatDoor
open Go.Tm
variable {E : Env} (hE : EOk E)
include hE
theorem copy_at : ∀ (n : Nat) (V : Vl), V.sz ≤ n → ∀ {G : Mem} {h : Heap}, WF E h → Frz E G h → ∀ {c : List Value}, Rep E G V c →
 CallsTo E 105 [.agg c.toArray] h fun v h' => ∃ G' c', v = .agg c'.toArray ∧ Rep E G' V c' ∧ Ext E G h G' h' := by
 intro n
 induction n with
 | zero => intro V hn; have := sz_eq V; omega
 | succ n ih =>
   intro V hn G h hW hG c hV
   obtain ⟨sl, sf, cl, cf, rfl, hsl, hsf, hl, hf, hb1, hb2, hb3⟩ := hV.cells
   obtain ⟨a2, cap2, rfl, _, _⟩ := hsl.slice
   obtain ⟨a3, cap3, rfl, _, _⟩ := hsf.slice
   have nb0 : (h.next < E.base) = False := by have := hW.base; simp; omega
   have nb1 : (h.next + 1 < E.base) = False := by have := hW.base; simp; omega
   have nb2 : (h.next + 2 < E.base) = False := by have := hW.base; simp; omega
   have nb3 : (h.next + 3 < E.base) = False := by have := hW.base; simp; omega
   have nb4 : (h.next + 4 < E.base) = False := by have := hW.base; simp; omega
   have hGlt : ∀ b c, G b = some c → b < h.next := fun b c hb => by obtain ⟨e, fx, hh⟩ := hG b c hb; exact (hW.live _ _ hh).2
   refine en hE Tryz.func105 rfl rfl Tryz.ntmps105 rfl (by decide +kernel) (rs := [.cell 2 25]) rfl ?_
   simp only [push_cast, seval, hE.P, zz, hW.nb, hW.nb0]
   have hw0 : WF E ((h.push (.cells [.int .i64 V.k, .int .i64 V.n, .string V.s, .slice a2 V.l.length cap2, .slice a3 V.f.length cap3] 25 true)).push (.cells [.int .i64 0, .int .i64 0, .string .empty, .slice none 0 0, .slice none 0 0] 25 true)) := (hW.push _).push _
   have k0 : Keep h ((h.push (.cells [.int .i64 V.k, .int .i64 V.n, .string V.s, .slice a2 V.l.length cap2, .slice a3 V.f.length cap3] 25 true)).push (.cells [.int .i64 0, .int .i64 0, .string .empty, .slice none 0 0, .slice none 0 0] 25 true)) := ((Keep.refl h).push hW).push (hW.push _)
   have g0 : ((h.push (.cells [.int .i64 V.k, .int .i64 V.n, .string V.s, .slice a2 V.l.length cap2, .slice a3 V.f.length cap3] 25 true)).push (.cells [.int .i64 0, .int .i64 0, .string .empty, .slice none 0 0, .slice none 0 0] 25 true)).get h.next = some (.cells [.int .i64 V.k, .int .i64 V.n, .string V.s, .slice a2 V.l.length cap2, .slice a3 V.f.length cap3] 25 true) := by
    rw [get_push, if_neg (by simp), get_push, if_pos rfl]
   have g1 : ((h.push (.cells [.int .i64 V.k, .int .i64 V.n, .string V.s, .slice a2 V.l.length cap2, .slice a3 V.f.length cap3] 25 true)).push (.cells [.int .i64 0, .int .i64 0, .string .empty, .slice none 0 0, .slice none 0 0] 25 true)).get (h.next + 1) = some (.cells [.int .i64 0, .int .i64 0, .string .empty, .slice none 0 0, .slice none 0 0] 25 true) := by
    rw [get_push, if_pos (by simp)]
   have hnx : ((h.push (.cells [.int .i64 V.k, .int .i64 V.n, .string V.s, .slice a2 V.l.length cap2, .slice a3 V.f.length cap3] 25 true)).push (.cells [.int .i64 0, .int .i64 0, .string .empty, .slice none 0 0, .slice none 0 0] 25 true)).next = h.next + 2 := by simp
   generalize hH0 : (h.push (.cells [.int .i64 V.k, .int .i64 V.n, .string V.s, .slice a2 V.l.length cap2, .slice a3 V.f.length cap3] 25 true)).push (.cells [.int .i64 0, .int .i64 0, .string .empty, .slice none 0 0, .slice none 0 0] 25 true) = H0 at *
   have hG0 := hG.keep k0
   have hs2 : sc (h.next + 2) (.slice a2 V.l.length cap2) = true := by rw [← hnx]; exact hsl.sc hw0 hG0
   have hs3 : sc (h.next + 2) (.slice a3 V.f.length cap3) = true := by rw [← hnx]; exact hsf.sc hw0 hG0
   refine wdraw_two [(1, [0]), (3, [0]), (5, [0]), (7, [0]), (11, [0])] [9, 13, 15, 16] [(9, [6, 7, 8]), (13, [10, 11, 12]), (15, [])]
    [(0, (8, [0])), (1, (9, [1, 0])), (2, (10, [2])), (3, (11, [3, 2])), (4, (12, [4])), (5, (13, [5, 4])), (6, (14, [6])), (7, (15, [7, 6])), (8, (16, [8, 6, 7])), (9, (17, [9, 6, 7, 8])), (10, (18, [10])), (11, (19, [11, 10])), (12, (20, [12, 10, 11])), (13, (21, [13, 10, 11, 12])), (14, (22, [14, 0, 1, 2, 3, 4, 5, 6, 7, 8, 9, 10, 11, 12, 13])), (15, (3, [15]))]
    [0, 1, 2, 3, 4, 5, 6, 7, 8, 9, 10, 11, 12, 13, 14, 15, 16] (by rw [hE.P]; decide +kernel) (by rw [hE.P]; decide +kernel) (by rw [hE.P]; decide +kernel) (by rw [hE.P]; decide +kernel) (by rw [hE.P]; decide +kernel) (by decide +kernel) rfl ?_
   have m1 := mk22 (k := .i64) (k' := .i64) (l := 0) (c := V.l.length) (by omega) (by omega) (by omega) (by omega)
   have m2 := mk23 (k := .i64) (k' := .i64) (l := 0) (c := V.f.length) (by omega) (by omega) (by omega) (by omega)
   rw [Int.toNat_natCast] at m1 m2
   have r1 : ∀ (q : Nat → Bool) (n : Nat), scOQb q (.cells (arep n [.int .i64 0, .int .i64 0, .string .empty, .slice none 0 0, .slice none 0 0]) 25 true) = true := fun q n => scO_repL (by simp [scQ])
   have r2 : ∀ (q : Nat → Bool) (n : Nat), scOQb q (.cells (arep n [.string .empty, .int .i64 0, .int .i64 0, .string .empty, .slice none 0 0, .slice none 0 0]) 91 true) = true := fun q n => scO_repL (by simp [scQ])
   have ne1 : (h.next + 2 + 1 + 1 = h.next) = False := by simp; omega
   have ne2 : (h.next + 2 + 1 = h.next) = False := by simp; omega
   simp only [push_cast, seval, hE.P, zz, ne1, ne2, m1, m2, r1, r2, g0, nb0, nb1, hnx, faOk, aOk, dOk, rdOk, live, inSpan, scQ, scQA, scQL, sc, scA, scL, scO_rep, scO_nil, scO_cons, aalloc_mk, aalloc_box, Op.operands, false_implies, implies_true, List.any_cons, List.any_nil, hs2, hs3, scQ_liveS]
   refine ⟨by simp, ?_⟩
   have wA := hw0.push (.cells (arep V.l.length [.int .i64 0, .int .i64 0, .string .empty, .slice none 0 0, .slice none 0 0]) 25 true)
   have wB := wA.push (.cells (arep V.f.length [.string .empty, .int .i64 0, .int .i64 0, .string .empty, .slice none 0 0, .slice none 0 0]) 91 true)
   have wC := wB.push (.cells [.int .i64 0, .int .i64 0, .string .empty, .slice none 0 0, .slice none 0 0] 25 true)
   have kC := ((k0.push hw0 (o := .cells (arep V.l.length [.int .i64 0, .int .i64 0, .string .empty, .slice none 0 0, .slice none 0 0]) 25 true)).push wA (o := .cells (arep V.f.length [.string .empty, .int .i64 0, .int .i64 0, .string .empty, .slice none 0 0, .slice none 0 0]) 91 true)).push wB (o := .cells [.int .i64 0, .int .i64 0, .string .empty, .slice none 0 0, .slice none 0 0] 25 true)
   obtain ⟨oC, hoC⟩ : ∃ o : AObj, o = .cells [.int .i64 V.k, .int .i64 V.n, .string V.s, .slice (some ⟨h.next + 2, 0, none⟩) 0 V.l.length, .slice (some ⟨h.next + 2 + 1, 0, none⟩) 0 V.f.length] 25 true := ⟨_, rfl⟩
   rw [← hoC]
   obtain ⟨Hx, hHx⟩ : ∃ Hx, Hx = (((H0.push (.cells (arep V.l.length [.int .i64 0, .int .i64 0, .string .empty, .slice none 0 0, .slice none 0 0]) 25 true)).push (.cells (arep V.f.length [.string .empty, .int .i64 0, .int .i64 0, .string .empty, .slice none 0 0, .slice none 0 0]) 91 true)).push (.cells [.int .i64 0, .int .i64 0, .string .empty, .slice none 0 0, .slice none 0 0] 25 true)).put (h.next + 2 + 1 + 1) oC := ⟨_, rfl⟩
   have gx4 : Hx.get (h.next + 2 + 1 + 1) = some oC := by rw [hHx, get_put, if_pos rfl]
   have gx0 : Hx.get h.next = some (.cells [.int .i64 V.k, .int .i64 V.n, .string V.s, .slice a2 V.l.length cap2, .slice a3 V.f.length cap3] 25 true) := by
    rw [hHx, get_put, if_neg (by omega), get_push, if_neg (by simp; omega), get_push, if_neg (by simp; omega), get_push, if_neg (by omega)]; exact g0
   have gx1 : Hx.get (h.next + 1) = some (.cells [.int .i64 0, .int .i64 0, .string .empty, .slice none 0 0, .slice none 0 0] 25 true) := by
    rw [hHx, get_put, if_neg (by omega), get_push, if_neg (by simp; omega), get_push, if_neg (by simp; omega), get_push, if_neg (by omega)]; exact g1
   have gx2 : Hx.get (h.next + 2) = some (.cells (arep V.l.length [.int .i64 0, .int .i64 0, .string .empty, .slice none 0 0, .slice none 0 0]) 25 true) := by
    rw [hHx, get_put, if_neg (by omega), get_push, if_neg (by simp; omega), get_push, if_neg (by simp; omega), get_push, if_pos hnx]
   have gx3 : Hx.get (h.next + 2 + 1) = some (.cells (arep V.f.length [.string .empty, .int .i64 0, .int .i64 0, .string .empty, .slice none 0 0, .slice none 0 0]) 91 true) := by
    rw [hHx, get_put, if_neg (by omega), get_push, if_neg (by simp; omega), get_push, if_pos (by simp [hnx])]
   have kx : Keep h Hx := by rw [hHx]; exact kC.putNew hW (by omega)
   have wx : WF E Hx := by rw [hHx]; exact wC.put (by rw [get_push, if_pos (by simp [hnx])])
   have nx : Hx.next = h.next + 2 + 1 + 1 + 1 := by rw [hHx]; simp [hnx]
   rw [← hHx]
   subst hoC
   clear wA wB wC kC hHx
   refine wpc_loop (fun m tm h' => ∃ i cs rest G', m = V.l.length - i ∧ i ≤ V.l.length ∧ fget tm 26 = .int .i64 i ∧ fget tm 25 = .int .i64 V.l.length ∧ fget tm 24 = .slice a2 V.l.length cap2 ∧
    fget tm 1 = .pointer (some ⟨h.next, 0, none⟩) ∧ fget tm 2 = .pointer (some ⟨h.next + 1, 0, none⟩) ∧ fget tm 3 = .pointer (some ⟨h.next + 2 + 1 + 1, 0, none⟩) ∧
    h'.get (h.next + 2) = some (.cells (cs ++ rest) 25 true) ∧ cs.length = i * 5 ∧ rest.length = (V.l.length - i) * 5 ∧
    h'.get (h.next + 2 + 1 + 1) = some (.cells [.int .i64 V.k, .int .i64 V.n, .string V.s, .slice (some ⟨h.next + 2, 0, none⟩) i V.l.length, .slice (some ⟨h.next + 2 + 1, 0, none⟩) 0 V.f.length] 25 true) ∧
    RepLs E G' (V.l.take i) cs ∧ Sub G G' ∧ Frz E G' h' ∧ (∀ b c, G' b = some c → G b = some c ∨ h.next + 5 ≤ b) ∧
    (∀ b o, b ≠ h.next + 2 → b ≠ h.next + 2 + 1 + 1 → Hx.get b = some o → h'.get b = some o) ∧ Hx.next ≤ h'.next ∧ WF E h') V.l.length ?_ ?_
   ·exact ⟨0, [], _, G, by omega, by omega, by simp only [push_cast, seval, hE.P, zz], by simp only [push_cast, seval, hE.P, zz], by simp only [push_cast, seval, hE.P, zz], by simp only [push_cast, seval, hE.P, zz], by simp only [push_cast, seval, hE.P, zz], by simp only [push_cast, seval, hE.P, zz], gx2, by simp, by rw [arep_len]; simp, gx4, by rw [List.take_zero]; unfold RepLs; rfl, Sub.refl _, hG.keep kx, fun b c hb => .inl hb, fun _ _ _ _ x => x, Nat.le_refl _, wx⟩
   ·rintro m tm h' ⟨i, cs, rest, G', rfl, hi, f26, f25, f24, f1, f2, f3, hg2, hcl, hrl, hg4, hrep, hsub, hfz, hdom, hkx, hnxt, hw⟩
    have nbN : (h'.next < E.base) = False := by have := hw.base; simp; omega
    simp only [push_cast, seval, hE.P, zz, f26, f25]
    refine kif_split (fun hb => ?_) (fun hb => ?_)
    ·have hli : i < V.l.length := by simpa using hb
     have hsl' := hsl.sub hsub
     obtain ⟨a, c, hsl1, hsp, hac⟩ := hsl'.elem hfz hli
     injection hsl1 with hsl2 hsl3 hsl4; subst hsl2; subst hsl4
     have hrc := (RepLs.sub hsub hl).at i V.l[i] (by simp [hli])
     have hxz : V.l[i].sz ≤ n := by have := l_sz (List.getElem_mem hli); omega
     obtain ⟨ci, hci⟩ : ∃ ci, ci = (cl.drop (i * 5)).take 5 := ⟨_, rfl⟩
     rw [← hci] at hrc hac
     obtain ⟨sl', sf', cl', cf', rfl, hsl', hsf', _⟩ := hrc.cells
     obtain ⟨a4, cap4, rfl, _, _⟩ := hsl'.slice
     obtain ⟨a5, cap5, rfl, _, _⟩ := hsf'.slice
     have w'' := hw.push (.cells [.int .i64 V.l[i].k, .int .i64 V.l[i].n, .string V.l[i].s, .slice a4 V.l[i].l.length cap4, .slice a5 V.l[i].f.length cap5] 25 true)
     have k'' := (Keep.refl h').push (o := .cells [.int .i64 V.l[i].k, .int .i64 V.l[i].n, .string V.l[i].s, .slice a4 V.l[i].l.length cap4, .slice a5 V.l[i].f.length cap5] 25 true) hw
     have hne4 : ¬ h'.next = h.next + 2 + 1 + 1 := by omega
     simp only [push_cast, seval, hE.P, zz, f26, f25, f24, f1, f3]
     rw [ia22 hsp (by omega) (by omega), kpure_some]
     simp only [push_cast, seval, hE.P, zz, f26, f25, f24, f1, f3, ↓hac, hg4, nb4, nbN, hne4]
     refine wdraw_pairs [(1, 3), (1, 4)] (by rw [hE.P]; decide +kernel) (by rw [hE.P]; decide +kernel) (by rw [hE.P]; decide +kernel) ?_
     have gE : (h'.push (.cells [.int .i64 V.l[i].k, .int .i64 V.l[i].n, .string V.l[i].s, .slice a4 V.l[i].l.length cap4, .slice a5 V.l[i].f.length cap5] 25 true)).get h'.next = some (.cells [.int .i64 V.l[i].k, .int .i64 V.l[i].n, .string V.l[i].s, .slice a4 V.l[i].l.length cap4, .slice a5 V.l[i].f.length cap5] 25 true) := by rw [get_push, if_pos rfl]
     have gE4 := k''.get _ _ hg4
     obtain ⟨Hy, hHy⟩ : ∃ Hy, Hy = h'.push (.cells [.int .i64 V.l[i].k, .int .i64 V.l[i].n, .string V.l[i].s, .slice a4 V.l[i].l.length cap4, .slice a5 V.l[i].f.length cap5] 25 true) := ⟨_, rfl⟩
     have hyn : Hy.next = h'.next + 1 := by rw [hHy]; rfl
     rw [← hHy] at gE gE4 k'' w''
     rw [← hHy]
     have gE2 := k''.get _ _ hg2
     simp only [push_cast, seval, hE.P, zz, gE, gE4, nb4, nbN, f3]
     refine (ih V.l[i] hxz w'' (hfz.keep k'') hrc).mono ?_
     rintro v h2 ⟨G2, c2, rfl, hrep2, x2⟩
     have hlc := hrep2.len
     have hrepC := hrep2
     obtain ⟨sl2, sf2, cl2, cf2, rfl, hq2, hq3, _⟩ := hrep2.cells
     obtain ⟨a6, cap6, rfl, _, _⟩ := hq2.slice
     obtain ⟨a7, cap7, rfl, _, _⟩ := hq3.slice
     have g24 := x2.keep.get _ _ gE4
     have g22 := x2.keep.get _ _ gE2
     have hnx2 := x2.keep.next
     simp only [push_cast, seval, hE.P, zz, f3]
     rw [bs22 rfl, kalloc_some]
     have k2 := (Keep.refl h2).push (o := .cells [.int .i64 V.l[i].k, .int .i64 V.l[i].n, .string V.l[i].s, .slice a6 V.l[i].l.length cap6, .slice a7 V.l[i].f.length cap7] 25 true) x2.wf
     have w2 := x2.wf.push (.cells [.int .i64 V.l[i].k, .int .i64 V.l[i].n, .string V.l[i].s, .slice a6 V.l[i].l.length cap6, .slice a7 V.l[i].f.length cap7] 25 true)
     have g24' := k2.get _ _ g24
     simp only [push_cast, seval, hE.P, zz, f3]
     refine kwv_room (el22 hE.P) x2.wf g22 hcl (by omega) (by omega) hlc ?_ ?_
     ·rfl
     ·have ne24 : ¬ h.next + 2 = h.next + 2 + 1 + 1 := by omega
      have ne42 : ¬ h.next + 2 + 1 + 1 = h.next + 2 := by omega
      obtain ⟨i1, hi1⟩ : ∃ i1, i1 = i + 1 := ⟨_, rfl⟩
      have hi2 : (i : Int) + 1 = i1 := by omega
      have hi3 : IntKind.i64.wrap (i1 : Int) = i1 := wrN (by omega)
      simp only [push_cast, seval, hE.P, zz, f3, g24', gE4, g24, nb4, ne24, ne42, f25, f26, hi2, hi3]
      have hdom2 : ∀ b c, G2 b = some c → G b = some c ∨ h.next + 5 ≤ b := fun b c hb => by
       rcases x2.new b c hb with h1 | h1
       ·exact hdom b c h1
       ·right; omega
      refine ⟨V.l.length - i1, by omega, i1, cs ++ [.int .i64 V.l[i].k, .int .i64 V.l[i].n, .string V.l[i].s, .slice a6 V.l[i].l.length cap6, .slice a7 V.l[i].f.length cap7], rest.drop 5, G2, rfl, by omega, rfl, f24, f1, f2, rfl, by simp; omega, by simp; omega, by rw [hi1], ?_, hsub.trans x2.sub, ?_, hdom2, ?_, by omega, (w2.put (by rw [get_push, if_neg (by have := (x2.wf.live _ _ g22).2; omega)]; exact g22)).put (by rw [get_put, if_neg ne24]; exact g24')⟩
      ·rw [hi1, List.take_succ_eq_append_getElem hli]
       exact RepLs.app (RepLs.sub x2.sub hrep) (RepLs.one hrepC)
      ·refine x2.frz.but fun b o hb hgb => ?_
       obtain ⟨cb, hcb⟩ := Option.isSome_iff_exists.1 hb
       have := (x2.wf.live _ _ hgb).2
       rcases hdom2 b cb hcb with h1 | h1
       ·have := hGlt _ _ h1
        rw [get_put, if_neg (by omega), get_put, if_neg (by omega), get_push, if_neg (by omega)]; exact hgb
       ·rw [get_put, if_neg (by omega), get_put, if_neg (by omega), get_push, if_neg (by omega)]; exact hgb
      ·intro b o hb1 hb2 hgb
       rw [if_neg (by omega), if_neg (by omega)]
       have hgb2 := x2.keep.get _ _ (k''.get _ _ (hkx b o hb1 hb2 hgb))
       rw [if_neg (by have := (x2.wf.live _ _ hgb2).2; omega)]; exact hgb2
    ·have hge : i = V.l.length := by have : ¬ i < V.l.length := by simpa using hb
                                     omega
     subst hge
     rw [List.take_length] at hrep
     have g0' := hkx _ _ (by omega) (by omega) gx0
     have g3' := hkx _ _ (by omega) (by omega) gx3
     have g1' := hkx _ _ (by omega) (by omega) gx1
     rw [Nat.sub_self, Nat.zero_mul, List.length_eq_zero_iff] at hrl
     subst hrl
     rw [List.append_nil] at hg2
     simp only [push_cast, seval, hE.P, zz, g0', nb0, f1]
     have w1 := hw
     have n1 := hnxt
     have z1 := hfz
     have s1 := hsub
     have d1 := hdom
     have r1 := hrep
     have q1 := hkx
     have c1 := hcl
     have b2 := hg2
     refine wpc_loop (fun m tm h2 => ∃ i cs rest G2, m = V.f.length - i ∧ i ≤ V.f.length ∧ fget tm 41 = .int .i64 i ∧ fget tm 40 = .int .i64 V.f.length ∧ fget tm 39 = .slice a3 V.f.length cap3 ∧
      fget tm 2 = .pointer (some ⟨h.next + 1, 0, none⟩) ∧ fget tm 3 = .pointer (some ⟨h.next + 2 + 1 + 1, 0, none⟩) ∧
      h2.get (h.next + 2 + 1) = some (.cells (cs ++ rest) 91 true) ∧ cs.length = i * 6 ∧ rest.length = (V.f.length - i) * 6 ∧
      h2.get (h.next + 2 + 1 + 1) = some (.cells [.int .i64 V.k, .int .i64 V.n, .string V.s, .slice (some ⟨h.next + 2, 0, none⟩) V.l.length V.l.length, .slice (some ⟨h.next + 2 + 1, 0, none⟩) i V.f.length] 25 true) ∧
      RepFs E G2 (V.f.take i) cs ∧ Sub G' G2 ∧ Frz E G2 h2 ∧ (∀ b c, G2 b = some c → G b = some c ∨ h.next + 5 ≤ b) ∧
      (∀ b o, b ≠ h.next + 2 + 1 → b ≠ h.next + 2 + 1 + 1 → h'.get b = some o → h2.get b = some o) ∧ h'.next ≤ h2.next ∧ WF E h2) V.f.length ?_ ?_
     ·exact ⟨0, [], _, G', by omega, by omega, by simp only [push_cast, seval, hE.P, zz], by simp only [push_cast, seval, hE.P, zz], by simp only [push_cast, seval, hE.P, zz], by simp only [push_cast, seval, hE.P, zz, f2], by simp only [push_cast, seval, hE.P, zz, f3], g3', by simp, by rw [arep_len]; simp, hg4, by rw [List.take_zero]; unfold RepFs; rfl, Sub.refl _, z1, d1, fun _ _ _ _ x => x, Nat.le_refl _, w1⟩
     ·clear f1 f2 f3 hg4 hw hfz hdom f26 f25 f24 hrep hcl hg2 hi
      rintro m tm h2 ⟨i, cs2, rest, G2, rfl, hi, f41, f40, f39, f2, f3, hg3, hcl2, hrl, hg4, hrep, hsub2, hfz, hdom, hkx2, hnxt2, hw⟩
      have nbM : (h2.next < E.base) = False := by have := hw.base; simp; omega
      simp only [push_cast, seval, hE.P, zz, f41, f40]
      refine kif_split (fun hb => ?_) (fun hb => ?_)
      ·have hli : i < V.f.length := by simpa using hb
       have hsf2 := hsf.sub (hsub.trans hsub2)
       obtain ⟨a, c, hsl1, hsp, hac⟩ := hsf2.elem hfz hli
       injection hsl1 with hsl2 hsl3 hsl4; subst hsl2; subst hsl4
       obtain ⟨ci, hci, hrc, hnm⟩ := (RepFs.sub (hsub.trans hsub2) hf).at i V.f[i].1 V.f[i].2 (by simp [hli])
       have hxz : V.f[i].2.sz ≤ n := by have := f_sz (List.getElem_mem hli); omega
       rw [hci] at hac
       have hrcC := hrc
       obtain ⟨sl', sf', cl', cf', rfl, hsl', hsf', _⟩ := hrc.cells
       obtain ⟨a4, cap4, rfl, _, _⟩ := hsl'.slice
       obtain ⟨a5, cap5, rfl, _, _⟩ := hsf'.slice
       have w'' := hw.push (.cells [.string V.f[i].1, .int .i64 V.f[i].2.k, .int .i64 V.f[i].2.n, .string V.f[i].2.s, .slice a4 V.f[i].2.l.length cap4, .slice a5 V.f[i].2.f.length cap5] 91 true)
       have k'' := (Keep.refl h2).push (o := .cells [.string V.f[i].1, .int .i64 V.f[i].2.k, .int .i64 V.f[i].2.n, .string V.f[i].2.s, .slice a4 V.f[i].2.l.length cap4, .slice a5 V.f[i].2.f.length cap5] 91 true) hw
       have hne4 : ¬ h2.next = h.next + 2 + 1 + 1 := by omega
       simp only [push_cast, seval, hE.P, zz, f41, f40, f39, f3]
       rw [ia23 hsp (by omega) (by omega), kpure_some]
       simp only [push_cast, seval, hE.P, zz, f41, f40, f39, f3, ↓hac, hg4, nb4, nbM, hne4]
       refine wdraw_pairs [(1, 6), (1, 8), (3, 6)] (by rw [hE.P]; decide +kernel) (by rw [hE.P]; decide +kernel) (by rw [hE.P]; decide +kernel) ?_
       have gE : (h2.push (.cells [.string V.f[i].1, .int .i64 V.f[i].2.k, .int .i64 V.f[i].2.n, .string V.f[i].2.s, .slice a4 V.f[i].2.l.length cap4, .slice a5 V.f[i].2.f.length cap5] 91 true)).get h2.next = some (.cells [.string V.f[i].1, .int .i64 V.f[i].2.k, .int .i64 V.f[i].2.n, .string V.f[i].2.s, .slice a4 V.f[i].2.l.length cap4, .slice a5 V.f[i].2.f.length cap5] 91 true) := by rw [get_push, if_pos rfl]
       have gE4 := k''.get _ _ hg4
       obtain ⟨Hy, hHy⟩ : ∃ Hy, Hy = h2.push (.cells [.string V.f[i].1, .int .i64 V.f[i].2.k, .int .i64 V.f[i].2.n, .string V.f[i].2.s, .slice a4 V.f[i].2.l.length cap4, .slice a5 V.f[i].2.f.length cap5] 91 true) := ⟨_, rfl⟩
       have hyn : Hy.next = h2.next + 1 := by rw [hHy]; rfl
       rw [← hHy] at gE gE4 k'' w''
       rw [← hHy]
       have gE3 := k''.get _ _ hg3
       simp only [push_cast, seval, hE.P, zz, gE, gE4, nb4, nbM, f3]
       refine (ih V.f[i].2 hxz w'' (hfz.keep k'') hrcC).mono ?_
       rintro v h3 ⟨G3, c3, rfl, hrep3, x3⟩
       have hrepC := hrep3
       obtain ⟨sl3, sf3, cl3, cf3, rfl, hq2, hq3, _⟩ := hrep3.cells
       obtain ⟨a6, cap6, rfl, _, _⟩ := hq2.slice
       obtain ⟨a7, cap7, rfl, _, _⟩ := hq3.slice
       have g34 := x3.keep.get _ _ gE4
       have g33 := x3.keep.get _ _ gE3
       have g3E := x3.keep.get _ _ gE
       have hnx3 := x3.keep.next
       simp only [push_cast, seval, hE.P, zz, f3]
       rw [bs23 rfl, kalloc_some]
       have k3 := (Keep.refl h3).push (o := .cells [.string V.f[i].1, .int .i64 V.f[i].2.k, .int .i64 V.f[i].2.n, .string V.f[i].2.s, .slice a6 V.f[i].2.l.length cap6, .slice a7 V.f[i].2.f.length cap7] 91 true) x3.wf
       have w3 := x3.wf.push (.cells [.string V.f[i].1, .int .i64 V.f[i].2.k, .int .i64 V.f[i].2.n, .string V.f[i].2.s, .slice a6 V.f[i].2.l.length cap6, .slice a7 V.f[i].2.f.length cap7] 91 true)
       have g34' := k3.get _ _ g34
       simp only [push_cast, seval, hE.P, zz, f3]
       refine kwv_room (el23 hE.P) x3.wf g33 hcl2 (by omega) (by omega) rfl rfl ?_
       have ne34 : ¬ h.next + 2 + 1 = h.next + 2 + 1 + 1 := by omega
       have ne43 : ¬ h.next + 2 + 1 + 1 = h.next + 2 + 1 := by omega
       obtain ⟨i1, hi1⟩ : ∃ i1, i1 = i + 1 := ⟨_, rfl⟩
       have hi2 : (i : Int) + 1 = i1 := by omega
       have hi3 : IntKind.i64.wrap (i1 : Int) = i1 := wrN (by omega)
       simp only [push_cast, seval, hE.P, zz, f3, g34', gE, g3E, gE4, g34, nb4, nbM, ne34, ne43, f40, f41, hi2, hi3]
       have hdom2 : ∀ b c, G3 b = some c → G b = some c ∨ h.next + 5 ≤ b := fun b c hb => by
        rcases x3.new b c hb with h1 | h1
        ·exact hdom b c h1
        ·right; omega
       refine ⟨V.f.length - i1, by omega, i1, cs2 ++ [.string V.f[i].1, .int .i64 V.f[i].2.k, .int .i64 V.f[i].2.n, .string V.f[i].2.s, .slice a6 V.f[i].2.l.length cap6, .slice a7 V.f[i].2.f.length cap7], rest.drop 6, G3, rfl, by omega, rfl, f39, f2, rfl, by simp; omega, by simp; omega, by rw [hi1], ?_, hsub2.trans x3.sub, ?_, hdom2, ?_, by omega, (w3.put (by rw [get_push, if_neg (by have := (x3.wf.live _ _ g33).2; omega)]; exact g33)).put (by rw [get_put, if_neg ne34]; exact g34')⟩
       ·rw [hi1, List.take_succ_eq_append_getElem hli]
        exact RepFs.app (RepFs.sub x3.sub hrep) (RepFs.one hrepC hnm)
       ·refine x3.frz.but fun b o hb hgb => ?_
        obtain ⟨cb, hcb⟩ := Option.isSome_iff_exists.1 hb
        have := (x3.wf.live _ _ hgb).2
        rcases hdom2 b cb hcb with h1 | h1
        ·have := hGlt _ _ h1
         rw [get_put, if_neg (by omega), get_put, if_neg (by omega), get_push, if_neg (by omega)]; exact hgb
        ·rw [get_put, if_neg (by omega), get_put, if_neg (by omega), get_push, if_neg (by omega)]; exact hgb
       ·intro b o hb1 hb2 hgb
        rw [if_neg (by omega), if_neg (by omega)]
        have hgb2 := x3.keep.get _ _ (k''.get _ _ (hkx2 b o hb1 hb2 hgb))
        rw [if_neg (by have := (x3.wf.live _ _ hgb2).2; omega)]; exact hgb2
      ·have hge : i = V.f.length := by have : ¬ i < V.f.length := by simpa using hb
                                       omega
       subst hge
       rw [List.take_length] at hrep
       rw [Nat.sub_self, Nat.zero_mul, List.length_eq_zero_iff] at hrl
       subst hrl
       rw [List.append_nil] at hg3
       have g1'' := hkx2 _ _ (by omega) (by omega) g1'
       have g2'' := hkx2 _ _ (by omega) (by omega) b2
       simp only [push_cast, seval, hE.P, zz, g1'', hg4, nb4, nb1, f2, f3]
       have hn2 : G2 (h.next + 2) = none := by
        cases hc : G2 (h.next + 2) with
        | none => rfl
        | some c => rcases hdom _ _ hc with h1 | h1
                    ·have := hGlt _ _ h1; omega
                    ·omega
       have hn3 : G2 (h.next + 2 + 1) = none := by
        cases hc : G2 (h.next + 2 + 1) with
        | none => rfl
        | some c => rcases hdom _ _ hc with h1 | h1
                    ·have := hGlt _ _ h1; omega
                    ·omega
       have fz1 := hfz.addB g2''
       have fz2 := fz1.addB hg3
       have sb1 : Sub G2 _ := Sub.addB (c := cs) hn2
       have hn3' : (fun j => if j = h.next + 2 then some cs else G2 j) (h.next + 2 + 1) = none := by simp only; rw [if_neg (by omega)]; exact hn3
       have sb2 := Sub.addB (G := fun j => if j = h.next + 2 then some cs else G2 j) (c := cs2) hn3'
       obtain ⟨G3, hG3⟩ : ∃ G3 : Mem, G3 = fun j => if j = h.next + 2 + 1 then some cs2 else (fun j => if j = h.next + 2 then some cs else G2 j) j := ⟨_, rfl⟩
       rw [← hG3] at fz2 sb2
       have s3 : Sub G2 G3 := sb1.trans sb2
       have e2 : G3 (h.next + 2) = some cs := by rw [hG3]; simp
       have e3 : G3 (h.next + 2 + 1) = some cs2 := by rw [hG3]; simp
       refine ⟨G3, [.int .i64 V.k, .int .i64 V.n, .string V.s, .slice (some ⟨h.next + 2, 0, none⟩) V.l.length V.l.length, .slice (some ⟨h.next + 2 + 1, 0, none⟩) V.f.length V.f.length], rfl, ?_, ?_⟩
       ·cases V with | mk vk vn vs vl vf =>
        unfold Rep
        exact ⟨_, _, cs, cs2, rfl, Sl.whole (by simpa using nb2) e2 c1 (by simp only [Vl.l, Vl.f] at hb1; omega), Sl.whole (by simpa [Nat.add_assoc] using nb3) e3 hcl2 (by simp only [Vl.l, Vl.f] at hb1; omega), RepLs.sub (hsub2.trans s3) r1, RepFs.sub s3 hrep, hb1, hb2, hb3⟩
       ·have kk : Keep h h2 := ⟨fun b o hb => by
         have := (hW.live _ _ hb).2
         exact hkx2 b o (by omega) (by omega) (q1 b o (by omega) (by omega) (kx.get _ _ hb)), by omega⟩
        refine ⟨(hsub.trans hsub2).trans s3, ?_, ?_, kk.putNew hW (by omega), hw.put g1''⟩
        ·refine fz2.but fun b o hb hgb => ?_
         have : b ≠ h.next + 1 := by
          intro e; subst e
          rw [hG3] at hb
          simp only at hb
          rw [if_neg (by omega), if_neg (by omega)] at hb
          obtain ⟨cb, hcb⟩ := Option.isSome_iff_exists.1 hb
          rcases hdom _ _ hcb with h1 | h1
          ·have := hGlt _ _ h1; omega
          ·omega
         rw [get_put, if_neg (by omega)]; exact hgb
        ·intro b c hb
         rw [hG3] at hb
         simp only at hb
         split at hb
         ·right; omega
         ·split at hb
          ·right; omega
          ·rcases hdom _ _ hb with h1 | h1
           ·exact .inl h1
           ·right; omega
end Go.Proofs.YthfopcdammlmfaaGreatDoor
