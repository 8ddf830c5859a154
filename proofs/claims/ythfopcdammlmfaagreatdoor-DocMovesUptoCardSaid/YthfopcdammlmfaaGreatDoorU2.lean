/- The builder of objects; texts: whatever was freed, whoever watches. -/
/- Merged by a program of ours: B4 B5. -/
import Derived.Test.YthfopcdammlmfaaGreatDoorU1
import Derived.Test.YthfopcdammlmfaaGreatDoorC5
set_option maxRecDepth 10000
set_option linter.all false
set_option linter.unusedSimpArgs false
set_option linter.unusedVariables false
/- A ref, a word of the newest object set, whoever watches. -/
namespace Go.Proofs.YthfopcdammlmfaaGreatDoor
open Go.Tm
theorem snoc_of {N : List Cl} {O : List Ob} {o : Ob} (h : N.map (·.o) = O ++ [o]) : ∃ N1 c, N = N1 ++ [c] ∧ N1.map (·.o) = O ∧ c.o = o ∧ N1.length = O.length := by
 obtain ⟨N1, N2, rfl, h1, h2⟩ := List.map_eq_append_iff.1 h
 obtain ⟨c, rfl, h3⟩ := List.map_eq_singleton_iff.1 h2
 exact ⟨N1, c, rfl, h1, h3, by rw [← h1, List.length_map]⟩
namespace B
theorem isO_put {E : Env} {h : Heap} {L : HL} {W nS : Nat} {R : Bs} {O : List Ob} {S : HS} {N : List Cl} {c : Cl} {F : List Nat} {k x : Nat} (H : IsH E h L { S with w := updN S.w (c.p + 1 + k) x }) (w : Gw S (R.lo ++ (R.hi ++ (N ++ [c])))) (l : Lay S R.lo (R.hi ++ (N ++ [c]))) (hk : k < c.o.ws.length)
 (hN : N.map (·.o) = O) (hf : ∀ i d, (N ++ [c])[i]? = some d → d.hd = R.f i ∧ d.m = R.w.on) (hF : Chn S S.freed F ∧ F.Nodup ∧ ∀ i, R.f (O.length + 1 + i) = futs S F i)
 (e1 : S.top = R.top + allO (O ++ [c.o])) (e2 : S.W = R.top + W) (e3 : S.cnt = R.cnt + O.length + 1) (e4 : S.nS = R.cnt + nS) (e5 : S.roots = R.rt) (e6 : S.wt = R.w.val) (e7 : R.w.mem h L) (e8 : S.open_ = R.op) (e9 : ∀ i, (S.sl i).gen = R.gen i) :
 IsO E h L W nS R (O ++ [{ c.o with ws := c.o.ws.set k x }]) ∧ Gw { S with w := updN S.w (c.p + 1 + k) x } (R.lo ++ (R.hi ++ (N ++ [{ c with o := { c.o with ws := c.o.ws.set k x } }]))) := by
 have hl : N.length = O.length := by rw [← hN, List.length_map]
 have hcm : c ∈ R.lo ++ (R.hi ++ (N ++ [c])) := by simp
 obtain ⟨W5, L5⟩ := last_up (f := fun d => { d with o := { d.o with ws := d.o.ws.set k x } }) (fun _ => ⟨rfl, by simp [Cl.wd]⟩) w l (w.put hcm hk) rfl rfl rfl rfl
 have hc := hf N.length c (by simp)
 rw [hl] at hc
 refine ⟨?_, W5⟩
 refine isO_snoc (c := { c with o := { c.o with ws := c.o.ws.set k x } }) (F := F) H W5 L5 hN (fun i d hd => hf i d ?_) hc ⟨hF.1.w, hF.2.1, fun i => by rw [hF.2.2 i]; exact futs_w.symm⟩ ?_ e2 e3 e4 e5 e6 e7 e8 e9
 ·rw [List.getElem?_append_left (List.getElem?_eq_some_iff.1 hd).1]; exact hd
 ·show S.top = _
  rw [e1, allO_app, allO_cons, allO_nil]; simp [Cl.wd]; omega
variable {E : Env} (hE : EOk E)
include hE
section
variable {h : Heap} {L : HL} {W nS : Nat} {R : Bs} {O : List Ob} {o : Ob} (H : IsO E h L W nS R (O ++ [o])) (hW : WF E h)
include H hW
theorem setRef_at {i j : Nat} (hi : i < o.refs) (hj : j < O.length) : CallsTo E 143 [.pointer (some ⟨L.ph, 0, none⟩), .int .u64 (R.f O.length), .int .i64 i, .int .u64 (R.f j)] h fun v h' =>
 v = .int .i64 0 ∧ IsO E h' L W nS R (O ++ [{ o with ws := o.ws.set i (R.f j) }]) ∧ KeepB L h h' ∧ WF E h' := by
 obtain ⟨S, N, F, H, w, l, hN, hf, hF, g1, g2, g3, g4, g5, g6, g7, g8, g9⟩ := H
 obtain ⟨N1, c, rfl, hN1, rfl, hl⟩ := snoc_of hN
 have hcm : c ∈ R.lo ++ (R.hi ++ (N1 ++ [c])) := by simp
 have hch := hf N1.length c (by simp)
 rw [hl] at hch
 have hj2 : j < N1.length := by omega
 obtain ⟨d, hd⟩ : ∃ d, d = N1[j] := ⟨_, rfl⟩
 have hdj := hf j d (by rw [hd, List.getElem?_append_left hj2, List.getElem?_eq_getElem hj2])
 have hdm : d ∈ N1 := by rw [hd]; exact List.getElem_mem hj2
 have hdm2 : d ∈ R.lo ++ (R.hi ++ (N1 ++ [c])) := by simp [hdm]
 rw [← hch.1, ← hdj.1]
 have hroom := (w.sits c hcm).top
 have htop := H.ok.top
 have hWm := H.ok.W
 have hA := w.isAt H.ok hcm
 have hH := w.headAt H.ok hcm
 have hr := (w.sits c hcm).refs
 have hsm := w.small hcm
 have hx := (w.hd_lt H.ok hcm).1
 have hy := (w.hd_lt H.ok hdm2).1
 unfold Cl.wd at hroom
 have e1 : decide ((i : Int) < 0) = false := by simp
 have e2 : decide ((i : Int) ≥ c.o.refs) = false := by simp; omega
 refine en hE Tryz.func143 rfl rfl Tryz.ntmps143 rfl (by decide +kernel) (rs := [.tmp 8]) rfl ?_
 simp only [push_cast, seval, hE.P, zz]
 refine (gfind_some hE H w hW hcm).mono ?_
 rintro v h1 ⟨rfl, k1, w1⟩
 have k2 := k1.push (o := .cells [.int .i64 c.o.tag, .int .i64 c.o.refs, .int .i64 c.o.ws.length, .bool c.m, .int .i64 c.s] 103 true) w1
 have w2 := w1.push (.cells [.int .i64 c.o.tag, .int .i64 c.o.refs, .int .i64 c.o.ws.length, .bool c.m, .int .i64 c.s] 103 true)
 have H2 := H.keep k2
 simp only [push_cast, seval, hE.P, zz, w1.nb, w1.nb0, e1, e2]
 refine (mayT_at hE H2 w hdm2).mono ?_
 rintro v h3 ⟨rfl, rfl⟩
 simp only [push_cast, seval, hE.P, zz, ↓H2.lA]
 refine (put_at hE H2 w2 (a := c.p) (i := i) (x := d.hd) (by omega) hA (by rw [hH]; show i < c.o.ws.length; omega) (by omega) hy).mono ?_
 rintro v h4 ⟨rfl, H4, k4, w4⟩
 rw [List.length_append] at hF g3
 obtain ⟨I4, W4⟩ := isO_put (F := F) H4 w l (by omega) hN1 hf ⟨hF.1, hF.2.1, hF.2.2⟩ g1 g2 g3 g4 g5 g6 ((g7.b (k2.b L)).b k4) g8 g9
 simp only [push_cast, seval, hE.P, zz]
 refine (linkT_at hE H4 w4 W4 (wv := R.w) g6 ((g7.b (k2.b L)).b k4) (d := d) (by simp [hdm]) (fun ht => by rw [hdj.2]; exact ht)).mono ?_
 rintro v h5 ⟨rfl, k5, w5⟩
 simp only [push_cast, seval, hE.P, zz]
 exact ⟨I4.keep k5, ((k2.b L).trans k4).trans (k5.b L), w5⟩
theorem setWord_at {i y : Nat} (hi : i < o.ws.length - o.refs) (hy : y < 18446744073709551616) : CallsTo E 144 [.pointer (some ⟨L.ph, 0, none⟩), .int .u64 (R.f O.length), .int .i64 i, .int .u64 y] h fun v h' =>
 v = .int .i64 0 ∧ IsO E h' L W nS R (O ++ [{ o with ws := o.ws.set (o.refs + i) y }]) ∧ KeepB L h h' ∧ WF E h' := by
 obtain ⟨S, N, F, H, w, l, hN, hf, hF, g1, g2, g3, g4, g5, g6, g7, g8, g9⟩ := H
 obtain ⟨N1, c, rfl, hN1, rfl, hl⟩ := snoc_of hN
 have hcm : c ∈ R.lo ++ (R.hi ++ (N1 ++ [c])) := by simp
 have hch := hf N1.length c (by simp)
 rw [hl] at hch
 rw [← hch.1]
 have hroom := (w.sits c hcm).top
 have htop := H.ok.top
 have hWm := H.ok.W
 have hA := w.isAt H.ok hcm
 have hH := w.headAt H.ok hcm
 have hr := (w.sits c hcm).refs
 have hsm := w.small hcm
 have hx := (w.hd_lt H.ok hcm).1
 have hpos := posG_of w H.ok hcm
 unfold Cl.wd at hroom
 obtain ⟨m, hm⟩ : ∃ m, m = c.o.refs + i := ⟨_, rfl⟩
 have hm2 : (c.o.refs : Int) + i = m := by omega
 refine en hE Tryz.func144 rfl rfl Tryz.ntmps144 rfl (by decide +kernel) (rs := [.tmp 8]) rfl ?_
 simp only [push_cast, seval, hE.P, zz]
 refine (gscalar_at hE ⟨S, H, w⟩ hW hx (i := i) (by omega) (by omega)).mono ?_
 rw [gobj_of w H.ok hcm, scalarG_in (by omega), hpos, hm2]
 rintro v h1 ⟨rfl, k1, w1⟩
 have H1 := H.keep k1
 simp only [push_cast, seval, hE.P, zz, ↓H1.lA]
 refine (put_at hE H1 w1 (a := c.p) (i := m) (x := y) (by omega) hA (by rw [hH]; show m < c.o.ws.length; omega) (by omega) hy).mono ?_
 rintro v h4 ⟨rfl, H4, k4, w4⟩
 rw [List.length_append] at hF g3
 obtain ⟨I4, W4⟩ := isO_put (F := F) H4 w l (by omega) hN1 hf ⟨hF.1, hF.2.1, hF.2.2⟩ g1 g2 g3 g4 g5 g6 ((g7.b (k1.b L)).b k4) g8 g9
 simp only [push_cast, seval, hE.P, zz]
 rw [← hm]
 exact ⟨I4, (k1.b L).trans k4, w4⟩
end
end B
end Go.Proofs.YthfopcdammlmfaaGreatDoor
namespace Go.Proofs.YthfopcdammlmfaaGreatDoor.B
open Go.Tm
variable {E : Env} (hE : EOk E)
include hE
theorem of_at {h : Heap} {L : HL} {W nS : Nat} {R : Bs} {O : List Ob} (H : IsO E h L W nS R O) (hW : WF E h) {G : Mem} (hG : Frz E G h) (hS : Sep L G) {t : Nat} (h1 : 1 ≤ t) (h2 : t ≤ 255) {hs ws : List Nat}
 (hsz : hs.length + ws.length ≤ 4096) (hh : ∀ y, y ∈ hs → y < 18446744073709551616 ∧ ∃ j, y = R.f j ∧ j < O.length) (hw64 : ∀ y, y ∈ ws → y < 18446744073709551616) {rv sv : Value} (hr : Sl E G 1 hs.length (u64s hs) rv) (hsc : Sl E G 1 ws.length (u64s ws) sv)
 (hfit : fitsO W nS O (hs.length + ws.length)) :
 CallsTo E 100 [.agg #[.pointer (some ⟨L.ph, 0, none⟩)], .int .i64 t, rv, sv] h fun v h' =>
  v = .int .u64 (R.f O.length) ∧ IsO E h' L W nS R (O ++ [⟨t, hs.length, hs ++ ws⟩]) ∧ KeepB L h h' ∧ WF E h' := by
 obtain ⟨ra, rc, rfl, hrc1, hrc2⟩ := hr.slice
 obtain ⟨sa, scp, rfl, hsc1, hsc2⟩ := hsc.slice
 have hOl : O.length < nS := hfit.2
 have hnS : nS ≤ 1048576 := H.room.2.1
 have k0 := (Keep.refl h).push (o := .cells [.pointer (some ⟨L.ph, 0, none⟩)] 79 true) hW
 have w0 := hW.push (.cells [.pointer (some ⟨L.ph, 0, none⟩)] 79 true)
 obtain ⟨hd, hhd⟩ : ∃ hd, hd = R.f O.length := ⟨_, rfl⟩
 obtain ⟨sz, hszd⟩ : ∃ sz, sz = hs.length + ws.length := ⟨_, rfl⟩
 have hszi : (hs.length : Int) + ws.length = sz := by omega
 have hszw : IntKind.i64.wrap (sz : Int) = sz := wrN (by omega)
 refine en hE Tryz.func100 rfl rfl Tryz.ntmps100 rfl (by decide +kernel) (rs := [.tmp 8]) rfl ?_
 simp only [push_cast, seval, hE.P, zz, hW.nb, hW.nb0, hszi, hszw]
 refine (make_at hE (H.keep k0) w0 (t := t) (r := hs.length) (s := sz) h1 h2 (by omega) (by omega) (by rw [hszd]; exact hfit)).mono ?_
 rintro v h3 ⟨rfl, H3, k3, w3⟩
 rw [← hhd]
 have hlt := H.lt hW
 have hnm : h.next ∉ L.blocks := fun hm => by have := (hlt _ hm).2; omega
 have g0 : (h.push (.cells [.pointer (some ⟨L.ph, 0, none⟩)] 79 true)).get h.next = some (.cells [.pointer (some ⟨L.ph, 0, none⟩)] 79 true) := by rw [get_push, if_pos rfl]
 have kB0 : KeepB L h (h.push (.cells [.pointer (some ⟨L.ph, 0, none⟩)] 79 true)) := k0.b L
 simp only [push_cast, seval, hE.P, zz]
 refine wpc_loop (fun m tm h' => ∃ i, m = hs.length - i ∧ i ≤ hs.length ∧ fget tm 31 = .int .i64 i ∧ fget tm 30 = .int .i64 hs.length ∧ fget tm 29 = .slice ra hs.length rc ∧ fget tm 9 = .int .u64 hd ∧ fget tm 3 = .slice sa ws.length scp ∧ fget tm 4 = .pointer (some ⟨h.next, 0, none⟩) ∧
  IsO E h' L W nS R (O ++ [⟨t, hs.length, hs.take i ++ List.replicate (hs.length - i + ws.length) 0⟩]) ∧ KeepB L (h.push (.cells [.pointer (some ⟨L.ph, 0, none⟩)] 79 true)) h' ∧ WF E h') hs.length ?_ ?_
 ·refine ⟨0, rfl, by omega, by simp only [push_cast, seval, hE.P, zz], by simp only [push_cast, seval, hE.P, zz], by simp only [push_cast, seval, hE.P, zz], by simp only [push_cast, seval, hE.P, zz], by simp only [push_cast, seval, hE.P, zz], by simp only [push_cast, seval, hE.P, zz], ?_, k3, w3⟩
  rw [hszd] at H3
  simpa using H3
 ·rintro m tm h' ⟨i, rfl, hi, f31, f30, f29, f9, f3, f4, H', k', w'⟩
  have g' := k'.get h.next _ hnm g0
  have hG' : Frz E G h' := hS.frz hG (kB0.trans k')
  simp only [push_cast, seval, hE.P, zz, f31, f30]
  refine kif_split (fun hb => ?_) (fun hb => ?_)
  ·have hlt' : i < hs.length := by simpa using hb
   obtain ⟨a, c, hsl, hsp, hac⟩ := hr.elem hG' hlt'
   injection hsl with hsl1 hsl2 hsl3; subst hsl1; subst hsl3
   rw [u64s_at hlt', Nat.mul_one] at hac
   simp only [push_cast, seval, hE.P, zz, f31, f30, f29, f9, f3, f4]
   rw [ia50 hsp (by omega) (by omega), kpure_some]
   obtain ⟨hy1, hy2⟩ := hh hs[i] (List.getElem_mem hlt')
   obtain ⟨i1, hi1⟩ : ∃ i1, i1 = i + 1 := ⟨_, rfl⟩
   have hi2 : (i : Int) + 1 = i1 := by omega
   have hi3 : IntKind.i64.wrap (i1 : Int) = i1 := wrN (by omega)
   simp only [push_cast, seval, hE.P, zz, f31, f30, f29, f9, f3, f4, ↓hac, g', hW.nb0]
   obtain ⟨j, hj1, hj2⟩ := hy2
   have S5 := setRef_at hE H' w' (i := i) (j := j) hlt' hj2
   rw [← hj1, ← hhd] at S5
   refine S5.mono ?_
   rintro v h5 ⟨rfl, H5, k5, w5⟩
   have e5 : (hs.take i ++ List.replicate (hs.length - i + ws.length) 0).set i (R.f j) = hs.take (i + 1) ++ List.replicate (hs.length - (i + 1) + ws.length) 0 := by
    rw [← hj1]; exact fill_set hlt'
   rw [← hj1] at e5
   simp only [e5] at H5
   simp only [push_cast, seval, hE.P, zz, f31, f30, f29, f9, f3, f4, hi2, hi3]
   exact ⟨hs.length - i1, by omega, i1, rfl, by omega, rfl, by rw [hi1]; exact H5, k'.trans k5, w5⟩
  ·have hge : i = hs.length := by have : ¬ i < hs.length := by simpa using hb
                                  omega
   subst hge
   have H'' : IsO E h' L W nS R (O ++ [⟨t, hs.length, hs ++ List.replicate ws.length 0⟩]) := by
    have : hs.length - hs.length + ws.length = ws.length := by omega
    rw [this, List.take_length] at H'; exact H'
   simp only [push_cast, seval, hE.P, zz, f9, f3, f4]
   refine wpc_loop (fun m tm h' => ∃ i, m = ws.length - i ∧ i ≤ ws.length ∧ fget tm 45 = .int .i64 i ∧ fget tm 44 = .int .i64 ws.length ∧ fget tm 43 = .slice sa ws.length scp ∧ fget tm 9 = .int .u64 hd ∧ fget tm 4 = .pointer (some ⟨h.next, 0, none⟩) ∧
    IsO E h' L W nS R (O ++ [⟨t, hs.length, hs ++ (ws.take i ++ List.replicate (ws.length - i) 0)⟩]) ∧ KeepB L (h.push (.cells [.pointer (some ⟨L.ph, 0, none⟩)] 79 true)) h' ∧ WF E h') ws.length ?_ ?_
   ·exact ⟨0, rfl, by omega, by simp only [push_cast, seval, hE.P, zz], by simp only [push_cast, seval, hE.P, zz], by simp only [push_cast, seval, hE.P, zz], by simp only [push_cast, seval, hE.P, zz, f9], by simp only [push_cast, seval, hE.P, zz, f4], by simpa using H'', k', w'⟩
   ·clear H'' H' g' hG' k' w' f31 f30 f29 f9 f3 f4 hb hi
    clear tm h'
    rintro m tm h' ⟨i, rfl, hi, f45, f44, f43, f9, f4, H', k', w'⟩
    have g' := k'.get h.next _ hnm g0
    have hG' : Frz E G h' := hS.frz hG (kB0.trans k')
    simp only [push_cast, seval, hE.P, zz, f45, f44]
    refine kif_split (fun hb => ?_) (fun hb => ?_)
    ·have hlt' : i < ws.length := by simpa using hb
     obtain ⟨a, c, hsl, hsp, hac⟩ := hsc.elem hG' hlt'
     injection hsl with hsl1 hsl2 hsl3; subst hsl1; subst hsl3
     rw [u64s_at hlt', Nat.mul_one] at hac
     simp only [push_cast, seval, hE.P, zz, f45, f44, f43, f9, f4]
     rw [ia50 hsp (by omega) (by omega), kpure_some]
     have hy1 := hw64 ws[i] (List.getElem_mem hlt')
     obtain ⟨i1, hi1⟩ : ∃ i1, i1 = i + 1 := ⟨_, rfl⟩
     have hi2 : (i : Int) + 1 = i1 := by omega
     have hi3 : IntKind.i64.wrap (i1 : Int) = i1 := wrN (by omega)
     simp only [push_cast, seval, hE.P, zz, f45, f44, f43, f9, f4, ↓hac, g', hW.nb0]
     have S5 := setWord_at hE H' w' (i := i) (y := ws[i]) (by simp; omega) hy1
     rw [← hhd] at S5
     refine S5.mono ?_
     rintro v h5 ⟨rfl, H5, k5, w5⟩
     have e5 : (hs ++ (ws.take i ++ List.replicate (ws.length - i) 0)).set (hs.length + i) ws[i] = hs ++ (ws.take (i + 1) ++ List.replicate (ws.length - (i + 1)) 0) := fill_set2 hlt'
     simp only [e5] at H5
     simp only [push_cast, seval, hE.P, zz, f45, f44, f43, f9, f4, hi2, hi3]
     exact ⟨ws.length - i1, by omega, i1, rfl, by omega, rfl, by rw [hi1]; exact H5, k'.trans k5, w5⟩
    ·have hge : i = ws.length := by have : ¬ i < ws.length := by simpa using hb
                                    omega
     subst hge
     simp only [push_cast, seval, hE.P, zz, f9]
     refine ⟨?_, kB0.trans k', w'⟩
     simpa using H'
theorem text_at {h : Heap} {L : HL} {W nS : Nat} {R : Bs} {O : List Ob} (H : IsO E h L W nS R O) (hW : WF E h) {s : ByteArray} (hs : s.size ≤ 10000) (hfit : fitsO W nS O (packW s).length) :
 CallsTo E 101 [.agg #[.pointer (some ⟨L.ph, 0, none⟩)], .string s] h fun v h' =>
  v = .int .u64 (R.f O.length) ∧ IsO E h' L W nS R (O ++ [⟨4, 0, packW s⟩]) ∧ KeepB L h h' ∧ WF E h' := by
 have hlt := H.lt hW
 have k0 := (Keep.refl h).push (o := .cells [.pointer (some ⟨L.ph, 0, none⟩)] 79 true) hW
 have w0 := hW.push (.cells [.pointer (some ⟨L.ph, 0, none⟩)] 79 true)
 have g0 : (h.push (.cells [.pointer (some ⟨L.ph, 0, none⟩)] 79 true)).get h.next = some (.cells [.pointer (some ⟨L.ph, 0, none⟩)] 79 true) := by rw [get_push, if_pos rfl]
 refine en hE Tryz.func101 rfl rfl Tryz.ntmps101 rfl (by decide +kernel) (rs := [.tmp 4]) rfl ?_
 simp only [push_cast, seval, hE.P, zz, hW.nb, hW.nb0]
 refine wdraw_pairs [(0, 2)] (by rw [hE.P]; decide +kernel) (by rw [hE.P]; decide +kernel) (by rw [hE.P]; decide +kernel) ?_
 simp only [push_cast, seval, hE.P, zz, hW.nb, hW.nb0]
 refine (packed_at' hE w0 (s := s) (by omega)).mono ?_
 rintro v h1 ⟨hown, k1, w1⟩
 obtain ⟨G', hsl, hx⟩ := hown.freeze w0 (noMem_frz E _) (Nat.le_refl _) k1 w1
 have hsep : Sep L G' := ext_sep hx fun b hb => by have := (hlt b hb).2; simp; omega
 have g1 := k1.get h.next _ g0
 simp only [push_cast, seval, hE.P, zz, hW.nb, hW.nb0, g1]
 have hpl := packW_len s
 refine (of_at hE (H.keep (k0.trans k1)) w1 hx.frz hsep (t := 4) (by omega) (by omega) (hs := []) (ws := packW s) (by simp; omega) (fun y hy => by cases hy) (packW_lt (by omega)) sl_nil hsl (by simpa using hfit)).mono ?_
 rintro v h2 ⟨rfl, H2, k2, w2⟩
 simp only [push_cast, seval, hE.P, zz, hW.nb, hW.nb0, g1]
 exact ⟨by simpa using H2, ((k0.trans k1).b L).trans k2, w2⟩
end Go.Proofs.YthfopcdammlmfaaGreatDoor.B
