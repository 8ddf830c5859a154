/- value.Compare, doc.Compare. -/
/- Merged by a program of ours: P9 Y4 Y5 Y6. -/
import Derived.Test.YthfopcdammlmfaaGreatDoorA8
import Derived.Lib.Bytealg
import Derived.Test.YthfopcdammlmfaaGreatDoorD4
set_option maxRecDepth 10000
set_option linter.all false
set_option linter.unusedSimpArgs false
set_option linter.unusedVariables false
/- PLAIN: values held against one another: the program's order, and the reference's. No program in sight. -/
namespace Go.Tm
def cmpI (a b : Int) : Int := if a < b then -1 else if a > b then 1 else 0
def cmpS (a b : ByteArray) : Int := Lib.compareBytes a.data.toList b.data.toList
def orI (a b : Int) : Int := if a = 0 then b else a
theorem orI_assoc (a b c : Int) : orI (orI a b) c = orI a (orI b c) := by unfold orI; repeat' split
                                                                          all_goals simp_all
theorem orI_0 (a : Int) : orI 0 a = a := by simp [orI]
theorem orI_r0 (a : Int) : orI a 0 = a := by unfold orI; split <;> simp_all
theorem orI_ne {a b : Int} (h : a ≠ 0) : orI a b = a := by simp [orI, h]
theorem cmpI_self (a : Int) : cmpI a a = 0 := by simp [cmpI]
theorem compareBytes_self : ∀ l : List UInt8, Lib.compareBytes l l = 0
 | [] => rfl
 | a :: l => by
   simp only [Lib.compareBytes]
   rw [if_neg (by exact fun h => absurd h (UInt8.lt_irrefl a)), if_neg (by exact fun h => absurd h (UInt8.lt_irrefl a))]
   exact compareBytes_self l
theorem cmpS_self (a : ByteArray) : cmpS a a = 0 := compareBytes_self _
mutual
def cmpV : Vl → Vl → Int
 | .mk k n s l f, W => orI (cmpI k W.k) (orI (cmpL l W.l) (orI (cmpF f W.f) (orI (cmpI n W.n) (orI (cmpS s W.s) (orI (cmpI l.length W.l.length) (cmpI f.length W.f.length))))))
def cmpL : List Vl → List Vl → Int
 | v :: l, w :: m => orI (cmpV v w) (cmpL l m)
 | [], _ => 0
 | _ :: _, [] => 0
def cmpF : List (ByteArray × Vl) → List (ByteArray × Vl) → Int
 | (a, v) :: l, (b, w) :: m => orI (cmpS a b) (orI (cmpV v w) (cmpF l m))
 | [], _ => 0
 | _ :: _, [] => 0
end
theorem cmpV_eq (V W : Vl) : cmpV V W = orI (cmpI V.k W.k) (orI (cmpL V.l W.l) (orI (cmpF V.f W.f) (orI (cmpI V.n W.n) (orI (cmpS V.s W.s) (orI (cmpI V.l.length W.l.length) (cmpI V.f.length W.f.length)))))) := by
 cases V; rw [cmpV]; rfl
theorem cmpL_r0 (l : List Vl) : cmpL l [] = 0 := by cases l <;> simp [cmpL]
theorem cmpF_r0 (l : List (ByteArray × Vl)) : cmpF l [] = 0 := by cases l <;> simp [cmpF]
theorem cmpL_l0 (l : List Vl) : cmpL [] l = 0 := by simp [cmpL]
theorem cmpF_l0 (l : List (ByteArray × Vl)) : cmpF [] l = 0 := by simp [cmpF]
theorem cmpL_step {l m : List Vl} {i : Nat} (h1 : i < l.length) (h2 : i < m.length) : cmpL (l.drop i) (m.drop i) = orI (cmpV l[i] m[i]) (cmpL (l.drop (i + 1)) (m.drop (i + 1))) := by
 rw [List.drop_eq_getElem_cons h1, List.drop_eq_getElem_cons h2, cmpL]
theorem cmpF_step {l m : List (ByteArray × Vl)} {i : Nat} (h1 : i < l.length) (h2 : i < m.length) : cmpF (l.drop i) (m.drop i) = orI (cmpS l[i].1 m[i].1) (orI (cmpV l[i].2 m[i].2) (cmpF (l.drop (i + 1)) (m.drop (i + 1)))) := by
 rw [List.drop_eq_getElem_cons h1, List.drop_eq_getElem_cons h2]
 have e1 : l[i] = (l[i].1, l[i].2) := rfl
 have e2 : m[i] = (m[i].1, m[i].2) := rfl
 rw [e1, e2, cmpF]
theorem cmpL_end {l m : List Vl} {i : Nat} (h : ¬ (i < l.length ∧ i < m.length)) : cmpL (l.drop i) (m.drop i) = 0 := by
 by_cases h1 : i < l.length
 ·rw [(List.drop_eq_nil_of_le (by omega) : m.drop i = [])]; exact cmpL_r0 _
 ·rw [(List.drop_eq_nil_of_le (by omega) : l.drop i = [])]; exact cmpL_l0 _
theorem cmpF_end {l m : List (ByteArray × Vl)} {i : Nat} (h : ¬ (i < l.length ∧ i < m.length)) : cmpF (l.drop i) (m.drop i) = 0 := by
 by_cases h1 : i < l.length
 ·rw [(List.drop_eq_nil_of_le (by omega) : m.drop i = [])]; exact cmpF_r0 _
 ·rw [(List.drop_eq_nil_of_le (by omega) : l.drop i = [])]; exact cmpF_l0 _
end Go.Tm
/- value.compare. -/
namespace Go.Proofs.YthfopcdammlmfaaGreatDoor
open Go.Tm
variable {E : Env} (hE : EOk E)
include hE
theorem strcmp_at {h : Heap} {a b : ByteArray} : CallsTo E 81 [.string a, .string b] h fun v h' => v = .int .i64 (cmpS a b) ∧ h' = h := by
 refine calls_known (v := .int .i64 (cmpS a b)) (by rw [hE.known]; rfl) ?_
 exact ⟨rfl, rfl⟩
theorem nan_at {h : Heap} {a : Int} : CallsTo E 172 [.int .i64 a] h fun v h' => v = .bool false ∧ h' = h := by
 refine en hE Tryz.func172 rfl rfl Tryz.ntmps172 rfl (by decide +kernel) (rs := [.tmp 2]) rfl ?_
 simp only [push_cast, seval, hE.P, zz]
theorem nan64_at {h : Heap} {a : Int} : CallsTo E 173 [.int .i64 a] h fun v h' => v = .bool false ∧ h' = h := by
 refine en hE Tryz.func173 rfl rfl Tryz.ntmps173 rfl (by decide +kernel) (rs := [.tmp 2]) rfl ?_
 simp only [push_cast, seval, hE.P, zz]
theorem icmp_at {h : Heap} {a b : Int} : CallsTo E 153 [.int .i64 a, .int .i64 b] h fun v h' => v = .int .i64 (cmpI a b) ∧ h' = h := by
 refine en hE Tryz.func153 rfl rfl Tryz.ntmps153 rfl (by decide +kernel) (rs := [.tmp 4]) rfl ?_
 simp only [push_cast, seval, hE.P, zz]
 refine (nan_at hE).mono ?_
 rintro v h1 ⟨rfl, rfl⟩
 simp only [push_cast, seval, hE.P, zz]
 refine (nan_at hE).mono ?_
 rintro v h1 ⟨rfl, rfl⟩
 simp only [push_cast, seval, hE.P, zz]
 unfold cmpI
 refine kif_split (fun hb => ?_) (fun hb => ?_)
 ·have h1 : a < b := by simpa using hb
  simp only [push_cast, seval, hE.P, zz]
  rw [if_pos h1]
 ·have h1 : ¬ a < b := by simpa using hb
  simp only [push_cast, seval, hE.P, zz]
  refine kif_split (fun hb => ?_) (fun hb => ?_)
  ·have h2 : a > b := by simpa using hb
   simp only [push_cast, seval, hE.P, zz]
   rw [if_neg h1, if_pos h2]
  ·have h2 : ¬ a > b := by simpa using hb
   simp only [push_cast, seval, hE.P, zz]
   rw [if_neg h1, if_neg h2]
theorem icmp64_at {h : Heap} {a b : Int} : CallsTo E 155 [.int .i64 a, .int .i64 b] h fun v h' => v = .int .i64 (cmpI a b) ∧ h' = h := by
 refine en hE Tryz.func155 rfl rfl Tryz.ntmps155 rfl (by decide +kernel) (rs := [.tmp 4]) rfl ?_
 simp only [push_cast, seval, hE.P, zz]
 refine (nan64_at hE).mono ?_
 rintro v h1 ⟨rfl, rfl⟩
 simp only [push_cast, seval, hE.P, zz]
 refine (nan64_at hE).mono ?_
 rintro v h1 ⟨rfl, rfl⟩
 simp only [push_cast, seval, hE.P, zz]
 unfold cmpI
 refine kif_split (fun hb => ?_) (fun hb => ?_)
 ·have h1 : a < b := by simpa using hb
  simp only [push_cast, seval, hE.P, zz]
  rw [if_pos h1]
 ·have h1 : ¬ a < b := by simpa using hb
  simp only [push_cast, seval, hE.P, zz]
  refine kif_split (fun hb => ?_) (fun hb => ?_)
  ·have h2 : a > b := by simpa using hb
   simp only [push_cast, seval, hE.P, zz]
   rw [if_neg h1, if_pos h2]
  ·have h2 : ¬ a > b := by simpa using hb
   simp only [push_cast, seval, hE.P, zz]
   rw [if_neg h1, if_neg h2]
omit hE in
def orL : List Int → Int
 | [] => 0
 | a :: l => orI a (orL l)
omit hE in
theorem orL_at {l : List Int} {i : Nat} (h : i < l.length) : orL (l.drop i) = orI l[i] (orL (l.drop (i + 1))) := by
 rw [List.drop_eq_getElem_cons h]; rfl
theorem ior_at {h : Heap} {l : List Int} {b : Nat} (hW : WF E h) (hg : h.get b = some (.cells (l.map fun z => .int .i64 z) 3 true)) (hl : l.length ≤ 16) : CallsTo E 154 [.slice (some ⟨b, 0, none⟩) l.length l.length] h fun v h' => v = .int .i64 (orL l) ∧ h' = h := by
 have nb := hW.nlt hg
 refine en hE Tryz.func154 rfl rfl Tryz.ntmps154 rfl (by decide +kernel) (rs := [.tmp 2]) rfl ?_
 simp only [push_cast, seval, hE.P, zz]
 refine wpc_loop (fun m tm h' => ∃ i : Nat, m = l.length - i ∧ i ≤ l.length ∧ fget tm 8 = .int .i64 i ∧ fget tm 7 = .int .i64 l.length ∧ fget tm 6 = .slice (some ⟨b, 0, none⟩) l.length l.length ∧ fget tm 3 = .int .i64 0 ∧ orL l = orL (l.drop i) ∧ h' = h) l.length ?_ ?_
 ·exact ⟨0, by omega, by omega, by simp only [push_cast, seval, hE.P, zz], by simp only [push_cast, seval, hE.P, zz], by simp only [push_cast, seval, hE.P, zz], by simp only [push_cast, seval, hE.P, zz], rfl, rfl⟩
 ·rintro m tm h1 ⟨i, rfl, hi, f8, f7, f6, f3, ho, rfl⟩
  simp only [push_cast, seval, hE.P, zz, f8, f7]
  refine kif_split (fun hb => ?_) (fun hb => ?_)
  ·have hlt : i < l.length := by simpa using hb
   have hac : acells E h1 ⟨b, i, none⟩ 1 = some [.int .i64 l[i]] := by
    simp only [acells, nb, if_false, hg]
    rw [if_pos (by simp; omega)]
    rw [List.drop_eq_getElem_cons (by simpa using hlt)]
    simp
   obtain ⟨i1, hi1⟩ : ∃ i1, i1 = i + 1 := ⟨_, rfl⟩
   have e1 : (i : Int) + 1 = i1 := by omega
   have e2 : IntKind.i64.wrap (i1 : Int) = i1 := wrN (by omega)
   rw [orL_at hlt] at ho
   simp only [push_cast, seval, hE.P, zz, f8, f6]
   rw [ia215 rfl (by omega) (by omega), kpure_some]
   simp only [push_cast, seval, hE.P, zz, f8, f6, f3, ↓hac]
   refine kif_split (fun hb => ?_) (fun hb => ?_)
   ·have hne : l[i] ≠ 0 := by simpa using hb
    simp only [push_cast, seval, hE.P, zz]
    rw [ho, orI_ne hne]
   ·have hz : l[i] = 0 := by simpa using hb
    rw [hz, orI_0] at ho
    simp only [push_cast, seval, hE.P, zz, f8, f7, f6, f3, e1, e2]
    exact ⟨l.length - i1, by omega, i1, rfl, by omega, rfl, by rw [hi1]; exact ho⟩
  ·have hge : i = l.length := by have : ¬ i < l.length := by simpa using hb
                                 omega
   rw [hge, List.drop_length] at ho
   simp only [push_cast, seval, hE.P, zz, f3]
   rw [ho]; rfl
end Go.Proofs.YthfopcdammlmfaaGreatDoor
/- value.compare, value.Compare. -/
namespace Go.Proofs.YthfopcdammlmfaaGreatDoor
open Go.Tm
theorem buildSlice_four {E : Env} {t e by_ : Nat} (T : Elem E t e 1 by_) {v w x y : Value} (h1 : (vcells v).length = 1) (h2 : (vcells w).length = 1) (h3 : (vcells x).length = 1) (h4 : (vcells y).length = 1) : abs1 E.P t 4 [(0, v), (1, w), (2, x), (3, y)] = some (fun b => .slice (some ⟨b, 0, none⟩) 4 4, .cells (vcells v ++ vcells w ++ vcells x ++ vcells y) e true) := by
 obtain ⟨i, hi, hiz⟩ : ∃ i, E.P.info? e = some i ∧ (i.size, i.bytes) = (1, by_) := by
  have := T.info
  rw [Option.map_eq_some_iff] at this
  exact this
 injection hiz with hz1 hz2
 subst hz2
 obtain ⟨zv, hzv, hzl⟩ := T.zero
 obtain ⟨v0, hv0⟩ := List.length_eq_one_iff.1 h1
 obtain ⟨w0, hw0⟩ := List.length_eq_one_iff.1 h2
 obtain ⟨x0, hx0⟩ := List.length_eq_one_iff.1 h3
 obtain ⟨y0, hy0⟩ := List.length_eq_one_iff.1 h4
 obtain ⟨z0, hz0⟩ := List.length_eq_one_iff.1 hzl
 have hs : asz E.P e = some 1 := by simp [asz, hi, hz1]
 simp only [abs1, T.und, hs, hzv]
 rw [if_pos ⟨by omega, by rw [hzl]⟩]
 simp [afill, hv0, hw0, hx0, hy0, hz0, arep, splice]
variable {E : Env} (hE : EOk E)
include hE
set_option maxHeartbeats 1000000 in
theorem compare_at : ∀ (n : Nat) (V : Vl), V.sz ≤ n → ∀ (W : Vl) {G G2 : Mem} {h : Heap}, WF E h → Frz E G h → Frz E G2 h → ∀ {c d : List Value}, Rep E G V c → Rep E G2 W d →
 CallsTo E 125 [.agg c.toArray, .agg d.toArray] h fun v h' => v = .int .i64 (cmpV V W) ∧ Keep h h' ∧ WF E h' := by
 intro n
 induction n with
 | zero => intro V hn; have := sz_eq V; omega
 | succ n ih =>
   intro V hn W G G2 h hW hG hG2 c d hV hV2
   have heq := cmpV_eq V W
   obtain ⟨sl, sf, cl, cf, rfl, hsl, hsf, hl, hf, hb1, hb2, hb3⟩ := hV.cells
   obtain ⟨a2, cap2, rfl, _, _⟩ := hsl.slice
   obtain ⟨a3, cap3, rfl, _, _⟩ := hsf.slice
   obtain ⟨sl2, sf2, cl2, cf2, rfl, hsl2, hsf2, hl2, hf2, hd1, hd2, hd3⟩ := hV2.cells
   obtain ⟨d2, dap2, rfl, _, _⟩ := hsl2.slice
   obtain ⟨d3, dap3, rfl, _, _⟩ := hsf2.slice
   refine en hE Tryz.func125 rfl rfl Tryz.ntmps125 rfl (by decide +kernel) (rs := [.tmp 4]) rfl ?_
   simp only [push_cast, seval, hE.P, zz, hW.nb, hW.nb0]
   obtain ⟨CV, hCV⟩ : ∃ CV : AObj, CV = .cells [.int .i64 V.k, .int .i64 V.n, .string V.s, .slice a2 V.l.length cap2, .slice a3 V.f.length cap3] 25 true := ⟨_, rfl⟩
   obtain ⟨CW, hCW⟩ : ∃ CW : AObj, CW = .cells [.int .i64 W.k, .int .i64 W.n, .string W.s, .slice d2 W.l.length dap2, .slice d3 W.f.length dap3] 25 true := ⟨_, rfl⟩
   rw [← hCV, ← hCW]
   have k0 : Keep h ((h.push CV).push CW) := ((Keep.refl h).push hW).push (hW.push _)
   have w0 : WF E ((h.push CV).push CW) := (hW.push _).push _
   have ga : ((h.push CV).push CW).get h.next = some CV := by rw [get_push, if_neg (by simp), get_push, if_pos rfl]
   have gb : ((h.push CV).push CW).get (h.next + 1) = some CW := by rw [get_push, if_pos (by simp)]
   generalize (h.push CV).push CW = H at *
   rw [hCV] at ga
   rw [hCW] at gb
   have nb0 : (h.next < E.base) = False := hW.nb0
   have nb1 : (h.next + 1 < E.base) = False := hW.nb 1
   refine (icmp_at hE).mono ?_
   rintro v h1 ⟨rfl, rfl⟩
   simp only [push_cast, seval, hE.P, zz]
   refine kif_split (fun hb => ?_) (fun hb => ?_)
   ·have hne : cmpI V.k W.k ≠ 0 := by simpa using hb
    simp only [push_cast, seval, hE.P, zz]
    exact ⟨by rw [heq, orI_ne hne], k0, w0⟩
   have hk0 : cmpI V.k W.k = 0 := by simpa using hb
   rw [hk0, orI_0] at heq
   clear hb hk0
   obtain ⟨mn, hmn⟩ : ∃ mn, mn = min V.l.length W.l.length := ⟨_, rfl⟩
   have emn : min (V.l.length : Int) W.l.length = mn := by omega
   obtain ⟨mf, hmf⟩ : ∃ mf, mf = min V.f.length W.f.length := ⟨_, rfl⟩
   have emf : min (V.f.length : Int) W.f.length = mf := by omega
   simp only [push_cast, seval, hE.P, zz, ga, gb, nb0, nb1, emn]
   refine wpc_loop (fun m tm h' => ∃ i : Nat, m = mn - i ∧ i ≤ mn ∧ fget tm 25 = .int .i64 i ∧ fget tm 24 = .int .i64 mn ∧ fget tm 2 = .pointer (some ⟨h.next, 0, none⟩) ∧ fget tm 3 = .pointer (some ⟨h.next + 1, 0, none⟩) ∧ cmpL V.l W.l = cmpL (V.l.drop i) (W.l.drop i) ∧ Keep h1 h' ∧ WF E h') mn ?_ ?_
   ·exact ⟨0, by omega, by omega, by simp only [push_cast, seval, hE.P, zz], by simp only [push_cast, seval, hE.P, zz], by simp only [push_cast, seval, hE.P, zz], by simp only [push_cast, seval, hE.P, zz], rfl, Keep.refl _, w0⟩
   ·rintro m tm h2 ⟨i, rfl, hi, f25, f24, f2, f3, hc, hk, hw⟩
    have ga2 := hk.get _ _ ga
    have gb2 := hk.get _ _ gb
    simp only [push_cast, seval, hE.P, zz, f25, f24]
    refine kif_split (fun hb => ?_) (fun hb => ?_)
    ·have hlt : i < mn := by simpa using hb
     have hi1' : i < V.l.length := by omega
     have hi2' : i < W.l.length := by omega
     obtain ⟨a, c, e1', hsp, hac⟩ := hsl.elem (hG.keep (k0.trans hk)) hi1'
     injection e1' with e1' e2' e3'; subst e1'; subst e3'
     obtain ⟨b, d, e1', hsp2, hac2⟩ := hsl2.elem (hG2.keep (k0.trans hk)) hi2'
     injection e1' with e1' e2' e3'; subst e1'; subst e3'
     have hrc := hl.at i V.l[i] (by simp [hi1'])
     have hrd := hl2.at i W.l[i] (by simp [hi2'])
     have hps := l_sz (v := V) (x := V.l[i]) (by simp)
     obtain ⟨i1, hi1⟩ : ∃ i1, i1 = i + 1 := ⟨_, rfl⟩
     have e1 : (i : Int) + 1 = i1 := by omega
     have e2 : IntKind.i64.wrap (i1 : Int) = i1 := wrN (by omega)
     rw [cmpL_step hi1' hi2', ← hi1] at hc
     simp only [push_cast, seval, hE.P, zz, f25]
     refine wdraw_calm (by rw [hE.P]; decide +kernel) ?_
     simp only [push_cast, seval, hE.P, zz, f25, f2, f3, ga2, gb2, nb0, nb1]
     rw [ia22 hsp (by omega) (by omega), kpure_some]
     simp only [push_cast, seval, hE.P, zz, f25, f2, f3, ga2, gb2, nb0, nb1, ↓hac]
     rw [ia22 hsp2 (by omega) (by omega), kpure_some]
     simp only [push_cast, seval, hE.P, zz, f25, f2, f3, ga2, gb2, nb0, nb1, ↓hac2]
     refine (ih V.l[i] (by omega) W.l[i] hw (hG.keep (k0.trans hk)) (hG2.keep (k0.trans hk)) hrc hrd).mono ?_
     rintro v h3 ⟨rfl, k3, w3⟩
     simp only [push_cast, seval, hE.P, zz]
     refine kif_split (fun hb => ?_) (fun hb => ?_)
     ·have hne : cmpV V.l[i] W.l[i] ≠ 0 := by simpa using hb
      rw [orI_ne hne] at hc
      simp only [push_cast, seval, hE.P, zz]
      exact ⟨by rw [heq, hc, orI_ne hne], (k0.trans hk).trans k3, w3⟩
     ·have hz : cmpV V.l[i] W.l[i] = 0 := by simpa using hb
      rw [hz, orI_0] at hc
      simp only [push_cast, seval, hE.P, zz, f25, f24, f2, f3, e1, e2]
      exact ⟨mn - i1, by omega, i1, rfl, by omega, rfl, hc, hk.trans k3, w3⟩
    ·have hge : ¬ (i < V.l.length ∧ i < W.l.length) := by have : ¬ i < mn := by simpa using hb
                                                          omega
     rw [cmpL_end hge] at hc
     rw [hc, orI_0] at heq
     clear hc hb hge hi f25 f24
     simp only [push_cast, seval, hE.P, zz, f2, f3, ga2, gb2, nb0, nb1, emf]
     refine wpc_loop (fun m tm h' => ∃ i : Nat, m = mf - i ∧ i ≤ mf ∧ fget tm 50 = .int .i64 i ∧ fget tm 49 = .int .i64 mf ∧ fget tm 2 = .pointer (some ⟨h.next, 0, none⟩) ∧ fget tm 3 = .pointer (some ⟨h.next + 1, 0, none⟩) ∧ cmpF V.f W.f = cmpF (V.f.drop i) (W.f.drop i) ∧ Keep h1 h' ∧ WF E h') mf ?_ ?_
     ·exact ⟨0, by omega, by omega, by simp only [push_cast, seval, hE.P, zz], by simp only [push_cast, seval, hE.P, zz], by simp only [push_cast, seval, hE.P, zz, f2], by simp only [push_cast, seval, hE.P, zz, f3], rfl, hk, hw⟩
     ·clear f2 f3 ga2 gb2 hk hw
      clear i tm h2
      rintro m tm h2 ⟨i, rfl, hi, f50, f49, f2, f3, hc, hk, hw⟩
      have ga2 := hk.get _ _ ga
      have gb2 := hk.get _ _ gb
      simp only [push_cast, seval, hE.P, zz, f50, f49]
      refine kif_split (fun hb => ?_) (fun hb => ?_)
      ·have hlt : i < mf := by simpa using hb
       have hi1' : i < V.f.length := by omega
       have hi2' : i < W.f.length := by omega
       obtain ⟨a, c, e1', hsp, hac⟩ := hsf.elem (hG.keep (k0.trans hk)) hi1'
       injection e1' with e1' e2' e3'; subst e1'; subst e3'
       obtain ⟨b, d, e1', hsp2, hac2⟩ := hsf2.elem (hG2.keep (k0.trans hk)) hi2'
       injection e1' with e1' e2' e3'; subst e1'; subst e3'
       obtain ⟨c1, hc1, hrc, hnm⟩ := hf.at i V.f[i].1 V.f[i].2 (List.getElem?_eq_getElem hi1')
       obtain ⟨c2, hc2, hrd, hnm2⟩ := hf2.at i W.f[i].1 W.f[i].2 (List.getElem?_eq_getElem hi2')
       rw [hc1] at hac
       rw [hc2] at hac2
       have p1 := acells_part hac 0 1 (by omega)
       have p2 := acells_part hac 1 5 (by omega)
       have q1 := acells_part hac2 0 1 (by omega)
       have q2 := acells_part hac2 1 5 (by omega)
       have hcl1 : c1.length = 5 := by obtain ⟨_, _, _, _, rfl, _⟩ := hrc.cells; rfl
       have hcl2 : c2.length = 5 := by obtain ⟨_, _, _, _, rfl, _⟩ := hrd.cells; rfl
       simp only [Nat.add_zero, List.drop_zero, List.take_succ_cons, List.take_zero] at p1 q1
       simp only [List.drop_succ_cons, List.drop_zero] at p2 q2
       rw [List.take_of_length_le (by omega)] at p2 q2
       have hrcC := hrc
       have hrdC := hrd
       obtain ⟨sl', sf', cl', cf', hce, hsl', hsf', _⟩ := hrc.cells
       rw [hce] at p2 hrcC
       obtain ⟨a4, cap4, rfl, _, _⟩ := hsl'.slice
       obtain ⟨a5, cap5, rfl, _, _⟩ := hsf'.slice
       obtain ⟨sl6, sf6, cl6, cf6, hce6, hsl6, hsf6, _⟩ := hrd.cells
       rw [hce6] at q2 hrdC
       obtain ⟨a6, cap6, rfl, _, _⟩ := hsl6.slice
       obtain ⟨a7, cap7, rfl, _, _⟩ := hsf6.slice
       have hps := f_sz (v := V) (x := V.f[i]) (by simp)
       obtain ⟨i1, hi1⟩ : ∃ i1, i1 = i + 1 := ⟨_, rfl⟩
       have e1 : (i : Int) + 1 = i1 := by omega
       have e2 : IntKind.i64.wrap (i1 : Int) = i1 := wrN (by omega)
       rw [cmpF_step hi1' hi2', ← hi1, ← orI_assoc] at hc
       simp only [push_cast, seval, hE.P, zz, f50]
       refine wdraw_pairs [(14, 12), (18, 12), (20, 12), (24, 12)] (by rw [hE.P]; decide +kernel) (by rw [hE.P]; decide +kernel) (by rw [hE.P]; decide +kernel) ?_
       simp only [push_cast, seval, hE.P, zz, f50, f2, f3, ga2, gb2, nb0, nb1]
       rw [ia23 hsp (by omega) (by omega), kpure_some]
       simp only [push_cast, seval, hE.P, zz, f50, f2, f3, ga2, gb2, nb0, nb1, ↓p1]
       rw [ia23 hsp2 (by omega) (by omega), kpure_some]
       simp only [push_cast, seval, hE.P, zz, f50, f2, f3, ga2, gb2, nb0, nb1, ↓q1]
       refine (strcmp_at hE).mono ?_
       rintro v h3 ⟨rfl, rfl⟩
       simp only [push_cast, seval, hE.P, zz, f50, f2, f3, ga2, gb2, nb0, nb1]
       rw [ia23 hsp (by omega) (by omega), kpure_some]
       simp only [push_cast, seval, hE.P, zz, f50, f2, f3, ga2, gb2, nb0, nb1, ↓p2]
       rw [ia23 hsp2 (by omega) (by omega), kpure_some]
       simp only [push_cast, seval, hE.P, zz, f50, f2, f3, ga2, gb2, nb0, nb1, ↓q2]
       refine (ih V.f[i].2 (by omega) W.f[i].2 hw (hG.keep (k0.trans hk)) (hG2.keep (k0.trans hk)) hrcC hrdC).mono ?_
       rintro v h4 ⟨rfl, k4, w4⟩
       obtain ⟨x, hx⟩ : ∃ x, x = cmpS V.f[i].1 W.f[i].1 := ⟨_, rfl⟩
       obtain ⟨y, hy⟩ : ∃ y, y = cmpV V.f[i].2 W.f[i].2 := ⟨_, rfl⟩
       rw [← hx, ← hy] at hc
       rw [← hx, ← hy]
       have b2 : abs1 Tryz.prog 215 2 [(0, .int .i64 x), (1, .int .i64 y)] = some (fun b => .slice (some ⟨b, 0, none⟩) 2 2, .cells [.int .i64 x, .int .i64 y] 3 true) := by rw [← hE.P]; exact buildSlice_two (el215 hE.P) rfl rfl
       simp only [push_cast, seval, hE.P, zz, b2]
       have k5 := (Keep.refl h4).push (o := .cells [.int .i64 x, .int .i64 y] 3 true) w4
       have w5 := w4.push (.cells [.int .i64 x, .int .i64 y] 3 true)
       refine (ior_at hE (l := [x, y]) w5 (by rw [get_push, if_pos rfl]; rfl) (by simp)).mono ?_
       rintro v h6 ⟨rfl, rfl⟩
       have eo : orL [x, y] = orI x y := by simp [orL, orI_r0]
       rw [eo]
       simp only [push_cast, seval, hE.P, zz, f50, f2, f3, ga2, gb2, nb0, nb1, ↓p2, ↓q2]
       refine kif_split (fun hb => ?_) (fun hb => ?_)
       ·have hne : orI x y ≠ 0 := by simpa using hb
        rw [orI_ne hne] at hc
        simp only [push_cast, seval, hE.P, zz]
        exact ⟨by rw [heq, hc, orI_ne hne], ((k0.trans hk).trans k4).trans k5, w5⟩
       ·have hz : orI x y = 0 := by simpa using hb
        rw [hz, orI_0] at hc
        simp only [push_cast, seval, hE.P, zz, f50, f49, f2, f3, e1, e2]
        exact ⟨mf - i1, by omega, i1, rfl, by omega, rfl, hc, (hk.trans k4).trans k5, w5⟩
      ·have hge : ¬ (i < V.f.length ∧ i < W.f.length) := by have : ¬ i < mf := by simpa using hb
                                                            omega
       rw [cmpF_end hge] at hc
       rw [hc, orI_0] at heq
       simp only [push_cast, seval, hE.P, zz]
       refine wdraw_pairs [(6, 4), (8, 4), (11, 4), (11, 9), (14, 4), (14, 9), (18, 4), (18, 9), (18, 16), (21, 4), (21, 9), (21, 16)] (by rw [hE.P]; decide +kernel) (by rw [hE.P]; decide +kernel) (by rw [hE.P]; decide +kernel) ?_
       simp only [push_cast, seval, hE.P, zz, f2, f3, ga2, gb2, nb0, nb1]
       refine (icmp64_at hE).mono ?_
       rintro v h3 ⟨rfl, rfl⟩
       simp only [push_cast, seval, hE.P, zz, f2, f3, ga2, gb2, nb0, nb1]
       refine (strcmp_at hE).mono ?_
       rintro v h4 ⟨rfl, rfl⟩
       simp only [push_cast, seval, hE.P, zz, f2, f3, ga2, gb2, nb0, nb1]
       refine (icmp_at hE).mono ?_
       rintro v h5 ⟨rfl, rfl⟩
       simp only [push_cast, seval, hE.P, zz, f2, f3, ga2, gb2, nb0, nb1]
       refine (icmp_at hE).mono ?_
       rintro v h6 ⟨rfl, rfl⟩
       obtain ⟨x, hx⟩ : ∃ x, x = cmpI V.n W.n := ⟨_, rfl⟩
       obtain ⟨y, hy⟩ : ∃ y, y = cmpS V.s W.s := ⟨_, rfl⟩
       obtain ⟨z, hz⟩ : ∃ z, z = cmpI V.l.length W.l.length := ⟨_, rfl⟩
       obtain ⟨u, hu⟩ : ∃ u, u = cmpI V.f.length W.f.length := ⟨_, rfl⟩
       rw [← hx, ← hy, ← hz, ← hu] at heq
       rw [← hx, ← hy, ← hz, ← hu]
       have b4 : abs1 Tryz.prog 215 4 [(0, .int .i64 x), (1, .int .i64 y), (2, .int .i64 z), (3, .int .i64 u)] = some (fun b => .slice (some ⟨b, 0, none⟩) 4 4, .cells [.int .i64 x, .int .i64 y, .int .i64 z, .int .i64 u] 3 true) := by rw [← hE.P]; exact buildSlice_four (el215 hE.P) rfl rfl rfl rfl
       simp only [push_cast, seval, hE.P, zz, f2, f3, ga2, gb2, nb0, nb1, b4]
       have k5 := (Keep.refl h6).push (o := .cells [.int .i64 x, .int .i64 y, .int .i64 z, .int .i64 u] 3 true) hw
       have w5 := hw.push (.cells [.int .i64 x, .int .i64 y, .int .i64 z, .int .i64 u] 3 true)
       refine (ior_at hE (l := [x, y, z, u]) w5 (by rw [get_push, if_pos rfl]; rfl) (by simp)).mono ?_
       rintro v h7 ⟨rfl, rfl⟩
       have eo : orL [x, y, z, u] = cmpV V W := by rw [heq]; simp [orL, orI_r0]
       rw [eo]
       simp only [push_cast, seval, hE.P, zz, f2, f3, ga2, gb2, nb0, nb1]
       exact ⟨(k0.trans hk).trans k5, w5⟩
end Go.Proofs.YthfopcdammlmfaaGreatDoor
namespace Go.Proofs.YthfopcdammlmfaaGreatDoor
open Go.Tm
variable {E : Env} (hE : EOk E)
include hE
theorem eor_at {h : Heap} {b : Nat} (hW : WF E h) (hg : h.get b = some (.cells [.int .i64 0, .int .i64 0] 30 true)) : CallsTo E 124 [.slice (some ⟨b, 0, none⟩) 2 2] h fun v h' => v = .int .i64 0 ∧ h' = h := by
 have nb := hW.nlt hg
 refine en hE Tryz.func124 rfl rfl Tryz.ntmps124 rfl (by decide +kernel) (rs := [.tmp 2]) rfl ?_
 simp only [push_cast, seval, hE.P, zz]
 refine wpc_loop (fun m tm h' => ∃ i : Nat, m = 2 - i ∧ i ≤ 2 ∧ fget tm 8 = .int .i64 i ∧ fget tm 7 = .int .i64 2 ∧ fget tm 6 = .slice (some ⟨b, 0, none⟩) 2 2 ∧ fget tm 3 = .int .i64 0 ∧ h' = h) 2 ?_ ?_
 ·exact ⟨0, by omega, by omega, by simp only [push_cast, seval, hE.P, zz], by simp only [push_cast, seval, hE.P, zz], by simp only [push_cast, seval, hE.P, zz], by simp only [push_cast, seval, hE.P, zz], rfl⟩
 ·rintro m tm h1 ⟨i, rfl, hi, f8, f7, f6, f3, rfl⟩
  simp only [push_cast, seval, hE.P, zz, f8, f7]
  refine kif_split (fun hb => ?_) (fun hb => ?_)
  ·have hlt : i < 2 := Int.ofNat_lt.1 (show (i : Int) < ((2 : Nat) : Int) from by simpa using hb)
   have hac : acells E h1 ⟨b, i, none⟩ 1 = some [.int .i64 0] := by
    simp only [acells, nb, if_false, hg]
    rw [if_pos (by simp; omega)]
    rcases (by omega : i = 0 ∨ i = 1) with e | e <;> subst e <;> rfl
   obtain ⟨i1, hi1⟩ : ∃ i1, i1 = i + 1 := ⟨_, rfl⟩
   have e1 : (i : Int) + 1 = i1 := by omega
   have e2 : IntKind.i64.wrap (i1 : Int) = i1 := wrN (by omega)
   simp only [push_cast, seval, hE.P, zz, f8, f6]
   rw [ia199 rfl (by omega) (by omega), kpure_some]
   simp only [push_cast, seval, hE.P, zz, f8, f7, f6, f3, ↓hac, e1, e2]
   exact ⟨2 - i1, by omega, i1, rfl, by omega, rfl⟩
  ·simp only [push_cast, seval, hE.P, zz, f3]
theorem comp_at {V W : Vl} (hz : V.sz ≤ 10000) (hz2 : W.sz ≤ 10000) (hg1 : goodV V = 0) (hg2 : goodV W = 0) {G G2 : Mem} {h : Heap} (hW : WF E h) (hG : Frz E G h) (hG2 : Frz E G2 h) {c d : List Value} (hV : Rep E G V c) (hV2 : Rep E G2 W d) :
 CallsTo E 74 [.agg c.toArray, .agg d.toArray] h fun v h' => v = .tuple #[.int .i64 (cmpV V W), .int .i64 0] ∧ Keep h h' ∧ WF E h' := by
 have hVC := hV
 have hWC := hV2
 obtain ⟨sl, sf, cl, cf, rfl, hsl, hsf, _⟩ := hV.cells
 obtain ⟨a2, cap2, rfl, _, _⟩ := hsl.slice
 obtain ⟨a3, cap3, rfl, _, _⟩ := hsf.slice
 obtain ⟨sl2, sf2, cl2, cf2, rfl, hsl2, hsf2, _⟩ := hV2.cells
 obtain ⟨d2, dap2, rfl, _, _⟩ := hsl2.slice
 obtain ⟨d3, dap3, rfl, _, _⟩ := hsf2.slice
 refine en hE Tryz.func74 rfl rfl Tryz.ntmps74 rfl (by decide +kernel) (rs := [.tmp 4, .tmp 5]) rfl ?_
 simp only [push_cast, seval, hE.P, zz, hW.nb, hW.nb0]
 obtain ⟨CV, hCV⟩ : ∃ CV : AObj, CV = .cells [.int .i64 V.k, .int .i64 V.n, .string V.s, .slice a2 V.l.length cap2, .slice a3 V.f.length cap3] 25 true := ⟨_, rfl⟩
 obtain ⟨CW, hCW⟩ : ∃ CW : AObj, CW = .cells [.int .i64 W.k, .int .i64 W.n, .string W.s, .slice d2 W.l.length dap2, .slice d3 W.f.length dap3] 25 true := ⟨_, rfl⟩
 rw [← hCV, ← hCW]
 have k0 : Keep h ((h.push CV).push CW) := ((Keep.refl h).push hW).push (hW.push _)
 have w0 : WF E ((h.push CV).push CW) := (hW.push _).push _
 have ga : ((h.push CV).push CW).get h.next = some CV := by rw [get_push, if_neg (by simp), get_push, if_pos rfl]
 have gb : ((h.push CV).push CW).get (h.next + 1) = some CW := by rw [get_push, if_pos (by simp)]
 generalize (h.push CV).push CW = H at *
 rw [hCV] at ga
 rw [hCW] at gb
 have nb0 : (h.next < E.base) = False := hW.nb0
 have nb1 : (h.next + 1 < E.base) = False := hW.nb 1
 refine wdraw_pairs [(2, 1)] (by rw [hE.P]; decide +kernel) (by rw [hE.P]; decide +kernel) (by rw [hE.P]; decide +kernel) ?_
 simp only [push_cast, seval, hE.P, zz, ga, gb, nb0, nb1]
 refine (good_at hE hz w0 (hG.keep k0) hVC).mono ?_
 rintro v h1 ⟨rfl, k1, w1⟩
 have ga1 := k1.get _ _ ga
 have gb1 := k1.get _ _ gb
 rw [hg1]
 simp only [push_cast, seval, hE.P, zz, ga1, gb1, nb0, nb1]
 refine (good_at hE hz2 w1 ((hG2.keep k0).keep k1) hWC).mono ?_
 rintro v h2 ⟨rfl, k2, w2⟩
 have ga2 := k2.get _ _ ga1
 have gb2 := k2.get _ _ gb1
 rw [hg2]
 have b2 : abs1 Tryz.prog 199 2 [(0, .int .i64 0), (1, .int .i64 0)] = some (fun b => .slice (some ⟨b, 0, none⟩) 2 2, .cells [.int .i64 0, .int .i64 0] 30 true) := by rw [← hE.P]; exact buildSlice_two (el199 hE.P) rfl rfl
 simp only [push_cast, seval, hE.P, zz, b2]
 have k3' := (Keep.refl h2).push (o := .cells [.int .i64 0, .int .i64 0] 30 true) w2
 have w3 := w2.push (.cells [.int .i64 0, .int .i64 0] 30 true)
 refine (eor_at hE w3 (by rw [get_push, if_pos rfl])).mono ?_
 rintro v h3 ⟨rfl, rfl⟩
 have ga3 := k3'.get _ _ ga2
 have gb3 := k3'.get _ _ gb2
 have k3 := ((k0.trans k1).trans k2).trans k3'
 generalize h2.push (.cells [.int .i64 0, .int .i64 0] 30 true) = H3 at *
 simp only [push_cast, seval, hE.P, zz, ga, gb, ga1, gb1, ga3, gb3, nb0, nb1]
 refine (compare_at hE V.sz V (Nat.le_refl _) W w3 (hG.keep k3) (hG2.keep k3) hVC hWC).mono ?_
 rintro v h5 ⟨rfl, k5, w5⟩
 simp only [push_cast, seval, hE.P, zz]
 exact ⟨k3.trans k5, w5⟩
end Go.Proofs.YthfopcdammlmfaaGreatDoor
