/- How much room a good value takes; parts of good values. -/
/- Merged by a program of ours: Y14 Y15 Y16. -/
import Derived.Test.YthfopcdammlmfaaGreatDoorJ5
import Derived.Test.YthfopcdammlmfaaGreatDoorB3
import Derived.Test.YthfopcdammlmfaaGreatDoorA9
import Derived.Test.YthfopcdammlmfaaGreatDoorD7
set_option maxRecDepth 10000
set_option linter.all false
set_option linter.unusedSimpArgs false
set_option linter.unusedVariables false
/- The reference's Find, get, Get. -/
namespace Go.Tm
def findW (V : Vl) (nm : ByteArray) : Option Vl := if V.k = 6 then (V.f.find? fun x => x.1.data.toList == nm.data.toList).map (·.2) else none
def stepW (V : Vl) (y : ByteArray) : Option Vl := if 0 ≤ placeB (strB y) then (if V.k = 5 then V.l[(placeB (strB y)).toNat]? else none) else findW V y
def getW (V : Vl) : List ByteArray → Option Vl
  | [] => some V
  | y :: ys => (stepW V y).bind fun X => getW X ys
theorem find_drop {l : List (ByteArray × Vl)} {p : ByteArray × Vl → Bool} {i : Nat} (h : i < l.length) : (l.drop i).find? p = if p l[i] = true then some l[i] else (l.drop (i + 1)).find? p := by
  rw [List.drop_eq_getElem_cons h, List.find?_cons]
  split <;> simp_all
end Go.Tm
namespace Go.Proofs.YthfopcdammlmfaaGreatDoor
open Go.Tm
def zeroC : List Value := [.int .i64 0, .int .i64 0, .string .empty, .slice none 0 0, .slice none 0 0]
def Looked (E : Env) (G : Mem) (r : Option Vl) (v : Value) : Prop := ∃ (c : List Value) (b : Bool), v = .tuple #[.agg c.toArray, .bool b] ∧ match r with
  | some X => b = true ∧ Rep E G X c
  | none => b = false ∧ c = zeroC
variable {E : Env} (hE : EOk E)
include hE
theorem findR_at {V : Vl} {nm : ByteArray} {G : Mem} {h : Heap} (hW : WF E h) (hG : Frz E G h) {c : List Value} (hV : Rep E G V c) : CallsTo E 134 [.agg c.toArray, .string nm] h fun v h' => Looked E G (findW V nm) v ∧ Keep h h' ∧ WF E h' := by
  obtain ⟨sl, sf, cl, cf, rfl, hsl, hsf, hl, hf, hb1, hb2, hb3⟩ := hV.cells
  obtain ⟨a2, cap2, rfl, _, _⟩ := hsl.slice
  obtain ⟨a3, cap3, rfl, _, _⟩ := hsf.slice
  refine en hE Tryz.func134 rfl rfl Tryz.ntmps134 rfl (by decide +kernel) (rs := [.cell 4 25, .tmp 5]) rfl ?_
  simp only [push_cast, seval, hE.P, zz, hW.nb, hW.nb0]
  obtain ⟨CV, hCV⟩ : ∃ CV : AObj, CV = .cells [.int .i64 V.k, .int .i64 V.n, .string V.s, .slice a2 V.l.length cap2, .slice a3 V.f.length cap3] 25 true := ⟨_, rfl⟩
  obtain ⟨CZ, hCZ⟩ : ∃ CZ : AObj, CZ = .cells [.int .i64 0, .int .i64 0, .string .empty, .slice none 0 0, .slice none 0 0] 25 true := ⟨_, rfl⟩
  rw [← hCV, ← hCZ]
  have k0 : Keep h ((h.push CV).push CZ) := ((Keep.refl h).push hW).push (hW.push _)
  have w0 : WF E ((h.push CV).push CZ) := (hW.push _).push _
  have ga : ((h.push CV).push CZ).get h.next = some CV := by rw [get_push, if_neg (by simp), get_push, if_pos rfl]
  have gb : ((h.push CV).push CZ).get (h.next + 1) = some CZ := by rw [get_push, if_pos (by simp)]
  have nx : ((h.push CV).push CZ).next = h.next + 2 := by simp
  generalize (h.push CV).push CZ = H at *
  rw [hCV] at ga
  rw [hCZ] at gb
  have nb0 : (h.next < E.base) = False := hW.nb0
  have nb1 : (h.next + 1 < E.base) = False := hW.nb 1
  refine kif_split (fun hb => ?_) (fun hb => ?_)
  · have hk : V.k ≠ 6 := by simpa using hb
    have hr : findW V nm = none := by unfold findW; rw [if_neg hk]
    simp only [push_cast, seval, hE.P, zz, gb, nb1]
    rw [hr]
    exact ⟨⟨_, false, rfl, rfl, rfl⟩, Keep.putNew k0 hW (by omega), w0.put gb⟩
  have hk6 : V.k = 6 := by simpa using hb
  have hr : findW V nm = (V.f.find? fun x => x.1.data.toList == nm.data.toList).map (·.2) := by unfold findW; rw [if_pos hk6]
  simp only [push_cast, seval, hE.P, zz]
  refine wpc_loop (fun m tm h' => ∃ i : Nat, m = V.f.length - i ∧ i ≤ V.f.length ∧ fget tm 6 = .int .i64 i ∧ fget tm 2 = .pointer (some ⟨h.next, 0, none⟩) ∧ fget tm 4 = .pointer (some ⟨h.next + 1, 0, none⟩) ∧ fget tm 1 = .string nm ∧ (V.f.find? fun x => x.1.data.toList == nm.data.toList) = ((V.f.drop i).find? fun x => x.1.data.toList == nm.data.toList) ∧ h' = H) V.f.length ?_ ?_
  · exact ⟨0, by omega, by omega, by simp only [push_cast, seval, hE.P, zz], by simp only [push_cast, seval, hE.P, zz], by simp only [push_cast, seval, hE.P, zz], by simp only [push_cast, seval, hE.P, zz], rfl, rfl⟩
  · rintro m tm h1 ⟨i, rfl, hi, f6, f2, f4, f1, hfd, rfl⟩
    simp only [push_cast, seval, hE.P, zz, f6, f2, ga, nb0]
    refine kif_split (fun hb2 => ?_) (fun hb2 => ?_)
    · have hlt : i < V.f.length := by simpa using hb2
      obtain ⟨a, c, e1', hsp, hac⟩ := hsf.elem (hG.keep k0) hlt
      injection e1' with e1' e2' e3'; subst e1'; subst e3'
      obtain ⟨c1, hc1, hrc, hnm⟩ := hf.at i V.f[i].1 V.f[i].2 (List.getElem?_eq_getElem hlt)
      rw [hc1] at hac
      have p1 := acells_part hac 0 1 (by omega)
      have p2 := acells_part hac 1 5 (by omega)
      have hcl1 : c1.length = 5 := by obtain ⟨_, _, _, _, rfl, _⟩ := hrc.cells; rfl
      simp only [Nat.add_zero, List.drop_zero, List.take_succ_cons, List.take_zero] at p1
      simp only [List.drop_succ_cons, List.drop_zero] at p2
      rw [List.take_of_length_le (by omega)] at p2
      have hrcC := hrc
      obtain ⟨sl', sf', cl', cf', hce, hsl', hsf', _⟩ := hrc.cells
      rw [hce] at p2 hrcC
      obtain ⟨a4, cap4, rfl, _, _⟩ := hsl'.slice
      obtain ⟨a5, cap5, rfl, _, _⟩ := hsf'.slice
      obtain ⟨i1, hi1⟩ : ∃ i1, i1 = i + 1 := ⟨_, rfl⟩
      have e1 : (i : Int) + 1 = i1 := by omega
      have e2 : IntKind.i64.wrap (i1 : Int) = i1 := wrN (by omega)
      rw [find_drop hlt, ← hi1] at hfd
      simp only [push_cast, seval, hE.P, zz, f6, f2, ga, nb0]
      rw [ia23 hsp (by omega) (by omega), kpure_some]
      simp only [push_cast, seval, hE.P, zz, f6, f2, f1, ga, nb0, ↓p1]
      refine kif_split (fun hb3 => ?_) (fun hb3 => ?_)
      · rw [if_pos hb3] at hfd
        rw [hr, hfd]
        simp only [push_cast, seval, hE.P, zz, f6, f2, f4, ga, nb0]
        rw [ia23 hsp (by omega) (by omega), kpure_some]
        simp only [push_cast, seval, hE.P, zz, f6, f2, f4, ga, gb, nb0, nb1, ↓p2]
        exact ⟨⟨_, true, rfl, rfl, hrcC⟩, Keep.putNew k0 hW (by omega), w0.put gb⟩
      · rw [if_neg (by rw [hb3]; simp)] at hfd
        simp only [push_cast, seval, hE.P, zz, f6, f2, f4, f1, e1, e2]
        exact ⟨V.f.length - i1, by omega, i1, rfl, by omega, rfl, hfd⟩
    · have hge : i = V.f.length := by have : ¬ i < V.f.length := by simpa using hb2
                                      omega
      rw [hge, List.drop_length] at hfd
      rw [hr, hfd]
      simp only [push_cast, seval, hE.P, zz, f4, gb, nb1]
      exact ⟨⟨_, false, rfl, rfl, rfl⟩, Keep.putNew k0 hW (by omega), w0.put gb⟩
end Go.Proofs.YthfopcdammlmfaaGreatDoor
/- The reference's get, Get. -/
namespace Go.Tm
theorem sc_live {c : Nat → St} {D : List Nat} : ∀ {v : Value}, sc (c 0).h.next v = true → scQ (live c D) v = true := by
  intro v hv
  refine scQ_imp (fun b => decide (b < (c 0).h.next)) (live c D) (fun b hb => ?_) v (by rw [sc_scQ]; exact hv)
  rw [live_at, hb]; rfl
theorem wdraw_three {E : Env} {O : List Oper} {Q : Cont} {tm : Tr Value} {h : Heap} (RS : List (Nat × List Nat)) (FL : List Nat) (AS : List (Nat × List Nat)) (DS DL DN : List (Nat × Nat × List Nat)) (NS : List Nat)
    (h0 : dstat E.P O (masks O []) (spOf E.P O (masks O [])) = false) (h1 : dstat2 E.P O (masks O []) = true)
    (hR : rdList E.P O (masks O []) = RS) (hF : faList E.P O = FL) (hA : aList E.P O (masks O []) = AS) (hD : dList O (masks O []) = DS) (hN : O.zipIdx.map (·.2) = NS) (hDD : (DS.all fun q => DL.any (fun p => p.1 == q.1 && p.2.1 == q.2.1) || DN.contains q) = true)
    (H : wpt E O O [] (fun tr => ((∀ i, i ∈ NS → (sget tr ⟨tm, h⟩ i).h.next ≤ (sget tr ⟨tm, h⟩ (i + 1)).h.next) ∧ (∀ q, q ∈ RS → rdOk E O tr ⟨tm, h⟩ q) ∧ (∀ i, i ∈ FL → faOk O tr ⟨tm, h⟩ i) ∧ (∀ q, q ∈ AS → aOk E O tr ⟨tm, h⟩ q) ∧ (∀ q, q ∈ DL → sc (sget tr ⟨tm, h⟩ 0).h.next (fget (sget tr ⟨tm, h⟩ (q.1 + 1)).tm q.2.1) = true) ∧ (∀ q, q ∈ DN → dOk tr ⟨tm, h⟩ q)) ∧
      Q (sget tr ⟨tm, h⟩ O.length).tm (sget tr ⟨tm, h⟩ O.length).h) tm h) : wdraw E O Q tm h := by
  refine wdraw_two RS FL AS DS NS h0 h1 hR hF hA hD hN (wpt_mono ?_ _ _ _ _ H)
  rintro tr ⟨⟨a1, a2, a3, a4, a5, a6⟩, hq⟩
  refine ⟨⟨a1, a2, a3, a4, fun q hm => ?_⟩, hq⟩
  have := List.all_eq_true.1 hDD q hm
  rw [Bool.or_eq_true] at this
  rcases this with h2 | h2
  · obtain ⟨p, hp, he⟩ := List.any_eq_true.1 h2
    simp only [Bool.and_eq_true, beq_iff_eq] at he
    have := a5 p hp
    rw [he.1, he.2] at this
    exact sc_live this
  · exact a6 q (by simpa using h2)
theorem Sl.scN {E : Env} {G : Mem} {h : Heap} {z n : Nat} {cs : List Value} {a : Option Addr} {c : Nat} (hs : Sl E G z n cs (.slice a n c)) (hG : Frz E G h) (hW : WF E h) {N : Nat} (hN : h.next ≤ N) : Go.Tm.sc N (.slice a n c) = true := by
  obtain ⟨a', c', e, _, _, ⟨_, h3⟩, _⟩ := hs
  injection e with e1 e2 e3
  subst e1
  cases a with
  | none => simp [Go.Tm.sc]
  | some x =>
    simp only [Go.Tm.sc, decide_eq_true_eq]
    rcases h3 x rfl with h4 | ⟨g, h4⟩
    · have := hW.base; omega
    · obtain ⟨e, fx, hg⟩ := hG _ _ h4
      have := (hW.live _ _ hg).2; omega
end Go.Tm
namespace Go.Proofs.YthfopcdammlmfaaGreatDoor
open Go.Tm
theorem Looked.shape {E : Env} {G : Mem} {r : Option Vl} {v : Value} (h : Looked E G r v) : ∃ (k n : Int) (s : ByteArray) (a : Option Addr) (l c : Nat) (a' : Option Addr) (l' c' : Nat) (b : Bool), v = .tuple #[.agg #[.int .i64 k, .int .i64 n, .string s, .slice a l c, .slice a' l' c'], .bool b] := by
  obtain ⟨cc, b, rfl, hm⟩ := h
  cases r with
  | none =>
    obtain ⟨_, rfl⟩ := hm
    exact ⟨0, 0, .empty, none, 0, 0, none, 0, 0, b, rfl⟩
  | some X =>
    obtain ⟨_, hr⟩ := hm
    obtain ⟨sl, sf, cl, cf, rfl, hsl, hsf, _⟩ := hr.cells
    obtain ⟨a2, cap2, rfl, _, _⟩ := hsl.slice
    obtain ⟨a3, cap3, rfl, _, _⟩ := hsf.slice
    exact ⟨_, _, _, _, _, _, _, _, _, b, rfl⟩
theorem Looked.sc {E : Env} {G : Mem} {r : Option Vl} {k n : Int} {s : ByteArray} {a : Option Addr} {l c : Nat} {a' : Option Addr} {l' c' : Nat} {b : Bool} (h : Looked E G r (.tuple #[.agg #[.int .i64 k, .int .i64 n, .string s, .slice a l c, .slice a' l' c'], .bool b])) {hp : Heap} (hG : Frz E G hp) (hW : WF E hp) {N : Nat} (hN : hp.next ≤ N) : Go.Tm.sc N (.slice a l c) = true ∧ Go.Tm.sc N (.slice a' l' c') = true := by
  obtain ⟨cc, b, e, hm⟩ := h
  injection e with e
  have e2 : cc = [.int .i64 k, .int .i64 n, .string s, .slice a l c, .slice a' l' c'] := by
    have := congrArg Array.toList e
    simp at this
    rw [← this.1]
  cases r with
  | none =>
    obtain ⟨_, hz⟩ := hm
    rw [hz] at e2
    simp [zeroC] at e2
    obtain ⟨_, _, _, ⟨rfl, _⟩, rfl, _⟩ := e2
    exact ⟨rfl, rfl⟩
  | some X =>
    obtain ⟨_, hr⟩ := hm
    obtain ⟨sl, sf, cl, cf, hc, hsl, hsf, _⟩ := hr.cells
    rw [e2] at hc
    injection hc with _ hc
    injection hc with _ hc
    injection hc with _ hc
    injection hc with h4 hc
    injection hc with h5 _
    subst h4; subst h5
    obtain ⟨q1, q2, q3, _⟩ := hsl.slice
    obtain ⟨q4, q5, q6, _⟩ := hsf.slice
    injection q3 with p1 p2 p3
    injection q6 with p4 p5 p6
    subst p2; subst p5
    exact ⟨hsl.scN hG hW hN, hsf.scN hG hW hN⟩
theorem looked_none {E : Env} {G : Mem} : Looked E G none (.tuple #[.agg #[.int .i64 0, .int .i64 0, .string .empty, .slice none 0 0, .slice none 0 0], .bool false]) := ⟨zeroC, false, rfl, rfl, rfl⟩
variable {E : Env} (hE : EOk E)
include hE
set_option maxHeartbeats 1000000 in
theorem getR_at : ∀ (ys : List ByteArray) (V : Vl) {G Gs : Mem} {h : Heap}, WF E h → Frz E G h → Frz E Gs h → ∀ {c : List Value}, Rep E G V c → ∀ {sl : Value}, Sl E Gs 1 ys.length (strs ys) sl → (∀ y, y ∈ ys → y.size ≤ 140737488355328) →
    CallsTo E 83 [.agg c.toArray, sl] h fun v h' => Looked E G (getW V ys) v ∧ Keep h h' ∧ WF E h' := by
  intro ys
  induction ys with
  | nil =>
    intro V G Gs h hW hG hGs c hV sl hsy hys
    have hVC := hV
    obtain ⟨sl1, sf, cl, cf, rfl, hsl, hsf, hl, hf, hb1, hb2, hb3⟩ := hV.cells
    obtain ⟨a2, cap2, rfl, _, _⟩ := hsl.slice
    obtain ⟨a3, cap3, rfl, _, _⟩ := hsf.slice
    obtain ⟨a4, cap4, rfl, _, _⟩ := hsy.slice
    refine en hE Tryz.func83 rfl rfl Tryz.ntmps83 rfl (by decide +kernel) (rs := [.cell 4 25, .tmp 5]) rfl ?_
    simp only [push_cast, seval, hE.P, zz, hW.nb, hW.nb0, List.length_nil, Int.natCast_zero]
    have w1 := hW.push (.cells [.int .i64 V.k, .int .i64 V.n, .string V.s, .slice a2 V.l.length cap2, .slice a3 V.f.length cap3] 25 true)
    exact ⟨⟨_, true, rfl, rfl, hVC⟩, Keep.putNew (((Keep.refl h).push hW).push w1) hW (by omega), (w1.push _).put (by rw [get_push, if_pos (by simp)])⟩
  | cons y ys ih =>
    intro V G Gs h hW hG hGs c hV sl hsy hys
    have hyl := hys y (by simp)
    have hVC := hV
    have hsy0 := hsy
    obtain ⟨sl1, sf, cl, cf, rfl, hsl, hsf, hl, hf, hb1, hb2, hb3⟩ := hV.cells
    obtain ⟨a2, cap2, rfl, _, _⟩ := hsl.slice
    obtain ⟨a3, cap3, rfl, _, _⟩ := hsf.slice
    obtain ⟨n, hn⟩ : ∃ n, n = (y :: ys).length := ⟨_, rfl⟩
    have hn1 : n = ys.length + 1 := by rw [hn]; rfl
    rw [← hn] at hsy hsy0
    obtain ⟨a4, c4, rfl, hsp4, hac4⟩ := hsy.elem (i := 0) hGs (by omega)
    have hcap4 : n ≤ c4 := by
      obtain ⟨q1, q2, q3, q4, _⟩ := hsy0
      injection q3 with _ _ q3; omega
    rw [show ((strs (y :: ys)).drop (0 * 1)).take 1 = [.string y] by simp [strs]] at hac4
    obtain ⟨yt, hy1, hy2⟩ := sl_cut (E := E) (P := Tryz.prog) (t := 130) Tryz.underlying130 sz9 hsy0 (lo := some (.int .i64 1)) (hi := none) (l := 1) (h := n) (fun c _ => rfl) (by unfold abnd; simp only; rw [if_pos (by omega)]; rfl) (by omega) (Nat.le_refl _) (fun a c e => by injection e with e; injection e with e; subst e; exact hsp4)
    have hyt : ((strs (y :: ys)).drop 1).take (n - 1) = strs ys := by
      rw [hn1]; simp only [strs, List.map_cons, List.drop_succ_cons, List.drop_zero]
      exact List.take_of_length_le (by simp)
    rw [hyt, show n - 1 = ys.length by omega] at hy2
    have hlz : ((n : Int) == 0) = false := by simp; omega
    have hac4' : ∀ {h' : Heap}, Keep h h' → acells E h' ⟨a4.block, a4.off, none⟩ 1 = some [.string y] := fun {h'} k => by
      obtain ⟨a5, c5, e5, _, hac5⟩ := hsy0.elem (i := 0) (hGs.keep k) (by omega)
      injection e5 with e5; injection e5 with e5; subst e5
      rw [show ((strs (y :: ys)).drop (0 * 1)).take 1 = [.string y] by simp [strs]] at hac5
      simpa using hac5
    refine en hE Tryz.func83 rfl rfl Tryz.ntmps83 rfl (by decide +kernel) (rs := [.cell 4 25, .tmp 5]) rfl ?_
    simp only [push_cast, seval, hE.P, zz, hW.nb, hW.nb0, hlz]
    obtain ⟨CV, hCV⟩ : ∃ CV : AObj, CV = .cells [.int .i64 V.k, .int .i64 V.n, .string V.s, .slice a2 V.l.length cap2, .slice a3 V.f.length cap3] 25 true := ⟨_, rfl⟩
    obtain ⟨CZ, hCZ⟩ : ∃ CZ : AObj, CZ = .cells [.int .i64 0, .int .i64 0, .string .empty, .slice none 0 0, .slice none 0 0] 25 true := ⟨_, rfl⟩
    rw [← hCV, ← hCZ]
    have k0 : Keep h ((h.push CV).push CZ) := ((Keep.refl h).push hW).push (hW.push _)
    have w0 : WF E ((h.push CV).push CZ) := (hW.push _).push _
    have ga : ((h.push CV).push CZ).get h.next = some CV := by rw [get_push, if_neg (by simp), get_push, if_pos rfl]
    have gb : ((h.push CV).push CZ).get (h.next + 1) = some CZ := by rw [get_push, if_pos (by simp)]
    generalize (h.push CV).push CZ = H at *
    rw [hCV] at ga
    rw [hCZ] at gb
    have nb0 : (h.next < E.base) = False := hW.nb0
    have nb1 : (h.next + 1 < E.base) = False := hW.nb 1
    have hgw : getW V (y :: ys) = (stepW V y).bind fun X => getW X ys := rfl
    rw [hgw]
    rw [ia130 hsp4 (by omega) (by omega), kpure_some]
    have hacH := hac4' k0
    simp only [push_cast, seval, hE.P, zz, ↓hacH]
    refine (placeR_at hE hyl).mono ?_
    rintro v h1 ⟨rfl, rfl⟩
    obtain ⟨pl, hpl⟩ : ∃ pl, pl = placeB (strB y) := ⟨_, rfl⟩
    rw [← hpl]
    simp only [push_cast, seval, hE.P, zz]
    refine kif_split (fun hb => ?_) (fun hb => ?_)
    · have hp0 : 0 ≤ pl := by simpa using hb
      have hst : stepW V y = if V.k = 5 then V.l[pl.toNat]? else none := by unfold stepW; rw [← hpl, if_pos hp0]
      by_cases h5 : V.k = 5
      · rw [if_pos h5] at hst
        have e5 : (V.k != 5) = false := by simp [h5]
        by_cases hlt : pl < V.l.length
        · obtain ⟨i, rfl⟩ : ∃ i : Nat, pl = i := ⟨pl.toNat, by omega⟩
          have hlt2 : i < V.l.length := by omega
          have e6 : decide ((i : Int) ≥ V.l.length) = false := by simp; omega
          have hst2 : stepW V y = some V.l[i] := by rw [hst, Int.toNat_natCast, List.getElem?_eq_getElem hlt2]
          obtain ⟨a, c, e1', hsp, hac⟩ := hsl.elem (hG.keep k0) hlt2
          injection e1' with e1' e2' e3'; subst e1'; subst e3'
          have hrc := hl.at i V.l[i] (by simp [hlt2])
          simp only [push_cast, seval, hE.P, zz, e5, e6, ga, nb0]
          refine wdraw_calm (by rw [hE.P]; decide +kernel) ?_
          simp only [push_cast, seval, hE.P, zz, ga, nb0]
          rw [ia22 hsp (by omega) (by omega), kpure_some]
          simp only [push_cast, seval, hE.P, zz, ↓hac, hy1]
          refine (ih V.l[i] w0 (hG.keep k0) (hGs.keep k0) hrc hy2 (fun z hz => hys z (by simp [hz]))).mono ?_
          rintro v h2 ⟨hlk, k2, w2⟩
          obtain ⟨r1, r2, r3, r4, r5, r6, r7, r8, r9, r10, rfl⟩ := hlk.shape
          have gb2 := k2.get _ _ gb
          rw [hst2, Option.bind_some]
          simp only [push_cast, seval, hE.P, zz, gb2, nb1]
          exact ⟨hlk, Keep.putNew (k0.trans k2) hW (by omega), w2.put gb2⟩
        · have e6 : decide (pl ≥ V.l.length) = true := by simp; omega
          have hst2 : stepW V y = none := by rw [hst]; exact List.getElem?_eq_none (by omega)
          simp only [push_cast, seval, hE.P, zz, e5, e6, ga, nb0, gb, nb1]
          rw [hst2, Option.bind_none]
          exact ⟨looked_none, Keep.putNew k0 hW (by omega), w0.put gb⟩
      · rw [if_neg h5] at hst
        have e5 : (V.k != 5) = true := by simp [h5]
        simp only [push_cast, seval, hE.P, zz, e5, ga, nb0, gb, nb1]
        rw [hst, Option.bind_none]
        exact ⟨looked_none, Keep.putNew k0 hW (by omega), w0.put gb⟩
    · have hp0 : ¬ 0 ≤ pl := by simpa using hb
      have hst : stepW V y = findW V y := by unfold stepW; rw [← hpl, if_neg hp0]
      rw [hst]
      simp only [push_cast, seval, hE.P, zz]
      refine wdraw_three [(0, [0]), (3, [0])] [4, 8, 9] [(8, [])] [(0, (41, [0])), (1, (42, [1])), (2, (43, [2, 1])), (3, (44, [3, 1, 2])), (4, (45, [4, 0, 1, 2, 3])), (5, (40, [5, 0, 1, 2, 3, 4])), (6, (46, [6, 0, 1, 2, 3, 4, 5])), (7, (47, [7, 0, 1, 2, 3, 4, 5])), (8, (7, [8])), (10, (8, [10, 0, 1, 2, 3, 4, 5, 6, 7, 8, 9]))]
        [(0, (41, [])), (1, (42, [])), (2, (43, [])), (3, (44, [])), (4, (45, [])), (5, (40, [])), (6, (46, [])), (7, (47, [])), (10, (8, []))] [(8, (7, [8]))] [0, 1, 2, 3, 4, 5, 6, 7, 8, 9, 10]
        (by rw [hE.P]; decide +kernel) (by rw [hE.P]; decide +kernel) (by rw [hE.P]; decide +kernel) (by rw [hE.P]; decide +kernel) (by rw [hE.P]; decide +kernel) (by decide +kernel) rfl (by decide) ?_
      simp only [push_cast, seval, hE.P, zz, ga, nb0]
      rw [ia130 hsp4 (by omega) (by omega), kpure_some]
      simp only [push_cast, seval, hE.P, zz, ↓hacH]
      refine (findR_at hE (V := V) (nm := y) w0 (hG.keep k0) hVC).mono ?_
      rintro v h2 ⟨hlk, k2, w2⟩
      obtain ⟨r1, r2, r3, r4, r5, r6, r7, r8, r9, r10, rfl⟩ := hlk.shape
      have gb2 := k2.get _ _ gb
      have ga2 := k2.get _ _ ga
      have hac2 := hac4' (k0.trans k2)
      have sA2 := hsl.scN (hG.keep k0) w0 (Nat.le_refl _)
      have sA3 := hsf.scN (hG.keep k0) w0 (Nat.le_refl _)
      have sA4 := hsy0.scN (hGs.keep k0) w0 (Nat.le_refl _)
      simp only [sc, decide_eq_true_eq] at sA4
      have sR := hlk.sc (hG.keep k0) w0 (Nat.le_refl _)
      have sR2 := hlk.sc (hG.keep k0) w0 (N := h2.next + 1) (by have := k2.next; omega)
      have nx2 := k2.next
      obtain ⟨sR4, sR7⟩ := sR
      obtain ⟨sR4', sR7'⟩ := sR2
      simp only [push_cast, seval, hE.P, zz, ga, ga2, gb2, nb0, nb1, ↓hacH, ↓hac2, w2.nb, w2.nb0, faOk, aOk, dOk, rdOk, sc, scA, scL, sA2, sA3, sA4, sR4, sR7, sR4', sR7', Call.operands, Op.operands, false_implies, implies_true, Array.toList_append, scO_cons, scO_nil, scQ, live_at, inSpan, List.any_cons, List.any_nil, Nat.lt_add_one]
      refine ⟨⟨nx2, Nat.le_succ _⟩, ?_⟩
      have k3' := (Keep.refl h2).push (o := .cells [.int .i64 r1, .int .i64 r2, .string r3, .slice r4 r5 r6, .slice r7 r8 r9] 25 true) w2
      have w3 := w2.push (.cells [.int .i64 r1, .int .i64 r2, .string r3, .slice r4 r5 r6, .slice r7 r8 r9] 25 true)
      have gc3 : (h2.push (.cells [.int .i64 r1, .int .i64 r2, .string r3, .slice r4 r5 r6, .slice r7 r8 r9] 25 true)).get h2.next = some (.cells [.int .i64 r1, .int .i64 r2, .string r3, .slice r4 r5 r6, .slice r7 r8 r9] 25 true) := by rw [get_push, if_pos rfl]
      have gb3 := k3'.get _ _ gb2
      have nb2 := w2.nb0
      generalize h2.push (.cells [.int .i64 r1, .int .i64 r2, .string r3, .slice r4 r5 r6, .slice r7 r8 r9] 25 true) = H3 at *
      have k03 := (k0.trans k2).trans k3'
      cases hf2 : findW V y with
      | none =>
        rw [hf2] at hlk
        obtain ⟨cc, b, e, rfl, rfl⟩ := hlk
        have er : r10 = false := by
          injection e with e
          have := congrArg Array.toList e
          simp at this; exact this.2
        subst er
        simp only [push_cast, seval, hE.P, zz, gb3, nb1]
        exact ⟨looked_none, Keep.putNew k03 hW (by omega), w3.put gb3⟩
      | some X =>
        rw [hf2] at hlk
        obtain ⟨cc, b, e, rfl, hrX⟩ := hlk
        injection e with e
        have e2 := congrArg Array.toList e
        simp at e2
        obtain ⟨e3, er⟩ := e2
        subst er
        rw [← e3] at hrX
        have hst' : yt = yt := rfl
        simp only [push_cast, seval, hE.P, zz]
        refine wdraw_calm (by rw [hE.P]; decide +kernel) ?_
        simp only [push_cast, seval, hE.P, zz, gc3, nb2, hy1]
        refine (ih X w3 (hG.keep k03) (hGs.keep k03) hrX hy2 (fun z hz => hys z (by simp [hz]))).mono ?_
        rintro v h4 ⟨hlk, k4, w4⟩
        obtain ⟨u1, u2, u3, u4, u5, u6, u7, u8, u9, u10, rfl⟩ := hlk.shape
        have gb4 := k4.get _ _ gb3
        simp only [push_cast, seval, hE.P, zz, gb4, nb1]
        exact ⟨hlk, Keep.putNew (k03.trans k4) hW (by omega), w4.put gb4⟩
theorem GetR_at {p : ByteArray} (hp : p.size ≤ 140737488355328) {V : Vl} {G : Mem} {h : Heap} (hW : WF E h) (hG : Frz E G h) {c : List Value} (hV : Rep E G V c) :
    CallsTo E 29 [.agg c.toArray, .string p] h fun v h' => (∃ r, Looked E G r v ∧ (stepOk p = true → r = stepW V p)) ∧ Keep h h' ∧ WF E h' := by
  have hVC := hV
  obtain ⟨sl1, sf, cl, cf, rfl, hsl, hsf, hl, hf, hb1, hb2, hb3⟩ := hV.cells
  obtain ⟨a2, cap2, rfl, _, _⟩ := hsl.slice
  obtain ⟨a3, cap3, rfl, _, _⟩ := hsf.slice
  refine en hE Tryz.func29 rfl rfl Tryz.ntmps29 rfl (by decide +kernel) (rs := [.cell 4 25, .tmp 5]) rfl ?_
  simp only [push_cast, seval, hE.P, zz, hW.nb, hW.nb0]
  obtain ⟨CV, hCV⟩ : ∃ CV : AObj, CV = .cells [.int .i64 V.k, .int .i64 V.n, .string V.s, .slice a2 V.l.length cap2, .slice a3 V.f.length cap3] 25 true := ⟨_, rfl⟩
  obtain ⟨CZ, hCZ⟩ : ∃ CZ : AObj, CZ = .cells [.int .i64 0, .int .i64 0, .string .empty, .slice none 0 0, .slice none 0 0] 25 true := ⟨_, rfl⟩
  rw [← hCV, ← hCZ]
  have k0 : Keep h ((h.push CV).push CZ) := ((Keep.refl h).push hW).push (hW.push _)
  have w0 : WF E ((h.push CV).push CZ) := (hW.push _).push _
  have ga : ((h.push CV).push CZ).get h.next = some CV := by rw [get_push, if_neg (by simp), get_push, if_pos rfl]
  have gb : ((h.push CV).push CZ).get (h.next + 1) = some CZ := by rw [get_push, if_pos (by simp)]
  generalize (h.push CV).push CZ = H at *
  rw [hCV] at ga
  rw [hCZ] at gb
  have nb0 : (h.next < E.base) = False := hW.nb0
  have nb1 : (h.next + 1 < E.base) = False := hW.nb 1
  refine (stepsR_at hE w0 hp).mono ?_
  rintro v h1 ⟨ys, sl, b, rfl, hown, hys, hy8, hok, k1', w1⟩
  obtain ⟨va, vk, rfl, _⟩ := Own.slice hown
  have ga1 := k1'.get _ _ ga
  have gb1 := k1'.get _ _ gb
  have k1 := k0.trans k1'
  obtain ⟨Gs, hsy, hfs, _⟩ := own_sl w1 hown
  cases b with
  | false =>
    simp only [push_cast, seval, hE.P, zz, gb1, nb1]
    exact ⟨⟨none, looked_none, fun hh => by have := (hok hh).1; cases this⟩, Keep.putNew k1 hW (by omega), w1.put gb1⟩
  | true =>
    simp only [push_cast, seval, hE.P, zz, ga1, nb0]
    refine (getR_at hE ys V w1 (hG.keep k1) hfs hVC hsy (fun y hy => by have := hys y hy; omega)).mono ?_
    rintro v h4 ⟨hlk, k4, w4⟩
    obtain ⟨u1, u2, u3, u4, u5, u6, u7, u8, u9, u10, rfl⟩ := hlk.shape
    have gb4 := k4.get _ _ gb1
    simp only [push_cast, seval, hE.P, zz, gb4, nb1]
    refine ⟨⟨_, hlk, fun hh => ?_⟩, Keep.putNew (k1.trans k4) hW (by omega), w4.put gb4⟩
    rw [(hok hh).2]
    show (stepW V p).bind (fun X => some X) = _
    cases stepW V p <;> rfl
end Go.Proofs.YthfopcdammlmfaaGreatDoor
namespace Go.Proofs.YthfopcdammlmfaaGreatDoor
open Go.Tm
theorem room_le : ∀ (n : Nat) (V : Vl), V.sz ≤ n → allV formedV V = true → wordsV V + 1 ≤ 4 * sizeV V ∧ objsV V ≤ sizeV V := by
  intro n
  induction n with
  | zero => intro V hn; have := sz_eq V; omega
  | succ n ih =>
    intro V hn hF
    rw [allV_eq, Bool.and_eq_true, List.all_eq_true] at hF
    obtain ⟨fl, ff, k1, k6⟩ := formed_l hF.1
    rw [wordsV_eq, objsV_eq, sizeV_eq]
    unfold headV baseW
    by_cases e5 : V.k = 5
    · have hp : V.parts = V.l := by simp [Vl.parts, e5]
      have hd := digitsN_pos V.l.length
      have ih' := fun x (hx : x ∈ V.l) => ih x (by have := l_sz hx; omega) (hF.2 x (by rw [hp]; exact hx))
      have a1 : (V.l.map fun x => 1 + wordsV x).sum ≤ (V.l.map fun x => 4 * sizeV x).sum := sum_mono fun x hx => by have := ih' x hx; omega
      have a2 : (V.l.map fun x => objsV x).sum ≤ (V.l.map sizeV).sum := sum_mono fun x hx => (ih' x hx).2
      have a3 : (V.l.map fun x => 4 * sizeV x).sum = 4 * (V.l.map sizeV).sum := by
        generalize V.l = l
        induction l with
        | nil => simp
        | cons x l ih => simp only [List.map_cons, List.sum_cons, ih]; omega
      rw [hp, ff (by omega)]
      simp [e5]
      omega
    · rw [fl e5]
      by_cases e6 : V.k = 6
      · have hp : V.parts = V.f.map (·.2) := by simp [Vl.parts, e6]
        have hd := digitsN_pos V.f.length
        have ih' := fun x (hx : x ∈ V.f) => ih x.2 (by have := f_sz hx; omega) (hF.2 x.2 (by rw [hp]; exact List.mem_map.2 ⟨x, hx, rfl⟩))
        have a1 : (V.f.map fun x => 3 + textW x.1 + wordsV x.2).sum ≤ (V.f.map fun x => 4 * (digitsN x.1.size + (x.1.size : Int)) + 4 * sizeV x.2).sum := sum_mono fun x hx => by
          have := ih' x hx; have := digitsN_pos x.1.size; unfold textW; omega
        have a2 : (V.f.map fun x => 1 + objsV x.2).sum ≤ (V.f.map fun x => (digitsN x.1.size + (x.1.size : Int)) + sizeV x.2).sum := sum_mono fun x hx => by
          have := (ih' x hx).2; have := digitsN_pos x.1.size; omega
        have a3 : (V.f.map fun x => 4 * (digitsN x.1.size + (x.1.size : Int)) + 4 * sizeV x.2).sum = 4 * ((V.f.map fun x => digitsN x.1.size + (x.1.size : Int)).sum + (V.f.map fun x => sizeV x.2).sum) := by
          generalize V.f = l
          induction l with
          | nil => simp
          | cons x l ih => simp only [List.map_cons, List.sum_cons, ih]; omega
        have a4 : (V.f.map fun x => (digitsN x.1.size + (x.1.size : Int)) + sizeV x.2).sum = (V.f.map fun x => digitsN x.1.size + (x.1.size : Int)).sum + (V.f.map fun x => sizeV x.2).sum := by
          generalize V.f = l
          induction l with
          | nil => simp
          | cons x l ih => simp only [List.map_cons, List.sum_cons, ih]; omega
        have a5 : ((V.f.map fun x => x.2).map sizeV).sum = (V.f.map fun x => sizeV x.2).sum := by rw [List.map_map]; rfl
        rw [hp, a5]
        simp [e6]
        omega
      · have hp : V.parts = [] := by simp [Vl.parts, e5, e6]
        rw [hp, ff e6]
        have h3 := digitsN_pos (turnedN V.n)
        have h4 := digitsN_pos V.s.size
        simp [e5, e6]
        by_cases e2 : V.k = 2
        · simp [e2]
        · by_cases e3 : V.k = 3
          · simp [e3]; omega
          · by_cases e4 : V.k = 4
            · simp [e4]; unfold textW; omega
            · simp [e2, e3, e4]
theorem good_room {V : Vl} (h : goodV V = 0) (b : Nat) : allO (obs b V) ≤ 8192 ∧ (obs b V).length ≤ 2048 := by
  obtain ⟨p1, _, _, _, p5⟩ := good_parts h
  obtain ⟨q1, q2⟩ := room_le V.sz V (Nat.le_refl _) p1
  obtain ⟨w1, w2⟩ := obs_words V.sz V (Nat.le_refl _) p1 b
  omega
end Go.Proofs.YthfopcdammlmfaaGreatDoor
