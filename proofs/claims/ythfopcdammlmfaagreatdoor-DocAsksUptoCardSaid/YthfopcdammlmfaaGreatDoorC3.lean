/- THE HEAP AS A LIST OF OBJECTS: making and setting. -/
/- Merged by a program of ours: H6 H7 H8. -/
import Derived.Test.YthfopcdammlmfaaGreatDoorC2
set_option maxRecDepth 10000
set_option linter.all false
set_option linter.unusedSimpArgs false
set_option linter.unusedVariables false
/- THE HEAP AS A LIST OF OBJECTS: the walks. -/
namespace Go.Proofs.YthfopcdammlmfaaGreatDoor
open Go.Tm
def obj (O : List Ob) (x : Nat) : Option Ob := if 4294967297 ≤ x then O[x - 4294967297]? else none
theorem objOf_some {O : List Ob} {x : Nat} {o : Ob} (h : obj O x = some o) : objOf O x = some (x - 4294967297) ∧ O[x - 4294967297]? = some o ∧ x < 4294967297 + O.length ∧ 4294967297 ≤ x := by
  unfold obj at h
  split at h
  · have := (List.getElem?_eq_some_iff.mp h).1
    refine ⟨?_, h, by omega, by omega⟩
    unfold objOf; rw [if_pos (by omega)]
  · cases h
theorem objOf_none {O : List Ob} {x : Nat} (h : obj O x = none) : objOf O x = none := by
  unfold obj at h
  unfold objOf
  split at h
  · have := List.getElem?_eq_none_iff.mp h
    rw [if_neg (by omega)]
  · rw [if_neg (by omega)]
variable {E : Env} (hE : EOk E)
include hE
section
variable {h : Heap} {L : HL} {S : HS} {O : List Ob} (H : IsH E h L S) (w : Wf S O) (hW : WF E h)
include H w hW
theorem find_none {x : Nat} (hx : x < 18446744073709551616) (ho : obj O x = none) : CallsTo E 55 [.pointer (some ⟨L.ph, 0, none⟩), .int .u64 x] h fun v h' =>
    v = .tuple #[.int .i64 0, .agg #[.int .i64 0, .int .i64 0, .int .i64 0, .bool false, .int .i64 0], .int .i64 6] ∧ Keep h h' ∧ WF E h' := by
  refine en hE Tryz.func55 rfl rfl Tryz.ntmps55 rfl (by decide +kernel) (rs := [.tmp 4, .cell 5 103, .tmp 6]) rfl ?_
  have k1 := (Keep.refl h).push (o := .cells [.int .i64 0, .int .i64 0, .int .i64 0, .bool false, .int .i64 0] 103 true) hW
  have w1 := hW.push (.cells [.int .i64 0, .int .i64 0, .int .i64 0, .bool false, .int .i64 0] 103 true)
  have H1 := H.keep k1
  simp only [push_cast, seval, hE.P, zz, ↓H1.lT, hW.nb, hW.nb0]
  refine (tat_at hE H1 hx).mono ?_
  rintro v h1 ⟨rfl, rfl⟩
  rw [w.slot H.ok hx, objOf_none ho]
  simp only [push_cast, seval, hE.P, zz, errOf, hW.nb, hW.nb0]
  exact ⟨k1, w1⟩
theorem find_some {x : Nat} {o : Ob} (hx : x < 18446744073709551616) (ho : obj O x = some o) : CallsTo E 55 [.pointer (some ⟨L.ph, 0, none⟩), .int .u64 x] h fun v h' =>
    v = .tuple #[.int .i64 (posO O (x - 4294967297)), .agg #[.int .i64 o.tag, .int .i64 o.refs, .int .i64 o.ws.length, .bool false, .int .i64 (x - 4294967297 : Nat)], .int .i64 0] ∧ Keep h h' ∧ WF E h' := by
  obtain ⟨hi, hi2, _, _⟩ := objOf_some ho
  obtain ⟨z, hz⟩ : ∃ z, z = x - 4294967297 := ⟨_, rfl⟩
  rw [← hz] at hi hi2 ⊢
  refine en hE Tryz.func55 rfl rfl Tryz.ntmps55 rfl (by decide +kernel) (rs := [.tmp 4, .cell 5 103, .tmp 6]) rfl ?_
  have k1 := (Keep.refl h).push (o := .cells [.int .i64 0, .int .i64 0, .int .i64 0, .bool false, .int .i64 0] 103 true) hW
  have w1 := hW.push (.cells [.int .i64 0, .int .i64 0, .int .i64 0, .bool false, .int .i64 0] 103 true)
  have H1 := H.keep k1
  have hat := w.at_ _ _ hi2
  have hroom := w.room H.ok hi2
  have htop := H.ok.top
  have hWm := H.ok.W
  have hA := w.isAt_ H.ok hi2
  have hH := w.headAt_ H.ok hi2
  simp only [push_cast, seval, hE.P, zz, ↓H1.lT, hW.nb, hW.nb0]
  refine (tat_at hE H1 hx).mono ?_
  rintro v h1 ⟨rfl, rfl⟩
  rw [w.slot H.ok hx, hi]
  simp only [hat]
  simp only [push_cast, seval, hE.P, zz, errOf, ↓H1.lA]
  refine (ahead_at hE H1 w1 (a := posO O z) (by omega)).mono ?_
  rintro v h2 ⟨rfl, k2, w2⟩
  rw [hA, hH]
  have g2 := k2.get h.next _ (by simp only [get_push, if_true]; rfl)
  have k2' := (k1.trans k2).push (o := .cells [.int .i64 o.tag, .int .i64 o.refs, .int .i64 o.ws.length, .bool false, .int .i64 z] 103 true) w2
  have w2' := w2.push (.cells [.int .i64 o.tag, .int .i64 o.refs, .int .i64 o.ws.length, .bool false, .int .i64 z] 103 true)
  have g3 := (show Keep h2 _ from (Keep.refl h2).push (o := .cells [.int .i64 o.tag, .int .i64 o.refs, .int .i64 o.ws.length, .bool false, .int .i64 z] 103 true) w2).get h.next _ g2
  have hne : ¬ h2.next = h.next := by have := (w2.live _ _ g2).2; omega
  simp only [push_cast, seval, hE.P, zz, hW.nb, hW.nb0, w2.nb, w2.nb0]
  refine wdraw_pairs [] (by rw [hE.P]; decide +kernel) (by rw [hE.P]; decide +kernel) (by rw [hE.P]; decide +kernel) ?_
  simp only [push_cast, seval, hE.P, zz, hW.nb, hW.nb0, w2.nb, w2.nb0, g2, hne]
  refine ⟨fun p hp => (by cases hp), ?_⟩
  exact ⟨k2'.putNew hW (Nat.le_refl _), w2'.put g3⟩
end
end Go.Proofs.YthfopcdammlmfaaGreatDoor
/- THE HEAP AS A LIST OF OBJECTS: reading and writing. -/
namespace Go.Proofs.YthfopcdammlmfaaGreatDoor
open Go.Tm
def IsO (E : Env) (h : Heap) (L : HL) (W nS : Nat) (R : List Nat) (O : List Ob) : Prop := ∃ S, IsH E h L S ∧ Wf S O ∧ S.W = W ∧ S.nS = nS ∧ S.roots = R
theorem IsO.keep {E : Env} {h h' : Heap} {L : HL} {W nS : Nat} {R : List Nat} {O : List Ob} (H : IsO E h L W nS R O) (k : Keep h h') : IsO E h' L W nS R O := by
  obtain ⟨S, a, b, c⟩ := H
  exact ⟨S, a.keep k, b, c⟩
variable {E : Env} (hE : EOk E)
include hE
section
variable {h : Heap} {L : HL} {S : HS} (H : IsH E h L S) (hW : WF E h)
include H hW
theorem put_at {a i x : Nat} (ha : a ≤ 1048576) (hA : isAt S a = true) (hi : i < (headAt S a).size) (hlt : a + 1 + i < S.W) (hx : x < 18446744073709551616) : CallsTo E 170 [.pointer (some ⟨L.pa, 0, none⟩), .int .i64 a, .int .i64 i, .int .u64 x] h fun v h' =>
    v = .int .i64 0 ∧ IsH E h' L { S with w := updN S.w (a + 1 + i) x } ∧ KeepB L h h' ∧ WF E h' := by
  have hw := H.ok.W
  refine en hE Tryz.func170 rfl rfl Tryz.ntmps170 rfl (by decide +kernel) (rs := [.tmp 8]) rfl ?_
  simp only [push_cast, seval, hE.P, wpc_label, wpc_block]
  refine (word_at hE H hW ha (i := i) (by omega) (by omega)).mono ?_
  rintro v h1 ⟨rfl, hk1, hw1⟩
  have H1 := H.keep hk1
  rw [if_pos ⟨hA, by omega, by omega⟩]
  obtain ⟨p, hp⟩ : ∃ p, p = a + 1 + i := ⟨_, rfl⟩
  have hp2 : (a : Int) + 1 + i = p := by omega
  obtain ⟨h2, e2, H2, k2, w2⟩ := H1.wWord hw1 (i := p) (x := x) (by omega) hx
  rw [hp2, ← hp]
  simp only [push_cast, seval, hE.P, wpc_label, wpc_block, ↓H1.lWords]
  rw [ia50 rfl (by omega) (by omega), kpure_some]
  simp only [push_cast, seval, hE.P, wpc_label, wpc_block, e2]
  exact ⟨H2, (hk1.b L).trans k2, w2⟩
end
section
variable {h : Heap} {L : HL} {W nS : Nat} {R : List Nat} {O : List Ob} (H : IsO E h L W nS R O) (hW : WF E h)
include H hW
def headO : Option Ob → Value
  | some o => .tuple #[.int .i64 o.tag, .int .i64 o.refs, .int .i64 o.ws.length, .int .i64 0]
  | none => .tuple #[.int .i64 0, .int .i64 0, .int .i64 0, .int .i64 6]
theorem head_at {x : Nat} (hx : x < 18446744073709551616) : CallsTo E 62 [.pointer (some ⟨L.ph, 0, none⟩), .int .u64 x] h fun v h' =>
    v = headO (obj O x) ∧ Keep h h' ∧ WF E h' := by
  obtain ⟨S, H, w, rfl, rfl, rfl⟩ := H
  refine en hE Tryz.func62 rfl rfl Tryz.ntmps62 rfl (by decide +kernel) (rs := [.tmp 4, .tmp 5, .tmp 6, .tmp 7]) rfl ?_
  simp only [push_cast, seval, hE.P, zz]
  cases ho : obj O x with
  | none =>
    refine (find_none hE H w hW hx ho).mono ?_
    rintro v h1 ⟨rfl, k1, w1⟩
    have k2 := k1.push (o := .cells [.int .i64 0, .int .i64 0, .int .i64 0, .bool false, .int .i64 0] 103 true) w1
    have w2 := w1.push (.cells [.int .i64 0, .int .i64 0, .int .i64 0, .bool false, .int .i64 0] 103 true)
    simp only [push_cast, seval, hE.P, zz, w1.nb, w1.nb0]
    refine wdraw_calm (by rw [hE.P]; decide +kernel) ?_
    simp only [push_cast, seval, hE.P, zz, w1.nb, w1.nb0]
    exact ⟨rfl, k2, w2⟩
  | some o =>
    refine (find_some hE H w hW hx ho).mono ?_
    rintro v h1 ⟨rfl, k1, w1⟩
    obtain ⟨z, hz⟩ : ∃ z, z = x - 4294967297 := ⟨_, rfl⟩
    rw [← hz]
    have k2 := k1.push (o := .cells [.int .i64 o.tag, .int .i64 o.refs, .int .i64 o.ws.length, .bool false, .int .i64 z] 103 true) w1
    have w2 := w1.push (.cells [.int .i64 o.tag, .int .i64 o.refs, .int .i64 o.ws.length, .bool false, .int .i64 z] 103 true)
    simp only [push_cast, seval, hE.P, zz, w1.nb, w1.nb0]
    refine wdraw_calm (by rw [hE.P]; decide +kernel) ?_
    simp only [push_cast, seval, hE.P, zz, w1.nb, w1.nb0]
    exact ⟨rfl, k2, w2⟩
def refO (i : Int) : Option Ob → Value
  | some o => if 0 ≤ i ∧ i < o.refs then .tuple #[.int .u64 (o.ws.getD i.toNat 0 : Nat), .int .i64 0] else .tuple #[.int .u64 0, .int .i64 1]
  | none => .tuple #[.int .u64 0, .int .i64 6]
omit hE H hW in
theorem refO_in {o : Ob} {n : Nat} (h : n < o.refs) (h2 : n < o.ws.length) : refO (n : Int) (some o) = .tuple #[.int .u64 (o.ws[n] : Nat), .int .i64 0] := by
  unfold refO; simp only
  rw [if_pos ⟨by omega, by omega⟩]; simp [h2]
omit hE H hW in
theorem refO_out {o : Ob} {i : Int} (h : ¬ (0 ≤ i ∧ i < o.refs)) : refO i (some o) = .tuple #[.int .u64 0, .int .i64 1] := by
  unfold refO; simp only
  rw [if_neg h]
theorem ref_at {x : Nat} (hx : x < 18446744073709551616) {i : Int} (hi1 : -9223372036854775808 ≤ i) (hi2 : i ≤ 9223372036854775807) : CallsTo E 63 [.pointer (some ⟨L.ph, 0, none⟩), .int .u64 x, .int .i64 i] h fun v h' =>
    v = refO i (obj O x) ∧ Keep h h' ∧ WF E h' := by
  obtain ⟨S, H, w, rfl, rfl, rfl⟩ := H
  refine en hE Tryz.func63 rfl rfl Tryz.ntmps63 rfl (by decide +kernel) (rs := [.tmp 6, .tmp 7]) rfl ?_
  simp only [push_cast, seval, hE.P, zz]
  cases ho : obj O x with
  | none =>
    refine (find_none hE H w hW hx ho).mono ?_
    rintro v h1 ⟨rfl, k1, w1⟩
    have k2 := k1.push (o := .cells [.int .i64 0, .int .i64 0, .int .i64 0, .bool false, .int .i64 0] 103 true) w1
    have w2 := w1.push (.cells [.int .i64 0, .int .i64 0, .int .i64 0, .bool false, .int .i64 0] 103 true)
    simp only [push_cast, seval, hE.P, zz, w1.nb, w1.nb0]
    exact ⟨rfl, k2, w2⟩
  | some o =>
    obtain ⟨_, hi3, _, _⟩ := objOf_some ho
    refine (find_some hE H w hW hx ho).mono ?_
    rintro v h1 ⟨rfl, k1, w1⟩
    obtain ⟨z, hz⟩ : ∃ z, z = x - 4294967297 := ⟨_, rfl⟩
    rw [← hz] at hi3 ⊢
    have k2 := k1.push (o := .cells [.int .i64 o.tag, .int .i64 o.refs, .int .i64 o.ws.length, .bool false, .int .i64 z] 103 true) w1
    have w2 := w1.push (.cells [.int .i64 o.tag, .int .i64 o.refs, .int .i64 o.ws.length, .bool false, .int .i64 z] 103 true)
    have H2 := H.keep k2
    have hroom := w.room H.ok hi3
    have htop := H.ok.top
    have hWm := H.ok.W
    have hA := w.isAt_ H.ok hi3
    have hH := w.headAt_ H.ok hi3
    have hr := w.refs _ _ hi3
    have hsm := w.small H.ok hi3
    simp only [push_cast, seval, hE.P, zz, w1.nb, w1.nb0]
    refine kguard_splitF (fun hb => ?_) (fun hb => ?_)
    · have h0 : 0 ≤ i := by simpa using hb
      simp only [push_cast, seval, hE.P, zz, hb, w1.nb, w1.nb0]
      refine kif_split (fun hb2 => ?_) (fun hb2 => ?_)
      · have h2 : ¬ i < o.refs := by simpa using hb2
        simp only [push_cast, seval, hE.P, zz]
        exact ⟨by rw [refO_out (by omega)], k2, w2⟩
      · have h2 : i < o.refs := by simpa using hb2
        obtain ⟨n, rfl⟩ : ∃ n : Nat, i = n := ⟨i.toNat, by omega⟩
        simp only [push_cast, seval, hE.P, zz, ↓H2.lA]
        refine (get_at hE H2 w2 (a := posO O z) (i := n) (by omega) hA (by rw [hH]; show n < o.ws.length; omega) (by omega)).mono ?_
        rintro v h3 ⟨rfl, k3, w3⟩
        have hn : n < o.ws.length := by omega
        have h2' : n < o.refs := by omega
        have hws := w.ws _ _ hi3 n _ (List.getElem?_eq_getElem hn)
        simp only [push_cast, seval, hE.P, zz]
        refine ⟨?_, k2.trans k3, w3⟩
        rw [refO_in h2' hn, hws]
    · have h0 : ¬ 0 ≤ i := by have : i < 0 := by simpa using hb
                              omega
      simp only [push_cast, seval, hE.P, zz, hb, w1.nb, w1.nb0]
      exact ⟨by rw [refO_out (by omega)], k2, w2⟩
def scalarO (O : List Ob) (z : Nat) (i : Int) : Option Ob → Value
  | some o => if 0 ≤ i ∧ i < o.ws.length - o.refs then .tuple #[.int .i64 (posO O z), .int .i64 ((o.refs : Int) + i), .int .i64 0] else .tuple #[.int .i64 0, .int .i64 0, .int .i64 1]
  | none => .tuple #[.int .i64 0, .int .i64 0, .int .i64 6]
omit hE H hW in
theorem scalarO_in {o : Ob} {z : Nat} {i : Int} (h : 0 ≤ i ∧ i < o.ws.length - o.refs) : scalarO O z i (some o) = .tuple #[.int .i64 (posO O z), .int .i64 ((o.refs : Int) + i), .int .i64 0] := by
  unfold scalarO; simp only
  rw [if_pos h]
omit hE H hW in
theorem scalarO_out {o : Ob} {z : Nat} {i : Int} (h : ¬ (0 ≤ i ∧ i < o.ws.length - o.refs)) : scalarO O z i (some o) = .tuple #[.int .i64 0, .int .i64 0, .int .i64 1] := by
  unfold scalarO; simp only
  rw [if_neg h]
theorem scalar_at {x : Nat} (hx : x < 18446744073709551616) {i : Int} (hi1 : -9223372036854775808 ≤ i) (hi2 : i ≤ 9223372036854775807) : CallsTo E 159 [.pointer (some ⟨L.ph, 0, none⟩), .int .u64 x, .int .i64 i] h fun v h' =>
    v = scalarO O (x - 4294967297) i (obj O x) ∧ Keep h h' ∧ WF E h' := by
  obtain ⟨S, H, w, rfl, rfl, rfl⟩ := H
  refine en hE Tryz.func159 rfl rfl Tryz.ntmps159 rfl (by decide +kernel) (rs := [.tmp 6, .tmp 7, .tmp 8]) rfl ?_
  simp only [push_cast, seval, hE.P, zz]
  cases ho : obj O x with
  | none =>
    refine (find_none hE H w hW hx ho).mono ?_
    rintro v h1 ⟨rfl, k1, w1⟩
    have k2 := k1.push (o := .cells [.int .i64 0, .int .i64 0, .int .i64 0, .bool false, .int .i64 0] 103 true) w1
    have w2 := w1.push (.cells [.int .i64 0, .int .i64 0, .int .i64 0, .bool false, .int .i64 0] 103 true)
    simp only [push_cast, seval, hE.P, zz, w1.nb, w1.nb0]
    exact ⟨rfl, k2, w2⟩
  | some o =>
    obtain ⟨_, hi3, _, _⟩ := objOf_some ho
    refine (find_some hE H w hW hx ho).mono ?_
    rintro v h1 ⟨rfl, k1, w1⟩
    obtain ⟨z, hz⟩ : ∃ z, z = x - 4294967297 := ⟨_, rfl⟩
    rw [← hz] at hi3 ⊢
    have k2 := k1.push (o := .cells [.int .i64 o.tag, .int .i64 o.refs, .int .i64 o.ws.length, .bool false, .int .i64 z] 103 true) w1
    have w2 := w1.push (.cells [.int .i64 o.tag, .int .i64 o.refs, .int .i64 o.ws.length, .bool false, .int .i64 z] 103 true)
    have hr := w.refs _ _ hi3
    have hsm := w.small H.ok hi3
    have hw1 : IntKind.i64.wrap ((o.ws.length : Int) - o.refs) = (o.ws.length : Int) - o.refs := wr64 (by omega) (by omega)
    simp only [push_cast, seval, hE.P, zz, w1.nb, w1.nb0]
    refine kguard_splitF (fun hb => ?_) (fun hb => ?_)
    · have h0 : 0 ≤ i := by simpa using hb
      simp only [push_cast, seval, hE.P, zz, hb, w1.nb, w1.nb0, hw1]
      refine kif_split (fun hb2 => ?_) (fun hb2 => ?_)
      · have h2 : ¬ i < o.ws.length - o.refs := by simpa using hb2
        simp only [push_cast, seval, hE.P, zz]
        exact ⟨by rw [scalarO_out (by omega)], k2, w2⟩
      · have h2 : i < o.ws.length - o.refs := by simpa using hb2
        have hw2 : IntKind.i64.wrap ((o.refs : Int) + i) = (o.refs : Int) + i := wr64 (by omega) (by omega)
        simp only [push_cast, seval, hE.P, zz, w1.nb, w1.nb0, hw2]
        refine wdraw_calm (by rw [hE.P]; decide +kernel) ?_
        simp only [push_cast, seval, hE.P, zz, w1.nb, w1.nb0, hw2]
        exact ⟨by rw [scalarO_in (by omega)], k2, w2⟩
    · have h0 : ¬ 0 ≤ i := by have : i < 0 := by simpa using hb
                              omega
      simp only [push_cast, seval, hE.P, zz, hb, w1.nb, w1.nb0]
      exact ⟨by rw [scalarO_out (by omega)], k2, w2⟩
def wordO (i : Int) : Option Ob → Value
  | some o => if 0 ≤ i ∧ i < o.ws.length - o.refs then .tuple #[.int .u64 (o.ws.getD (o.refs + i.toNat) 0 : Nat), .int .i64 0] else .tuple #[.int .u64 0, .int .i64 1]
  | none => .tuple #[.int .u64 0, .int .i64 6]
omit hE H hW in
theorem wordO_in {o : Ob} {n : Nat} (h : o.refs + n < o.ws.length) : wordO (n : Int) (some o) = .tuple #[.int .u64 (o.ws[o.refs + n] : Nat), .int .i64 0] := by
  unfold wordO; simp only
  rw [if_pos ⟨by omega, by omega⟩]; simp [h]
omit hE H hW in
theorem wordO_out {o : Ob} {i : Int} (h : ¬ (0 ≤ i ∧ i < o.ws.length - o.refs)) : wordO i (some o) = .tuple #[.int .u64 0, .int .i64 1] := by
  unfold wordO; simp only
  rw [if_neg h]
theorem hword_at {x : Nat} (hx : x < 18446744073709551616) {i : Int} (hi1 : -9223372036854775808 ≤ i) (hi2 : i ≤ 9223372036854775807) : CallsTo E 127 [.pointer (some ⟨L.ph, 0, none⟩), .int .u64 x, .int .i64 i] h fun v h' =>
    v = wordO i (obj O x) ∧ Keep h h' ∧ WF E h' := by
  have Hs := scalar_at hE H hW hx hi1 hi2
  obtain ⟨S, H, w, rfl, rfl, rfl⟩ := H
  refine en hE Tryz.func127 rfl rfl Tryz.ntmps127 rfl (by decide +kernel) (rs := [.tmp 6, .tmp 7]) rfl ?_
  simp only [push_cast, seval, hE.P, zz]
  refine Hs.mono ?_
  rintro v h1 ⟨rfl, k1, w1⟩
  have H1 := H.keep k1
  cases ho : obj O x with
  | none =>
    simp only [push_cast, seval, hE.P, zz, scalarO]
    exact ⟨rfl, k1, w1⟩
  | some o =>
    obtain ⟨_, hi3, _, _⟩ := objOf_some ho
    obtain ⟨z, hz⟩ : ∃ z, z = x - 4294967297 := ⟨_, rfl⟩
    rw [← hz] at hi3 ⊢
    have hroom := w.room H.ok hi3
    have htop := H.ok.top
    have hWm := H.ok.W
    have hA := w.isAt_ H.ok hi3
    have hH := w.headAt_ H.ok hi3
    have hr := w.refs _ _ hi3
    by_cases hin : 0 ≤ i ∧ i < o.ws.length - o.refs
    · obtain ⟨n, rfl⟩ : ∃ n : Nat, i = n := ⟨i.toNat, by omega⟩
      obtain ⟨m, hm⟩ : ∃ m, m = o.refs + n := ⟨_, rfl⟩
      have hm2 : (o.refs : Int) + n = m := by omega
      rw [scalarO_in hin, hm2]
      have hn : o.refs + n < o.ws.length := by omega
      rw [wordO_in hn]
      have hws := w.ws _ _ hi3 (o.refs + n) _ (List.getElem?_eq_getElem hn)
      simp only [push_cast, seval, hE.P, zz, ↓H1.lA]
      refine (get_at hE H1 w1 (a := posO O z) (i := m) (by omega) hA (by rw [hH]; show m < o.ws.length; omega) (by omega)).mono ?_
      rintro v h3 ⟨rfl, k3, w3⟩
      simp only [push_cast, seval, hE.P, zz]
      refine ⟨?_, k1.trans k3, w3⟩
      rw [hm, hws]
    · rw [scalarO_out hin, wordO_out hin]
      simp only [push_cast, seval, hE.P, zz]
      exact ⟨k1, w1⟩
end
end Go.Proofs.YthfopcdammlmfaaGreatDoor
namespace Go.Proofs.YthfopcdammlmfaaGreatDoor
open Go.Tm
theorem nilw : anil Tryz.prog true 84 .nilIface .nilIface = some true := by simp [anil, Tryz.underlying84]
variable {E : Env} (hE : EOk E)
include hE
section
variable {h : Heap} {L : HL} {W nS : Nat} {R : List Nat} {O : List Ob} (H : IsO E h L W nS R O)
include H
theorem may_at {y : Nat} (hy : y < 18446744073709551616) : CallsTo E 51 [.pointer (some ⟨L.ph, 0, none⟩), .int .u64 y] h fun v h' =>
    v = .int .i64 (if y = 0 ∨ (obj O y).isSome = true then 0 else 6) ∧ h' = h := by
  obtain ⟨S, H, w, rfl, rfl, rfl⟩ := H
  refine en hE Tryz.func51 rfl rfl Tryz.ntmps51 rfl (by decide +kernel) (rs := [.tmp 4]) rfl ?_
  simp only [push_cast, seval, hE.P, zz]
  by_cases hy0 : y = 0
  · subst hy0
    have g : (((0 : Nat) : Int) == 0) = true := rfl
    simp only [push_cast, seval, hE.P, zz, g]
    rfl
  · have g : ((y : Int) == 0) = false := by simp; omega
    simp only [push_cast, seval, hE.P, zz, g, ↓H.lT]
    refine (tat_at hE H hy).mono ?_
    rintro v h1 ⟨rfl, rfl⟩
    rw [w.slot H.ok hy]
    cases ho : obj O y with
    | none =>
      rw [objOf_none ho]
      simp only [push_cast, seval, hE.P, zz, errOf]
      simp [hy0]
    | some o =>
      rw [(objOf_some ho).1]
      simp only [push_cast, seval, hE.P, zz, errOf]
      simp
theorem linked_at {y : Nat} : CallsTo E 52 [.pointer (some ⟨L.ph, 0, none⟩), .int .u64 y] h fun v h' => v = .tuple #[] ∧ h' = h := by
  obtain ⟨S, H, w, rfl, rfl, rfl⟩ := H
  have hw := H.lW
  rw [w.wt] at hw
  refine en hE Tryz.func52 rfl rfl Tryz.ntmps52 rfl (by decide +kernel) (rs := []) rfl ?_
  simp only [push_cast, seval, hE.P, zz]
  by_cases hy0 : y = 0
  · subst hy0
    have g : (((0 : Nat) : Int) != 0) = false := rfl
    simp only [push_cast, seval, hE.P, zz, g]
  · have g : ((y : Int) != 0) = true := by simp; omega
    simp only [push_cast, seval, hE.P, zz, g, ↓hw, nilw]
variable (hW : WF E h)
include hW
def setRefO (O : List Ob) (x : Nat) (i : Int) (y : Nat) : Int × List Ob :=
  match obj O x with
  | none => (6, O)
  | some o => if 0 ≤ i ∧ i < o.refs then (if y = 0 ∨ (obj O y).isSome = true then (0, O.set (x - 4294967297) { o with ws := o.ws.set i.toNat y }) else (6, O)) else (1, O)
def setWordO (O : List Ob) (x : Nat) (i : Int) (y : Nat) : Int × List Ob :=
  match obj O x with
  | none => (6, O)
  | some o => if 0 ≤ i ∧ i < o.ws.length - o.refs then (0, O.set (x - 4294967297) { o with ws := o.ws.set (o.refs + i.toNat) y }) else (1, O)
theorem setRef_at {x y : Nat} (hx : x < 18446744073709551616) (hy : y < 18446744073709551616) {i : Int} (hi1 : -9223372036854775808 ≤ i) (hi2 : i ≤ 9223372036854775807) :
    CallsTo E 143 [.pointer (some ⟨L.ph, 0, none⟩), .int .u64 x, .int .i64 i, .int .u64 y] h fun v h' =>
    v = .int .i64 (setRefO O x i y).1 ∧ IsO E h' L W nS R (setRefO O x i y).2 ∧ KeepB L h h' ∧ WF E h' := by
  have HO := H
  obtain ⟨S, H, w, rfl, rfl, rfl⟩ := H
  unfold setRefO
  refine en hE Tryz.func143 rfl rfl Tryz.ntmps143 rfl (by decide +kernel) (rs := [.tmp 8]) rfl ?_
  simp only [push_cast, seval, hE.P, zz]
  cases ho : obj O x with
  | none =>
    refine (find_none hE H w hW hx ho).mono ?_
    rintro v h1 ⟨rfl, k1, w1⟩
    have k2 := k1.push (o := .cells [.int .i64 0, .int .i64 0, .int .i64 0, .bool false, .int .i64 0] 103 true) w1
    have w2 := w1.push (.cells [.int .i64 0, .int .i64 0, .int .i64 0, .bool false, .int .i64 0] 103 true)
    simp only [push_cast, seval, hE.P, zz, w1.nb, w1.nb0]
    exact ⟨HO.keep k2, k2.b L, w2⟩
  | some o =>
    obtain ⟨_, hi3, _, _⟩ := objOf_some ho
    refine (find_some hE H w hW hx ho).mono ?_
    rintro v h1 ⟨rfl, k1, w1⟩
    obtain ⟨z, hz⟩ : ∃ z, z = x - 4294967297 := ⟨_, rfl⟩
    rw [← hz] at hi3 ⊢
    have k2 := k1.push (o := .cells [.int .i64 o.tag, .int .i64 o.refs, .int .i64 o.ws.length, .bool false, .int .i64 z] 103 true) w1
    have w2 := w1.push (.cells [.int .i64 o.tag, .int .i64 o.refs, .int .i64 o.ws.length, .bool false, .int .i64 z] 103 true)
    have H2 := H.keep k2
    have HO2 := HO.keep k2
    have hroom := w.room H.ok hi3
    have htop := H.ok.top
    have hWm := H.ok.W
    have hA := w.isAt_ H.ok hi3
    have hH := w.headAt_ H.ok hi3
    have hr := w.refs _ _ hi3
    have hsm := w.small H.ok hi3
    simp only [push_cast, seval, hE.P, zz, w1.nb, w1.nb0]
    refine kguard_splitF (fun hb => ?_) (fun hb => ?_)
    · have h0 : 0 ≤ i := by simpa using hb
      simp only [push_cast, seval, hE.P, zz, hb, w1.nb, w1.nb0]
      refine kif_split (fun hb2 => ?_) (fun hb2 => ?_)
      · have h2 : ¬ i < o.refs := by simpa using hb2
        simp only [if_neg (show ¬ (0 ≤ i ∧ i < o.refs) by omega)]
        simp only [push_cast, seval, hE.P, zz]
        exact ⟨HO2, k2.b L, w2⟩
      · have h2 : i < o.refs := by simpa using hb2
        obtain ⟨n, rfl⟩ : ∃ n : Nat, i = n := ⟨i.toNat, by omega⟩
        simp only [if_pos (show (0 ≤ (n : Int) ∧ (n : Int) < o.refs) by omega)]
        simp only [push_cast, seval, hE.P, zz]
        refine (may_at hE HO2 hy).mono ?_
        rintro v h3 ⟨rfl, rfl⟩
        by_cases hm : y = 0 ∨ (obj O y).isSome = true
        · simp only [if_pos hm]
          simp only [push_cast, seval, hE.P, zz, ↓H2.lA]
          refine (put_at hE H2 w2 (a := posO O z) (i := n) (x := y) (by omega) hA (by rw [hH]; show n < o.ws.length; omega) (by omega) hy).mono ?_
          rintro v h4 ⟨rfl, H4, k4, w4⟩
          have W4 := w.put H.ok hi3 (k := n) (x := y) (by omega)
          have HO4 : IsO E h4 L S.W S.nS S.roots (O.set z { o with ws := o.ws.set n y }) := ⟨_, H4, W4, rfl, rfl, rfl⟩
          simp only [push_cast, seval, hE.P, zz]
          refine (linked_at hE HO4).mono ?_
          rintro v h5 ⟨rfl, rfl⟩
          simp only [push_cast, seval, hE.P, zz]
          exact ⟨HO4, (k2.b L).trans k4, w4⟩
        · simp only [if_neg hm]
          simp only [push_cast, seval, hE.P, zz]
          exact ⟨HO2, k2.b L, w2⟩
    · have h0 : ¬ 0 ≤ i := by have : i < 0 := by simpa using hb
                              omega
      simp only [if_neg (show ¬ (0 ≤ i ∧ i < o.refs) by omega)]
      simp only [push_cast, seval, hE.P, zz, hb, w1.nb, w1.nb0]
      exact ⟨HO2, k2.b L, w2⟩
theorem setWord_at {x y : Nat} (hx : x < 18446744073709551616) (hy : y < 18446744073709551616) {i : Int} (hi1 : -9223372036854775808 ≤ i) (hi2 : i ≤ 9223372036854775807) :
    CallsTo E 144 [.pointer (some ⟨L.ph, 0, none⟩), .int .u64 x, .int .i64 i, .int .u64 y] h fun v h' =>
    v = .int .i64 (setWordO O x i y).1 ∧ IsO E h' L W nS R (setWordO O x i y).2 ∧ KeepB L h h' ∧ WF E h' := by
  have HO := H
  have Hs := scalar_at hE H hW hx hi1 hi2
  obtain ⟨S, H, w, rfl, rfl, rfl⟩ := H
  unfold setWordO
  refine en hE Tryz.func144 rfl rfl Tryz.ntmps144 rfl (by decide +kernel) (rs := [.tmp 8]) rfl ?_
  simp only [push_cast, seval, hE.P, zz]
  refine Hs.mono ?_
  rintro v h1 ⟨rfl, k1, w1⟩
  have H1 := H.keep k1
  have HO1 := HO.keep k1
  cases ho : obj O x with
  | none =>
    simp only [push_cast, seval, hE.P, zz, scalarO]
    exact ⟨HO1, k1.b L, w1⟩
  | some o =>
    obtain ⟨_, hi3, _, _⟩ := objOf_some ho
    obtain ⟨z, hz⟩ : ∃ z, z = x - 4294967297 := ⟨_, rfl⟩
    rw [← hz] at hi3 ⊢
    have hroom := w.room H.ok hi3
    have htop := H.ok.top
    have hWm := H.ok.W
    have hA := w.isAt_ H.ok hi3
    have hH := w.headAt_ H.ok hi3
    have hr := w.refs _ _ hi3
    by_cases hin : 0 ≤ i ∧ i < o.ws.length - o.refs
    · obtain ⟨n, rfl⟩ : ∃ n : Nat, i = n := ⟨i.toNat, by omega⟩
      obtain ⟨m, hm⟩ : ∃ m, m = o.refs + n := ⟨_, rfl⟩
      have hm2 : (o.refs : Int) + n = m := by omega
      simp only [if_pos hin]
      rw [scalarO_in hin, hm2]
      have W4 := w.put H.ok hi3 (k := m) (x := y) (by omega)
      simp only [push_cast, seval, hE.P, zz, ↓H1.lA]
      refine (put_at hE H1 w1 (a := posO O z) (i := m) (x := y) (by omega) hA (by rw [hH]; show m < o.ws.length; omega) (by omega) hy).mono ?_
      rintro v h3 ⟨rfl, H3, k3, w3⟩
      simp only [push_cast, seval, hE.P, zz]
      rw [← hm]
      exact ⟨⟨_, H3, W4, rfl, rfl, rfl⟩, (k1.b L).trans k3, w3⟩
    · simp only [if_neg hin]
      rw [scalarO_out hin]
      simp only [push_cast, seval, hE.P, zz]
      exact ⟨HO1, k1.b L, w1⟩
end
end Go.Proofs.YthfopcdammlmfaaGreatDoor
