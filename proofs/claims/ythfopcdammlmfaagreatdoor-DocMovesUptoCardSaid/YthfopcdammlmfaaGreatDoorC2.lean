/- THE HEAP AS A LIST OF OBJECTS (nothing freed): the plain law. -/
/- Merged by a program of ours: H2 H3 H4 H5. -/
import Derived.Test.YthfopcdammlmfaaGreatDoorC1
set_option maxRecDepth 10000
set_option linter.all false
set_option linter.unusedSimpArgs false
set_option linter.unusedVariables false
namespace Go.Proofs.YthfopcdammlmfaaGreatDoor
open Go.Tm
def slotOf (S : HS) (x : Nat) : Option Nat :=
 if 1 ≤ x % 4294967296 ∧ x % 4294967296 - 1 < S.nS ∧ (S.sl (x % 4294967296 - 1)).taken = true ∧ (S.sl (x % 4294967296 - 1)).gen = x / 4294967296 then some (x % 4294967296 - 1) else none
theorem slotOf_some {S : HS} {x i : Nat} (h : slotOf S x = some i) : 1 ≤ x % 4294967296 ∧ i = x % 4294967296 - 1 ∧ i < S.nS ∧ (S.sl i).taken = true ∧ (S.sl i).gen = x / 4294967296 := by
 unfold slotOf at h
 split at h
 ·rename_i hc
  injection h with h; subst h
  exact ⟨hc.1, rfl, hc.2.1, hc.2.2.1, hc.2.2.2⟩
 ·cases h
def errOf {α : Type} (o : Option α) (e : Int) : Int := match o with | some _ => 0 | none => e
variable {E : Env} (hE : EOk E)
include hE
section
variable {h : Heap} {L : HL} {S : HS} (H : IsH E h L S)
include H
theorem tfind_at {x : Nat} (hx : x < 18446744073709551616) : CallsTo E 108 [.pointer (some ⟨L.pt, 0, none⟩), .int .u64 x] h fun v h' =>
 v = .tuple #[.int .i64 ((slotOf S x).getD 0 : Nat), .int .i64 (errOf (slotOf S x) 6)] ∧ h' = h := by
 have hn := H.ok.nS
 refine en hE Tryz.func108 rfl rfl Tryz.ntmps108 rfl (by decide +kernel) (rs := [.tmp 4, .tmp 5]) rfl ?_
 simp only [push_cast, seval, hE.P, zz]
 obtain ⟨y, hy⟩ : ∃ y, y = x % 4294967296 := ⟨_, rfl⟩
 rw [and32 hx, ← hy, wrN (by omega), wr64 (by omega) (by omega)]
 have hfin : ∀ (tm : Tr Value), slotOf S x = none → kseq (wpc E (.cond (.tmp 46) (.seq (.region 3 #[] false) .ret) .skip) (fun _ _ _ => True)) (fun _ _ _ => True) .normal tm h → True := fun _ _ _ => trivial
 refine kguard_cut (fun tm h' => fget tm 46 = .bool (decide (slotOf S x = none)) ∧ (∀ i, slotOf S x = some i → fget tm 6 = .int .i64 i) ∧ h' = h) ?_ ?_
 rotate_left
 ·by_cases h1 : 1 ≤ y
  ·obtain ⟨i, hi⟩ : ∃ i, i = y - 1 := ⟨_, rfl⟩
   have hi2 : (y : Int) - 1 = i := by omega
   rw [hi2]
   have hb1 : decide ((i : Int) < 0) = false := by simp
   refine kguard_splitF (fun _ => ?_) (fun hb => by rw [hb1] at hb; cases hb)
   simp only [push_cast, seval, hE.P, zz, hb1, ↓H.lSlots]
   by_cases h2 : i < S.nS
   ·have hb2 : decide ((i : Int) ≥ S.nS) = false := by simp; omega
    simp only [push_cast, seval, hE.P, zz, hb2, ↓H.lSlots]
    rw [ia92 rfl (by omega) (by omega), kpure_some]
    simp only [push_cast, seval, hE.P, zz, hb2, ↓H.lSlots, ↓H.lTaken h2]
    cases hT : (S.sl i).taken with
    | false =>
      have hs : slotOf S x = none := by unfold slotOf; rw [← hy, ← hi, if_neg (by simp [hT])]
      simp only [push_cast, seval, hE.P, zz, hT]
      simp [hs]
    | true =>
      simp only [push_cast, seval, hE.P, zz, hT, ↓H.lSlots]
      rw [ia92 rfl (by omega) (by omega), kpure_some]
      simp only [push_cast, seval, hE.P, zz, hT, ↓H.lSlots, ↓H.lGen h2]
      have hgn := H.ok.gen i
      have hg1 : ∀ k : Nat, (S.sl k).gen < 18446744073709551616 := fun k => by have := H.ok.gen k; omega
      rw [wruN (hg1 i), shr32]
      by_cases hg : (S.sl i).gen = x / 4294967296
      ·have hs : slotOf S x = some i := by unfold slotOf; rw [← hy, ← hi, if_pos ⟨h1, h2, hT, hg⟩]
       refine ⟨?_, fun j hj => ?_⟩
       ·rw [hs, hg, bne_self_eq_false]; rfl
       ·rw [hs] at hj; injection hj with hj; rw [hj]
      ·have hs : slotOf S x = none := by unfold slotOf; rw [← hy, ← hi, if_neg (fun hh => hg hh.2.2.2)]
       refine ⟨?_, fun j hj => by rw [hs] at hj; cases hj⟩
       have hne : ((S.sl i).gen : Int) ≠ ((x / 4294967296 : Nat) : Int) := fun hh => hg (Int.ofNat_inj.mp hh)
       rw [hs, bne_iff_ne.mpr hne]
       rfl
   ·have hb2 : decide ((i : Int) ≥ S.nS) = true := by simp; omega
    have hs : slotOf S x = none := by unfold slotOf; rw [← hy, ← hi, if_neg (by omega)]
    simp only [push_cast, seval, hE.P, zz, hb2]
    simp [hs]
  ·have hb1 : decide ((y : Int) - 1 < 0) = true := by simp; omega
   have hs : slotOf S x = none := by unfold slotOf; rw [← hy, if_neg (by omega)]
   refine kguard_splitF (fun hb => by rw [hb1] at hb; cases hb) (fun _ => ?_)
   simp only [push_cast, seval, hE.P, zz, hb1]
   simp [hs]
 ·rintro tm h' ⟨f46, f6, rfl⟩
  cases hs : slotOf S x with
  | none =>
    rw [hs] at f46
    simp only [push_cast, seval, hE.P, zz, f46]
    rfl
  | some i =>
    rw [hs] at f46
    have f6' := f6 i hs
    simp only [push_cast, seval, hE.P, zz, f46, f6']
    rfl
end
end Go.Proofs.YthfopcdammlmfaaGreatDoor
namespace Go.Proofs.YthfopcdammlmfaaGreatDoor
open Go.Tm
def hnd (S : HS) (i : Nat) : Nat := (S.sl i).gen * 4294967296 + (i + 1)
theorem updN_updN {α : Type} (w : Nat → α) (i : Nat) (x y : α) : updN (updN w i x) i y = updN w i y := by
 funext j; unfold updN; split <;> rfl
theorem hnd_bits {g i : Nat} (hg : g < 4294967296) (hi : i + 1 ≤ 1048576) : bits .or .u64 (IntKind.u64.wrap (IntKind.u64.wrap (g : Int) * 2 ^ min 32 IntKind.u64.bits)) (IntKind.u64.wrap ((i + 1 : Nat) : Int)) = ((g * 4294967296 + (i + 1) : Nat) : Int) := by
 rw [wruN (by omega), wruN (by omega), shl_nat (by omega) (by omega), bits_or_u64_nat _ _ (by omega) (by omega)]
 have e : g * 2 ^ 32 ||| (i + 1) = (i + 1) + g * 2 ^ 32 := by rw [Nat.or_comm]; exact or_add (by omega)
 rw [e]; omega
variable {E : Env} (hE : EOk E)
include hE
section
variable {h : Heap} {L : HL} {S : HS} (H : IsH E h L S)
include H
theorem tslot_at {x : Nat} (hx : x < 18446744073709551616) : CallsTo E 54 [.pointer (some ⟨L.pt, 0, none⟩), .int .u64 x] h fun v h' =>
 v = .tuple #[.int .i64 ((slotOf S x).getD 0 : Nat), .int .i64 (errOf (slotOf S x) 6)] ∧ h' = h := by
 refine en hE Tryz.func54 rfl rfl Tryz.ntmps54 rfl (by decide +kernel) (rs := [.tmp 4, .tmp 5]) rfl ?_
 simp only [push_cast, seval, hE.P, wpc_label, wpc_block]
 refine (tfind_at hE H hx).mono ?_
 rintro v h1 ⟨rfl, rfl⟩
 simp only [push_cast, seval, hE.P, wpc_label, wpc_block]
theorem tat_at {x : Nat} (hx : x < 18446744073709551616) : CallsTo E 59 [.pointer (some ⟨L.pt, 0, none⟩), .int .u64 x] h fun v h' =>
 v = .tuple #[.int .i64 (match slotOf S x with | some i => (S.sl i).at_ | none => 0 : Nat), .int .i64 (errOf (slotOf S x) 6)] ∧ h' = h := by
 have hn := H.ok.nS
 refine en hE Tryz.func59 rfl rfl Tryz.ntmps59 rfl (by decide +kernel) (rs := [.tmp 4, .tmp 5]) rfl ?_
 simp only [push_cast, seval, hE.P, wpc_label, wpc_block]
 refine (tfind_at hE H hx).mono ?_
 rintro v h1 ⟨rfl, rfl⟩
 cases hs : slotOf S x with
 | none =>
   simp only [push_cast, seval, hE.P, wpc_label, wpc_block, errOf, Option.getD_none]
 | some i =>
   obtain ⟨_, _, hi, _, _⟩ := slotOf_some hs
   simp only [push_cast, seval, hE.P, wpc_label, wpc_block, errOf, Option.getD_some, ↓H.lSlots]
   rw [ia92 rfl (by omega) (by omega), kpure_some]
   simp only [push_cast, seval, hE.P, wpc_label, wpc_block, ↓H.lAt hi]
theorem thandle_at {i : Nat} (hi : i < S.nS) : CallsTo E 107 [.pointer (some ⟨L.pt, 0, none⟩), .int .i64 i] h fun v h' => v = .int .u64 (hnd S i) ∧ h' = h := by
 have hn := H.ok.nS
 have hg := H.ok.gen i
 obtain ⟨j, hj⟩ : ∃ j, j = i + 1 := ⟨_, rfl⟩
 have hj2 : (i : Int) + 1 = j := by omega
 refine en hE Tryz.func107 rfl rfl Tryz.ntmps107 rfl (by decide +kernel) (rs := [.tmp 4]) rfl ?_
 simp only [push_cast, seval, hE.P, wpc_label, wpc_block, ↓H.lSlots]
 rw [ia92 rfl (by omega) (by omega), kpure_some]
 simp only [push_cast, seval, hE.P, wpc_label, wpc_block, ↓H.lGen hi, hj2]
 rw [wrN (m := j) (by omega), hj, hnd_bits hg (by omega)]
 rfl
variable (hW : WF E h)
include hW
end
end Go.Proofs.YthfopcdammlmfaaGreatDoor
namespace Go.Proofs.YthfopcdammlmfaaGreatDoor
open Go.Tm
theorem or_bit {x r : Nat} (hx : x < 18446744073709551616) (hr : r < 64) : bits .or .u64 (x : Int) (IntKind.u64.wrap (1 * 2 ^ min r IntKind.u64.bits)) = ((x ||| 2 ^ r : Nat) : Int) ∧ x ||| 2 ^ r < 18446744073709551616 := by
 have h2 : 2 ^ r < 2 ^ 64 := Nat.pow_lt_pow_right (by omega) hr
 have h3 := shl_nat (m := 1) (k := r) (by omega) (by omega)
 rw [Nat.one_mul] at h3
 have h4 : ((1 : Nat) : Int) = 1 := rfl
 rw [h4] at h3
 rw [h3, bits_or_u64_nat _ _ (by omega) (by omega)]
 exact ⟨rfl, Nat.or_lt_two_pow (n := 64) (by omega) (by omega)⟩
variable {E : Env} (hE : EOk E)
include hE
section
variable {h : Heap} {L : HL} {S : HS} (H : IsH E h L S) (hW : WF E h)
include H hW
theorem aset_at {a : Nat} (ha : a < S.W) : CallsTo E 152 [.pointer (some ⟨L.pa, 0, none⟩), .int .i64 a, .bool true] h fun v h' =>
 v = .tuple #[] ∧ IsH E h' L { S with bg := updN S.bg (a / 64) (S.bg (a / 64) ||| 2 ^ (a % 64)) } ∧ KeepB L h h' ∧ WF E h' := by
 have hWm := H.ok.W
 have hbg := H.ok.bg (a / 64)
 obtain ⟨q, hq⟩ : ∃ q, q = a / 64 := ⟨_, rfl⟩
 obtain ⟨r, hr⟩ : ∃ r, r = a % 64 := ⟨_, rfl⟩
 have hq2 : (a : Int).tdiv 64 = q := by rw [Int.tdiv_eq_ediv_of_nonneg (by omega)]; omega
 have hr2 : (a : Int).tmod 64 = r := by rw [Int.tmod_eq_emod_of_nonneg (by omega)]; omega
 have hrn : ¬ ((r : Int) < 0) := by omega
 rw [← hq] at hbg
 rw [← hq, ← hr]
 obtain ⟨hor, holt⟩ := or_bit (x := S.bg q) (r := r) hbg (by omega)
 have hq3 : IntKind.i64.wrap (q : Int) = q := wrN (by omega)
 obtain ⟨h1, e1, H1, k1, w1⟩ := H.wBegin hW (i := q) (x := S.bg q ||| 2 ^ r) (by omega) holt
 refine en hE Tryz.func152 rfl rfl Tryz.ntmps152 rfl (by decide +kernel) (rs := []) rfl ?_
 simp only [push_cast, seval, hE.P, wpc_label, wpc_block, hr2, hrn, ↓H.lBegins, hq2, hq3]
 rw [ia50 rfl (by omega) (by omega), kpure_some]
 simp only [push_cast, seval, hE.P, wpc_label, wpc_block, hr2, hrn, ↓H.lBegins, hq2, hq3, ↓H.lb (i := q) (by omega)]
 rw [ia50 rfl (by omega) (by omega), kpure_some]
 rw [hor]
 generalize S.bg q ||| 2 ^ r = z at *
 simp only [push_cast, seval, hE.P, wpc_label, wpc_block, e1]
 exact ⟨H1, k1, w1⟩
theorem clear_at {l k : Nat} (hk : l + k ≤ S.W) : ∃ y, asl E.P 50 (.slice (some ⟨L.bw, 0, none⟩) S.W S.W) (some (.int .i64 l)) (some (.int .i64 (l + k : Nat))) = some y ∧
 Wrote E h L { S with w := clrN S.w l k } (aclear E h 50 y) := by
 have hu : E.P.underlying 50 = some (.slice 33) := by rw [hE.P]; exact Tryz.underlying50
 have hs : asz E.P 33 = some 1 := by rw [hE.P]; exact sz33
 have hz : azero E.P 33 = some (.int .u64 0) := by rw [hE.P]; exact zr33
 have hb1 : abnd (some (.int .i64 (l + k : Nat))) S.W S.W = some (l + k) := by unfold abnd; simp only; rw [if_pos (by omega)]; exact congrArg some (by omega)
 have hb2 : abnd (some (.int .i64 (l : Nat))) 0 (l + k) = some l := by unfold abnd; simp only; rw [if_pos (by omega)]; simp
 have hsub : l + k - l = k := by omega
 have h0 : k = 0 → { S with w := clrN S.w l k } = S := fun hk0 => by
  have : clrN S.w l k = S.w := by funext j; unfold clrN; rw [if_neg (by omega)]
  rw [this]
 unfold asl
 rw [hu]
 simp only [hb1, hb2, hs, hsub]
 by_cases hlc : l < S.W
 ·rw [if_pos hlc]
  refine ⟨_, rfl, ?_⟩
  cases k with
  | zero => rw [h0 rfl]; refine ⟨h, ?_, H, KeepB.refl L h, hW⟩; unfold aclear; rw [hu]
  | succ k =>
    have := H.wClear hW (i := l) (k := k + 1) hk
    unfold aclear
    rw [hu]
    simp only [hz, vcells, addo, Nat.zero_add, Nat.mul_one]
    exact this
 ·rw [if_neg hlc, if_pos hk]
  have hk0 : k = 0 := by omega
  refine ⟨_, rfl, ?_⟩
  rw [h0 hk0]; subst hk0
  refine ⟨h, ?_, H, KeepB.refl L h, hW⟩; unfold aclear; rw [hu]
def HS.alloc (S : HS) (t r s o : Nat) : HS :=
 { S with w := clrN (updN S.w S.top (packN ⟨t, r, s, false, o⟩)) (S.top + 1) s, bg := updN S.bg (S.top / 64) (S.bg (S.top / 64) ||| 2 ^ (S.top % 64)), top := S.top + (s + 1) }
theorem alloc_at {t r s o : Nat} (h1 : 1 ≤ t) (h2 : t ≤ 255) (h3 : s ≤ 4096) (h4 : r ≤ s) (h5 : o < 1048576) : CallsTo E 169 [.pointer (some ⟨L.pa, 0, none⟩), .int .i64 t, .int .i64 r, .int .i64 s, .int .i64 o] h fun v h' =>
 if S.top + (s + 1) ≤ S.W then v = .tuple #[.int .i64 S.top, .int .i64 0] ∧ IsH E h' L (S.alloc t r s o) ∧ KeepB L h h' ∧ WF E h'
 else v = .tuple #[.int .i64 0, .int .i64 5] ∧ h' = h := by
 have hWm := H.ok.W
 have htop := H.ok.top
 refine en hE Tryz.func169 rfl rfl Tryz.ntmps169 rfl (by decide +kernel) (rs := [.tmp 10, .tmp 11]) rfl ?_
 simp only [push_cast, seval, hE.P, wpc_label, wpc_block]
 refine (fits_at hE H hW).mono ?_
 rintro v h' ⟨rfl, rfl⟩
 have hf : (if (t : Int) < 1 ∨ (t : Int) > 255 ∨ (s : Int) < 0 ∨ (s : Int) > 4096 ∨ (r : Int) < 0 ∨ (r : Int) > s ∨ (o : Int) < 0 ∨ (o : Int) ≥ 1048576 then (1 : Int) else 0) = 0 := if_neg (by omega)
 rw [hf]
 simp only [push_cast, seval, hE.P, wpc_label, wpc_block]
 refine (free_at hE H).mono ?_
 rintro v h' ⟨rfl, rfl⟩
 obtain ⟨s1, hs1⟩ : ∃ s1, s1 = s + 1 := ⟨_, rfl⟩
 have hs2 : (s : Int) + 1 = s1 := by omega
 have hs3 : IntKind.i64.wrap (s1 : Int) = s1 := wrN (by omega)
 simp only [push_cast, seval, hE.P, wpc_label, wpc_block, hs2, hs3]
 rw [← hs1]
 by_cases hroom : S.top + s1 ≤ S.W
 ·have g : decide ((S.W : Int) - S.top < s1) = false := by simp; omega
  simp only [if_pos hroom]
  simp only [push_cast, seval, hE.P, wpc_label, wpc_block, g, ↓H.lTop]
  refine wdraw_pairs [(3, 10)] (by rw [hE.P]; decide +kernel) (by rw [hE.P]; decide +kernel) (by rw [hE.P]; decide +kernel) ?_
  simp only [push_cast, seval, hE.P, wpc_label, wpc_block, ↓H.lWords]
  have hok : (⟨t, r, s, false, o⟩ : Hd).ok := ⟨by show t < 256; omega, by show r < 8192; omega, by show s < 8192; omega, h5⟩
  have hplt := pack_lt hok
  unfold HS.alloc
  obtain ⟨pk, hpk⟩ : ∃ pk, pk = packN ⟨t, r, s, false, o⟩ := ⟨_, rfl⟩
  rw [← hpk] at hplt
  refine (packed_at hE hW hok).mono ?_
  rw [← hpk]
  rintro v h6 ⟨rfl, k6, w6⟩
  have H6 := H.keep k6
  have hpk2 : pk < 18446744073709551616 := by omega
  obtain ⟨h7, e7, H7, k7, w7⟩ := H6.wWord w6 (i := S.top) (x := pk) (by omega) hpk2
  obtain ⟨y8, e8, h8, e8', H8, k8, w8⟩ := clear_at hE H7 w7 (l := S.top + 1) (k := s) (by show S.top + 1 + s ≤ S.W; omega)
  obtain ⟨l1, hl1⟩ : ∃ l1, l1 = S.top + 1 := ⟨_, rfl⟩
  obtain ⟨l2, hl2⟩ : ∃ l2, l2 = l1 + s := ⟨_, rfl⟩
  rw [← hl1] at e8 H8
  rw [← hl2, hE.P] at e8
  have hl1' : (S.top : Int) + 1 = l1 := by omega
  have hl2' : (l1 : Int) + s = l2 := by omega
  have hl3 : (S.top : Int) + s1 = l2 := by omega
  have hw1 : IntKind.i64.wrap (l1 : Int) = l1 := wrN (by omega)
  have hw2 : IntKind.i64.wrap (l2 : Int) = l2 := wrN (by omega)
  simp only [push_cast, seval, hE.P, wpc_label, wpc_block]
  rw [ia50 rfl (by omega) (by omega), kpure_some]
  have e8'' : asl Tryz.prog 50 (.slice (some ⟨L.bw, 0, none⟩) S.W S.W) (some (.int .i64 l1)) (some (.int .i64 l2)) = some y8 := e8
  simp only [push_cast, seval, hE.P, wpc_label, wpc_block, e7, ↓H.lWords, ↓H6.lWords, ↓H7.lWords, hl1', hw1, hl2', hw2, e8'', e8']
  refine (aset_at hE H8 w8 (a := S.top) (by show S.top < S.W; omega)).mono ?_
  rintro v h9 ⟨rfl, H9, k9, w9⟩
  obtain ⟨h10, e10, H10, k10, w10⟩ := H9.wTop w9 (x := l2) (by show l2 ≤ S.W; omega)
  have t9 := H9.lTop
  simp only [push_cast, seval, hE.P, wpc_label, wpc_block, hs2, hs3, ↓t9, hl3, hw2, e10]
  have hl4 : S.top + (s + 1) = l2 := by omega
  rw [hl4, ← hl1]
  exact ⟨H10, (((k6.b L).trans k7).trans k8).trans (k9.trans k10), w10⟩
 ·have g : decide ((S.W : Int) - S.top < s1) = true := by simp; omega
  simp only [if_neg hroom]
  simp only [push_cast, seval, hE.P, wpc_label, wpc_block, g]
end
end Go.Proofs.YthfopcdammlmfaaGreatDoor
namespace Go.Proofs.YthfopcdammlmfaaGreatDoor
open Go.Tm
structure Ob where
 tag : Nat
 refs : Nat
 ws : List Nat
def Ob.width (o : Ob) : Nat := o.ws.length + 1
def posO (O : List Ob) (i : Nat) : Nat := ((O.take i).map Ob.width).sum
def allO (O : List Ob) : Nat := (O.map Ob.width).sum
def objOf (O : List Ob) (x : Nat) : Option Nat := if 4294967297 ≤ x ∧ x - 4294967297 < O.length then some (x - 4294967297) else none
def hOf (i : Nat) : Nat := 4294967297 + i
structure Wf (S : HS) (O : List Ob) : Prop where
 freed : S.freed = 0
 fresh : S.fresh = O.length
 cnt : S.cnt = O.length
 wt : S.wt = .nilIface
 opn : S.open_ = false
 gen : ∀ i, i < S.nS → (S.sl i).gen = 1
 out : ∀ i, O.length ≤ i → (S.sl i).taken = false
 taken : ∀ (i : Nat) (o : Ob), O[i]? = some o → (S.sl i).taken = true
 at_ : ∀ (i : Nat) (o : Ob), O[i]? = some o → (S.sl i).at_ = posO O i
 is : ∀ (i : Nat) (o : Ob), O[i]? = some o → bitB S.bg (posO O i) = true
 head : ∀ (i : Nat) (o : Ob), O[i]? = some o → unpackN (S.w (posO O i)) = ⟨o.tag, o.refs, o.ws.length, false, i⟩
 refs : ∀ (i : Nat) (o : Ob), O[i]? = some o → o.refs ≤ o.ws.length
 ws : ∀ (i : Nat) (o : Ob), O[i]? = some o → ∀ k x, o.ws[k]? = some x → S.w (posO O i + 1 + k) = x
 top : S.top = allO O
section
variable {S : HS} {O : List Ob} (ok : S.Ok) (w : Wf S O)
include ok w
def HS.make (S : HS) (t r s : Nat) : HS :=
 ({ S with sl := updN S.sl S.cnt ⟨(S.sl S.cnt).gen, true, S.top, 0⟩, fresh := S.cnt + 1, cnt := S.cnt + 1 } : HS).alloc t r s S.cnt
end
end Go.Proofs.YthfopcdammlmfaaGreatDoor
