/- The handles' table: a slot taken, freed, moved; on the heap's state, whatever was freed. -/
/- Merged by a program of ours: M1 M2. -/
import Derived.Test.YthfopcdammlmfaaGreatDoorT1
import Derived.Test.YthfopcdammlmfaaGreatDoorD2
import Derived.Test.YthfopcdammlmfaaGreatDoorA9
import Derived.Laws.BitsAllLaws
set_option maxRecDepth 10000
set_option linter.all false
set_option linter.unusedSimpArgs false
set_option linter.unusedVariables false
/- The arena: marks, the gap (opened, closed, objects kept or skipped): on the heap's state. -/
namespace Go.Proofs.YthfopcdammlmfaaGreatDoor
open Go.Tm
def movN (w : Nat → Nat) (f t n : Nat) : Nat → Nat := fun j => if t ≤ j ∧ j < t + n then w (j - t + f) else w j
theorem wcells_mov {n f t k : Nat} {w : Nat → Nat} (hf : f + k ≤ n) (ht : t + k ≤ n) : splice (wcells n w) t (((wcells n w).drop f).take k) = wcells n (movN w f t k) := by
 apply List.ext_getElem?
 intro j
 have hl : (((wcells n w).drop f).take k).length = k := by simp [wcells_len]; omega
 rw [splice_get2 (by rw [hl, wcells_len]; omega), hl]
 by_cases hj : j < n
 ·have e1 : (wcells n (movN w f t k))[j]? = some (.int .u64 (movN w f t k j : Nat)) := wcells_get hj
  have e2 : (wcells n w)[j]? = some (.int .u64 (w j : Nat)) := wcells_get hj
  rw [e1, e2]
  unfold movN
  by_cases h1 : j < t
  ·rw [if_pos h1, if_neg (by omega)]
  ·by_cases h2 : j < t + k
   ·rw [if_neg h1, if_pos h2, if_pos (by omega), List.getElem?_take_of_lt (by omega), List.getElem?_drop, wcells_get (by omega), Nat.add_comm]
   ·rw [if_neg h1, if_neg h2, if_neg (by omega)]
 ·rw [if_neg (by omega), if_neg (by omega), List.getElem?_eq_none (by rw [wcells_len]; omega), List.getElem?_eq_none (by rw [wcells_len]; omega)]
def clrB (x r : Nat) : Nat := x &&& (18446744073709551615 - 2 ^ r)
def HS.kept (S : HS) : HS :=
 { S with bg := updN (updN S.bg (S.high / 64) (clrB (S.bg (S.high / 64)) (S.high % 64))) (S.low / 64) (updN S.bg (S.high / 64) (clrB (S.bg (S.high / 64)) (S.high % 64)) (S.low / 64) ||| 2 ^ (S.low % 64)),
          w := movN S.w S.high S.low (1 + (unpackN (S.w S.high)).size), low := S.low + 1 + (unpackN (S.w S.high)).size, high := S.high + 1 + (unpackN (S.w S.high)).size }
theorem clr_bit {x r : Nat} (hx : x < 18446744073709551616) (hr : r < 64) : bits .andNot .u64 (x : Int) (IntKind.u64.wrap (1 * 2 ^ min r IntKind.u64.bits)) = ((clrB x r : Nat) : Int) ∧ clrB x r < 18446744073709551616 := by
 have h2 : 2 ^ r < 2 ^ 64 := Nat.pow_lt_pow_right (by omega) hr
 have h3 := shl_nat (m := 1) (k := r) (by omega) (by omega)
 rw [Nat.one_mul] at h3
 have h4 : ((1 : Nat) : Int) = 1 := rfl
 rw [h4] at h3
 rw [h3, u64_andNot_nat _ _ (by omega) (by omega)]
 exact ⟨rfl, Nat.lt_of_le_of_lt Nat.and_le_left hx⟩
theorem clrB_test {x r j : Nat} (hr : r < 64) (hx : x < 18446744073709551616) : (clrB x r).testBit j = (x.testBit j && !decide (j = r)) := by
 have h2 : 2 ^ r < 2 ^ 64 := Nat.pow_lt_pow_right (by omega) hr
 unfold clrB
 rw [Nat.testBit_and, show 18446744073709551615 - 2 ^ r = 2 ^ 64 - (2 ^ r + 1) by omega, Nat.testBit_two_pow_sub_succ h2, Nat.testBit_two_pow]
 by_cases hj : j < 64
 ·simp [hj, eq_comm]
 ·have : x.testBit j = false := Nat.testBit_lt_two_pow (Nat.lt_of_lt_of_le hx (by
   have : 2 ^ 64 ≤ 2 ^ j := Nat.pow_le_pow_right (by omega) (by omega)
   omega))
  simp [this]
theorem bitB_clr {bg : Nat → Nat} (hbg : ∀ i, bg i < 18446744073709551616) (a b : Nat) : bitB (updN bg (a / 64) (clrB (bg (a / 64)) (a % 64))) b = (!decide (b = a) && bitB bg b) := by
 rw [bitB_test, bitB_test]
 unfold updN
 by_cases h : b / 64 = a / 64
 ·rw [if_pos h, h, clrB_test (Nat.mod_lt _ (by omega)) (hbg _), Bool.and_comm]
  congr 1
  by_cases e : b = a
  ·simp [e]
  ·have : b % 64 ≠ a % 64 := by omega
   simp [e, this]
 ·have : b ≠ a := fun e => h (by rw [e])
  rw [if_neg h]; simp [this]
section
variable {E : Env} {h : Heap} {L : HL} {S : HS} (H : IsH E h L S) (hW : WF E h)
include H hW
theorem IsH.wLow {x : Nat} (hx : x ≤ S.W) : Wrote E h L { S with low := x } (awrite h ⟨L.pa, 3, none⟩ [.int .i64 x]) := by
 refine ⟨_, awrite_of H.arena (by simp) rfl, ?_⟩
 exact H.setArena hW (t := S.top) (l := x) (g := S.high) (p := S.open_) { H.ok with low := hx } rfl
theorem IsH.wHigh {x : Nat} (hx : x ≤ S.W) : Wrote E h L { S with high := x } (awrite h ⟨L.pa, 4, none⟩ [.int .i64 x]) := by
 refine ⟨_, awrite_of H.arena (by simp) rfl, ?_⟩
 exact H.setArena hW (t := S.top) (l := S.low) (g := x) (p := S.open_) { H.ok with high := hx } rfl
theorem IsH.wOpen {x : Bool} : Wrote E h L { S with open_ := x } (awrite h ⟨L.pa, 5, none⟩ [.bool x]) := by
 refine ⟨_, awrite_of H.arena (by simp) rfl, ?_⟩
 exact H.setArena hW (t := S.top) (l := S.low) (g := S.high) (p := x) { H.ok with } rfl
end
theorem IsH.ltB {E : Env} {h : Heap} {L : HL} {S : HS} (H : IsH E h L S) (hW : WF E h) : ∀ b, b ∈ L.blocks → E.base ≤ b ∧ b < h.next := by
 intro b hb
 simp only [HL.blocks, List.mem_cons, List.not_mem_nil, or_false] at hb
 rcases hb with rfl | rfl | rfl | rfl | rfl | rfl
 ·exact hW.live _ _ H.heap
 ·exact hW.live _ _ H.arena
 ·exact hW.live _ _ H.table
 ·exact hW.live _ _ H.words
 ·exact hW.live _ _ H.begins
 ·exact hW.live _ _ H.slots
theorem IsH.wMove {E : Env} {h : Heap} {L : HL} {S : HS} (H : IsH E h L S) (hW : WF E h) {f t k : Nat} (hf : f + k ≤ S.W) (ht : t + k ≤ S.W) (hk : 0 < k) :
 ∃ h', awrite h ⟨L.bw, t, none⟩ (((wcells S.W S.w).drop f).take k) = some h' ∧ acells E h ⟨L.bw, f, none⟩ k = some (((wcells S.W S.w).drop f).take k) ∧ (((wcells S.W S.w).drop f).take k).length = k ∧ IsH E h' L { S with w := movN S.w f t k } ∧ KeepB L h h' ∧ WF E h' := by
 have hl : (((wcells S.W S.w).drop f).take k).length = k := by simp [wcells_len]; omega
 have ho : (((wcells S.W S.w).drop f).take k).all Value.oneCell' = true := by
  rw [List.all_eq_true]
  intro v hv
  have := List.mem_of_mem_drop (List.mem_of_mem_take hv)
  unfold wcells at this
  obtain ⟨i, _, rfl⟩ := List.mem_map.1 this
  rfl
 refine ⟨_, awrite_of H.words (by rw [wcells_len, hl]; omega) ho, ?_, hl, ?_⟩
 ·simp [acells, H.n_bw, H.words, wcells_len, hf]
 ·exact H.setWords hW (fun j => by unfold movN; split <;> exact H.ok.w _) (by rw [wcells_mov hf ht])
theorem asl_from {b W i : Nat} (hi : i < W) : asl Tryz.prog 50 (.slice (some ⟨b, 0, none⟩) W W) (some (.int .i64 (i : Int))) none = some (.slice (some ⟨b, i, none⟩) (W - i) (W - i)) := by
 simp only [asl, Tryz.underlying50, abnd, sz33]
 rw [if_pos (by omega)]
 simp [hi, addo]
theorem asl_part {b W i j : Nat} (hi : i < j) (hj : j ≤ W) : asl Tryz.prog 50 (.slice (some ⟨b, 0, none⟩) W W) (some (.int .i64 (i : Int))) (some (.int .i64 (j : Int))) = some (.slice (some ⟨b, i, none⟩) (j - i) (W - i)) := by
 simp only [asl, Tryz.underlying50, abnd, sz33]
 rw [if_pos (by omega)]
 simp only [Int.toNat_natCast]
 rw [if_pos (by omega)]
 simp [show i < W by omega, addo]
variable {E : Env} (hE : EOk E)
include hE
section
variable {h : Heap} {L : HL} {S : HS} (H : IsH E h L S)
include H
theorem agap_at : CallsTo E 118 [.pointer (some ⟨L.pa, 0, none⟩)] h fun v h' => v = .tuple #[.int .i64 S.low, .int .i64 S.high, .bool S.open_] ∧ h' = h := by
 refine en hE Tryz.func118 rfl rfl Tryz.ntmps118 rfl (by decide +kernel) (rs := [.tmp 2, .tmp 3, .tmp 4]) rfl ?_
 simp only [push_cast, seval, hE.P, wpc_label, wpc_block]
 refine wdraw_calm (by rw [hE.P]; decide +kernel) ?_
 simp only [push_cast, seval, hE.P, wpc_label, wpc_block, ↓H.lLow, ↓H.lHigh, ↓H.lOpen]
theorem afromG_at {a : Nat} : CallsTo E 109 [.pointer (some ⟨L.pa, 0, none⟩), .int .i64 a] h fun v h' => v = .int .i64 (if S.open_ = true ∧ a = S.low then S.high else a : Nat) ∧ h' = h := by
 refine en hE Tryz.func109 rfl rfl Tryz.ntmps109 rfl (by decide +kernel) (rs := [.tmp 4]) rfl ?_
 cases hop : S.open_ with
 | false =>
   have ho := H.lOpen
   rw [hop] at ho
   simp only [push_cast, seval, hE.P, wpc_label, wpc_block, ↓ho, false_and]
 | true =>
   have ho := H.lOpen
   rw [hop] at ho
   by_cases e : a = S.low
   ·subst e
    simp only [push_cast, seval, hE.P, wpc_label, wpc_block, ↓ho, ↓H.lLow, ↓H.lHigh]
   ·have e' : ((a : Int) == S.low) = false := by simp; omega
    simp only [push_cast, seval, hE.P, wpc_label, wpc_block, ↓ho, ↓H.lLow, ↓H.lHigh, e', e, and_false]
variable (hW : WF E h)
include hW
theorem aset0_at {a : Nat} (ha : a < S.W) : CallsTo E 152 [.pointer (some ⟨L.pa, 0, none⟩), .int .i64 a, .bool false] h fun v h' =>
 v = .tuple #[] ∧ IsH E h' L { S with bg := updN S.bg (a / 64) (clrB (S.bg (a / 64)) (a % 64)) } ∧ KeepB L h h' ∧ WF E h' := by
 have hWm := H.ok.W
 have hbg := H.ok.bg (a / 64)
 obtain ⟨q, hq⟩ : ∃ q, q = a / 64 := ⟨_, rfl⟩
 obtain ⟨r, hr⟩ : ∃ r, r = a % 64 := ⟨_, rfl⟩
 have hq2 : (a : Int).tdiv 64 = q := by rw [Int.tdiv_eq_ediv_of_nonneg (by omega)]; omega
 have hr2 : (a : Int).tmod 64 = r := by rw [Int.tmod_eq_emod_of_nonneg (by omega)]; omega
 have hrn : ¬ ((r : Int) < 0) := by omega
 rw [← hq] at hbg
 rw [← hq, ← hr]
 obtain ⟨hor, holt⟩ := clr_bit (x := S.bg q) (r := r) hbg (by omega)
 have hq3 : IntKind.i64.wrap (q : Int) = q := wrN (by omega)
 obtain ⟨h1, e1, H1, k1, w1⟩ := H.wBegin hW (i := q) (x := clrB (S.bg q) r) (by omega) holt
 refine en hE Tryz.func152 rfl rfl Tryz.ntmps152 rfl (by decide +kernel) (rs := []) rfl ?_
 simp only [push_cast, seval, hE.P, wpc_label, wpc_block, hr2, hrn, ↓H.lBegins, hq2, hq3]
 rw [ia50 rfl (by omega) (by omega), kpure_some]
 simp only [push_cast, seval, hE.P, wpc_label, wpc_block, hr2, hrn, ↓H.lBegins, hq2, hq3, ↓H.lb (i := q) (by omega)]
 rw [ia50 rfl (by omega) (by omega), kpure_some]
 rw [hor]
 generalize clrB (S.bg q) r = z at *
 simp only [push_cast, seval, hE.P, wpc_label, wpc_block, e1]
 exact ⟨H1, k1, w1⟩
theorem aopen_at (ho : S.open_ = false) : CallsTo E 68 [.pointer (some ⟨L.pa, 0, none⟩)] h fun v h' => v = .int .i64 0 ∧ IsH E h' L { S with open_ := true, low := 0, high := 0 } ∧ KeepB L h h' ∧ WF E h' := by
 have hl := H.lOpen
 rw [ho] at hl
 obtain ⟨h1, e1, H1, k1, w1⟩ := H.wOpen hW (x := true)
 obtain ⟨h2, e2, H2, k2, w2⟩ := H1.wLow w1 (x := 0) (by omega)
 obtain ⟨h3, e3, H3, k3, w3⟩ := H2.wHigh w2 (x := 0) (by omega)
 refine en hE Tryz.func68 rfl rfl Tryz.ntmps68 rfl (by decide +kernel) (rs := [.tmp 2]) rfl ?_
 have e2' : awrite h1 ⟨L.pa, 3, none⟩ [.int .i64 0] = some h2 := e2
 have e3' : awrite h2 ⟨L.pa, 4, none⟩ [.int .i64 0] = some h3 := e3
 simp only [push_cast, seval, hE.P, wpc_label, wpc_block, ↓hl, e1, e2', e3']
 exact ⟨H3, (k1.trans k2).trans k3, w3⟩
theorem aclose_at (ho : S.open_ = true) (hh : S.high = S.top) : CallsTo E 119 [.pointer (some ⟨L.pa, 0, none⟩)] h fun v h' => v = .int .i64 0 ∧ IsH E h' L { S with top := S.low, open_ := false, low := 0, high := 0 } ∧ KeepB L h h' ∧ WF E h' := by
 have hl := H.lOpen
 rw [ho] at hl
 have hhi := H.lHigh
 rw [hh] at hhi
 obtain ⟨h0, e0, H0, k0, w0⟩ := H.wTop hW (x := S.low) H.ok.low
 obtain ⟨h1, e1, H1, k1, w1⟩ := H0.wOpen w0 (x := false)
 obtain ⟨h2, e2, H2, k2, w2⟩ := H1.wLow w1 (x := 0) (by omega)
 obtain ⟨h3, e3, H3, k3, w3⟩ := H2.wHigh w2 (x := 0) (by omega)
 refine en hE Tryz.func119 rfl rfl Tryz.ntmps119 rfl (by decide +kernel) (rs := [.tmp 2]) rfl ?_
 simp only [push_cast, seval, hE.P, wpc_label, wpc_block, ↓hl]
 refine wdraw_calm (by rw [hE.P]; decide +kernel) ?_
 have e2' : awrite h1 ⟨L.pa, 3, none⟩ [.int .i64 0] = some h2 := e2
 have e3' : awrite h2 ⟨L.pa, 4, none⟩ [.int .i64 0] = some h3 := e3
 simp only [push_cast, seval, hE.P, wpc_label, wpc_block, ↓hhi, ↓H.lTop, ↓H.lLow, e0, e1, e2', e3']
 exact ⟨H3, ((k0.trans k1).trans k2).trans k3, w3⟩
theorem abehind_at (ho : S.open_ = true) (hh : S.high < S.top) : CallsTo E 151 [.pointer (some ⟨L.pa, 0, none⟩)] h fun v h' =>
 v = .tuple #[.agg #[.int .i64 (unpackN (S.w S.high)).tag, .int .i64 (unpackN (S.w S.high)).refs, .int .i64 (unpackN (S.w S.high)).size, .bool (unpackN (S.w S.high)).mark, .int .i64 (unpackN (S.w S.high)).owner], .int .i64 0] ∧ Keep h h' ∧ WF E h' := by
 have hl := H.lOpen
 rw [ho] at hl
 have htop := H.ok.top
 have hWm := H.ok.W
 have e1 : ((S.high : Int) == S.top) = false := by simp; omega
 have k1 := (Keep.refl h).push (o := .cells [.int .i64 0, .int .i64 0, .int .i64 0, .bool false, .int .i64 0] 103 true) hW
 have w1 := hW.push (.cells [.int .i64 0, .int .i64 0, .int .i64 0, .bool false, .int .i64 0] 103 true)
 have H1 := H.keep k1
 have hl1 := H1.lOpen
 rw [ho] at hl1
 refine en hE Tryz.func151 rfl rfl Tryz.ntmps151 rfl (by decide +kernel) (rs := [.cell 2 103, .tmp 3]) rfl ?_
 simp only [push_cast, seval, hE.P, wpc_label, wpc_block, hW.nb, hW.nb0, ↓hl1]
 refine wdraw_calm (by rw [hE.P]; decide +kernel) ?_
 simp only [push_cast, seval, hE.P, wpc_label, wpc_block, hW.nb, hW.nb0, ↓H1.lHigh, ↓H1.lTop, e1]
 refine wdraw_calm (by rw [hE.P]; decide +kernel) ?_
 simp only [push_cast, seval, hE.P, wpc_label, wpc_block, hW.nb, hW.nb0, ↓H1.lHigh, ↓H1.lTop, ↓H1.lWords]
 rw [ia50 rfl (by omega) (by omega), kpure_some]
 simp only [push_cast, seval, hE.P, wpc_label, wpc_block, ↓H1.lw (i := S.high) (by omega)]
 refine (unpacked_at hE w1 (H.ok.w S.high)).mono ?_
 rintro v h2 ⟨rfl, hk2, hw2⟩
 have g2 := hk2.get h.next _ (by simp only [get_push, if_true]; rfl)
 simp only [push_cast, seval, hE.P, wpc_label, wpc_block, g2, hW.nb0, awrite]
 exact ⟨(k1.trans hk2).putNew hW (Nat.le_refl _), hw2.put g2⟩
theorem amark_at {a : Nat} (ha : isAt S a = true) {on : Bool} : CallsTo E 114 [.pointer (some ⟨L.pa, 0, none⟩), .int .i64 a, .bool on] h fun v h' =>
 v = .int .i64 0 ∧ IsH E h' L { S with w := updN S.w a (packN { unpackN (S.w a) with mark := on }) } ∧ KeepB L h h' ∧ WF E h' := by
 have hlt : a < S.W := by unfold isAt at ha; simp at ha; exact ha.1
 have hWm := H.ok.W
 have hh : headAt S a = unpackN (S.w a) := by unfold headAt; unfold isAt at ha; rw [if_pos ha]
 refine en hE Tryz.func114 rfl rfl Tryz.ntmps114 rfl (by decide +kernel) (rs := [.tmp 6]) rfl ?_
 simp only [push_cast, seval, hE.P, wpc_label, wpc_block]
 refine (ahead_at hE H hW (a := a) (by omega)).mono ?_
 rintro v h1 ⟨rfl, k1, w1⟩
 rw [hh, ha]
 obtain ⟨d, hd⟩ : ∃ d, d = unpackN (S.w a) := ⟨_, rfl⟩
 rw [← hd]
 have hdo : d.ok := by rw [hd]; exact unpack_ok _
 have k2 := k1.push (o := .cells [.int .i64 d.tag, .int .i64 d.refs, .int .i64 d.size, .bool on, .int .i64 d.owner] 103 true) w1
 have w2 := w1.push (.cells [.int .i64 d.tag, .int .i64 d.refs, .int .i64 d.size, .bool on, .int .i64 d.owner] 103 true)
 have H2 := H.keep k2
 simp only [push_cast, seval, hE.P, wpc_label, wpc_block, w1.nb, w1.nb0, if_true, awrite]
 have nb1 : (h1.next < E.base) = False := w1.nb0
 have g1 : (h1.push (.cells [.int .i64 d.tag, .int .i64 d.refs, .int .i64 d.size, .bool on, .int .i64 d.owner] 103 true)).get h1.next = some (.cells [.int .i64 d.tag, .int .i64 d.refs, .int .i64 d.size, .bool on, .int .i64 d.owner] 103 true) := by rw [get_push, if_pos rfl]
 generalize h1.push (.cells [.int .i64 d.tag, .int .i64 d.refs, .int .i64 d.size, .bool on, .int .i64 d.owner] 103 true) = h2 at *
 refine wdraw_pairsF [(3, 6)] (by rw [hE.P]; decide +kernel) (by rw [hE.P]; decide +kernel) (by rw [hE.P]; decide +kernel) ?_
 intro F hF
 simp only [push_cast, seval, hE.P, wpc_label, wpc_block, wpu_nil, wpu_cons, wpu_guard, nb1, g1, ↓H2.lWords]
 refine (packed_at hE w2 (d := { d with mark := on }) hdo).mono ?_
 rintro v h3 ⟨rfl, k3, w3⟩
 have H3 := H2.keep k3
 obtain ⟨h4, e4, H4, k4, w4⟩ := H3.wWord w3 (i := a) (x := packN { d with mark := on }) hlt (Nat.lt_trans (pack_lt hdo) (by decide))
 simp only [push_cast, seval, hE.P, wpc_label, wpc_block, wpu_nil, wpu_cons, wpu_guard]
 rw [ia50 rfl (by omega) (by omega), kpure_some]
 generalize packN { d with mark := on } = z at *
 simp only [push_cast, seval, hE.P, wpc_label, wpc_block, wpu_nil, wpu_cons, wpu_guard, e4]
 refine hF _ (fun pr hpr => ?_) ?_
 ·simp only [List.mem_singleton] at hpr
  subst hpr
  have l2 := H2.lWords
  have l3 := H3.lWords
  simp only [push_cast, seval, hE.P, wpc_label, wpc_block, pairOk, ↓l2, ↓l3]
 ·simp only [push_cast, seval, hE.P, wpc_label, wpc_block]
  exact ⟨H4, ((k2.b L).trans (k3.b L)).trans k4, w4⟩
theorem askip_at (ho : S.open_ = true) (hh : S.high < S.top) (hn : S.high + 1 + (unpackN (S.w S.high)).size ≤ S.W) : CallsTo E 120 [.pointer (some ⟨L.pa, 0, none⟩)] h fun v h' =>
 v = .tuple #[.int .i64 S.high, .int .i64 0] ∧ IsH E h' L { S with bg := updN S.bg (S.high / 64) (clrB (S.bg (S.high / 64)) (S.high % 64)), high := S.high + 1 + (unpackN (S.w S.high)).size } ∧ KeepB L h h' ∧ WF E h' := by
 have hWm := H.ok.W
 refine en hE Tryz.func120 rfl rfl Tryz.ntmps120 rfl (by decide +kernel) (rs := [.tmp 2, .tmp 3]) rfl ?_
 simp only [push_cast, seval, hE.P, wpc_label, wpc_block]
 refine (abehind_at hE H hW ho hh).mono ?_
 rintro v h1 ⟨rfl, k1, w1⟩
 obtain ⟨d, hd⟩ : ∃ d, d = unpackN (S.w S.high) := ⟨_, rfl⟩
 rw [← hd] at hn ⊢
 have k2 := k1.push (o := .cells [.int .i64 d.tag, .int .i64 d.refs, .int .i64 d.size, .bool d.mark, .int .i64 d.owner] 103 true) w1
 have w2 := w1.push (.cells [.int .i64 d.tag, .int .i64 d.refs, .int .i64 d.size, .bool d.mark, .int .i64 d.owner] 103 true)
 have H2 := H.keep k2
 have nb1 : (h1.next < E.base) = False := w1.nb0
 have hfr : h1.next ∉ L.blocks := fun hb => by have := (H.ltB hW _ hb).2; have := k1.next; omega
 have g1 : (h1.push (.cells [.int .i64 d.tag, .int .i64 d.refs, .int .i64 d.size, .bool d.mark, .int .i64 d.owner] 103 true)).get h1.next = some (.cells [.int .i64 d.tag, .int .i64 d.refs, .int .i64 d.size, .bool d.mark, .int .i64 d.owner] 103 true) := by rw [get_push, if_pos rfl]
 simp only [push_cast, seval, hE.P, wpc_label, wpc_block, w1.nb, w1.nb0, awrite, ↓H2.lHigh]
 generalize h1.push (.cells [.int .i64 d.tag, .int .i64 d.refs, .int .i64 d.size, .bool d.mark, .int .i64 d.owner] 103 true) = h2 at *
 refine (aset0_at hE H2 w2 (a := S.high) (by have := H.ok.top; omega)).mono ?_
 rintro v h3 ⟨rfl, H3, k3, w3⟩
 have g3 := k3.get _ _ hfr g1
 obtain ⟨q, hq⟩ : ∃ q, q = S.high + 1 + d.size := ⟨_, rfl⟩
 have hd8 : d.size < 8192 := by rw [hd]; exact (unpack_ok _).2.2.1
 obtain ⟨p, hp⟩ : ∃ p, p = 1 + d.size := ⟨_, rfl⟩
 have e1 : (1 : Int) + d.size = p := by omega
 have e2 : IntKind.i64.wrap (p : Int) = p := wrN (by omega)
 have e3 : (S.high : Int) + p = q := by omega
 have e4 : IntKind.i64.wrap (q : Int) = q := wrN (by omega)
 rw [← hq]
 obtain ⟨h4, e5, H4, k4, w4⟩ := H3.wHigh w3 (x := q) (by rw [hq]; exact hn)
 simp only [push_cast, seval, hE.P, wpc_label, wpc_block]
 refine wdraw_calm (by rw [hE.P]; decide +kernel) ?_
 simp only [push_cast, seval, hE.P, wpc_label, wpc_block, ↓H3.lHigh, g3, nb1, e1, e2, e3, e4, e5]
 exact ⟨H4, ((k2.b L).trans k3).trans k4, w4⟩
theorem akeep_at (ho : S.open_ = true) (hh : S.high < S.top) (hn : S.high + 1 + (unpackN (S.w S.high)).size ≤ S.W) (hl : S.low ≤ S.high) : CallsTo E 122 [.pointer (some ⟨L.pa, 0, none⟩)] h fun v h' =>
 v = .tuple #[.int .i64 S.high, .int .i64 S.low, .int .i64 0] ∧ IsH E h' L (HS.kept S) ∧ KeepB L h h' ∧ WF E h' := by
 have hWm := H.ok.W
 refine en hE Tryz.func122 rfl rfl Tryz.ntmps122 rfl (by decide +kernel) (rs := [.tmp 2, .tmp 3, .tmp 4]) rfl ?_
 simp only [push_cast, seval, hE.P, wpc_label, wpc_block]
 refine (abehind_at hE H hW ho hh).mono ?_
 rintro v h1 ⟨rfl, k1, w1⟩
 unfold HS.kept
 obtain ⟨d, hd⟩ : ∃ d, d = unpackN (S.w S.high) := ⟨_, rfl⟩
 rw [← hd] at hn ⊢
 have k2 := k1.push (o := .cells [.int .i64 d.tag, .int .i64 d.refs, .int .i64 d.size, .bool d.mark, .int .i64 d.owner] 103 true) w1
 have w2 := w1.push (.cells [.int .i64 d.tag, .int .i64 d.refs, .int .i64 d.size, .bool d.mark, .int .i64 d.owner] 103 true)
 have H2 := H.keep k2
 have nb1 : (h1.next < E.base) = False := w1.nb0
 have hfr : h1.next ∉ L.blocks := fun hb => by have := (H.ltB hW _ hb).2; have := k1.next; omega
 have g1 : (h1.push (.cells [.int .i64 d.tag, .int .i64 d.refs, .int .i64 d.size, .bool d.mark, .int .i64 d.owner] 103 true)).get h1.next = some (.cells [.int .i64 d.tag, .int .i64 d.refs, .int .i64 d.size, .bool d.mark, .int .i64 d.owner] 103 true) := by rw [get_push, if_pos rfl]
 simp only [push_cast, seval, hE.P, wpc_label, wpc_block, w1.nb, w1.nb0, awrite]
 refine wdraw_calm (by rw [hE.P]; decide +kernel) ?_
 simp only [push_cast, seval, hE.P, wpc_label, wpc_block, w1.nb, w1.nb0, ↓H2.lHigh, ↓H2.lLow]
 generalize h1.push (.cells [.int .i64 d.tag, .int .i64 d.refs, .int .i64 d.size, .bool d.mark, .int .i64 d.owner] 103 true) = h2 at *
 refine (aset0_at hE H2 w2 (a := S.high) (by have := H.ok.top; omega)).mono ?_
 rintro v h3 ⟨rfl, H3, k3, w3⟩
 have g3 := k3.get _ _ hfr g1
 refine kput_gen ?_
 intro tm hf
 have f0 := hf 0; have f2 := hf 2; have f3 := hf 3; have f5 := hf 5
 clear hf
 simp only [push_cast, seval] at f0 f2 f3 f5
 simp only [push_cast, seval, hE.P, wpc_label, wpc_block, f0, f2, f3, f5]
 refine wdraw_calm (by rw [hE.P]; decide +kernel) ?_
 have hd8 : d.size < 8192 := by rw [hd]; exact (unpack_ok _).2.2.1
 have hlo : S.low < S.W := by have := H.ok.top; omega
 obtain ⟨hf, hfe⟩ : ∃ hf, hf = S.high + 1 := ⟨_, rfl⟩
 obtain ⟨hg, hge⟩ : ∃ hg, hg = S.high + 1 + d.size := ⟨_, rfl⟩
 have e1 : (S.high : Int) + 1 = hf := by omega
 have e2 : IntKind.i64.wrap (hf : Int) = hf := wrN (by omega)
 have e3 : (hf : Int) + d.size = hg := by omega
 have e4 : IntKind.i64.wrap (hg : Int) = hg := wrN (by omega)
 have es1 := asl_from (b := L.bw) hlo
 have es2 := asl_part (b := L.bw) (W := S.W) (i := S.high) (j := hg) (by omega) (by omega)
 obtain ⟨h4, c1, c2, c3, H4, k4, w4⟩ := H3.wMove w3 (f := S.high) (t := S.low) (k := 1 + d.size) (by show S.high + (1 + d.size) ≤ S.W; omega) (by show S.low + (1 + d.size) ≤ S.W; omega) (by omega)
 have hcp : acopy E h3 50 (.slice (some ⟨L.bw, S.low, none⟩) (S.W - S.low) (S.W - S.low)) (.slice (some ⟨L.bw, S.high, none⟩) (hg - S.high) (S.W - S.high)) = some (.int .i64 (1 + d.size : Nat), h4) := by
  have hm : Nat.min (hg - S.high) (S.W - S.low) = 1 + d.size := by
   show min _ _ = _
   omega
  simp only [acopy, hE.P, Tryz.underlying50, alenOf, sz33, hm]
  rw [if_neg (by omega)]
  simp only [asrc, Nat.mul_one]
  rw [if_neg (by omega), c2]
  simp only [c3, if_true, c1, Option.map_some]
 simp only [push_cast, seval, hE.P, wpc_label, wpc_block, f0, f2, f3, f5, ↓H3.lWords, g3, nb1, e1, e2, e3, e4, es1, es2, hcp]
 refine (aset_at hE H4 w4 (a := S.low) hlo).mono ?_
 rintro v h5 ⟨rfl, H5, k5, w5⟩
 have g4 := k4.get _ _ hfr g3
 have g5 := k5.get _ _ hfr g4
 obtain ⟨lf, hlfe⟩ : ∃ lf, lf = S.low + 1 := ⟨_, rfl⟩
 obtain ⟨lg, hlge⟩ : ∃ lg, lg = S.low + 1 + d.size := ⟨_, rfl⟩
 have e5 : (S.low : Int) + 1 = lf := by omega
 have e6 : IntKind.i64.wrap (lf : Int) = lf := wrN (by omega)
 have e7 : (lf : Int) + d.size = lg := by omega
 have e8 : IntKind.i64.wrap (lg : Int) = lg := wrN (by omega)
 obtain ⟨h6, e9, H6, k6, w6⟩ := H5.wLow w5 (x := lg) (by show lg ≤ S.W; omega)
 obtain ⟨h7, e10, H7, k7, w7⟩ := H6.wHigh w6 (x := hg) (by show hg ≤ S.W; omega)
 rw [← hge, ← hlge]
 simp only [push_cast, seval, hE.P, wpc_label, wpc_block, f0, f2, f3, f5]
 have g6 := k6.get _ _ hfr g5
 refine wdraw_pairsF [(10, 14)] (by rw [hE.P]; decide +kernel) (by rw [hE.P]; decide +kernel) (by rw [hE.P]; decide +kernel) ?_
 intro F hF
 simp only [push_cast, seval, hE.P, wpc_label, wpc_block, wpu_nil, wpu_cons, wpu_guard, f0, f2, f3, f5, g5, nb1, e1, e2, e3, e4, e5, e6, e7, e8, e9, e10]
 refine hF _ (fun pr hpr => ?_) ?_
 ·simp only [List.mem_singleton] at hpr
  subst hpr
  simp only [push_cast, seval, hE.P, wpc_label, wpc_block, pairOk, g5, g6, nb1]
 ·simp only [push_cast, seval, hE.P, wpc_label, wpc_block, f2, f3]
  exact ⟨H7, (((((k2.b L).trans k3).trans k4).trans k5).trans k6).trans k7, w7⟩
end
end Go.Proofs.YthfopcdammlmfaaGreatDoor
namespace Go.Proofs.YthfopcdammlmfaaGreatDoor
open Go.Tm
def HS.nxt (S : HS) : Nat := if 0 < S.freed then S.freed - 1 else S.fresh
def HS.take (S : HS) (a : Nat) : HS :=
 { S with sl := updN S.sl S.nxt ⟨(S.sl S.nxt).gen, true, a, 0⟩, fresh := (if 0 < S.freed then S.fresh else S.fresh + 1), freed := (if 0 < S.freed then (S.sl S.nxt).next else 0), cnt := S.cnt + 1 }
def HS.free (S : HS) (i : Nat) : HS := { S with sl := updN S.sl i ⟨(S.sl i).gen + 1, false, 0, S.freed⟩, freed := i + 1, cnt := S.cnt - 1 }
def HS.moved (S : HS) (i a : Nat) : HS := { S with sl := updN S.sl i ⟨(S.sl i).gen, (S.sl i).taken, a, (S.sl i).next⟩ }
section
variable {E : Env} {h : Heap} {L : HL} {S : HS} (H : IsH E h L S) (hW : WF E h)
include H hW
theorem IsH.wSlot4 {i : Nat} {s : Slot} (hi : i < S.nS) (hg : s.gen < 4294967296) (ha : s.at_ ≤ 1048576) (hn : s.next ≤ 1048576) :
 Wrote E h L { S with sl := updN S.sl i s } (awrite h ⟨L.bs, i * 4, none⟩ (scell s)) := by
 refine ⟨_, awrite_of H.slots (by rw [scells_len]; simp [scell]; omega) rfl, ?_⟩
 refine H.setSlots hW (sl := updN S.sl i s) { H.ok with gen := fun k => ?_, at_ := fun k => ?_, next := fun k => ?_ } ?_
 rotate_left 3
 ·have := scells_set (n := S.nS) (sl := S.sl) (i := i) (j := 0) (vs := scell s) (s := s) hi (by simp [scell]) (by simp [scell, splice])
  rw [Nat.add_zero] at this
  rw [this]
 ·show (updN S.sl i s k).gen < _; unfold updN; split; exact hg; exact H.ok.gen k
 ·show (updN S.sl i s k).at_ ≤ _; unfold updN; split; exact ha; exact H.ok.at_ k
 ·show (updN S.sl i s k).next ≤ _; unfold updN; split; exact hn; exact H.ok.next k
end
variable {E : Env} (hE : EOk E)
include hE
section
variable {h : Heap} {L : HL} {S : HS} (H : IsH E h L S)
include H
theorem tnextG_at : CallsTo E 178 [.pointer (some ⟨L.pt, 0, none⟩)] h fun v h' => v = .int .i64 S.nxt ∧ h' = h := by
 have hn := H.ok.nS
 have hf := H.ok.freed
 unfold HS.nxt
 by_cases h0 : 0 < S.freed
 ·have e1 : decide ((S.freed : Int) > 0) = true := by simp; omega
  obtain ⟨k, hk⟩ : ∃ k, k = S.freed - 1 := ⟨_, rfl⟩
  have e2 : (S.freed : Int) - 1 = k := by omega
  have e3 : IntKind.i64.wrap (k : Int) = k := wrN (by omega)
  rw [if_pos h0, ← hk]
  refine en hE Tryz.func178 rfl rfl Tryz.ntmps178 rfl (by decide +kernel) (rs := [.tmp 2]) rfl ?_
  simp only [push_cast, seval, hE.P, wpc_label, wpc_block, ↓H.lFreed, e1, e2, e3]
 ·have e1 : decide ((S.freed : Int) > 0) = false := by simp; omega
  rw [if_neg h0]
  refine en hE Tryz.func178 rfl rfl Tryz.ntmps178 rfl (by decide +kernel) (rs := [.tmp 2]) rfl ?_
  simp only [push_cast, seval, hE.P, wpc_label, wpc_block, ↓H.lFreed, ↓H.lFresh, e1]
theorem tofG_at {i : Nat} (hi : i < S.nS) (ht : (S.sl i).taken = true) : CallsTo E 58 [.pointer (some ⟨L.pt, 0, none⟩), .int .i64 i] h fun v h' => v = .tuple #[.int .u64 (hnd S i), .int .i64 0] ∧ h' = h := by
 have hnS := H.ok.nS
 have e1 : decide ((i : Int) < 0) = false := by simp
 have e2 : decide ((i : Int) ≥ S.nS) = false := by simp; omega
 have h1 := H.lTaken (i := i) hi
 rw [ht] at h1
 refine en hE Tryz.func58 rfl rfl Tryz.ntmps58 rfl (by decide +kernel) (rs := [.tmp 4, .tmp 5]) rfl ?_
 simp only [push_cast, seval, hE.P, wpc_label, wpc_block, e1, e2, ↓H.lSlots]
 rw [ia92 rfl (by omega) (by omega), kpure_some]
 simp only [push_cast, seval, hE.P, wpc_label, wpc_block, ↓h1]
 refine (thandle_at hE H (i := i) (by omega)).mono ?_
 rintro v h1 ⟨rfl, rfl⟩
 simp only [push_cast, seval, hE.P, wpc_label, wpc_block]
variable (hW : WF E h)
include hW
theorem tmove_at {x i a : Nat} (hx : x < 18446744073709551616) (hs : slotOf S x = some i) (ha : a ≤ 1048576) : CallsTo E 123 [.pointer (some ⟨L.pt, 0, none⟩), .int .u64 x, .int .i64 a] h fun v h' =>
 v = .int .i64 0 ∧ IsH E h' L (S.moved i a) ∧ KeepB L h h' ∧ WF E h' := by
 have hnS := H.ok.nS
 obtain ⟨_, _, hi, _, _⟩ := slotOf_some hs
 have e1 : decide ((a : Int) < 0) = false := by simp
 obtain ⟨h2, e2, H2, k2, w2⟩ := H.wSlot hW (i := i) (j := 2) (v := .int .i64 a) (s := ⟨(S.sl i).gen, (S.sl i).taken, a, (S.sl i).next⟩) hi (by omega) rfl rfl (H.ok.gen _) ha (H.ok.next _)
 refine en hE Tryz.func123 rfl rfl Tryz.ntmps123 rfl (by decide +kernel) (rs := [.tmp 6]) rfl ?_
 simp only [push_cast, seval, hE.P, wpc_label, wpc_block]
 refine (tfind_at hE H hx).mono ?_
 rintro v h1 ⟨rfl, rfl⟩
 rw [hs]
 simp only [push_cast, seval, hE.P, wpc_label, wpc_block, errOf, Option.getD_some, e1, ↓H.lSlots]
 rw [ia92 rfl (by omega) (by omega), kpure_some]
 simp only [push_cast, seval, hE.P, wpc_label, wpc_block, e2]
 exact ⟨H2, k2, w2⟩
theorem tfree_at {x i : Nat} (hx : x < 18446744073709551616) (hs : slotOf S x = some i) (hg : (S.sl i).gen + 1 < 4294967296) (hc : 0 < S.cnt) : CallsTo E 121 [.pointer (some ⟨L.pt, 0, none⟩), .int .u64 x] h fun v h' =>
 v = .int .i64 0 ∧ IsH E h' L (S.free i) ∧ KeepB L h h' ∧ WF E h' := by
 have hnS := H.ok.nS
 have hfr := H.ok.freed
 have hcn := H.ok.cnt
 obtain ⟨_, _, hi, _, _⟩ := slotOf_some hs
 obtain ⟨g, hg1⟩ : ∃ g, g = (S.sl i).gen + 1 := ⟨_, rfl⟩
 have e1 : ((S.sl i).gen : Int) + 1 = g := by omega
 have e2 : IntKind.u32.wrap (g : Int) = g := by unfold IntKind.wrap; simp [IntKind.signed, IntKind.bits]; omega
 obtain ⟨j, hj⟩ : ∃ j, j = i + 1 := ⟨_, rfl⟩
 have e3 : (i : Int) + 1 = j := by omega
 have e4 : IntKind.i64.wrap (j : Int) = j := wrN (by omega)
 obtain ⟨c, hc1⟩ : ∃ c, c = S.cnt - 1 := ⟨_, rfl⟩
 have e5 : (S.cnt : Int) - 1 = c := by omega
 have e6 : IntKind.i64.wrap (c : Int) = c := wrN (by omega)
 unfold HS.free
 rw [← hg1, ← hj, ← hc1]
 obtain ⟨h2, w2e, H2, k2, w2⟩ := H.wSlot4 hW (i := i) (s := ⟨g, false, 0, S.freed⟩) hi (by show g < _; omega) (Nat.zero_le _) (by show S.freed ≤ _; omega)
 obtain ⟨h3, w3e, H3, k3, w3⟩ := H2.wFreed w2 (x := j) (by show j ≤ S.nS; omega)
 obtain ⟨h4, w4e, H4, k4, w4⟩ := H3.wCnt w3 (x := c) (by show c ≤ S.nS; omega)
 have w2e' : awrite h ⟨L.bs, i * 4, none⟩ [.int .u32 g, .bool false, .int .i64 0, .int .i64 S.freed] = some h2 := w2e
 refine en hE Tryz.func121 rfl rfl Tryz.ntmps121 rfl (by decide +kernel) (rs := [.tmp 4]) rfl ?_
 simp only [push_cast, seval, hE.P, wpc_label, wpc_block]
 refine (tfind_at hE H hx).mono ?_
 rintro v h1 ⟨rfl, rfl⟩
 rw [hs]
 simp only [push_cast, seval, hE.P, wpc_label, wpc_block, errOf, Option.getD_some, ↓H.lSlots]
 rw [ia92 rfl (by omega) (by omega), kpure_some]
 simp only [push_cast, seval, hE.P, wpc_label, wpc_block]
 refine wdraw_calm (by rw [hE.P]; decide +kernel) ?_
 simp only [push_cast, seval, hE.P, wpc_label, wpc_block, ↓H.lGen hi, ↓H.lFreed, e1, e2, e3, e4, w2e', w3e, ↓H3.lCnt, e5, e6, w4e]
 exact ⟨H4, (k2.trans k3).trans k4, w4⟩
theorem tmakeG_at {a : Nat} (ha : a ≤ 1048576) (hlt : S.nxt < S.nS) (hcl : S.cnt < S.nS) (hfr : S.freed = 0 ∨ (S.sl S.nxt).next ≤ S.nS) : CallsTo E 168 [.pointer (some ⟨L.pt, 0, none⟩), .int .i64 a] h fun v h' =>
 v = .tuple #[.int .u64 (hnd S S.nxt), .int .i64 0] ∧ IsH E h' L (S.take a) ∧ KeepB L h h' ∧ WF E h' := by
 have hn := H.ok.nS
 have hc := H.ok.cnt
 have hfd := H.ok.freed
 have g0 : decide ((a : Int) < 0) = false := by simp
 have g2 : ((S.cnt : Int) == (S.nS : Int)) = false := by simp; omega
 obtain ⟨i, hi⟩ : ∃ i, i = S.nxt := ⟨_, rfl⟩
 have hgen := H.ok.gen i
 obtain ⟨c1, hc1⟩ : ∃ c1, c1 = S.cnt + 1 := ⟨_, rfl⟩
 have hc2 : (S.cnt : Int) + 1 = c1 := by omega
 have hw1 : IntKind.i64.wrap (c1 : Int) = c1 := wrN (by omega)
 unfold HS.take
 rw [← hi] at hlt hfr ⊢
 refine en hE Tryz.func168 rfl rfl Tryz.ntmps168 rfl (by decide +kernel) (rs := [.tmp 4, .tmp 5]) rfl ?_
 simp only [push_cast, seval, hE.P, wpc_label, wpc_block, g0]
 refine wdraw_calm (by rw [hE.P]; decide +kernel) ?_
 simp only [push_cast, seval, hE.P, wpc_label, wpc_block, ↓H.lSlots, ↓H.lCnt, g2]
 refine (tnextG_at hE H).mono ?_
 rintro v h1 ⟨rfl, rfl⟩
 rw [← hi]
 simp only [push_cast, seval, hE.P, wpc_label, wpc_block, ↓H.lSlots]
 rw [ia92 rfl (by omega) (by omega), kpure_some]
 by_cases h0 : 0 < S.freed
 ·have e1 : decide ((S.freed : Int) > 0) = true := by simp; omega
  have hnx : (S.sl i).next ≤ S.nS := hfr.resolve_left (by omega)
  obtain ⟨h2, e2, H2, k2, w2⟩ := H.wFreed hW (x := (S.sl i).next) hnx
  obtain ⟨h3, e3, H3, k3, w3⟩ := H2.wSlot w2 (i := i) (j := 1) (v := .bool true) (s := ⟨(S.sl i).gen, true, (S.sl i).at_, (S.sl i).next⟩) hlt (by omega) rfl rfl (H.ok.gen _) (H.ok.at_ _) (H.ok.next _)
  obtain ⟨h4, e4, H4, k4, w4⟩ := H3.wSlot w3 (i := i) (j := 2) (v := .int .i64 a) (s := ⟨(S.sl i).gen, true, a, (S.sl i).next⟩) hlt (by omega) rfl (by show splice (scell (updN S.sl i _ i)) 2 _ = _; rw [updN_same]; rfl) (H.ok.gen _) ha (H.ok.next _)
  obtain ⟨h5, e5, H5, k5, w5⟩ := H4.wSlot w4 (i := i) (j := 3) (v := .int .i64 0) (s := ⟨(S.sl i).gen, true, a, 0⟩) hlt (by omega) rfl (by show splice (scell (updN (updN S.sl i _) i _ i)) 3 _ = _; rw [updN_same]; rfl) (H.ok.gen _) ha (Nat.zero_le _)
  obtain ⟨h6, e6, H6, k6, w6⟩ := H5.wCnt w5 (x := c1) (by show c1 ≤ S.nS; omega)
  have hsl : updN (updN (updN S.sl i ⟨(S.sl i).gen, true, (S.sl i).at_, (S.sl i).next⟩) i ⟨(S.sl i).gen, true, a, (S.sl i).next⟩) i ⟨(S.sl i).gen, true, a, 0⟩ = updN S.sl i ⟨(S.sl i).gen, true, a, 0⟩ := by rw [updN_updN, updN_updN]
  have H6' : IsH E h6 L { S with sl := updN S.sl i ⟨(S.sl i).gen, true, a, 0⟩, freed := (S.sl i).next, cnt := c1 } := by
   have := H6
   simp only [hsl] at this
   exact this
  have hh : hnd { S with sl := updN S.sl i ⟨(S.sl i).gen, true, a, 0⟩, freed := (S.sl i).next, cnt := c1 } i = hnd S i := by unfold hnd; simp only [updN_same]
  simp only [push_cast, seval, hE.P, wpc_label, wpc_block, ↓H.lFreed, e1, ↓H.lNext hlt, e2, e3, e4, e5, ↓H5.lCnt, hc2, hw1, e6]
  refine (thandle_at hE H6' (i := i) hlt).mono ?_
  rintro v h7 ⟨rfl, rfl⟩
  rw [hh]
  simp only [push_cast, seval, hE.P, wpc_label, wpc_block]
  rw [if_pos h0, if_pos h0, ← hc1]
  exact ⟨H6', (((k2.trans k3).trans k4).trans k5).trans k6, w6⟩
 ·have e1 : decide ((S.freed : Int) > 0) = false := by simp; omega
  have hf0 : S.freed = 0 := by omega
  have hif : i = S.fresh := by rw [hi]; unfold HS.nxt; rw [if_neg h0]
  obtain ⟨f1, hf1⟩ : ∃ f1, f1 = S.fresh + 1 := ⟨_, rfl⟩
  have hf2 : (S.fresh : Int) + 1 = f1 := by omega
  have hf3 : IntKind.i64.wrap (f1 : Int) = f1 := wrN (by omega)
  obtain ⟨h2, e2, H2, k2, w2⟩ := H.wFresh hW (x := f1) (by omega)
  obtain ⟨h3, e3, H3, k3, w3⟩ := H2.wSlot w2 (i := i) (j := 1) (v := .bool true) (s := ⟨(S.sl i).gen, true, (S.sl i).at_, (S.sl i).next⟩) hlt (by omega) rfl rfl (H.ok.gen _) (H.ok.at_ _) (H.ok.next _)
  obtain ⟨h4, e4, H4, k4, w4⟩ := H3.wSlot w3 (i := i) (j := 2) (v := .int .i64 a) (s := ⟨(S.sl i).gen, true, a, (S.sl i).next⟩) hlt (by omega) rfl (by show splice (scell (updN S.sl i _ i)) 2 _ = _; rw [updN_same]; rfl) (H.ok.gen _) ha (H.ok.next _)
  obtain ⟨h5, e5, H5, k5, w5⟩ := H4.wSlot w4 (i := i) (j := 3) (v := .int .i64 0) (s := ⟨(S.sl i).gen, true, a, 0⟩) hlt (by omega) rfl (by show splice (scell (updN (updN S.sl i _) i _ i)) 3 _ = _; rw [updN_same]; rfl) (H.ok.gen _) ha (Nat.zero_le _)
  obtain ⟨h6, e6, H6, k6, w6⟩ := H5.wCnt w5 (x := c1) (by show c1 ≤ S.nS; omega)
  have hsl : updN (updN (updN S.sl i ⟨(S.sl i).gen, true, (S.sl i).at_, (S.sl i).next⟩) i ⟨(S.sl i).gen, true, a, (S.sl i).next⟩) i ⟨(S.sl i).gen, true, a, 0⟩ = updN S.sl i ⟨(S.sl i).gen, true, a, 0⟩ := by rw [updN_updN, updN_updN]
  have H6' : IsH E h6 L { S with sl := updN S.sl i ⟨(S.sl i).gen, true, a, 0⟩, fresh := f1, freed := 0, cnt := c1 } := by
   have := H6
   simp only [hsl, hf0] at this
   exact this
  have hh : hnd { S with sl := updN S.sl i ⟨(S.sl i).gen, true, a, 0⟩, fresh := f1, freed := 0, cnt := c1 } i = hnd S i := by unfold hnd; simp only [updN_same]
  simp only [push_cast, seval, hE.P, wpc_label, wpc_block, ↓H.lFreed, ↓H.lFresh, e1, hf2, hf3, e2, e3, e4, e5, ↓H5.lCnt, hc2, hw1, e6]
  refine (thandle_at hE H6' (i := i) hlt).mono ?_
  rintro v h7 ⟨rfl, rfl⟩
  rw [hh]
  simp only [push_cast, seval, hE.P, wpc_label, wpc_block]
  rw [if_neg h0, if_neg h0, ← hc1, ← hf1]
  exact ⟨H6', (((k2.trans k3).trans k4).trans k5).trans k6, w6⟩
end
end Go.Proofs.YthfopcdammlmfaaGreatDoor
