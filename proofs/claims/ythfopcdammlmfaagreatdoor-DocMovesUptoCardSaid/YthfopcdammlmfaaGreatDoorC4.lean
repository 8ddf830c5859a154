/- The builder of objects. -/
/- Merged by a program of ours: H9 H10 H11 H12. -/
import Derived.Test.YthfopcdammlmfaaGreatDoorC3
import Derived.Test.YthfopcdammlmfaaGreatDoorA9
set_option maxRecDepth 10000
set_option linter.all false
set_option linter.unusedSimpArgs false
set_option linter.unusedVariables false
/- THE HEAP AS A LIST OF OBJECTS: a new object. -/
namespace Go.Proofs.YthfopcdammlmfaaGreatDoor
open Go.Tm
theorem tfb : (true == false) = false := rfl
variable {E : Env} (hE : EOk E)
include hE
section
variable {h : Heap} {L : HL} {W nS : Nat} {R : List Nat} {O : List Ob} (H : IsO E h L W nS R O)
include H
variable (hW : WF E h)
include hW
def fitsO (W nS : Nat) (O : List Ob) (s : Nat) : Prop := allO O + (s + 1) ≤ W ∧ O.length < nS
end
end Go.Proofs.YthfopcdammlmfaaGreatDoor
/- NEW HEAPS. -/
namespace Go.Proofs.YthfopcdammlmfaaGreatDoor
open Go.Tm
variable {E : Env} (hE : EOk E)
include hE
theorem anew_at {h : Heap} (hW : WF E h) {n : Nat} (h1 : 1 ≤ n) (h2 : n ≤ 1048576) : CallsTo E 90 [.int .i64 n] h fun v h' => ∃ p bw bb, v = .tuple #[.pointer (some ⟨p, 0, none⟩), .int .i64 0] ∧
 [p, bw, bb].Nodup ∧ (∀ b, b ∈ [p, bw, bb] → h.next ≤ b) ∧
 h'.get p = some (.cells [.slice (some ⟨bw, 0, none⟩) n n, .slice (some ⟨bb, 0, none⟩) (n / 64 + 1) (n / 64 + 1), .int .i64 0, .int .i64 0, .int .i64 0, .bool false] 88 true) ∧
 h'.get bw = some (.cells (wcells n fun _ => 0) 33 true) ∧ h'.get bb = some (.cells (wcells (n / 64 + 1) fun _ => 0) 33 true) ∧ Keep h h' ∧ WF E h' := by
 obtain ⟨q, hq⟩ : ∃ q, q = n / 64 := ⟨_, rfl⟩
 obtain ⟨q1, hq1⟩ : ∃ q1, q1 = q + 1 := ⟨_, rfl⟩
 have hq2 : (n : Int).tdiv 64 = q := by rw [Int.tdiv_eq_ediv_of_nonneg (by omega)]; omega
 have hq3 : IntKind.i64.wrap (q : Int) = q := wrN (by omega)
 have hq4 : (q : Int) + 1 = q1 := by omega
 have hq5 : IntKind.i64.wrap (q1 : Int) = q1 := wrN (by omega)
 have g1 : decide ((n : Int) < 1) = false := by simp; omega
 have g2 : decide ((n : Int) > 1048576) = false := by simp; omega
 refine en hE Tryz.func90 rfl rfl Tryz.ntmps90 rfl (by decide +kernel) (rs := [.tmp 2, .tmp 3]) rfl ?_
 simp only [push_cast, seval, hE.P, zz, g1, g2]
 refine wdraw_two [] [1, 5, 7] [(1, [0]), (5, [2, 3, 4]), (7, [0, 1, 2, 3, 4, 5, 6])] [(0, (10, [0])), (1, (11, [1, 0])), (2, (12, [2])), (3, (13, [3, 2])), (4, (14, [4, 2, 3])), (5, (15, [5, 2, 3, 4])), (6, (16, [6, 0, 1, 2, 3, 4, 5])), (7, (17, [7, 0, 1, 2, 3, 4, 5, 6])), (8, (2, [8, 0, 1, 2, 3, 4, 5, 6, 7])), (9, (3, [9, 0, 1, 2, 3, 4, 5, 6, 7, 8]))] [0, 1, 2, 3, 4, 5, 6, 7, 8, 9]
  (by rw [hE.P]; decide +kernel) (by rw [hE.P]; decide +kernel) (by rw [hE.P]; decide +kernel) (by rw [hE.P]; decide +kernel) (by rw [hE.P]; decide +kernel) (by decide +kernel) rfl ?_
 have m1 := mk50 (k := .i64) (k' := .i64) (l := n) (c := n) (by omega) (by omega) (by omega) (by omega)
 have m2 := mk50 (k := .i64) (k' := .i64) (l := q1) (c := q1) (by omega) (by omega) (by omega) (by omega)
 rw [Int.toNat_natCast] at m1 m2
 simp only [push_cast, seval, hE.P, zz, m1, m2, hq2, hq3, hq4, hq5, faOk, aOk, dOk, rdOk, live, inSpan, scQ, scQA, scQL, sc, scA, scL, scO_rep, scO_nil, scO_cons, aalloc_mk, aalloc_box, Op.operands, false_implies, implies_true, List.any_cons, List.any_nil]
 have hnq : n / 64 + 1 = q1 := by omega
 rw [hnq, ← wcells_zero, ← wcells_zero]
 refine ⟨by simp; omega, h.next + 1 + 1, h.next, h.next + 1, rfl, by simp; omega, by omega, by rw [if_pos rfl], ?_, ?_, ?_, ?_⟩
 ·rw [if_neg (by omega), if_neg (by omega), if_pos rfl]
 ·rw [if_neg (by omega), if_pos rfl]
 ·exact (((Keep.refl h).push hW).push (hW.push _)).push ((hW.push _).push _)
 ·exact ((hW.push _).push _).push _
section
theorem hnew_at {h : Heap} (hW : WF E h) {n : Nat} (h1 : 1 ≤ n) (h2 : n ≤ 1048576) : CallsTo E 91 [.int .i64 n] h fun v h' => ∃ p bs, v = .tuple #[.pointer (some ⟨p, 0, none⟩), .int .i64 0] ∧
 p ≠ bs ∧ h.next ≤ p ∧ h.next ≤ bs ∧
 h'.get p = some (.cells [.slice (some ⟨bs, 0, none⟩) n n, .int .i64 0, .int .i64 0, .int .i64 0] 94 true) ∧
 h'.get bs = some (.cells (scells n fun _ => ⟨1, false, 0, 0⟩) 159 true) ∧ Keep h h' ∧ WF E h' := by
 have g1 : decide ((n : Int) < 1) = false := by simp; omega
 have g2 : decide ((n : Int) > 1048576) = false := by simp; omega
 have m1 := mk92 (k := .i64) (k' := .i64) (l := n) (c := n) (by omega) (by omega) (by omega) (by omega)
 rw [Int.toNat_natCast, scells_new] at m1
 refine en hE Tryz.func91 rfl rfl Tryz.ntmps91 rfl (by decide +kernel) (rs := [.tmp 2, .tmp 3]) rfl ?_
 simp only [push_cast, seval, hE.P, wpc_label, wpc_block, g1, g2, m1, hW.nb, hW.nb0]
 refine wpc_loop (fun m tm h' => ∃ i, m = n - i ∧ i ≤ n ∧ fget tm 21 = .int .i64 i ∧ fget tm 20 = .int .i64 n ∧ fget tm 4 = .pointer (some ⟨h.next + 1, 0, none⟩) ∧
  h'.get h.next = some (.cells (scells n fun k => ⟨if k < i then 1 else 0, false, 0, 0⟩) 159 true) ∧
  h'.get (h.next + 1) = some (.cells [.slice (some ⟨h.next, 0, none⟩) n n, .int .i64 0, .int .i64 0, .int .i64 0] 94 true) ∧ Keep h h' ∧ WF E h') n ?_ ?_
 ·refine ⟨0, rfl, by omega, by simp only [push_cast, seval, hE.P, wpc_label, wpc_block], by simp only [push_cast, seval, hE.P, wpc_label, wpc_block], by simp only [push_cast, seval, hE.P, wpc_label, wpc_block], ?_, ?_, ((Keep.refl h).push hW).push (hW.push _), (hW.push _).push _⟩
  ·rw [get_push, if_neg (by simp), get_push, if_pos rfl]; simp
  ·rw [get_push, if_pos (by simp)]
 ·rintro m tm h' ⟨i, rfl, hi, f21, f20, f4, hg1, hg2, hk, hw⟩
  have nb0 : (h.next < E.base) = False := by have := hW.base; simp; omega
  have nb1 : (h.next + 1 < E.base) = False := by have := hW.base; simp; omega
  have l1 : acells E h' ⟨h.next + 1, 0, none⟩ 1 = some [.slice (some ⟨h.next, 0, none⟩) n n] := by simp [acells, nb1, hg2]
  simp only [push_cast, seval, hE.P, wpc_label, wpc_block, f21, f20]
  refine kif_split (fun hb => ?_) (fun hb => ?_)
  ·have hlt : i < n := by simpa using hb
   simp only [push_cast, seval, hE.P, wpc_label, wpc_block, f21, f20, f4, ↓l1]
   rw [ia92 rfl (by omega) (by omega), kpure_some]
   have e1 : awrite h' ⟨h.next, i * 4, none⟩ [.int .u32 1] = some (h'.put h.next (.cells (scells n fun k => ⟨if k < i + 1 then 1 else 0, false, 0, 0⟩) 159 true)) := by
    rw [awrite_of hg1 (by rw [scells_len]; simp; omega) rfl]
    have := scells_set (n := n) (sl := fun k => (⟨if k < i then 1 else 0, false, 0, 0⟩ : Slot)) (i := i) (j := 0) (vs := [.int .u32 1]) (s := ⟨1, false, 0, 0⟩) hlt (by simp) (by simp [scell, splice])
    rw [Nat.add_zero] at this
    rw [this]
    refine congrArg (fun x => some (h'.put h.next (.cells (scells n x) 159 true))) ?_
    funext k
    unfold updN
    by_cases e : k = i
    ·subst e; simp
    ·by_cases e2 : k < i
     ·have e3 : k < i + 1 := by omega
      simp [e, e2, e3]
     ·have e3 : ¬ k < i + 1 := by omega
      simp [e, e2, e3]
   obtain ⟨i1, hi1⟩ : ∃ i1, i1 = i + 1 := ⟨_, rfl⟩
   have hi2 : (i : Int) + 1 = i1 := by omega
   have hi3 : IntKind.i64.wrap (i1 : Int) = i1 := wrN (by omega)
   simp only [push_cast, seval, hE.P, wpc_label, wpc_block, f21, f20, f4, e1, hi2, hi3]
   rw [← hi1]
   exact ⟨n - i1, by omega, i1, rfl, by omega, rfl, rfl, hg2, hk.putNew hW (Nat.le_refl _), hw.put hg1⟩
  ·have hge : i = n := by have : ¬ i < n := by simpa using hb
                          omega
   subst hge
   simp only [push_cast, seval, hE.P, wpc_label, wpc_block, f4]
   refine ⟨h.next + 1, h.next, rfl, by omega, by omega, by omega, hg2, ?_, hk, hw⟩
   rw [hg1]
   refine congrArg (fun x => some (AObj.cells x 159 true)) ?_
   unfold scells
   rw [List.flatMap_def, List.flatMap_def]
   refine congrArg _ (List.map_congr_left fun k hk => ?_)
   simp only [if_pos (List.mem_range.1 hk)]
end
end Go.Proofs.YthfopcdammlmfaaGreatDoor
/- A NEW HEAP. -/
namespace Go.Proofs.YthfopcdammlmfaaGreatDoor
open Go.Tm
def hs0 (W nS : Nat) : HS := { W := W, w := fun _ => 0, bg := fun _ => 0, top := 0, low := 0, high := 0, open_ := false, nS := nS, sl := fun _ => ⟨1, false, 0, 0⟩, fresh := 0, freed := 0, cnt := 0, roots := List.replicate 16 0, wt := .nilIface }
theorem hs0_ok {W nS : Nat} (h1 : W ≤ 1048576) (h2 : nS ≤ 1048576) : (hs0 W nS).Ok :=
 ⟨h1, h2, fun _ => (by show 0 < 18446744073709551616; decide), fun _ => (by show 0 < 18446744073709551616; decide), Nat.zero_le _, fun _ => (by show 1 < 4294967296; decide), fun _ => Nat.zero_le _, fun _ => Nat.zero_le _, Nat.zero_le _, Nat.zero_le _, Nat.zero_le _, rfl, Nat.zero_le _, Nat.zero_le _⟩
theorem hs0_wf {W nS : Nat} : Wf (hs0 W nS) [] :=
 ⟨rfl, rfl, rfl, rfl, rfl, fun _ _ => rfl, fun _ _ => rfl, fun _ _ h => (by cases h), fun _ _ h => (by cases h), fun _ _ h => (by cases h), fun _ _ h => (by cases h), fun _ _ h => (by cases h), fun _ _ h => (by cases h), rfl⟩
variable {E : Env} (hE : EOk E)
include hE
theorem new_at {h : Heap} (hW : WF E h) {W nS : Nat} (h1 : 1 ≤ W) (h2 : W ≤ 1048576) (h3 : 1 ≤ nS) (h4 : nS ≤ 1048576) : CallsTo E 39 [.int .i64 W, .int .i64 nS] h fun v h' => ∃ L, v = .tuple #[.pointer (some ⟨L.ph, 0, none⟩), .int .i64 0] ∧
 IsO E h' L W nS (List.replicate 16 0) [] ∧ (∀ b, b ∈ L.blocks → h.next ≤ b) ∧ Keep h h' ∧ WF E h' := by
 refine en hE Tryz.func39 rfl rfl Tryz.ntmps39 rfl (by decide +kernel) (rs := [.tmp 4, .tmp 5]) rfl ?_
 simp only [push_cast, seval, hE.P, zz]
 refine (anew_at hE hW h1 h2).mono ?_
 rintro v ha ⟨pa, bw, bb, rfl, hnd, hlt, ga1, ga2, ga3, ka, wa⟩
 simp only [push_cast, seval, hE.P, zz]
 refine (hnew_at hE wa h3 h4).mono ?_
 rintro v hb ⟨pt, bs, rfl, hne, hp1, hp2, gt1, gt2, kb, wb⟩
 simp only [push_cast, seval, hE.P, zz]
 have hkc : Keep h (hb.push _) := (ka.trans kb).push (o := .cells [.pointer (some ⟨pa, 0, none⟩), .pointer (some ⟨pt, 0, none⟩), .int .u64 0, .int .u64 0, .int .u64 0, .int .u64 0, .int .u64 0, .int .u64 0, .int .u64 0, .int .u64 0, .int .u64 0, .int .u64 0, .int .u64 0, .int .u64 0, .int .u64 0, .int .u64 0, .int .u64 0, .int .u64 0, .nilIface] 86 true) wb
 have hkb : Keep hb (hb.push _) := (Keep.refl hb).push (o := .cells [.pointer (some ⟨pa, 0, none⟩), .pointer (some ⟨pt, 0, none⟩), .int .u64 0, .int .u64 0, .int .u64 0, .int .u64 0, .int .u64 0, .int .u64 0, .int .u64 0, .int .u64 0, .int .u64 0, .int .u64 0, .int .u64 0, .int .u64 0, .int .u64 0, .int .u64 0, .int .u64 0, .int .u64 0, .nilIface] 86 true) wb
 have b1 := wa.live _ _ ga1
 have b2 := wa.live _ _ ga2
 have b3 := wa.live _ _ ga3
 have b4 := wb.live _ _ gt1
 have b5 := wb.live _ _ gt2
 have c1 := hlt pa (by simp)
 have c2 := hlt bw (by simp)
 have c3 := hlt bb (by simp)
 have hnx := ka.next
 have hnx2 := kb.next
 have hbase := wb.base
 simp only [List.nodup_cons, List.mem_cons, List.not_mem_nil, or_false, not_or] at hnd
 refine ⟨⟨hb.next, pa, pt, bw, bb, bs⟩, rfl, ⟨hs0 W nS, ⟨hs0_ok h2 h4, ?_, ?_, ?_, hkb.get _ _ (kb.get _ _ ga1), hkb.get _ _ gt1, hkb.get _ _ (kb.get _ _ ga2), hkb.get _ _ (kb.get _ _ ga3), hkb.get _ _ gt2⟩, hs0_wf, rfl, rfl, rfl⟩, ?_, hkc, wb.push _⟩
 ·simp only [HL.blocks, List.nodup_cons, List.mem_cons, List.not_mem_nil, or_false, not_or, List.nodup_nil, not_false_eq_true, and_true]
  omega
 ·intro b hb
  simp only [HL.blocks, List.mem_cons, List.not_mem_nil, or_false] at hb
  omega
 ·show (hb.push _).get hb.next = _
  rw [get_push, if_pos rfl]
  rfl
 ·intro b hb
  simp only [HL.blocks, List.mem_cons, List.not_mem_nil, or_false] at hb
  omega
theorem fresh_at {h : Heap} (hW : WF E h) {W nS : Nat} (h1 : 1 ≤ W) (h2 : W ≤ 1048576) (h3 : 1 ≤ nS) (h4 : nS ≤ 1048576) : CallsTo E 8 [.int .i64 W, .int .i64 nS] h fun v h' => ∃ L, v = .pointer (some ⟨L.ph, 0, none⟩) ∧
 IsO E h' L W nS (List.replicate 16 0) [] ∧ (∀ b, b ∈ L.blocks → h.next ≤ b) ∧ Keep h h' ∧ WF E h' := by
 refine en hE Tryz.func8 rfl rfl Tryz.ntmps8 rfl (by decide +kernel) (rs := [.tmp 4]) rfl ?_
 simp only [push_cast, seval, hE.P, zz]
 refine (new_at hE hW h1 h2 h3 h4).mono ?_
 rintro v ha ⟨L, rfl, H⟩
 simp only [push_cast, seval, hE.P, zz]
 exact ⟨L, rfl, H⟩
end Go.Proofs.YthfopcdammlmfaaGreatDoor
namespace Go.Proofs.YthfopcdammlmfaaGreatDoor
open Go.Tm
def u64s (l : List Nat) : List Value := l.map fun x : Nat => Value.int .u64 (x : Int)
theorem u64s_len (l : List Nat) : (u64s l).length = l.length := by simp [u64s]
theorem u64s_at {l : List Nat} {i : Nat} (h : i < l.length) : ((u64s l).drop (i * 1)).take 1 = [.int .u64 (l[i] : Nat)] := by
 unfold u64s
 rw [Nat.mul_one, List.drop_eq_getElem_cons (by simpa using h)]; simp
theorem fill_set {l : List Nat} {m i : Nat} (hi : i < l.length) : (l.take i ++ List.replicate (l.length - i + m) 0).set i l[i] = l.take (i + 1) ++ List.replicate (l.length - (i + 1) + m) 0 := by
 have e : l.length - i + m = (l.length - (i + 1) + m) + 1 := by omega
 rw [e, List.replicate_succ, List.set_append_right _ _ (by simp; omega), List.take_succ_eq_append_getElem hi]
 have : i - (l.take i).length = 0 := by simp; omega
 rw [this, List.set_cons_zero, List.append_assoc]; rfl
theorem fill_set2 {l w : List Nat} {i : Nat} (hi : i < w.length) : (l ++ (w.take i ++ List.replicate (w.length - i) 0)).set (l.length + i) w[i] = l ++ (w.take (i + 1) ++ List.replicate (w.length - (i + 1)) 0) := by
 rw [List.set_append_right _ _ (by omega)]
 have e : l.length + i - l.length = i := by omega
 have := fill_set (l := w) (m := 0) hi
 simp only [Nat.add_zero] at this
 rw [e, this]
theorem IsO.lt {E : Env} {h : Heap} {L : HL} {W nS : Nat} {R : List Nat} {O : List Ob} (H : IsO E h L W nS R O) (hW : WF E h) : ∀ b, b ∈ L.blocks → E.base ≤ b ∧ b < h.next := by
 obtain ⟨S, H, _⟩ := H
 intro b hb
 simp only [HL.blocks, List.mem_cons, List.not_mem_nil, or_false] at hb
 rcases hb with rfl | rfl | rfl | rfl | rfl | rfl
 ·exact hW.live _ _ H.heap
 ·exact hW.live _ _ H.arena
 ·exact hW.live _ _ H.table
 ·exact hW.live _ _ H.words
 ·exact hW.live _ _ H.begins
 ·exact hW.live _ _ H.slots
variable {E : Env} (hE : EOk E)
include hE
end Go.Proofs.YthfopcdammlmfaaGreatDoor
