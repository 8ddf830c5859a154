/- The builder: values. -/
/- Merged by a program of ours: H13 H14 H15 H16. -/
import Derived.Test.YthfopcdammlmfaaGreatDoorC4
import Derived.Test.YthfopcdammlmfaaGreatDoorA9
set_option maxRecDepth 10000
set_option linter.all false
set_option linter.unusedSimpArgs false
set_option linter.unusedVariables false
/- A text in words. -/
namespace Go.Proofs.YthfopcdammlmfaaGreatDoor
open Go.Tm
theorem u64s_range {n : Nat} {w : Nat → Nat} : wcells n w = u64s ((List.range n).map w) := by
 unfold wcells u64s; rw [List.map_map]; rfl
theorem aidx {s : ByteArray} {i : Nat} {k : IntKind} (h : i < s.size) : aindex Tryz.prog 9 (.string s) (.int k i) = some (.int .u8 ((s.data.toList.getD i 0).toNat : Nat)) := by
 unfold aindex
 rw [Tryz.underlying9]
 have hl : i < s.data.toList.length := by simpa using h
 simp only
 rw [if_pos (by omega), Int.toNat_natCast, List.getElem?_eq_getElem hl]
 rw [List.getD_eq_getElem?_getD, List.getElem?_eq_getElem hl]; rfl
variable {E : Env} (hE : EOk E)
include hE
theorem packed_at' {h : Heap} (hW : WF E h) {s : ByteArray} (hs : s.size ≤ 1000000) : CallsTo E 145 [.string s] h fun v h' =>
 Own h' 33 1 h.next (packW s).length (u64s (packW s)) v ∧ Keep h h' ∧ WF E h' := by
 obtain ⟨n, hn⟩ : ∃ n, n = 1 + (s.size + 7) / 8 := ⟨_, rfl⟩
 have htw : textW s = (n : Int) := by unfold textW; omega
 have m1 := mk50 (k := .i64) (k' := .i64) (l := n) (c := n) (by omega) (by omega) (by omega) (by omega)
 rw [Int.toNat_natCast, wcells_zero] at m1
 refine en hE Tryz.func145 rfl rfl Tryz.ntmps145 rfl (by decide +kernel) (rs := [.tmp 2]) rfl ?_
 simp only [push_cast, seval, hE.P, wpc_label, wpc_block]
 refine (textWords_at hE (by omega)).mono ?_
 rintro v h0 ⟨rfl, rfl⟩
 rw [htw]
 have nb0 : (h0.next < E.base) = False := by have := hW.base; simp; omega
 simp only [push_cast, seval, hE.P, wpc_label, wpc_block, m1]
 rw [ia50 rfl (by omega) (by omega), kpure_some]
 have w1 := hW.push (.cells (wcells n fun _ => 0) 33 true)
 have k1 := (Keep.refl h0).push (o := .cells (wcells n fun _ => 0) 33 true) hW
 have g1 : (h0.push (.cells (wcells n fun _ => 0) 33 true)).get h0.next = some (.cells (wcells n fun _ => 0) 33 true) := by rw [get_push, if_pos rfl]
 have e1 : awrite (h0.push (.cells (wcells n fun _ => 0) 33 true)) ⟨h0.next, 0, none⟩ [.int .u64 (s.size : Nat)] = some ((h0.push (.cells (wcells n fun _ => 0) 33 true)).put h0.next (.cells (wcells n (packI s 0)) 33 true)) := by
  rw [awrite_of g1 (by rw [wcells_len]; simp; omega) rfl, wcells_set (by omega)]
  refine congrArg (fun x => some (Heap.put _ _ (.cells (wcells n x) _ _))) ?_
  funext k; unfold updN packI; rw [wd_zero]
 have k2 : Keep h0 (h0.push (.cells (wcells n (packI s 0)) 33 true)) := (Keep.refl h0).push hW
 have hsz : IntKind.u64.wrap (s.size : Int) = s.size := wruN (by omega)
 simp only [push_cast, seval, hE.P, wpc_label, wpc_block, e1, hsz]
 refine wpc_loop (fun m tm h' => ∃ i, m = s.size - i ∧ i ≤ s.size ∧ fget tm 15 = .int .i64 i ∧ fget tm 14 = .int .i64 s.size ∧ fget tm 3 = .slice (some ⟨h0.next, 0, none⟩) n n ∧ fget tm 0 = .string s ∧
  h'.get h0.next = some (.cells (wcells n (packI s i)) 33 true) ∧ Keep h0 h' ∧ WF E h') s.size ?_ ?_
 ·refine ⟨0, rfl, by omega, by simp only [push_cast, seval, hE.P, wpc_label, wpc_block], by simp only [push_cast, seval, hE.P, wpc_label, wpc_block], by simp only [push_cast, seval, hE.P, wpc_label, wpc_block], by simp only [push_cast, seval, hE.P, wpc_label, wpc_block], ?_, k2, hW.push _⟩
  rw [get_push, if_pos rfl]
 ·rintro m tm h' ⟨i, rfl, hi, f15, f14, f3, f0, hg, hk, hw⟩
  simp only [push_cast, seval, hE.P, wpc_label, wpc_block, f15, f14]
  refine kif_split (fun hb => ?_) (fun hb => ?_)
  ·have hlt : i < s.size := by simpa using hb
   obtain ⟨q, hq⟩ : ∃ q, q = i / 8 := ⟨_, rfl⟩
   obtain ⟨r, hr⟩ : ∃ r, r = i % 8 := ⟨_, rfl⟩
   obtain ⟨r8, hr8⟩ : ∃ r8, r8 = 8 * r := ⟨_, rfl⟩
   obtain ⟨q1, hq1⟩ : ∃ q1, q1 = 1 + q := ⟨_, rfl⟩
   obtain ⟨i1, hi1⟩ : ∃ i1, i1 = i + 1 := ⟨_, rfl⟩
   have a1 : (i : Int).tdiv 8 = q := by rw [Int.tdiv_eq_ediv_of_nonneg (by omega)]; omega
   have a2 : IntKind.i64.wrap (q : Int) = q := wrN (by omega)
   have a3 : (1 : Int) + q = q1 := by omega
   have a4 : IntKind.i64.wrap (q1 : Int) = q1 := wrN (by omega)
   have a5 : (i : Int).tmod 8 = r := by rw [Int.tmod_eq_emod_of_nonneg (by omega)]; omega
   have a6 : (8 : Int) * r = r8 := by omega
   have a7 : IntKind.i64.wrap (r8 : Int) = r8 := wrN (by omega)
   have a8 : ¬ ((r8 : Int) < 0) := by omega
   have a9 : (i : Int) + 1 = i1 := by omega
   have a10 : IntKind.i64.wrap (i1 : Int) = i1 := wrN (by omega)
   have hq1n : q1 < n := by omega
   have lac : acells E h' ⟨h0.next, q1, none⟩ 1 = some [.int .u64 (packI s i q1)] := by
    have h1 : q1 + 1 ≤ (wcells n (packI s i)).length := by rw [wcells_len]; omega
    simp [acells, nb0, hg, h1, wcells_at hq1n]
   have hpk : packI s i q1 = wd s i q := by unfold packI; rw [if_neg (by omega)]; congr 1; omega
   have hwl := wd_lt s i q
   have ai := aidx (k := .i64) hlt
   have hst := packI_step hlt
   rw [← hq, ← hr, ← hr8] at hst
   obtain ⟨x, hx⟩ : ∃ x, x = (s.data.toList.getD i 0).toNat := ⟨_, rfl⟩
   have hx256 : x < 256 := by rw [hx]; exact (s.data.toList.getD i 0).toNat_lt
   rw [← hx] at ai hst
   have hxw : IntKind.u64.wrap (x : Int) = x := wruN (by omega)
   have hsh : x * 2 ^ r8 < 18446744073709551616 := by
    have h1 : x * 2 ^ r8 ≤ 255 * 2 ^ r8 := Nat.mul_le_mul_right _ (by omega)
    have h2 : 2 ^ r8 ≤ 2 ^ 56 := Nat.pow_le_pow_right (by omega) (by omega)
    have h3 : 255 * 2 ^ r8 ≤ 255 * 2 ^ 56 := Nat.mul_le_mul_left _ h2
    have h4 : 255 * 2 ^ 56 < 18446744073709551616 := by decide
    omega
   have hshl := shl_nat (m := x) (k := r8) (by omega) hsh
   obtain ⟨y, hy⟩ : ∃ y, y = x * 2 ^ r8 := ⟨_, rfl⟩
   rw [← hy] at hshl hsh hst
   have hor := bits_or_u64_nat (wd s i q) y hwl hsh
   have hol : wd s i q ||| y < 18446744073709551616 := Nat.or_lt_two_pow (n := 64) hwl hsh
   rw [hpk] at lac
   obtain ⟨z, hz⟩ : ∃ z, z = wd s i q ||| y := ⟨_, rfl⟩
   rw [← hz] at hor hol hst
   have e2 : awrite h' ⟨h0.next, q1, none⟩ [.int .u64 (z : Nat)] = some (h'.put h0.next (.cells (wcells n (packI s i1)) 33 true)) := by
    rw [awrite_of hg (by rw [wcells_len]; simp; omega) rfl, wcells_set hq1n, hq1, hst, hi1]
   simp only [push_cast, seval, hE.P, wpc_label, wpc_block, f15, f14, f3, f0]
   refine wdraw_pairs [] (by rw [hE.P]; decide +kernel) (by rw [hE.P]; decide +kernel) (by rw [hE.P]; decide +kernel) ?_
   simp only [push_cast, seval, hE.P, wpc_label, wpc_block, f15, f14, f3, f0, a1, a2, a3, a4]
   rw [ia50 rfl (by omega) (by omega), kpure_some]
   simp only [push_cast, seval, hE.P, wpc_label, wpc_block, f15, f14, f3, f0, a1, a2, a3, a4, a5, a6, a7, a8, ↓lac, ai, hxw]
   rw [ia50 rfl (by omega) (by omega), kpure_some]
   simp only [push_cast, seval, hE.P, wpc_label, wpc_block, hshl, hor, e2, f15, f14, f3, f0, a9, a10, ↓lac]
   refine ⟨fun p hp => (by cases hp), ?_⟩
   exact ⟨s.size - i1, by omega, i1, rfl, by omega, rfl, rfl, hk.putNew hW (Nat.le_refl _), hw.put hg⟩
  ·have hge : i = s.size := by have : ¬ i < s.size := by simpa using hb
                               omega
   subst hge
   simp only [push_cast, seval, hE.P, wpc_label, wpc_block, f3]
   refine ⟨.inr ⟨h0.next, n, [], true, by rw [packW_len, ← hn], ?_, by rw [u64s_len, Nat.mul_one], by rw [packW_len, ← hn]; simp, by rw [packW_len, ← hn]; exact Nat.le_refl _, Nat.le_refl _, by omega⟩, hk, hw⟩
   rw [hg, List.append_nil, u64s_range, hn, packI_all]
end Go.Proofs.YthfopcdammlmfaaGreatDoor
/- The builder: texts and values. -/
namespace Go.Proofs.YthfopcdammlmfaaGreatDoor
open Go.Tm
def noMem : Mem := fun _ => none
theorem noMem_frz (E : Env) (h : Heap) : Frz E noMem h := fun _ _ hb => by cases hb
theorem ext_sep {E : Env} {h h' : Heap} {L : HL} {G' : Mem} (x : Ext E noMem h G' h') (hlt : ∀ b, b ∈ L.blocks → b < h.next) : Sep L G' := fun b hb => by
 cases hc : G' b with
 | none => rfl
 | some c =>
   rcases x.new b c hc with h1 | h1
   ·cases h1
   ·have := hlt b hb; omega
theorem sl_nil {E : Env} {G : Mem} : Sl E G 1 ([] : List Nat).length (u64s []) (.slice none 0 0) := ⟨none, 0, rfl, by simp, by omega, ⟨fun _ => rfl, fun _ x => (by cases x)⟩, .inl ⟨rfl, rfl⟩⟩
theorem packW_lt {s : ByteArray} (hs : s.size ≤ 1000000) : ∀ y, y ∈ packW s → y < 18446744073709551616 := by
 intro y hy
 unfold packW at hy
 rcases List.mem_cons.1 hy with rfl | hy
 ·omega
 ·obtain ⟨k, _, rfl⟩ := List.mem_map.1 hy
  exact wd_lt _ _ _
variable {E : Env} (hE : EOk E)
include hE
end Go.Proofs.YthfopcdammlmfaaGreatDoor
/- What objects a value makes: the plain law. -/
namespace Go.Proofs.YthfopcdammlmfaaGreatDoor
open Go.Tm
def u64N (n : Int) : Nat := (IntKind.u64.wrap n).toNat
mutual
def obs : Nat → Vl → List Ob
 | b, .mk k n s l f => if k = 2 then [⟨2, 0, [u64N n]⟩] else if k = 3 then [⟨3, 0, [u64N n]⟩] else if k = 4 then [⟨4, 0, packW s⟩]
   else if k = 5 then (obsL b l).1 ++ [⟨5, (obsL b l).2.length, (obsL b l).2⟩] else if k = 6 then (obsF b f).1 ++ [⟨6, (obsF b f).2.length, (obsF b f).2⟩] else [⟨1, 0, []⟩]
def obsL : Nat → List Vl → List Ob × List Nat
 | _, [] => ([], [])
 | b, v :: l => (obs b v ++ (obsL (b + (obs b v).length) l).1, hOf (b + (obs b v).length - 1) :: (obsL (b + (obs b v).length) l).2)
def obsF : Nat → List (ByteArray × Vl) → List Ob × List Nat
 | _, [] => ([], [])
 | b, (nm, v) :: l => (⟨4, 0, packW nm⟩ :: (obs (b + 1) v ++ (obsF (b + 1 + (obs (b + 1) v).length) l).1), hOf b :: hOf (b + 1 + (obs (b + 1) v).length - 1) :: (obsF (b + 1 + (obs (b + 1) v).length) l).2)
end
theorem allO_app (A B : List Ob) : allO (A ++ B) = allO A + allO B := by unfold allO; rw [List.map_append, List.sum_append]
theorem allO_cons (o : Ob) (B : List Ob) : allO (o :: B) = o.ws.length + 1 + allO B := by unfold allO; simp [Ob.width]
theorem allO_nil : allO [] = 0 := rfl
def canB (v : Vl) : Bool := fewV v && decide (v.s.size ≤ 10000)
theorem Own.keepB {h h' : Heap} {e z lo n : Nat} {cs : List Value} {v : Value} {L : HL} (H : Own h e z lo n cs v) (hL : ∀ b, b ∈ L.blocks → b < lo) (k : KeepB L h h') : Own h' e z lo n cs v := by
 rcases H with H | ⟨b, cap, rest, fx, rfl, hg, hr⟩
 ·exact .inl H
 ·exact .inr ⟨b, cap, rest, fx, rfl, k.get b _ (fun hm => by have := hL b hm; omega) hg, hr⟩
theorem KeepB.thenLo {E : Env} {h h1 h2 : Heap} {L : HL} {lo : Nat} (hW : WF E h) (a : KeepB L h h1) (b : KeepLo lo h1 h2) (hl : h.next ≤ lo) : KeepB L h h2 :=
 ⟨fun x o hx hg => b.get x o (by have := (hW.live x o hg).2; omega) (a.get x o hx hg), Nat.le_trans a.next b.next⟩
theorem own_sl {E : Env} {h : Heap} {e z lo n : Nat} {cs : List Value} {v : Value} (hW : WF E h) (H : Own h e z lo n cs v) : ∃ G', Sl E G' z n cs v ∧ Frz E G' h ∧ ∀ b c, G' b = some c → lo ≤ b := by
 rcases H with ⟨rfl, rfl, rfl⟩ | ⟨b, cap, rest, fx, rfl, hg, hc1, hc2, hc3, hc4, hc5⟩
 ·exact ⟨noMem, ⟨none, 0, rfl, by omega, by omega, ⟨fun _ => rfl, fun _ x => (by cases x)⟩, .inl ⟨rfl, rfl⟩⟩, noMem_frz E h, fun _ _ x => (by cases x)⟩
 ·refine ⟨fun j => if j = b then some (cs ++ rest) else none, ⟨some ⟨b, 0, none⟩, cap, rfl, hc3, hc5, ⟨fun x => (by cases x), fun b' e => .inr ⟨cs ++ rest, by injection e with e; subst e; simp⟩⟩, .inr ⟨_, rfl, ?_⟩⟩, ?_, ?_⟩
  ·unfold gcells
   rw [if_neg (by have := hW.nlt hg; simpa using this)]
   simp only [if_true]
   rw [if_pos (by simp [hc1])]
   simp [← hc1]
  ·intro j c hj
   simp only at hj
   split at hj
   ·rename_i e1; subst e1; injection hj with hj; subst hj; exact ⟨_, _, hg⟩
   ·cases hj
  ·intro j c hj
   simp only at hj
   split at hj
   ·rename_i e1; omega
   ·cases hj
end Go.Proofs.YthfopcdammlmfaaGreatDoor
namespace Go.Proofs.YthfopcdammlmfaaGreatDoor
open Go.Tm
theorem u64N_cast (n : Int) : IntKind.u64.wrap n = ((u64N n : Nat) : Int) := by
 unfold u64N
 have : 0 ≤ IntKind.u64.wrap n := by unfold IntKind.wrap; simp [IntKind.signed]; omega
 omega
theorem u64N_lt (n : Int) : u64N n < 18446744073709551616 := by
 unfold u64N
 have : IntKind.u64.wrap n < 18446744073709551616 := by
  unfold IntKind.wrap; simp only [IntKind.signed, IntKind.bits]
  simp
  exact Int.emod_lt_of_pos _ (by decide)
 omega
variable {E : Env} (hE : EOk E)
include hE
end Go.Proofs.YthfopcdammlmfaaGreatDoor
