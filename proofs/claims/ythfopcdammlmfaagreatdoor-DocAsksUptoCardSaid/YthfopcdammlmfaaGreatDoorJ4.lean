/- path.Steps. -/
/- Merged by a program of ours: Y10 Y11. -/
import Derived.Test.YthfopcdammlmfaaGreatDoorD2
import Derived.Test.YthfopcdammlmfaaGreatDoorA9
import Derived.Test.YthfopcdammlmfaaGreatDoorJ3
import Derived.Test.YthfopcdammlmfaaGreatDoorF4
set_option maxRecDepth 10000
set_option linter.all false
set_option linter.unusedSimpArgs false
set_option linter.unusedVariables false
/- strings.SplitN at a point. -/
namespace Go.Tm
theorem ixb (l : List UInt8) (c : UInt8) : (Lib.indexByte l c = -1 ∧ c ∉ l) ∨ ∃ m : Nat, Lib.indexByte l c = m ∧ m < l.length ∧ c ∈ l := by
  induction l with
  | nil => exact .inl ⟨rfl, by simp⟩
  | cons b l ih =>
    unfold Lib.indexByte
    by_cases e : b = c
    · subst e; exact .inr ⟨0, by simp, by simp, by simp⟩
    · have e2 : (b == c) = false := by simpa using e
      rw [e2]
      rcases ih with ⟨h1, h2⟩ | ⟨m, h1, h2, h3⟩
      · rw [h1]
        exact .inl ⟨by simp, fun hh => by
          rcases List.mem_cons.1 hh with h | h
          · exact e h.symm
          · exact h2 h⟩
      · rw [h1]
        have : ((m : Int) == -1) = false := by simp
        rw [this]
        exact .inr ⟨m + 1, by simp, by simp only [List.length_cons]; omega, by simp [h3]⟩
end Go.Tm
namespace Go.Proofs.YthfopcdammlmfaaGreatDoor
open Go.Tm
def dot : ByteArray := ⟨⟨[46]⟩⟩
theorem asl_hi {s : ByteArray} {m : Nat} (h : m ≤ s.size) : asl Tryz.prog 9 (.string s) none (some (.int .i64 (m : Int))) = some (.string (s.extract 0 m)) := by
  unfold asl; rw [Tryz.underlying9]; simp [abnd, h]
theorem asl_lo {s : ByteArray} {m : Nat} (h : m ≤ s.size) : asl Tryz.prog 9 (.string s) (some (.int .i64 (m : Int))) none = some (.string (s.extract m s.size)) := by
  unfold asl; rw [Tryz.underlying9]; simp [abnd, h]
theorem asl_pre {b n m : Nat} (h : m ≤ n) (h0 : 0 < n) : asl Tryz.prog 130 (.slice (some ⟨b, 0, none⟩) n n) none (some (.int .i64 (m : Int))) = some (.slice (some ⟨b, 0, none⟩) m n) := by
  unfold asl; rw [Tryz.underlying130]; simp [abnd, h, sz9, h0, addo]
def strs (xs : List ByteArray) : List Value := xs.map fun s => .string s
variable {E : Env} (hE : EOk E)
include hE
theorem index_at {h : Heap} {s : ByteArray} : CallsTo E 176 [.string s, .string dot] h fun v h' => v = .int .i64 (Lib.indexByte s.data.toList 46) ∧ h' = h := by
  refine calls_known (v := .int .i64 (Lib.indexByte s.data.toList 46)) (by rw [hE.known]; rfl) ?_
  exact ⟨rfl, rfl⟩
theorem genSplit_at {h : Heap} (hW : WF E h) {p : ByteArray} (hp : p.size ≤ 140737488355328) : CallsTo E 160 [.string p, .string dot, .int .i64 0, .int .i64 9] h fun v h' =>
    ∃ xs : List ByteArray, Own h' 9 1 h.next xs.length (strs xs) v ∧ 1 ≤ xs.length ∧ xs.length ≤ 9 ∧ (∀ x, x ∈ xs → x.size ≤ p.size) ∧ ((46 : UInt8) ∉ p.data.toList → xs = [p]) ∧ ((46 : UInt8) ∈ p.data.toList → 2 ≤ xs.length) ∧ Keep h h' ∧ WF E h' := by
  have hdl : p.size = p.data.toList.length := by simp
  obtain ⟨n, hn⟩ : ∃ n, n = min 9 (p.size + 1) := ⟨_, rfl⟩
  obtain ⟨n1, hn1⟩ : ∃ n1, n1 = n - 1 := ⟨_, rfl⟩
  have hdot : (dot.data.toList == []) = false := rfl
  have e0 : IntKind.i64.wrap ((p.size : Int) + 1) = ((p.size + 1 : Nat) : Int) := by rw [wr64 (by omega) (by omega)]; omega
  have e1 : min (9 : Int) ((p.size + 1 : Nat) : Int) = n := by omega
  have e1' : min (9 : Int) ((p.size : Int) + 1) = n := by omega
  have e0' : IntKind.i64.wrap ((p.size : Int) + 1) = (p.size : Int) + 1 := wr64 (by omega) (by omega)
  have e2 : IntKind.i64.wrap ((n : Int) - 1) = n1 := by rw [wr64 (by omega) (by omega)]; omega
  refine en hE Tryz.func160 rfl rfl Tryz.ntmps160 rfl (by decide +kernel) (rs := [.tmp 8]) rfl ?_
  simp only [push_cast, seval, hE.P, wpc_label, hdot, e0', e1']
  rw [mk130 (by omega) (by omega) (by omega) (by omega), kalloc_some]
  have ecap : (n : Int).toNat = n := by simp
  rw [ecap]
  have k0 := (Keep.refl h).push (o := .cells (arep n [.string .empty]) 9 true) hW
  have w0 := hW.push (.cells (arep n [.string .empty]) 9 true)
  have g0 : (h.push (.cells (arep n [.string .empty]) 9 true)).get h.next = some (.cells (strs [] ++ arep (n - 0) [.string .empty]) 9 true) := by rw [get_push, if_pos rfl]; rfl
  generalize h.push (.cells (arep n [.string .empty]) 9 true) = H at *
  simp only [push_cast, seval, hE.P, wpc_label, e2]
  refine wpc_cutN (fun tm h' => ∃ (i : Nat) (xs : List ByteArray) (s : ByteArray), i ≤ n1 ∧ fget tm 10 = .int .i64 i ∧ fget tm 9 = .slice (some ⟨h.next, 0, none⟩) n n ∧ fget tm 0 = .string s ∧ xs.length = i ∧ h'.get h.next = some (.cells (strs xs ++ arep (n - i) [.string .empty]) 9 true) ∧
    (∀ x, x ∈ xs → x.size ≤ p.size) ∧ s.size ≤ p.size ∧ (i = 0 → s = p ∧ (46 : UInt8) ∉ p.data.toList) ∧ (1 ≤ i → (46 : UInt8) ∈ p.data.toList) ∧ Keep h h' ∧ WF E h') ?_ ?_
  · rintro tm h1 ⟨i, xs, s, hi, f10, f9, f0, hxl, hg, hxs, hss, h0, h1', hk, hw⟩
    have haw : awrite h1 ⟨h.next, i, none⟩ [.string s] = some (h1.put h.next (.cells (strs (xs ++ [s]) ++ arep (n - (i + 1)) [.string .empty]) 9 true)) := by
      rw [awrite_of hg (by simp [strs, arep_len, hxl]; omega) rfl]
      have hsl : (strs xs).length = i := by simp [strs, hxl]
      have e5 : n - i = (n - (i + 1)) + 1 := by omega
      rw [← hsl, splice_end (by rw [arep_len]; simp; omega), hsl, e5]
      simp [arep, strs]
    obtain ⟨i1, hi1⟩ : ∃ i1, i1 = i + 1 := ⟨_, rfl⟩
    have e4 : (i : Int) + 1 = i1 := by omega
    have e5 : IntKind.i64.wrap (i1 : Int) = i1 := wrN (by omega)
    have hpre := asl_pre (b := h.next) (n := n) (m := i1) (by omega) (by omega)
    simp only [push_cast, seval, hE.P, wpc_label, f10, f9, f0]
    rw [ia130 rfl (by omega) (by omega), kpure_some]
    simp only [push_cast, seval, hE.P, wpc_label, haw, f10, f9, e4, e5, hpre]
    refine ⟨xs ++ [s], .inr ⟨h.next, n, arep (n - (i + 1)) [.string .empty], true, by simp [hxl, hi1], by rw [get_put, if_pos rfl], by simp [strs], by rw [arep_len]; simp [hxl], by simp [hxl]; omega, Nat.le_refl _, by omega⟩, by simp, by simp [hxl]; omega, fun x hx => ?_, fun hh => ?_, fun hh => ?_, Keep.putNew hk hW (Nat.le_refl _), hw.put hg⟩
    · rcases List.mem_append.1 hx with hx | hx
      · exact hxs x hx
      · simp only [List.mem_singleton] at hx; subst hx; exact hss
    · have : i = 0 := by
        apply Classical.byContradiction; intro h2
        exact hh (h1' (by omega))
      rw [(h0 this).1, List.eq_nil_of_length_eq_zero (by omega : xs.length = 0)]; rfl
    · have : i ≠ 0 := fun h2 => (h0 h2).2 hh
      simp [hxl]; omega
  · rw [wpc_block]
    refine wpc_loop (fun m tm h' => ∃ (i : Nat) (xs : List ByteArray) (s : ByteArray), m = n1 - i ∧ i ≤ n1 ∧ fget tm 10 = .int .i64 i ∧ fget tm 3 = .int .i64 n1 ∧ fget tm 9 = .slice (some ⟨h.next, 0, none⟩) n n ∧ fget tm 0 = .string s ∧ fget tm 1 = .string dot ∧ fget tm 2 = .int .i64 0 ∧ xs.length = i ∧ h'.get h.next = some (.cells (strs xs ++ arep (n - i) [.string .empty]) 9 true) ∧
      (∀ x, x ∈ xs → x.size ≤ p.size) ∧ s.size ≤ p.size ∧ (i = 0 → s = p) ∧ (1 ≤ i → (46 : UInt8) ∈ p.data.toList) ∧ Keep h h' ∧ WF E h') n1 ?_ ?_
    · exact ⟨0, [], p, by omega, by omega, by simp only [push_cast, seval, hE.P, wpc_label], by simp only [push_cast, seval, hE.P, wpc_label], by simp only [push_cast, seval, hE.P, wpc_label], by simp only [push_cast, seval, hE.P, wpc_label], by simp only [push_cast, seval, hE.P, wpc_label], by simp only [push_cast, seval, hE.P, wpc_label], rfl, g0, fun x hx => (by cases hx), Nat.le_refl _, fun _ => rfl, by omega, k0, w0⟩
    · rintro m tm h1 ⟨i, xs, s, rfl, hi, f10, f3, f9, f0, f1, f2, hxl, hg, hxs, hss, h0, h1', hk, hw⟩
      simp only [push_cast, seval, hE.P, wpc_label, f10, f3]
      refine kif_split (fun hb => ?_) (fun hb => ?_)
      · have hlt : i < n1 := by simpa using hb
        simp only [push_cast, seval, hE.P, wpc_label]
        rw [wpc_block]
        simp only [push_cast, seval, hE.P, wpc_label, f0, f1]
        refine (index_at hE).mono ?_
        rintro v h2 ⟨rfl, rfl⟩
        have hsz : s.size = s.data.toList.length := by simp
        rcases ixb s.data.toList 46 with ⟨q1, q2⟩ | ⟨m, q1, q2, q3⟩
        · have eb : decide ((-1 : Int) < 0) = true := rfl
          rw [q1]
          simp only [push_cast, seval, hE.P, wpc_label, f10, f3, f9, f0]
          exact ⟨i, xs, s, hi, rfl, rfl, hxl, hg, hxs, hss, fun hz => ⟨h0 hz, by rw [← h0 hz]; exact q2⟩, h1', hk, hw⟩
        · rw [q1]
          have eb : decide ((m : Int) < 0) = false := by simp
          have em0 : IntKind.i64.wrap ((m : Int) + 0) = m := by rw [Int.add_zero]; exact wrN (by omega)
          have em00 : IntKind.i64.wrap (m : Int) = m := wrN (by omega)
          obtain ⟨m1, hm1⟩ : ∃ m1, m1 = m + 1 := ⟨_, rfl⟩
          have em1 : (m : Int) + 1 = m1 := by omega
          have em2 : IntKind.i64.wrap (m1 : Int) = m1 := wrN (by omega)
          have hds : dot.size = 1 := rfl
          have s1 := asl_hi (s := s) (m := m) (by omega)
          have s2 := asl_lo (s := s) (m := m1) (by omega)
          obtain ⟨i1, hi1⟩ : ∃ i1, i1 = i + 1 := ⟨_, rfl⟩
          have e4 : (i : Int) + 1 = i1 := by omega
          have e5 : IntKind.i64.wrap (i1 : Int) = i1 := wrN (by omega)
          have haw : awrite h2 ⟨h.next, i, none⟩ [.string (s.extract 0 m)] = some (h2.put h.next (.cells (strs (xs ++ [s.extract 0 m]) ++ arep (n - i1) [.string .empty]) 9 true)) := by
            rw [awrite_of hg (by simp [strs, arep_len, hxl]; omega) rfl]
            have hsl : (strs xs).length = i := by simp [strs, hxl]
            have e5 : n - i = (n - i1) + 1 := by omega
            rw [← hsl, splice_end (by rw [arep_len]; simp; omega), hsl, e5]
            simp [arep, strs]
          simp only [push_cast, seval, hE.P, wpc_label, eb, em0, em00, f9, f10, f0, f2, s1]
          rw [ia130 rfl (by omega) (by omega), kpure_some]
          simp only [push_cast, seval, hE.P, wpc_label, haw, hds, f0, f1, f10, f3, f9, f2, em1, em2, s2, e4, e5]
          refine ⟨n1 - i1, by omega, i1, xs ++ [s.extract 0 m], s.extract m1 s.size, rfl, by omega, rfl, rfl, by simp [hxl, hi1], rfl, fun x hx => ?_, by simp [ByteArray.size_extract]; omega, by omega, fun _ => ?_, Keep.putNew hk hW (Nat.le_refl _), hw.put hg⟩
          · rcases List.mem_append.1 hx with hx | hx
            · exact hxs x hx
            · simp only [List.mem_singleton] at hx; subst hx; simp [ByteArray.size_extract]; omega
          · rcases Nat.eq_zero_or_pos i with e | e
            · rw [← h0 e]; exact q3
            · exact h1' e
      · have hge : i = n1 := by have : ¬ i < n1 := by simpa using hb
                                omega
        simp only [push_cast, seval, hE.P, wpc_label, f10, f9, f0]
        refine ⟨i, xs, s, hi, rfl, rfl, hxl, hg, hxs, hss, fun hz => ⟨h0 hz, ?_⟩, h1', hk, hw⟩
        have : p.data.toList = [] := List.eq_nil_of_length_eq_zero (by omega)
        rw [this]; simp
end Go.Proofs.YthfopcdammlmfaaGreatDoor
namespace Go.Proofs.YthfopcdammlmfaaGreatDoor
open Go.Tm
def stepOk (p : ByteArray) : Bool := decide (0 ≤ placeB (strB p)) || nameB (strB p)
theorem dot_no {p : ByteArray} (h : (46 : UInt8) ∈ p.data.toList) : stepOk p = false := by
  have hm : 46 ∈ strB p := List.mem_map.2 ⟨46, h, rfl⟩
  have h1 : placeB (strB p) = -1 := by
    unfold placeB
    split
    · rfl
    · rw [if_neg]
      intro hh
      have := List.all_eq_true.1 hh _ hm
      simp [digN] at this
  have h2 : nameB (strB p) = false := by
    unfold nameB
    obtain ⟨i, hi, e⟩ := List.mem_iff_getElem.1 hm
    rcases Nat.eq_zero_or_pos i with z | z
    · have : (strB p).getD 0 0 = 46 := by subst z; rw [List.getD_eq_getElem?_getD, List.getElem?_eq_getElem hi, e]; rfl
      rw [this]; simp [letN]
    · have h3 : ((strB p).drop 1).all (fun d => letN d || digN d) = false := by
        rw [List.all_eq_false]
        exact ⟨46, List.mem_of_getElem? (i := i - 1) (by rw [List.getElem?_drop, show 1 + (i - 1) = i by omega, List.getElem?_eq_getElem hi, e]), by simp [letN, digN]⟩
      rw [h3, Bool.and_false]
  simp [stepOk, h1, h2]
theorem strs_at {xs : List ByteArray} {i : Nat} (h : i < xs.length) : ((strs xs).drop (i * 1)).take 1 = [.string xs[i]] := by
  unfold strs
  rw [Nat.mul_one, List.drop_eq_getElem_cons (by simpa using h)]; simp
variable {E : Env} (hE : EOk E)
include hE
theorem splitN_at {h : Heap} (hW : WF E h) {p : ByteArray} (hp : p.size ≤ 140737488355328) : CallsTo E 128 [.string p, .string dot, .int .i64 9] h fun v h' =>
    ∃ xs : List ByteArray, Own h' 9 1 h.next xs.length (strs xs) v ∧ 1 ≤ xs.length ∧ xs.length ≤ 9 ∧ (∀ x, x ∈ xs → x.size ≤ p.size) ∧ ((46 : UInt8) ∉ p.data.toList → xs = [p]) ∧ ((46 : UInt8) ∈ p.data.toList → 2 ≤ xs.length) ∧ Keep h h' ∧ WF E h' := by
  refine en hE Tryz.func128 rfl rfl Tryz.ntmps128 rfl (by decide +kernel) (rs := [.tmp 6]) rfl ?_
  simp only [push_cast, seval, hE.P, zz]
  refine (genSplit_at hE hW hp).mono ?_
  rintro v h1 ⟨xs, H⟩
  simp only [push_cast, seval, hE.P, zz]
  exact ⟨xs, H⟩
theorem Place_at {h : Heap} (hW : WF E h) {s : ByteArray} (hs : s.size ≤ 140737488355328) : CallsTo E 78 [.string s] h fun v h' => (∃ n : Int, v = .tuple #[.int .i64 n, .bool (decide (0 ≤ placeB (strB s)))] ∧ (0 ≤ placeB (strB s) → n = placeB (strB s))) ∧ Keep h h' ∧ WF E h' := by
  refine en hE Tryz.func78 rfl rfl Tryz.ntmps78 rfl (by decide +kernel) (rs := [.tmp 2, .tmp 3]) rfl ?_
  simp only [push_cast, seval, hE.P, zz]
  refine (place_at hE hW hs).mono ?_
  rintro v h1 ⟨⟨n, rfl, hn⟩, k, w⟩
  simp only [push_cast, seval, hE.P, zz]
  exact ⟨⟨n, rfl, hn⟩, k, w⟩
theorem steps_at {h : Heap} (hW : WF E h) {p : ByteArray} (hp : p.size ≤ 140737488355328) : CallsTo E 77 [.string p] h fun v h' =>
    ∃ a n c e, v = .tuple #[.slice a n c, .int .i64 e] ∧ (stepOk p = true → e = 0 ∧ n = 1 ∧ Own h' 9 1 h.next 1 (strs [p]) (.slice a n c)) ∧ (stepOk p = false → e ≠ 0 ∨ n ≠ 1) ∧ Keep h h' ∧ WF E h' := by
  refine en hE Tryz.func77 rfl rfl Tryz.ntmps77 rfl (by decide +kernel) (rs := [.tmp 2, .tmp 3]) rfl ?_
  simp only [push_cast, seval, hE.P, zz]
  refine (splitN_at hE hW hp).mono ?_
  rintro v h1 ⟨xs, hown, hx1, hx9, hxs, hno, hyes, k1, w1⟩
  obtain ⟨va, vk, rfl, _⟩ := Own.slice hown
  obtain ⟨G1, hsl, hfz, hlo⟩ := own_sl w1 hown
  have hokx : ∀ x, x ∈ xs → stepOk x = true → stepOk p = true ∨ 2 ≤ xs.length := fun x hx hk => by
    by_cases hd : (46 : UInt8) ∈ p.data.toList
    · exact .inr (hyes hd)
    · rw [hno hd] at hx; simp only [List.mem_singleton] at hx; subst hx; exact .inl hk
  have hbadx : ∀ x, x ∈ xs → stepOk x = false → stepOk p = false := fun x hx hk => by
    by_cases hd : (46 : UInt8) ∈ p.data.toList
    · exact dot_no hd
    · rw [hno hd] at hx; simp only [List.mem_singleton] at hx; subst hx; exact hk
  simp only [push_cast, seval, hE.P, zz]
  refine kif_split (fun hb => ?_) (fun hb => ?_)
  · have hgt : xs.length > 8 := by have : (xs.length : Int) > 8 := by simpa using hb
                                   omega
    have hs : stepOk p = false := by
      by_cases hd : (46 : UInt8) ∈ p.data.toList
      · exact dot_no hd
      · rw [hno hd] at hgt; simp at hgt
    simp only [push_cast, seval, hE.P, zz]
    exact ⟨_, _, _, _, rfl, fun hh => (by rw [hs] at hh; cases hh), fun _ => .inl (by omega), k1, w1⟩
  · simp only [push_cast, seval, hE.P, zz]
    refine wpc_loop (fun m tm h' => ∃ i : Nat, m = xs.length - i ∧ i ≤ xs.length ∧ fget tm 16 = .int .i64 i ∧ fget tm 15 = .int .i64 xs.length ∧ fget tm 14 = .slice va xs.length vk ∧ fget tm 4 = .slice va xs.length vk ∧ (∀ x, x ∈ xs.take i → stepOk x = true) ∧ Keep h1 h' ∧ WF E h') xs.length ?_ ?_
    · exact ⟨0, by omega, by omega, by simp only [push_cast, seval, hE.P, zz], by simp only [push_cast, seval, hE.P, zz], by simp only [push_cast, seval, hE.P, zz], by simp only [push_cast, seval, hE.P, zz], fun x hx => by simp at hx, Keep.refl _, w1⟩
    · rintro m tm h2 ⟨i, rfl, hi, f16, f15, f14, f4, hall, k2, w2⟩
      simp only [push_cast, seval, hE.P, zz, f16, f15]
      refine kif_split (fun hb2 => ?_) (fun hb2 => ?_)
      · have hlt : i < xs.length := by simpa using hb2
        obtain ⟨a, c, e1', hsp, hac⟩ := hsl.elem (hfz.keep k2) hlt
        injection e1' with e1' e2' e3'; subst e1'; subst e3'
        rw [strs_at hlt, Nat.mul_one] at hac
        have hmem : xs[i] ∈ xs := List.getElem_mem hlt
        have hxl := hxs _ hmem
        obtain ⟨i1, hi1⟩ : ∃ i1, i1 = i + 1 := ⟨_, rfl⟩
        have e1 : (i : Int) + 1 = i1 := by omega
        have e2 : IntKind.i64.wrap (i1 : Int) = i1 := wrN (by omega)
        have hnext : stepOk xs[i] = true → ∀ x, x ∈ xs.take i1 → stepOk x = true := fun hk x hx => by
          rw [hi1, List.take_succ_eq_append_getElem hlt] at hx
          rcases List.mem_append.1 hx with hx | hx
          · exact hall x hx
          · simp only [List.mem_singleton] at hx; subst hx; exact hk
        simp only [push_cast, seval, hE.P, zz, f16, f14]
        rw [ia130 hsp (by omega) (by omega), kpure_some]
        simp only [push_cast, seval, hE.P, zz, f16, f15, f14, f4, ↓hac]
        refine (place_at hE w2 (s := xs[i]) (by omega)).mono ?_
        rintro v h3 ⟨⟨n, rfl, hn⟩, k3, w3⟩
        by_cases hpl : 0 ≤ placeB (strB xs[i])
        · have hk : stepOk xs[i] = true := by simp [stepOk, hpl]
          rw [decide_eq_true hpl]
          simp only [push_cast, seval, hE.P, zz, f16, f15, f14, f4, e1, e2]
          exact ⟨xs.length - i1, by omega, i1, rfl, by omega, rfl, hnext hk, k2.trans k3, w3⟩
        · rw [decide_eq_false hpl]
          simp only [push_cast, seval, hE.P, zz, f16, f15, f14, f4, e1, e2]
          refine (isName_at hE w3 (s := xs[i]) (by omega)).mono ?_
          rintro v h4 ⟨rfl, k4, w4⟩
          by_cases hnm : nameB (strB xs[i]) = true
          · have hk : stepOk xs[i] = true := by simp [stepOk, hnm]
            simp only [push_cast, seval, hE.P, zz, hnm, f16, f15, f14, f4, e1, e2]
            exact ⟨xs.length - i1, by omega, i1, rfl, by omega, rfl, hnext hk, (k2.trans k3).trans k4, w4⟩
          · have hnm' : nameB (strB xs[i]) = false := by simpa using hnm
            have hk : stepOk p = false := hbadx _ hmem (by simp [stepOk, hpl, hnm'])
            simp only [push_cast, seval, hE.P, zz, hnm']
            exact ⟨_, _, _, _, rfl, fun hh => (by rw [hk] at hh; cases hh), fun _ => .inl (by omega), ((k1.trans k2).trans k3).trans k4, w4⟩
      · have hge : i = xs.length := by have : ¬ i < xs.length := by simpa using hb2
                                       omega
        rw [hge, List.take_length] at hall
        have ecap : (xs.length : Int).toNat = xs.length := by simp
        simp only [push_cast, seval, hE.P, zz, f4]
        rw [mk130 (by omega) (by omega) (by omega) (by omega), kalloc_some]
        have o1 := Own.made (h := h2) (e := 9) (z := 1) (lo := h2.next) (c := xs.length) (zs := [.string .empty]) rfl (Nat.le_refl _) (by omega)
        have k3' := (Keep.refl h2).push (o := .cells (arep xs.length [.string .empty]) 9 true) w2
        have w3 := w2.push (.cells (arep xs.length [.string .empty]) 9 true)
        rw [ecap]
        have hown3 := (hown.keep k2).keep k3'
        generalize h2.push (.cells (arep xs.length [.string .empty]) 9 true) = H3 at *
        have nx := k3'.next
        have nx2 := k2.next
        have nx1 := k1.next
        simp only [push_cast, seval, hE.P, zz, f4]
        refine kwv_ownO (el130 hE.P) w3 (lo := h2.next) nx o1 hown3 (by simp [strs]) (by simp [strs, Value.oneCell']) (by omega) (by omega) ?_
        intro v8 h8 hown8 hlo8 w8
        rw [Nat.zero_add, List.nil_append] at hown8
        obtain ⟨ya, yk, rfl, _⟩ := Own.slice hown8
        simp only [push_cast, seval, hE.P, zz]
        refine ⟨_, _, _, _, rfl, fun hh => ?_, fun hh => .inr ?_, Keep.thenLo hW ((k1.trans k2).trans k3') hlo8 (by omega), w8⟩
        · have : xs = [p] := hno fun hd => by rw [dot_no hd] at hh; cases hh
          subst this
          exact ⟨rfl, rfl, Own.low hown8 (by omega)⟩
        · intro hx
          by_cases hd : (46 : UInt8) ∈ p.data.toList
          · have := hyes hd; omega
          · have hxp := hno hd
            have := hall p (by rw [hxp]; simp)
            rw [hh] at this; cases this
end Go.Proofs.YthfopcdammlmfaaGreatDoor
