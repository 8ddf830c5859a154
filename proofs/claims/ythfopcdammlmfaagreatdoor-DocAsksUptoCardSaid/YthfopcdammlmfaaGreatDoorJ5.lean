/- The reference's Steps. -/
/- Merged by a program of ours: Y12 Y13. -/
import Derived.Test.YthfopcdammlmfaaGreatDoorJ4
set_option maxRecDepth 10000
set_option linter.all false
set_option linter.unusedSimpArgs false
set_option linter.unusedVariables false
/- The reference's steps of paths. -/
namespace Go.Proofs.YthfopcdammlmfaaGreatDoor
open Go.Tm
theorem asl_mid {s : ByteArray} {f m : Nat} (h : m ≤ s.size) (hf : f ≤ m) : asl Tryz.prog 9 (.string s) (some (.int .i64 (f : Int))) (some (.int .i64 (m : Int))) = some (.string (s.extract f m)) := by
  unfold asl; rw [Tryz.underlying9]; simp [abnd, h, hf]
theorem strB_get {s : ByteArray} {i : Nat} (h : i < s.size) : (s.data.toList.getD i 0).toNat = (strB s)[i]'(by rw [strB_len]; exact h) := by
  have h1 : i < s.data.toList.length := by simpa using h
  have h2 : i < (strB s).length := by rw [strB_len]; exact h
  have e1 : (strB s)[i]? = some (s.data.toList.getD i 0).toNat := by
    unfold strB
    rw [List.getElem?_map, List.getD_eq_getElem?_getD, List.getElem?_eq_getElem h1]; rfl
  rw [List.getElem?_eq_getElem h2] at e1
  exact (Option.some.inj e1).symm
theorem bidx {s : ByteArray} {i : Nat} (h : i < s.size) : aindex Tryz.prog 9 (.string s) (.int .i64 (i : Int)) = some (.int .u8 ((strB s)[i]'(by rw [strB_len]; exact h) : Nat)) := by
  rw [aidx h, strB_get h]
theorem bidx0 {s : ByteArray} (h : 0 < s.size) : aindex Tryz.prog 9 (.string s) (.int .i64 0) = some (.int .u8 ((strB s).getD 0 0 : Nat)) := by
  have h2 : 0 < (strB s).length := by rw [strB_len]; exact h
  have := bidx (s := s) (i := 0) h
  rw [show ((strB s).getD 0 0) = (strB s)[0] by rw [List.getD_eq_getElem?_getD, List.getElem?_eq_getElem h2]; rfl]
  exact this
variable {E : Env} (hE : EOk E)
include hE
theorem placeR_at {h : Heap} {s : ByteArray} (hs : s.size ≤ 140737488355328) : CallsTo E 84 [.string s] h fun v h' => v = .int .i64 (placeB (strB s)) ∧ h' = h := by
  have hlen := strB_len s
  by_cases hbad : s.size < 1 ∨ s.size > 2 ∨ (s.size = 2 ∧ (strB s).getD 0 0 = 48)
  · have hpl : placeB (strB s) = -1 := by unfold placeB; rw [if_pos (by rw [hlen]; omega)]
    rw [hpl]
    refine en hE Tryz.func84 rfl rfl Tryz.ntmps84 rfl (by decide +kernel) (rs := [.tmp 2]) rfl ?_
    by_cases h1 : s.size < 1
    · have e1 : decide ((s.size : Int) < 1) = true := by simp; omega
      simp only [push_cast, seval, hE.P, zz, e1]
    · have e1 : decide ((s.size : Int) < 1) = false := by simp; omega
      by_cases h2 : s.size > 2
      · have e2 : decide ((s.size : Int) > 2) = true := by simp; omega
        simp only [push_cast, seval, hE.P, zz, e1, e2]
      · have e2 : decide ((s.size : Int) > 2) = false := by simp; omega
        have h3 : s.size = 2 ∧ (strB s).getD 0 0 = 48 := by omega
        have e3 : ((s.size : Int) == 2) = true := by simp [h3.1]
        have hix := bidx0 (s := s) (by omega)
        rw [h3.2] at hix
        have e4 : (((48 : Nat) : Int) == 48) = true := rfl
        simp only [push_cast, seval, hE.P, zz, e1, e2, e3, hix, e4]
  · have e1 : decide ((s.size : Int) < 1) = false := by simp; omega
    have e2 : decide ((s.size : Int) > 2) = false := by simp; omega
    have hpl : placeB (strB s) = if (strB s).all digN = true then (valD (strB s) : Int) else -1 := by
      unfold placeB; rw [if_neg (by rw [hlen]; omega)]
    rw [hpl]
    refine en hE Tryz.func84 rfl rfl Tryz.ntmps84 rfl (by decide +kernel) (rs := [.tmp 2]) rfl ?_
    simp only [push_cast, seval, hE.P, zz, e1, e2]
    refine kguard_cut (fun tm h' => fget tm 22 = .bool false ∧ fget tm 0 = .string s ∧ h' = h) ?_ ?_
    rotate_left
    · refine kguard_splitT (fun hb => ?_) (fun hb => ?_)
      · have h2 : s.size = 2 := by have : (s.size : Int) = 2 := by simpa using hb
                                   omega
        have hix := bidx0 (s := s) (by omega)
        have h3 : (strB s).getD 0 0 ≠ 48 := by omega
        obtain ⟨c, hc⟩ : ∃ c, c = (strB s).getD 0 0 := ⟨_, rfl⟩
        rw [← hc] at hix h3
        have e4 : ((c : Int) == 48) = false := by simp; omega
        simp only [push_cast, seval, hE.P, zz, hb, hix, e4]
      · simp only [push_cast, seval, hE.P, zz, hb]
    rintro tm h1 ⟨f22, f0, rfl⟩
    simp only [push_cast, seval, hE.P, zz, f22, f0]
    refine wpc_loop (fun m tm h' => ∃ i n : Nat, m = s.size - i ∧ i ≤ s.size ∧ fget tm 4 = .int .i64 i ∧ fget tm 3 = .int .i64 n ∧ fget tm 0 = .string s ∧ ((strB s).take i).all digN = true ∧ n = valD ((strB s).take i) ∧ h' = h1) s.size ?_ ?_
    · exact ⟨0, 0, by omega, by omega, by simp only [push_cast, seval, hE.P, zz], by simp only [push_cast, seval, hE.P, zz], by simp only [push_cast, seval, hE.P, zz, f0], rfl, rfl, rfl⟩
    · clear f22 f0
      rintro m tm h2 ⟨i, n, rfl, hi, f4, f3, f0, hall, hn, rfl⟩
      have hn99 : n ≤ 99 := by rw [hn]; exact valD_lt2 (by rw [List.length_take]; omega) hall
      simp only [push_cast, seval, hE.P, zz, f4, f0]
      refine kif_split (fun hb => ?_) (fun hb => ?_)
      · have hlt : i < s.size := by simpa using hb
        have hil : i < (strB s).length := by omega
        have hix := bidx hlt
        obtain ⟨c, hc⟩ : ∃ c, c = (strB s)[i] := ⟨_, rfl⟩
        have hc256 : c < 256 := by
          rw [hc, ← strB_get hlt]; exact UInt8.toNat_lt _
        rw [← hc] at hix
        obtain ⟨i1, hi1⟩ : ∃ i1, i1 = i + 1 := ⟨_, rfl⟩
        have d1 : (i : Int) + 1 = i1 := by omega
        have d2 : IntKind.i64.wrap (i1 : Int) = i1 := wrN (by omega)
        by_cases hd : digN c = true
        · have hd2 := hd
          simp [digN] at hd2
          have q1 : decide ((c : Int) < 48) = false := by simp; omega
          have q2 : decide ((c : Int) > 57) = false := by simp; omega
          obtain ⟨n10, hn10⟩ : ∃ n10, n10 = n * 10 := ⟨_, rfl⟩
          have r1 : (n : Int) * 10 = n10 := by omega
          have r2 : IntKind.i64.wrap (n10 : Int) = n10 := wrN (by omega)
          have r3 : IntKind.i64.wrap (c : Int) = c := wrN (by omega)
          obtain ⟨nc, hnc⟩ : ∃ nc, nc = n10 + c := ⟨_, rfl⟩
          have r4 : (n10 : Int) + c = nc := by omega
          have r5 : IntKind.i64.wrap (nc : Int) = nc := wrN (by omega)
          obtain ⟨n2, hn2⟩ : ∃ n2, n2 = nc - 48 := ⟨_, rfl⟩
          have r6 : (nc : Int) - 48 = n2 := by omega
          have r7 : IntKind.i64.wrap (n2 : Int) = n2 := wrN (by omega)
          simp only [push_cast, seval, hE.P, zz, f4, f3, f0, hix, q1, q2, r1, r2, r3, r4, r5, r6, r7, d1, d2]
          refine ⟨s.size - i1, by omega, i1, n2, rfl, by omega, rfl, rfl, ?_, ?_⟩
          · rw [hi1, List.take_succ_eq_append_getElem hil, List.all_append, hall, ← hc]; simp [hd]
          · rw [hi1, List.take_succ_eq_append_getElem hil, valD_app, ← hn, ← hc]; omega
        · have hal : (strB s).all digN = false := by
            rw [List.all_eq_false]; exact ⟨c, by rw [hc]; exact List.getElem_mem hil, hd⟩
          have hd2 : c < 48 ∨ c > 57 := by
            simp only [digN, Bool.and_eq_true, decide_eq_true_eq] at hd; omega
          by_cases q : c < 48
          · have q1 : decide ((c : Int) < 48) = true := by simp; omega
            simp only [push_cast, seval, hE.P, zz, f4, f3, f0, hix, q1]
            rw [hal]; rfl
          · have q1 : decide ((c : Int) < 48) = false := by simp; omega
            have q2 : decide ((c : Int) > 57) = true := by simp; omega
            simp only [push_cast, seval, hE.P, zz, f4, f3, f0, hix, q1, q2]
            rw [hal]; rfl
      · have hge : i = s.size := by have : ¬ i < s.size := by simpa using hb
                                    omega
        rw [hge, List.take_of_length_le (by omega)] at hall hn
        simp only [push_cast, seval, hE.P, zz, f3]
        rw [if_pos hall, hn]
theorem letterR_at {h : Heap} {r : Nat} : CallsTo E 85 [.int .u8 (r : Int)] h fun v h' => v = .bool (letN r) ∧ h' = h := by
  have d1 : decide ((r : Int) ≥ 97) = decide (97 ≤ r) := decide_eq_decide.2 (by omega)
  have d2 : decide ((r : Int) ≤ 122) = decide (r ≤ 122) := decide_eq_decide.2 (by omega)
  have d3 : decide ((r : Int) ≥ 65) = decide (65 ≤ r) := decide_eq_decide.2 (by omega)
  have d4 : decide ((r : Int) ≤ 90) = decide (r ≤ 90) := decide_eq_decide.2 (by omega)
  have d5 : ((r : Int) == 95) = (r == 95) := beq_cast r 95
  refine en hE Tryz.func85 rfl rfl Tryz.ntmps85 rfl (by decide +kernel) (rs := [.tmp 2]) rfl ?_
  by_cases c5 : (r == 95) = true
  · simp only [push_cast, seval, hE.P, zz, d1, d2, d3, d4, d5, c5]
    simp [letN, c5]
  · have c5' : (r == 95) = false := by simpa using c5
    by_cases c4 : 65 ≤ r
    · by_cases c3 : r ≤ 90
      · simp only [push_cast, seval, hE.P, zz, d1, d2, d3, d4, d5, c5', c4, c3]
        simp [letN, c4, c3]
      · by_cases c1 : 97 ≤ r
        · simp only [push_cast, seval, hE.P, zz, d1, d2, d3, d4, d5, c5', c4, c3, c1]
          simp [letN, c1, c3, c5']
        · simp only [push_cast, seval, hE.P, zz, d1, d2, d3, d4, d5, c5', c4, c3, c1]
          simp [letN, c1, c3, c5']
    · have c1 : ¬ 97 ≤ r := by omega
      simp only [push_cast, seval, hE.P, zz, d1, d2, d3, d4, d5, c5', c4, c1]
      simp [letN, c1, c4, c5']
theorem isStep_at {h : Heap} {s : ByteArray} (hs : s.size ≤ 140737488355328) : CallsTo E 30 [.string s] h fun v h' => v = .bool (stepOk s) ∧ h' = h := by
  have hlen := strB_len s
  refine en hE Tryz.func30 rfl rfl Tryz.ntmps30 rfl (by decide +kernel) (rs := [.tmp 2]) rfl ?_
  simp only [push_cast, seval, hE.P, zz]
  refine (placeR_at hE hs).mono ?_
  rintro v h1 ⟨rfl, rfl⟩
  simp only [push_cast, seval, hE.P, zz]
  refine kif_split (fun hb => ?_) (fun hb => ?_)
  · have hp : 0 ≤ placeB (strB s) := by simpa using hb
    simp only [push_cast, seval, hE.P, zz]
    simp [stepOk, hp]
  have hp : ¬ 0 ≤ placeB (strB s) := by simpa using hb
  have hst : stepOk s = nameB (strB s) := by simp [stepOk, hp]
  rw [hst]
  by_cases h1s : s.size < 1
  · have e1 : decide ((s.size : Int) < 1) = true := by simp; omega
    have hn : nameB (strB s) = false := by unfold nameB; rw [decide_eq_false (by omega)]; rfl
    simp only [push_cast, seval, hE.P, zz, e1]
    rw [hn]
  have e1 : decide ((s.size : Int) < 1) = false := by simp; omega
  by_cases h2s : s.size > 24
  · have e2 : decide ((s.size : Int) > 24) = true := by simp; omega
    have hn : nameB (strB s) = false := by unfold nameB; rw [decide_eq_false (by omega : ¬ (strB s).length ≤ 24)]; simp
    simp only [push_cast, seval, hE.P, zz, e1, e2]
    rw [hn]
  have e2 : decide ((s.size : Int) > 24) = false := by simp; omega
  have hix := bidx0 (s := s) (by omega)
  obtain ⟨c0, hc0⟩ : ∃ c, c = (strB s).getD 0 0 := ⟨_, rfl⟩
  rw [← hc0] at hix
  simp only [push_cast, seval, hE.P, zz, e1, e2, hix]
  refine (letterR_at hE).mono ?_
  rintro v h2 ⟨rfl, rfl⟩
  by_cases hl0 : letN c0 = true
  rotate_left
  · have hl0' : letN c0 = false := by simpa using hl0
    have hn : nameB (strB s) = false := by unfold nameB; rw [← hc0, hl0']; simp
    simp only [push_cast, seval, hE.P, zz, hl0']
    rw [hn]
  have hnm : nameB (strB s) = ((strB s).drop 1).all fun d => letN d || digN d := by
    unfold nameB; rw [← hc0, hl0, decide_eq_true (by omega), decide_eq_true (by omega)]; rfl
  rw [hnm]
  simp only [push_cast, seval, hE.P, zz, hl0]
  refine wpc_loop (fun m tm h' => ∃ i : Nat, m = s.size - i ∧ 1 ≤ i ∧ i ≤ s.size ∧ fget tm 3 = .int .i64 i ∧ fget tm 0 = .string s ∧ (((strB s).take i).drop 1).all (fun d => letN d || digN d) = true ∧ h' = h2) (s.size - 1) ?_ ?_
  · refine ⟨1, rfl, by omega, by omega, by simp only [push_cast, seval, hE.P, zz], by simp only [push_cast, seval, hE.P, zz], ?_, rfl⟩
    rw [List.drop_eq_nil_of_le (by rw [List.length_take]; omega)]; rfl
  · rintro m tm h3 ⟨i, rfl, h1i, hi, f3, f0, hall, rfl⟩
    simp only [push_cast, seval, hE.P, zz, f3, f0]
    refine kif_split (fun hb2 => ?_) (fun hb2 => ?_)
    · have hlt : i < s.size := by simpa using hb2
      have hil : i < (strB s).length := by omega
      have hix := bidx hlt
      obtain ⟨c, hc⟩ : ∃ c, c = (strB s)[i] := ⟨_, rfl⟩
      rw [← hc] at hix
      obtain ⟨i1, hi1⟩ : ∃ i1, i1 = i + 1 := ⟨_, rfl⟩
      have d1 : (i : Int) + 1 = i1 := by omega
      have d2 : IntKind.i64.wrap (i1 : Int) = i1 := wrN (by omega)
      have hgo : (letN c || digN c) = true → (((strB s).take i1).drop 1).all (fun d => letN d || digN d) = true := fun hh => by
        rw [hi1, List.take_succ_eq_append_getElem hil, List.drop_append_of_le_length (by rw [List.length_take]; omega), List.all_append, hall, ← hc]
        simp [hh]
      have hno : (letN c || digN c) = false → ((strB s).drop 1).all (fun d => letN d || digN d) = false := fun hh => by
        rw [List.all_eq_false]
        exact ⟨c, List.mem_of_getElem? (i := i - 1) (by rw [List.getElem?_drop, show 1 + (i - 1) = i by omega, List.getElem?_eq_getElem hil, hc]), by rw [hh]; simp⟩
      simp only [push_cast, seval, hE.P, zz, f3, f0, hix]
      refine (letterR_at hE).mono ?_
      rintro v h4 ⟨rfl, rfl⟩
      by_cases hl : letN c = true
      · simp only [push_cast, seval, hE.P, zz, hl, f3, f0, d1, d2]
        exact ⟨s.size - i1, by omega, i1, rfl, by omega, by omega, rfl, hgo (by rw [hl]; rfl)⟩
      · have hl' : letN c = false := by simpa using hl
        by_cases hd : digN c = true
        · have hd2 := hd
          simp [digN] at hd2
          have q1 : decide ((c : Int) < 48) = false := by simp; omega
          have q2 : decide ((c : Int) > 57) = false := by simp; omega
          simp only [push_cast, seval, hE.P, zz, hl', f3, f0, hix, q1, q2, d1, d2]
          exact ⟨s.size - i1, by omega, i1, rfl, by omega, by omega, rfl, hgo (by rw [hd]; simp)⟩
        · have hd' : digN c = false := by simpa using hd
          have hd2 : c < 48 ∨ c > 57 := by
            simp only [digN, Bool.and_eq_true, decide_eq_true_eq] at hd; omega
          have hn := hno (by rw [hl', hd']; rfl)
          by_cases q : c < 48
          · have q1 : decide ((c : Int) < 48) = true := by simp; omega
            simp only [push_cast, seval, hE.P, zz, hl', f3, f0, hix, q1]
            rw [hn]
          · have q1 : decide ((c : Int) < 48) = false := by simp; omega
            have q2 : decide ((c : Int) > 57) = true := by simp; omega
            simp only [push_cast, seval, hE.P, zz, hl', f3, f0, hix, q1, q2]
            rw [hn]
    · have hge : i = s.size := by have : ¬ i < s.size := by simpa using hb2
                                  omega
      rw [hge, List.take_of_length_le (by omega)] at hall
      simp only [push_cast, seval, hE.P, zz]
      rw [hall]
end Go.Proofs.YthfopcdammlmfaaGreatDoor
namespace Go.Proofs.YthfopcdammlmfaaGreatDoor
open Go.Tm
theorem extract_all (p : ByteArray) : p.extract 0 p.size = p := by
  rw [ByteArray.extract_zero_size]
theorem ok_nodot {p : ByteArray} (h : stepOk p = true) : ∀ i (hi : i < (strB p).length), (strB p)[i] ≠ 46 := fun i hi e => by
  have : (46 : UInt8) ∈ p.data.toList := by
    have hm : 46 ∈ strB p := by rw [← e]; exact List.getElem_mem hi
    obtain ⟨c, hc, hc2⟩ := List.mem_map.1 hm
    have : c = 46 := UInt8.toNat_inj.1 hc2
    rw [← this]; exact hc
  rw [dot_no this] at h; cases h
variable {E : Env} (hE : EOk E)
include hE
theorem stepsR_at {h : Heap} (hW : WF E h) {p : ByteArray} (hp : p.size ≤ 140737488355328) : CallsTo E 82 [.string p] h fun v h' =>
    ∃ (ys : List ByteArray) (sl : Value) (b : Bool), v = .tuple #[sl, .bool b] ∧ Own h' 9 1 h.next ys.length (strs ys) sl ∧ (∀ y, y ∈ ys → y.size ≤ p.size) ∧ ys.length ≤ 8 ∧ (stepOk p = true → b = true ∧ ys = [p]) ∧ Keep h h' ∧ WF E h' := by
  have hlen := strB_len p
  refine en hE Tryz.func82 rfl rfl Tryz.ntmps82 rfl (by decide +kernel) (rs := [.tmp 2, .tmp 3]) rfl ?_
  simp only [push_cast, seval, hE.P, zz]
  refine wpc_loop (fun m tm h' => ∃ (i f : Nat) (ys : List ByteArray), m = p.size + 1 - i ∧ i ≤ p.size + 1 ∧ f ≤ i ∧ fget tm 6 = .int .i64 i ∧ fget tm 5 = .int .i64 f ∧ fget tm 0 = .string p ∧ Own h' 9 1 h.next ys.length (strs ys) (fget tm 4) ∧ (∀ y, y ∈ ys → y.size ≤ p.size) ∧ ys.length ≤ 8 ∧
    (stepOk p = true → (i ≤ p.size → f = 0 ∧ ys = []) ∧ (i = p.size + 1 → ys = [p])) ∧ Keep h h' ∧ WF E h') (p.size + 1) ?_ ?_
  · refine ⟨0, 0, [], by omega, by omega, by omega, by simp only [push_cast, seval, hE.P, zz], by simp only [push_cast, seval, hE.P, zz], by simp only [push_cast, seval, hE.P, zz], ?_, fun y hy => (by cases hy), by simp, fun _ => ⟨fun _ => ⟨rfl, rfl⟩, fun hh => by omega⟩, Keep.refl _, hW⟩
    simp only [push_cast, seval, hE.P, zz]
    exact .inl ⟨rfl, rfl, rfl⟩
  · rintro m tm h1 ⟨i, f, ys, rfl, hi, hfi, f6, f5, f0, hown, hys, hy8, hinv, hk, hw⟩
    obtain ⟨x4, f4⟩ : ∃ v, fget tm 4 = v := ⟨_, rfl⟩
    rw [f4] at hown
    obtain ⟨a, c, rfl, _⟩ := Own.slice hown
    obtain ⟨i1, hi1⟩ : ∃ i1, i1 = i + 1 := ⟨_, rfl⟩
    have d1 : (i : Int) + 1 = i1 := by omega
    have d2 : IntKind.i64.wrap (i1 : Int) = i1 := wrN (by omega)
    simp only [push_cast, seval, hE.P, zz, f6, f0]
    refine kif_split (fun hb => ?_) (fun hb => ?_)
    · have hle : i ≤ p.size := by simpa using hb
      by_cases hdot : i < p.size ∧ ∀ hi' : i < (strB p).length, (strB p)[i] ≠ 46
      · obtain ⟨hlt, hne⟩ := hdot
        have hne := hne (by omega)
        have q : decide ((i : Int) < p.size) = true := by simp; omega
        have hix := bidx hlt
        obtain ⟨x, hx⟩ : ∃ c, c = (strB p)[i]'(by omega) := ⟨_, rfl⟩
        rw [← hx] at hix hne
        have e4 : ((x : Int) != 46) = true := by simp; omega
        simp only [push_cast, seval, hE.P, zz, q, hix, e4, f6, f5, f4, f0, d1, d2]
        exact ⟨p.size + 1 - i1, by omega, i1, f, ys, rfl, by omega, by omega, rfl, rfl, hown, hys, hy8, fun hh => ⟨fun _ => (hinv hh).1 hle, fun he => by omega⟩, hk, hw⟩
      · have hmid := asl_mid (s := p) (f := f) (m := i) hle hfi
        have hszs : (p.extract f i).size ≤ p.size := by rw [ByteArray.size_extract]; omega
        have hend : stepOk p = true → i = p.size := fun hh => by
          apply Classical.byContradiction; intro hne
          exact hdot ⟨by omega, ok_nodot hh i⟩
        have hfull : stepOk p = true → p.extract f i = p ∧ ys = [] := fun hh => by
          obtain ⟨e1, e2⟩ := (hinv hh).1 hle
          rw [e1, hend hh]; exact ⟨extract_all p, e2⟩
        simp only [push_cast, seval, hE.P, zz, f6, f0]
        refine kguard_cut (fun tm' h' => fget tm' 22 = .bool false ∧ fget tm' 6 = .int .i64 i ∧ fget tm' 5 = .int .i64 f ∧ fget tm' 4 = .slice a ys.length c ∧ fget tm' 0 = .string p ∧ h' = h1) ?_ ?_
        rotate_left
        · refine kguard_splitT (fun hb2 => ?_) (fun hb2 => ?_)
          · have hlt : i < p.size := by simpa using hb2
            have hix := bidx hlt
            have hx46 : (strB p)[i]'(by omega) = 46 := by
              apply Classical.byContradiction; intro hne
              exact hdot ⟨hlt, fun _ => hne⟩
            rw [hx46] at hix
            have e4 : (((46 : Nat) : Int) != 46) = false := rfl
            simp only [push_cast, seval, hE.P, zz, hb2, hix, e4, f6, f5, f4, f0]
          · simp only [push_cast, seval, hE.P, zz, hb2, f6, f5, f4, f0]
        clear f6 f5 f4 f0
        rintro tm' h1' ⟨f22, f6, f5, f4, f0, rfl⟩
        simp only [push_cast, seval, hE.P, zz, f22, f6, f5, f0, hmid]
        refine (isStep_at hE (s := p.extract f i) (by omega)).mono ?_
        rintro v h2 ⟨rfl, rfl⟩
        by_cases hst : stepOk (p.extract f i) = true
        · by_cases h8 : ys.length = 8
          · have e8 : ((ys.length : Int) == 8) = true := by simp [h8]
            simp only [push_cast, seval, hE.P, zz, hst, f4, e8]
            exact ⟨[], _, _, rfl, .inl ⟨rfl, rfl, rfl⟩, fun y hy => (by cases hy), by simp, fun hh => (by have := (hfull hh).2; rw [this] at h8; simp at h8), hk, hw⟩
          · have e8 : ((ys.length : Int) == 8) = false := by simp; omega
            simp only [push_cast, seval, hE.P, zz, hst, f4, e8, f6, f5, f0, hmid]
            rw [bs130 rfl, kalloc_some]
            simp only [push_cast, seval, hE.P, zz, f4]
            refine kwv_app1 (el130 hE.P) hw (lo := h.next) hk.next hown rfl rfl (by omega) (by omega) ?_
            intro v8 h8' hown8 hbut8 hblk8 hnx8 w8
            simp only [push_cast, seval, hE.P, zz, f6, f0, d1, d2]
            have e9 : (ys ++ [p.extract f i]).length = ys.length + 1 := by simp
            have e10 : strs (ys ++ [p.extract f i]) = strs ys ++ [.string (p.extract f i)] := by simp [strs]
            refine ⟨p.size + 1 - i1, by omega, i1, i1, ys ++ [p.extract f i], rfl, by omega, Nat.le_refl _, rfl, rfl, by rw [e9, e10]; exact hown8, fun y hy => ?_, by rw [e9]; omega, fun hh => ⟨fun hl => ?_, fun he => ?_⟩, ?_, w8⟩
            · rcases List.mem_append.1 hy with hy | hy
              · exact hys y hy
              · simp only [List.mem_singleton] at hy; subst hy; exact hszs
            · have := hend hh; omega
            · obtain ⟨e1, e2⟩ := hfull hh
              rw [e1, e2]; rfl
            · refine ⟨fun b o hb => hbut8 b o (hk.get b o hb) (fun hh => ?_), by have := hk.next; omega⟩
              have := (hown.lt hw b hh).1
              have := (hW.live b o hb).2
              omega
        · have hst' : stepOk (p.extract f i) = false := by simpa using hst
          simp only [push_cast, seval, hE.P, zz, hst', f4]
          exact ⟨[], _, _, rfl, .inl ⟨rfl, rfl, rfl⟩, fun y hy => (by cases hy), by simp, fun hh => (by rw [(hfull hh).1, hh] at hst'; cases hst'), hk, hw⟩
    · have hge : i = p.size + 1 := by have : ¬ i ≤ p.size := by simpa using hb
                                      omega
      simp only [push_cast, seval, hE.P, zz, f4]
      exact ⟨ys, _, _, rfl, hown, hys, hy8, fun hh => ⟨rfl, (hinv hh).2 hge⟩, hk, hw⟩
end Go.Proofs.YthfopcdammlmfaaGreatDoor
