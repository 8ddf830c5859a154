/- The builder: values. -/
/- Merged by a program of ours: H13 H14 H15 H16. -/
import Derived.Test.YthfopcdammlmfaaGreatDoorC4
import Derived.Test.YthfopcdammlmfaaGreatDoorA9
set_option maxRecDepth 10000
set_option linter.all false
set_option linter.unusedSimpArgs false
set_option linter.unusedVariables false
/- A text in words. -/
namespace Go.Proofs.YthfopcdammlmfaaGreatDoor
open Go.Tm
theorem u64s_range {n : Nat} {w : Nat → Nat} : wcells n w = u64s ((List.range n).map w) := by
  unfold wcells u64s; rw [List.map_map]; rfl
theorem aidx {s : ByteArray} {i : Nat} {k : IntKind} (h : i < s.size) : aindex Tryz.prog 9 (.string s) (.int k i) = some (.int .u8 ((s.data.toList.getD i 0).toNat : Nat)) := by
  unfold aindex
  rw [Tryz.underlying9]
  have hl : i < s.data.toList.length := by simpa using h
  simp only
  rw [if_pos (by omega), Int.toNat_natCast, List.getElem?_eq_getElem hl]
  rw [List.getD_eq_getElem?_getD, List.getElem?_eq_getElem hl]; rfl
variable {E : Env} (hE : EOk E)
include hE
theorem packed_at' {h : Heap} (hW : WF E h) {s : ByteArray} (hs : s.size ≤ 1000000) : CallsTo E 145 [.string s] h fun v h' =>
    Own h' 33 1 h.next (packW s).length (u64s (packW s)) v ∧ Keep h h' ∧ WF E h' := by
  obtain ⟨n, hn⟩ : ∃ n, n = 1 + (s.size + 7) / 8 := ⟨_, rfl⟩
  have htw : textW s = (n : Int) := by unfold textW; omega
  have m1 := mk50 (k := .i64) (k' := .i64) (l := n) (c := n) (by omega) (by omega) (by omega) (by omega)
  rw [Int.toNat_natCast, wcells_zero] at m1
  refine en hE Tryz.func145 rfl rfl Tryz.ntmps145 rfl (by decide +kernel) (rs := [.tmp 2]) rfl ?_
  simp only [push_cast, seval, hE.P, wpc_label, wpc_block]
  refine (textWords_at hE (by omega)).mono ?_
  rintro v h0 ⟨rfl, rfl⟩
  rw [htw]
  have nb0 : (h0.next < E.base) = False := by have := hW.base; simp; omega
  simp only [push_cast, seval, hE.P, wpc_label, wpc_block, m1]
  rw [ia50 rfl (by omega) (by omega), kpure_some]
  have w1 := hW.push (.cells (wcells n fun _ => 0) 33 true)
  have k1 := (Keep.refl h0).push (o := .cells (wcells n fun _ => 0) 33 true) hW
  have g1 : (h0.push (.cells (wcells n fun _ => 0) 33 true)).get h0.next = some (.cells (wcells n fun _ => 0) 33 true) := by rw [get_push, if_pos rfl]
  have e1 : awrite (h0.push (.cells (wcells n fun _ => 0) 33 true)) ⟨h0.next, 0, none⟩ [.int .u64 (s.size : Nat)] = some ((h0.push (.cells (wcells n fun _ => 0) 33 true)).put h0.next (.cells (wcells n (packI s 0)) 33 true)) := by
    rw [awrite_of g1 (by rw [wcells_len]; simp; omega) rfl, wcells_set (by omega)]
    refine congrArg (fun x => some (Heap.put _ _ (.cells (wcells n x) _ _))) ?_
    funext k; unfold updN packI; rw [wd_zero]
  have k2 : Keep h0 (h0.push (.cells (wcells n (packI s 0)) 33 true)) := (Keep.refl h0).push hW
  have hsz : IntKind.u64.wrap (s.size : Int) = s.size := wruN (by omega)
  simp only [push_cast, seval, hE.P, wpc_label, wpc_block, e1, hsz]
  refine wpc_loop (fun m tm h' => ∃ i, m = s.size - i ∧ i ≤ s.size ∧ fget tm 15 = .int .i64 i ∧ fget tm 14 = .int .i64 s.size ∧ fget tm 3 = .slice (some ⟨h0.next, 0, none⟩) n n ∧ fget tm 0 = .string s ∧
    h'.get h0.next = some (.cells (wcells n (packI s i)) 33 true) ∧ Keep h0 h' ∧ WF E h') s.size ?_ ?_
  · refine ⟨0, rfl, by omega, by simp only [push_cast, seval, hE.P, wpc_label, wpc_block], by simp only [push_cast, seval, hE.P, wpc_label, wpc_block], by simp only [push_cast, seval, hE.P, wpc_label, wpc_block], by simp only [push_cast, seval, hE.P, wpc_label, wpc_block], ?_, k2, hW.push _⟩
    rw [get_push, if_pos rfl]
  · rintro m tm h' ⟨i, rfl, hi, f15, f14, f3, f0, hg, hk, hw⟩
    simp only [push_cast, seval, hE.P, wpc_label, wpc_block, f15, f14]
    refine kif_split (fun hb => ?_) (fun hb => ?_)
    · have hlt : i < s.size := by simpa using hb
      obtain ⟨q, hq⟩ : ∃ q, q = i / 8 := ⟨_, rfl⟩
      obtain ⟨r, hr⟩ : ∃ r, r = i % 8 := ⟨_, rfl⟩
      obtain ⟨r8, hr8⟩ : ∃ r8, r8 = 8 * r := ⟨_, rfl⟩
      obtain ⟨q1, hq1⟩ : ∃ q1, q1 = 1 + q := ⟨_, rfl⟩
      obtain ⟨i1, hi1⟩ : ∃ i1, i1 = i + 1 := ⟨_, rfl⟩
      have a1 : (i : Int).tdiv 8 = q := by rw [Int.tdiv_eq_ediv_of_nonneg (by omega)]; omega
      have a2 : IntKind.i64.wrap (q : Int) = q := wrN (by omega)
      have a3 : (1 : Int) + q = q1 := by omega
      have a4 : IntKind.i64.wrap (q1 : Int) = q1 := wrN (by omega)
      have a5 : (i : Int).tmod 8 = r := by rw [Int.tmod_eq_emod_of_nonneg (by omega)]; omega
      have a6 : (8 : Int) * r = r8 := by omega
      have a7 : IntKind.i64.wrap (r8 : Int) = r8 := wrN (by omega)
      have a8 : ¬ ((r8 : Int) < 0) := by omega
      have a9 : (i : Int) + 1 = i1 := by omega
      have a10 : IntKind.i64.wrap (i1 : Int) = i1 := wrN (by omega)
      have hq1n : q1 < n := by omega
      have lac : acells E h' ⟨h0.next, q1, none⟩ 1 = some [.int .u64 (packI s i q1)] := by
        have h1 : q1 + 1 ≤ (wcells n (packI s i)).length := by rw [wcells_len]; omega
        simp [acells, nb0, hg, h1, wcells_at hq1n]
      have hpk : packI s i q1 = wd s i q := by unfold packI; rw [if_neg (by omega)]; congr 1; omega
      have hwl := wd_lt s i q
      have ai := aidx (k := .i64) hlt
      have hst := packI_step hlt
      rw [← hq, ← hr, ← hr8] at hst
      obtain ⟨x, hx⟩ : ∃ x, x = (s.data.toList.getD i 0).toNat := ⟨_, rfl⟩
      have hx256 : x < 256 := by rw [hx]; exact (s.data.toList.getD i 0).toNat_lt
      rw [← hx] at ai hst
      have hxw : IntKind.u64.wrap (x : Int) = x := wruN (by omega)
      have hsh : x * 2 ^ r8 < 18446744073709551616 := by
        have h1 : x * 2 ^ r8 ≤ 255 * 2 ^ r8 := Nat.mul_le_mul_right _ (by omega)
        have h2 : 2 ^ r8 ≤ 2 ^ 56 := Nat.pow_le_pow_right (by omega) (by omega)
        have h3 : 255 * 2 ^ r8 ≤ 255 * 2 ^ 56 := Nat.mul_le_mul_left _ h2
        have h4 : 255 * 2 ^ 56 < 18446744073709551616 := by decide
        omega
      have hshl := shl_nat (m := x) (k := r8) (by omega) hsh
      obtain ⟨y, hy⟩ : ∃ y, y = x * 2 ^ r8 := ⟨_, rfl⟩
      rw [← hy] at hshl hsh hst
      have hor := bits_or_u64_nat (wd s i q) y hwl hsh
      have hol : wd s i q ||| y < 18446744073709551616 := Nat.or_lt_two_pow (n := 64) hwl hsh
      rw [hpk] at lac
      obtain ⟨z, hz⟩ : ∃ z, z = wd s i q ||| y := ⟨_, rfl⟩
      rw [← hz] at hor hol hst
      have e2 : awrite h' ⟨h0.next, q1, none⟩ [.int .u64 (z : Nat)] = some (h'.put h0.next (.cells (wcells n (packI s i1)) 33 true)) := by
        rw [awrite_of hg (by rw [wcells_len]; simp; omega) rfl, wcells_set hq1n, hq1, hst, hi1]
      simp only [push_cast, seval, hE.P, wpc_label, wpc_block, f15, f14, f3, f0]
      refine wdraw_pairs [] (by rw [hE.P]; decide +kernel) (by rw [hE.P]; decide +kernel) (by rw [hE.P]; decide +kernel) ?_
      simp only [push_cast, seval, hE.P, wpc_label, wpc_block, f15, f14, f3, f0, a1, a2, a3, a4]
      rw [ia50 rfl (by omega) (by omega), kpure_some]
      simp only [push_cast, seval, hE.P, wpc_label, wpc_block, f15, f14, f3, f0, a1, a2, a3, a4, a5, a6, a7, a8, ↓lac, ai, hxw]
      rw [ia50 rfl (by omega) (by omega), kpure_some]
      simp only [push_cast, seval, hE.P, wpc_label, wpc_block, hshl, hor, e2, f15, f14, f3, f0, a9, a10, ↓lac]
      refine ⟨fun p hp => (by cases hp), ?_⟩
      exact ⟨s.size - i1, by omega, i1, rfl, by omega, rfl, rfl, hk.putNew hW (Nat.le_refl _), hw.put hg⟩
    · have hge : i = s.size := by have : ¬ i < s.size := by simpa using hb
                                  omega
      subst hge
      simp only [push_cast, seval, hE.P, wpc_label, wpc_block, f3]
      refine ⟨.inr ⟨h0.next, n, [], true, by rw [packW_len, ← hn], ?_, by rw [u64s_len, Nat.mul_one], by rw [packW_len, ← hn]; simp, by rw [packW_len, ← hn]; exact Nat.le_refl _, Nat.le_refl _, by omega⟩, hk, hw⟩
      rw [hg, List.append_nil, u64s_range, hn, packI_all]
end Go.Proofs.YthfopcdammlmfaaGreatDoor
/- The builder: texts and values. -/
namespace Go.Proofs.YthfopcdammlmfaaGreatDoor
open Go.Tm
def noMem : Mem := fun _ => none
theorem noMem_frz (E : Env) (h : Heap) : Frz E noMem h := fun _ _ hb => by cases hb
theorem ext_sep {E : Env} {h h' : Heap} {L : HL} {G' : Mem} (x : Ext E noMem h G' h') (hlt : ∀ b, b ∈ L.blocks → b < h.next) : Sep L G' := fun b hb => by
  cases hc : G' b with
  | none => rfl
  | some c =>
    rcases x.new b c hc with h1 | h1
    · cases h1
    · have := hlt b hb; omega
theorem sl_nil {E : Env} {G : Mem} : Sl E G 1 ([] : List Nat).length (u64s []) (.slice none 0 0) := ⟨none, 0, rfl, by simp, by omega, ⟨fun _ => rfl, fun _ x => (by cases x)⟩, .inl ⟨rfl, rfl⟩⟩
theorem packW_lt {s : ByteArray} (hs : s.size ≤ 1000000) : ∀ y, y ∈ packW s → y < 18446744073709551616 := by
  intro y hy
  unfold packW at hy
  rcases List.mem_cons.1 hy with rfl | hy
  · omega
  · obtain ⟨k, _, rfl⟩ := List.mem_map.1 hy
    exact wd_lt _ _ _
variable {E : Env} (hE : EOk E)
include hE
theorem text_at {h : Heap} {L : HL} {W nS : Nat} {R : List Nat} {O : List Ob} (H : IsO E h L W nS R O) (hW : WF E h) {s : ByteArray} (hs : s.size ≤ 10000) (hfit : fitsO W nS O (packW s).length) :
    CallsTo E 101 [.agg #[.pointer (some ⟨L.ph, 0, none⟩)], .string s] h fun v h' =>
      v = .int .u64 (hOf O.length) ∧ IsO E h' L W nS R (O ++ [⟨4, 0, packW s⟩]) ∧ KeepB L h h' ∧ WF E h' := by
  have hlt := H.lt hW
  have k0 := (Keep.refl h).push (o := .cells [.pointer (some ⟨L.ph, 0, none⟩)] 79 true) hW
  have w0 := hW.push (.cells [.pointer (some ⟨L.ph, 0, none⟩)] 79 true)
  have g0 : (h.push (.cells [.pointer (some ⟨L.ph, 0, none⟩)] 79 true)).get h.next = some (.cells [.pointer (some ⟨L.ph, 0, none⟩)] 79 true) := by rw [get_push, if_pos rfl]
  refine en hE Tryz.func101 rfl rfl Tryz.ntmps101 rfl (by decide +kernel) (rs := [.tmp 4]) rfl ?_
  simp only [push_cast, seval, hE.P, zz, hW.nb, hW.nb0]
  refine wdraw_pairs [(0, 2)] (by rw [hE.P]; decide +kernel) (by rw [hE.P]; decide +kernel) (by rw [hE.P]; decide +kernel) ?_
  simp only [push_cast, seval, hE.P, zz, hW.nb, hW.nb0]
  refine (packed_at' hE w0 (s := s) (by omega)).mono ?_
  rintro v h1 ⟨hown, k1, w1⟩
  obtain ⟨G', hsl, hx⟩ := hown.freeze w0 (noMem_frz E _) (Nat.le_refl _) k1 w1
  have hsep : Sep L G' := ext_sep hx fun b hb => by have := (hlt b hb).2; simp; omega
  have g1 := k1.get h.next _ g0
  simp only [push_cast, seval, hE.P, zz, hW.nb, hW.nb0, g1]
  have hpl := packW_len s
  refine (of_at hE (H.keep (k0.trans k1)) w1 hx.frz hsep (t := 4) (by omega) (by omega) (hs := []) (ws := packW s) (by simp; omega) (fun y hy => by cases hy) (packW_lt (by omega)) sl_nil hsl (by simpa using hfit)).mono ?_
  rintro v h2 ⟨rfl, H2, k2, w2⟩
  simp only [push_cast, seval, hE.P, zz, hW.nb, hW.nb0, g1]
  exact ⟨by simpa using H2, ((k0.trans k1).b L).trans k2, w2⟩
end Go.Proofs.YthfopcdammlmfaaGreatDoor
/- What objects a value makes: the plain law. -/
namespace Go.Proofs.YthfopcdammlmfaaGreatDoor
open Go.Tm
def u64N (n : Int) : Nat := (IntKind.u64.wrap n).toNat
mutual
def obs : Nat → Vl → List Ob
  | b, .mk k n s l f => if k = 2 then [⟨2, 0, [u64N n]⟩] else if k = 3 then [⟨3, 0, [u64N n]⟩] else if k = 4 then [⟨4, 0, packW s⟩]
    else if k = 5 then (obsL b l).1 ++ [⟨5, (obsL b l).2.length, (obsL b l).2⟩] else if k = 6 then (obsF b f).1 ++ [⟨6, (obsF b f).2.length, (obsF b f).2⟩] else [⟨1, 0, []⟩]
def obsL : Nat → List Vl → List Ob × List Nat
  | _, [] => ([], [])
  | b, v :: l => (obs b v ++ (obsL (b + (obs b v).length) l).1, hOf (b + (obs b v).length - 1) :: (obsL (b + (obs b v).length) l).2)
def obsF : Nat → List (ByteArray × Vl) → List Ob × List Nat
  | _, [] => ([], [])
  | b, (nm, v) :: l => (⟨4, 0, packW nm⟩ :: (obs (b + 1) v ++ (obsF (b + 1 + (obs (b + 1) v).length) l).1), hOf b :: hOf (b + 1 + (obs (b + 1) v).length - 1) :: (obsF (b + 1 + (obs (b + 1) v).length) l).2)
end
theorem obs_eq (b : Nat) (V : Vl) : obs b V = if V.k = 2 then [⟨2, 0, [u64N V.n]⟩] else if V.k = 3 then [⟨3, 0, [u64N V.n]⟩] else if V.k = 4 then [⟨4, 0, packW V.s⟩]
    else if V.k = 5 then (obsL b V.l).1 ++ [⟨5, (obsL b V.l).2.length, (obsL b V.l).2⟩] else if V.k = 6 then (obsF b V.f).1 ++ [⟨6, (obsF b V.f).2.length, (obsF b V.f).2⟩] else [⟨1, 0, []⟩] := by
  cases V; rw [obs]; rfl
theorem obsL_app : ∀ (l : List Vl) (b : Nat) (l' : List Vl), obsL b (l ++ l') = ((obsL b l).1 ++ (obsL (b + (obsL b l).1.length) l').1, (obsL b l).2 ++ (obsL (b + (obsL b l).1.length) l').2)
  | [], b, l' => by simp [obsL]
  | v :: l, b, l' => by
    have ih := obsL_app l (b + (obs b v).length) l'
    rw [List.cons_append, obsL, ih, obsL]
    simp [Nat.add_assoc]
theorem obsF_app : ∀ (l : List (ByteArray × Vl)) (b : Nat) (l' : List (ByteArray × Vl)), obsF b (l ++ l') = ((obsF b l).1 ++ (obsF (b + (obsF b l).1.length) l').1, (obsF b l).2 ++ (obsF (b + (obsF b l).1.length) l').2)
  | [], b, l' => by simp [obsF]
  | (nm, v) :: l, b, l' => by
    have ih := obsF_app l (b + 1 + (obs (b + 1) v).length) l'
    rw [List.cons_append, obsF, ih, obsF]
    simp [Nat.add_assoc, Nat.add_comm 1, Nat.add_left_comm 1]
theorem obs_pos (b : Nat) (V : Vl) : 1 ≤ (obs b V).length := by
  rw [obs_eq]
  repeat' split
  all_goals simp
theorem obsL_len : ∀ (l : List Vl) (b : Nat), (obsL b l).2.length = l.length
  | [], b => by simp [obsL]
  | v :: l, b => by simp [obsL, obsL_len l]
theorem obsF_len : ∀ (l : List (ByteArray × Vl)) (b : Nat), (obsF b l).2.length = 2 * l.length
  | [], b => by simp [obsF]
  | (nm, v) :: l, b => by simp [obsF, obsF_len l]; omega
theorem obsL_h : ∀ (l : List Vl) (b : Nat), ∀ y, y ∈ (obsL b l).2 → ∃ j, y = hOf j ∧ b ≤ j ∧ j < b + (obsL b l).1.length
  | [], b, y, h => by simp [obsL] at h
  | v :: l, b, y, h => by
    have hp := obs_pos b v
    simp only [obsL, List.mem_cons] at h
    rcases h with rfl | h
    · exact ⟨_, rfl, by omega, by simp only [obsL, List.length_append]; omega⟩
    · obtain ⟨j, e, h1, h2⟩ := obsL_h l _ y h
      exact ⟨j, e, by omega, by simp only [obsL, List.length_append]; omega⟩
theorem obsF_h : ∀ (l : List (ByteArray × Vl)) (b : Nat), ∀ y, y ∈ (obsF b l).2 → ∃ j, y = hOf j ∧ b ≤ j ∧ j < b + (obsF b l).1.length
  | [], b, y, h => by simp [obsF] at h
  | (nm, v) :: l, b, y, h => by
    have hp := obs_pos (b + 1) v
    simp only [obsF, List.mem_cons] at h
    rcases h with rfl | rfl | h
    · exact ⟨_, rfl, by omega, by simp only [obsF, List.length_cons, List.length_append]; omega⟩
    · exact ⟨_, rfl, by omega, by simp only [obsF, List.length_cons, List.length_append]; omega⟩
    · obtain ⟨j, e, h1, h2⟩ := obsF_h l _ y h
      exact ⟨j, e, by omega, by simp only [obsF, List.length_cons, List.length_append]; omega⟩
theorem obsL_take {l : List Vl} {i : Nat} (h : i < l.length) (b : Nat) : obsL b (l.take (i + 1)) = ((obsL b (l.take i)).1 ++ obs (b + (obsL b (l.take i)).1.length) l[i], (obsL b (l.take i)).2 ++ [hOf (b + (obsL b (l.take i)).1.length + (obs (b + (obsL b (l.take i)).1.length) l[i]).length - 1)]) := by
  rw [List.take_succ_eq_append_getElem h, obsL_app]
  simp [obsL]
theorem obsF_take {l : List (ByteArray × Vl)} {i : Nat} (h : i < l.length) (b : Nat) : obsF b (l.take (i + 1)) = ((obsF b (l.take i)).1 ++ (⟨4, 0, packW l[i].1⟩ :: obs (b + (obsF b (l.take i)).1.length + 1) l[i].2), (obsF b (l.take i)).2 ++ [hOf (b + (obsF b (l.take i)).1.length), hOf (b + (obsF b (l.take i)).1.length + 1 + (obs (b + (obsF b (l.take i)).1.length + 1) l[i].2).length - 1)]) := by
  rw [List.take_succ_eq_append_getElem h, obsF_app]
  have : l[i] = (l[i].1, l[i].2) := rfl
  rw [this]
  simp [obsF]
theorem allO_app (A B : List Ob) : allO (A ++ B) = allO A + allO B := by unfold allO; rw [List.map_append, List.sum_append]
theorem allO_cons (o : Ob) (B : List Ob) : allO (o :: B) = o.ws.length + 1 + allO B := by unfold allO; simp [Ob.width]
theorem allO_nil : allO [] = 0 := rfl
theorem obsL_pre {l : List Vl} {b : Nat} (i : Nat) : ∃ B, (obsL b l).1 = (obsL b (l.take i)).1 ++ B := by
  have := obsL_app (l.take i) b (l.drop i)
  rw [List.take_append_drop] at this
  rw [this]; exact ⟨_, rfl⟩
theorem obsF_pre {l : List (ByteArray × Vl)} {b : Nat} (i : Nat) : ∃ B, (obsF b l).1 = (obsF b (l.take i)).1 ++ B := by
  have := obsF_app (l.take i) b (l.drop i)
  rw [List.take_append_drop] at this
  rw [this]; exact ⟨_, rfl⟩
def canB (v : Vl) : Bool := fewV v && decide (v.s.size ≤ 10000)
theorem Own.keepB {h h' : Heap} {e z lo n : Nat} {cs : List Value} {v : Value} {L : HL} (H : Own h e z lo n cs v) (hL : ∀ b, b ∈ L.blocks → b < lo) (k : KeepB L h h') : Own h' e z lo n cs v := by
  rcases H with H | ⟨b, cap, rest, fx, rfl, hg, hr⟩
  · exact .inl H
  · exact .inr ⟨b, cap, rest, fx, rfl, k.get b _ (fun hm => by have := hL b hm; omega) hg, hr⟩
theorem IsO.keepLo {E : Env} {h h' : Heap} {L : HL} {W nS : Nat} {R : List Nat} {O : List Ob} {lo : Nat} (H : IsO E h L W nS R O) (hL : ∀ b, b ∈ L.blocks → b < lo) (k : KeepLo lo h h') : IsO E h' L W nS R O := by
  obtain ⟨S, a, b, c⟩ := H
  exact ⟨S, ⟨a.ok, a.nd, a.base, k.get _ _ (hL _ (by simp [HL.blocks])) a.heap, k.get _ _ (hL _ (by simp [HL.blocks])) a.arena, k.get _ _ (hL _ (by simp [HL.blocks])) a.table, k.get _ _ (hL _ (by simp [HL.blocks])) a.words, k.get _ _ (hL _ (by simp [HL.blocks])) a.begins, k.get _ _ (hL _ (by simp [HL.blocks])) a.slots⟩, b, c⟩
theorem KeepB.thenLo {E : Env} {h h1 h2 : Heap} {L : HL} {lo : Nat} (hW : WF E h) (a : KeepB L h h1) (b : KeepLo lo h1 h2) (hl : h.next ≤ lo) : KeepB L h h2 :=
  ⟨fun x o hx hg => b.get x o (by have := (hW.live x o hg).2; omega) (a.get x o hx hg), Nat.le_trans a.next b.next⟩
theorem own_sl {E : Env} {h : Heap} {e z lo n : Nat} {cs : List Value} {v : Value} (hW : WF E h) (H : Own h e z lo n cs v) : ∃ G', Sl E G' z n cs v ∧ Frz E G' h ∧ ∀ b c, G' b = some c → lo ≤ b := by
  rcases H with ⟨rfl, rfl, rfl⟩ | ⟨b, cap, rest, fx, rfl, hg, hc1, hc2, hc3, hc4, hc5⟩
  · exact ⟨noMem, ⟨none, 0, rfl, by omega, by omega, ⟨fun _ => rfl, fun _ x => (by cases x)⟩, .inl ⟨rfl, rfl⟩⟩, noMem_frz E h, fun _ _ x => (by cases x)⟩
  · refine ⟨fun j => if j = b then some (cs ++ rest) else none, ⟨some ⟨b, 0, none⟩, cap, rfl, hc3, hc5, ⟨fun x => (by cases x), fun b' e => .inr ⟨cs ++ rest, by injection e with e; subst e; simp⟩⟩, .inr ⟨_, rfl, ?_⟩⟩, ?_, ?_⟩
    · unfold gcells
      rw [if_neg (by have := hW.nlt hg; simpa using this)]
      simp only [if_true]
      rw [if_pos (by simp [hc1])]
      simp [← hc1]
    · intro j c hj
      simp only at hj
      split at hj
      · rename_i e1; subst e1; injection hj with hj; subst hj; exact ⟨_, _, hg⟩
      · cases hj
    · intro j c hj
      simp only at hj
      split at hj
      · rename_i e1; omega
      · cases hj
end Go.Proofs.YthfopcdammlmfaaGreatDoor
namespace Go.Proofs.YthfopcdammlmfaaGreatDoor
open Go.Tm
theorem u64N_cast (n : Int) : IntKind.u64.wrap n = ((u64N n : Nat) : Int) := by
  unfold u64N
  have : 0 ≤ IntKind.u64.wrap n := by unfold IntKind.wrap; simp [IntKind.signed]; omega
  omega
theorem u64N_lt (n : Int) : u64N n < 18446744073709551616 := by
  unfold u64N
  have : IntKind.u64.wrap n < 18446744073709551616 := by
    unfold IntKind.wrap; simp only [IntKind.signed, IntKind.bits]
    simp
    exact Int.emod_lt_of_pos _ (by decide)
  omega
theorem hOf_obj {O : List Ob} {j : Nat} (h : j < O.length) : (obj O (hOf j)).isSome = true := by
  unfold obj hOf
  rw [if_pos (by omega)]
  have : 4294967297 + j - 4294967297 = j := by omega
  rw [this]; simp [h]
variable {E : Env} (hE : EOk E)
include hE
theorem value_at : ∀ (n : Nat) (V : Vl), V.sz ≤ n → ∀ {G : Mem} {h : Heap} {L : HL} {W nS : Nat} {R : List Nat} {O : List Ob}, IsO E h L W nS R O → WF E h → Frz E G h → Sep L G → ∀ {c : List Value}, Rep E G V c → allV canB V = true →
    allO O + allO (obs O.length V) ≤ W → O.length + (obs O.length V).length ≤ nS →
    CallsTo E 43 [.agg #[.pointer (some ⟨L.ph, 0, none⟩)], .agg c.toArray] h fun v h' =>
      v = .int .u64 (hOf (O.length + (obs O.length V).length - 1)) ∧ IsO E h' L W nS R (O ++ obs O.length V) ∧ KeepB L h h' ∧ WF E h' := by
  intro n
  induction n with
  | zero => intro V hV; have := sz_eq V; omega
  | succ n ih =>
    intro V hVn G h L W nS R O H hW hG hS c hV hcan hroom1 hroom2
    obtain ⟨sl, sf, cl, cf, rfl, hsl, hsf, hl, hf, hb1, hb2, hb3⟩ := hV.cells
    obtain ⟨a2, cap2, rfl, _, _⟩ := hsl.slice
    obtain ⟨a3, cap3, rfl, _, _⟩ := hsf.slice
    rw [allV_eq, Bool.and_eq_true] at hcan
    obtain ⟨hcan1, hcan2⟩ := hcan
    have hcan3 := hcan1
    simp only [canB, fewV, Bool.and_eq_true, decide_eq_true_eq] at hcan3
    obtain ⟨⟨⟨hll, hfl⟩, hnm⟩, hss⟩ := hcan3
    have hlt := H.lt hW
    have hnS : nS ≤ 1048576 := by obtain ⟨S, H', w', e1, e2, e3⟩ := H; rw [← e2]; exact H'.ok.nS
    refine en hE Tryz.func43 rfl rfl Tryz.ntmps43 rfl (by decide +kernel) (rs := [.tmp 4]) rfl ?_
    simp only [push_cast, Nat.reduceEqDiff, Nat.reduceAdd, Nat.reduceMul, Nat.reduceLeDiff, reduceIte, reduceCtorEq, Int.reduceBEq, Int.reduceBNe, Int.reduceLT, Int.reduceLE, Int.reduceToNat, Int.reduceEq, Int.reduceNe, Int.reduceNeg, Int.reduceMul, Int.reduceAdd, Int.reduceSub, Nat.reduceLT, hE.P, zz, hW.nb, hW.nb0]
    have hw0 : WF E ((h.push (.cells [.pointer (some ⟨L.ph, 0, none⟩)] 79 true)).push (.cells [.int .i64 V.k, .int .i64 V.n, .string V.s, .slice a2 V.l.length cap2, .slice a3 V.f.length cap3] 25 true)) := (hW.push _).push _
    have k0 : Keep h ((h.push (.cells [.pointer (some ⟨L.ph, 0, none⟩)] 79 true)).push (.cells [.int .i64 V.k, .int .i64 V.n, .string V.s, .slice a2 V.l.length cap2, .slice a3 V.f.length cap3] 25 true)) := ((Keep.refl h).push hW).push (hW.push _)
    have g0 : ((h.push (.cells [.pointer (some ⟨L.ph, 0, none⟩)] 79 true)).push (.cells [.int .i64 V.k, .int .i64 V.n, .string V.s, .slice a2 V.l.length cap2, .slice a3 V.f.length cap3] 25 true)).get h.next = some (.cells [.pointer (some ⟨L.ph, 0, none⟩)] 79 true) := by
      rw [get_push, if_neg (by simp), get_push, if_pos rfl]
    have g1 : ((h.push (.cells [.pointer (some ⟨L.ph, 0, none⟩)] 79 true)).push (.cells [.int .i64 V.k, .int .i64 V.n, .string V.s, .slice a2 V.l.length cap2, .slice a3 V.f.length cap3] 25 true)).get (h.next + 1) = some (.cells [.int .i64 V.k, .int .i64 V.n, .string V.s, .slice a2 V.l.length cap2, .slice a3 V.f.length cap3] 25 true) := by
      rw [get_push, if_pos (by simp)]
    have nb1 : (h.next + 1 < E.base) = False := by have := hW.base; simp; omega
    have hnx : ((h.push (.cells [.pointer (some ⟨L.ph, 0, none⟩)] 79 true)).push (.cells [.int .i64 V.k, .int .i64 V.n, .string V.s, .slice a2 V.l.length cap2, .slice a3 V.f.length cap3] 25 true)).next = h.next + 2 := by simp
    generalize hH0 : (h.push (.cells [.pointer (some ⟨L.ph, 0, none⟩)] 79 true)).push (.cells [.int .i64 V.k, .int .i64 V.n, .string V.s, .slice a2 V.l.length cap2, .slice a3 V.f.length cap3] 25 true) = H0 at *
    have hk0 := H.keep k0
    rw [obs_eq] at hroom1 hroom2 ⊢
    have hscalar : ∀ (t : Nat), 1 ≤ t → t ≤ 255 → ∀ {R' : Value → Heap → Prop}, fitsO W nS O 1 → (∀ h2, IsO E h2 L W nS R (O ++ [⟨t, 0, [u64N V.n]⟩]) → KeepB L h h2 → WF E h2 → R' (.int .u64 (hOf O.length)) h2) →
        CallsTo E 100 [.agg #[.pointer (some ⟨L.ph, 0, none⟩)], .int .i64 t, .slice none 0 0, .slice (some ⟨H0.next, 0, none⟩) 1 1] (H0.push (.cells [.int .u64 (u64N V.n : Nat)] 33 true)) R' := by
      intro t ht1 ht2 R' hfit hK
      have w1 := hw0.push (.cells [.int .u64 (u64N V.n : Nat)] 33 true)
      have k1 := (Keep.refl H0).push (o := .cells [.int .u64 (u64N V.n : Nat)] 33 true) hw0
      obtain ⟨G', hsl', hfz', hlo'⟩ := own_sl (E := E) (h := H0.push (.cells [.int .u64 (u64N V.n : Nat)] 33 true)) (e := 33) (z := 1) (lo := H0.next) (n := 1) (cs := u64s [u64N V.n]) (v := .slice (some ⟨H0.next, 0, none⟩) 1 1) w1
        (.inr ⟨H0.next, 1, [], true, rfl, by rw [get_push, if_pos rfl]; rfl, rfl, rfl, Nat.le_refl _, Nat.le_refl _, by omega⟩)
      have hsep' : Sep L G' := fun b hb => by
        cases hc : G' b with
        | none => rfl
        | some c => have := hlo' b c hc; have := (hlt b hb).2; omega
      refine (of_at hE (hk0.keep k1) w1 hfz' hsep' (t := t) ht1 ht2 (hs := []) (ws := [u64N V.n]) (by simp) (fun y hy => by cases hy) (fun y hy => by simp at hy; subst hy; exact u64N_lt _) sl_nil hsl' hfit).mono ?_
      rintro v h2 ⟨rfl, H2, k2, w2⟩
      exact hK h2 H2 (((k0.trans k1).b L).trans k2) w2
    refine kif_split (fun hb => ?_) (fun hb => ?_)
    · have hk : V.k = 2 := by simpa using hb
      simp only [if_pos hk] at hroom1 hroom2 ⊢
      simp only [push_cast, Nat.reduceEqDiff, Nat.reduceAdd, Nat.reduceMul, Nat.reduceLeDiff, reduceIte, reduceCtorEq, Int.reduceBEq, Int.reduceBNe, Int.reduceLT, Int.reduceLE, Int.reduceToNat, Int.reduceEq, Int.reduceNe, Int.reduceNeg, Int.reduceMul, Int.reduceAdd, Int.reduceSub, Nat.reduceLT, hE.P, zz, g0, g1, hW.nb0, nb1]
      rw [u64N_cast]
      rw [bs50 rfl, kalloc_some]
      simp only [push_cast, Nat.reduceEqDiff, Nat.reduceAdd, Nat.reduceMul, Nat.reduceLeDiff, reduceIte, reduceCtorEq, Int.reduceBEq, Int.reduceBNe, Int.reduceLT, Int.reduceLE, Int.reduceToNat, Int.reduceEq, Int.reduceNe, Int.reduceNeg, Int.reduceMul, Int.reduceAdd, Int.reduceSub, Nat.reduceLT, hE.P, zz, g0, g1, hW.nb0, nb1]
      refine hscalar 2 (by omega) (by omega) ⟨by simpa [allO_cons, allO_nil] using hroom1, by simp at hroom2; omega⟩ fun h2 H2 k2 w2 => ?_
      simp only [push_cast, Nat.reduceEqDiff, Nat.reduceAdd, Nat.reduceMul, Nat.reduceLeDiff, reduceIte, reduceCtorEq, Int.reduceBEq, Int.reduceBNe, Int.reduceLT, Int.reduceLE, Int.reduceToNat, Int.reduceEq, Int.reduceNe, Int.reduceNeg, Int.reduceMul, Int.reduceAdd, Int.reduceSub, Nat.reduceLT, hE.P, zz]
      exact ⟨rfl, H2, k2, w2⟩
    · have hk2 : V.k ≠ 2 := by simpa using hb
      simp only [if_neg hk2] at hroom1 hroom2 ⊢
      simp only [push_cast, Nat.reduceEqDiff, Nat.reduceAdd, Nat.reduceMul, Nat.reduceLeDiff, reduceIte, reduceCtorEq, Int.reduceBEq, Int.reduceBNe, Int.reduceLT, Int.reduceLE, Int.reduceToNat, Int.reduceEq, Int.reduceNe, Int.reduceNeg, Int.reduceMul, Int.reduceAdd, Int.reduceSub, Nat.reduceLT, hE.P, zz]
      refine kif_split (fun hb => ?_) (fun hb => ?_)
      · have hk : V.k = 3 := by simpa using hb
        simp only [if_pos hk] at hroom1 hroom2 ⊢
        simp only [push_cast, Nat.reduceEqDiff, Nat.reduceAdd, Nat.reduceMul, Nat.reduceLeDiff, reduceIte, reduceCtorEq, Int.reduceBEq, Int.reduceBNe, Int.reduceLT, Int.reduceLE, Int.reduceToNat, Int.reduceEq, Int.reduceNe, Int.reduceNeg, Int.reduceMul, Int.reduceAdd, Int.reduceSub, Nat.reduceLT, hE.P, zz, g0, g1, hW.nb0, nb1]
        rw [u64N_cast]
        rw [bs50 rfl, kalloc_some]
        simp only [push_cast, Nat.reduceEqDiff, Nat.reduceAdd, Nat.reduceMul, Nat.reduceLeDiff, reduceIte, reduceCtorEq, Int.reduceBEq, Int.reduceBNe, Int.reduceLT, Int.reduceLE, Int.reduceToNat, Int.reduceEq, Int.reduceNe, Int.reduceNeg, Int.reduceMul, Int.reduceAdd, Int.reduceSub, Nat.reduceLT, hE.P, zz, g0, g1, hW.nb0, nb1]
        refine hscalar 3 (by omega) (by omega) ⟨by simpa [allO_cons, allO_nil] using hroom1, by simp at hroom2; omega⟩ fun h2 H2 k2 w2 => ?_
        simp only [push_cast, Nat.reduceEqDiff, Nat.reduceAdd, Nat.reduceMul, Nat.reduceLeDiff, reduceIte, reduceCtorEq, Int.reduceBEq, Int.reduceBNe, Int.reduceLT, Int.reduceLE, Int.reduceToNat, Int.reduceEq, Int.reduceNe, Int.reduceNeg, Int.reduceMul, Int.reduceAdd, Int.reduceSub, Nat.reduceLT, hE.P, zz]
        exact ⟨rfl, H2, k2, w2⟩
      · have hk3 : V.k ≠ 3 := by simpa using hb
        simp only [if_neg hk3] at hroom1 hroom2 ⊢
        simp only [push_cast, Nat.reduceEqDiff, Nat.reduceAdd, Nat.reduceMul, Nat.reduceLeDiff, reduceIte, reduceCtorEq, Int.reduceBEq, Int.reduceBNe, Int.reduceLT, Int.reduceLE, Int.reduceToNat, Int.reduceEq, Int.reduceNe, Int.reduceNeg, Int.reduceMul, Int.reduceAdd, Int.reduceSub, Nat.reduceLT, hE.P, zz]
        refine kif_split (fun hb => ?_) (fun hb => ?_)
        · have hk : V.k = 4 := by simpa using hb
          simp only [if_pos hk] at hroom1 hroom2 ⊢
          simp only [push_cast, Nat.reduceEqDiff, Nat.reduceAdd, Nat.reduceMul, Nat.reduceLeDiff, reduceIte, reduceCtorEq, Int.reduceBEq, Int.reduceBNe, Int.reduceLT, Int.reduceLE, Int.reduceToNat, Int.reduceEq, Int.reduceNe, Int.reduceNeg, Int.reduceMul, Int.reduceAdd, Int.reduceSub, Nat.reduceLT, hE.P, zz, g0, g1, hW.nb0, nb1]
          refine (text_at hE hk0 hw0 hss ⟨by simpa [allO_cons, allO_nil] using hroom1, by simp at hroom2; omega⟩).mono ?_
          rintro v h2 ⟨rfl, H2, k2, w2⟩
          simp only [push_cast, Nat.reduceEqDiff, Nat.reduceAdd, Nat.reduceMul, Nat.reduceLeDiff, reduceIte, reduceCtorEq, Int.reduceBEq, Int.reduceBNe, Int.reduceLT, Int.reduceLE, Int.reduceToNat, Int.reduceEq, Int.reduceNe, Int.reduceNeg, Int.reduceMul, Int.reduceAdd, Int.reduceSub, Nat.reduceLT, hE.P, zz]
          exact ⟨rfl, H2, (k0.b L).trans k2, w2⟩
        · have hk4 : V.k ≠ 4 := by simpa using hb
          simp only [if_neg hk4] at hroom1 hroom2 ⊢
          simp only [push_cast, Nat.reduceEqDiff, Nat.reduceAdd, Nat.reduceMul, Nat.reduceLeDiff, reduceIte, reduceCtorEq, Int.reduceBEq, Int.reduceBNe, Int.reduceLT, Int.reduceLE, Int.reduceToNat, Int.reduceEq, Int.reduceNe, Int.reduceNeg, Int.reduceMul, Int.reduceAdd, Int.reduceSub, Nat.reduceLT, hE.P, zz]
          refine kif_split (fun hb => ?_) (fun hb => ?_)
          · have hk : V.k = 5 := by simpa using hb
            simp only [if_pos hk] at hroom1 hroom2 ⊢
            have hp : V.parts = V.l := by simp [Vl.parts, hk]
            rw [hp, List.all_eq_true] at hcan2
            simp only [push_cast, Nat.reduceEqDiff, Nat.reduceAdd, Nat.reduceMul, Nat.reduceLeDiff, reduceIte, reduceCtorEq, Int.reduceBEq, Int.reduceBNe, Int.reduceLT, Int.reduceLE, Int.reduceToNat, Int.reduceEq, Int.reduceNe, Int.reduceNeg, Int.reduceMul, Int.reduceAdd, Int.reduceSub, Nat.reduceLT, hE.P, zz, g0, g1, hW.nb0, nb1]
            rw [mk50 (by omega) (by omega) (by omega) (by omega), kalloc_some]
            simp only [push_cast, Nat.reduceEqDiff, Nat.reduceAdd, Nat.reduceMul, Nat.reduceLeDiff, reduceIte, reduceCtorEq, Int.reduceBEq, Int.reduceBNe, Int.reduceLT, Int.reduceLE, Int.reduceToNat, Int.reduceEq, Int.reduceNe, Int.reduceNeg, Int.reduceMul, Int.reduceAdd, Int.reduceSub, Nat.reduceLT, hE.P, zz, g0, g1, hW.nb0, nb1, hnx]
            refine wpc_loop (fun m tm h' => ∃ i, m = V.l.length - i ∧ i ≤ V.l.length ∧ fget tm 44 = .int .i64 i ∧ fget tm 43 = .int .i64 V.l.length ∧ fget tm 42 = .slice a2 V.l.length cap2 ∧ fget tm 2 = .pointer (some ⟨h.next, 0, none⟩) ∧
              Own h' 33 1 (h.next + 2) i (u64s (obsL O.length (V.l.take i)).2) (fget tm 5) ∧ IsO E h' L W nS R (O ++ (obsL O.length (V.l.take i)).1) ∧ KeepB L H0 h' ∧ WF E h') V.l.length ?_ ?_
            · refine ⟨0, by omega, by omega, by simp only [push_cast, Nat.reduceEqDiff, Nat.reduceAdd, Nat.reduceMul, Nat.reduceLeDiff, reduceIte, reduceCtorEq, Int.reduceBEq, Int.reduceBNe, Int.reduceLT, Int.reduceLE, Int.reduceToNat, Int.reduceEq, Int.reduceNe, Int.reduceNeg, Int.reduceMul, Int.reduceAdd, Int.reduceSub, Nat.reduceLT, hE.P, zz], by simp only [push_cast, Nat.reduceEqDiff, Nat.reduceAdd, Nat.reduceMul, Nat.reduceLeDiff, reduceIte, reduceCtorEq, Int.reduceBEq, Int.reduceBNe, Int.reduceLT, Int.reduceLE, Int.reduceToNat, Int.reduceEq, Int.reduceNe, Int.reduceNeg, Int.reduceMul, Int.reduceAdd, Int.reduceSub, Nat.reduceLT, hE.P, zz], by simp only [push_cast, Nat.reduceEqDiff, Nat.reduceAdd, Nat.reduceMul, Nat.reduceLeDiff, reduceIte, reduceCtorEq, Int.reduceBEq, Int.reduceBNe, Int.reduceLT, Int.reduceLE, Int.reduceToNat, Int.reduceEq, Int.reduceNe, Int.reduceNeg, Int.reduceMul, Int.reduceAdd, Int.reduceSub, Nat.reduceLT, hE.P, zz], by simp only [push_cast, Nat.reduceEqDiff, Nat.reduceAdd, Nat.reduceMul, Nat.reduceLeDiff, reduceIte, reduceCtorEq, Int.reduceBEq, Int.reduceBNe, Int.reduceLT, Int.reduceLE, Int.reduceToNat, Int.reduceEq, Int.reduceNe, Int.reduceNeg, Int.reduceMul, Int.reduceAdd, Int.reduceSub, Nat.reduceLT, hE.P, zz], ?_, ?_, ((Keep.refl H0).push hw0).b L, hw0.push _⟩
              · simp only [push_cast, Nat.reduceEqDiff, Nat.reduceAdd, Nat.reduceMul, Nat.reduceLeDiff, reduceIte, reduceCtorEq, Int.reduceBEq, Int.reduceBNe, Int.reduceLT, Int.reduceLE, Int.reduceToNat, Int.reduceEq, Int.reduceNe, Int.reduceNeg, Int.reduceMul, Int.reduceAdd, Int.reduceSub, Nat.reduceLT, hE.P, zz]
                have := Own.made (h := H0) (e := 33) (z := 1) (lo := h.next + 2) (c := V.l.length) (zs := [.int .u64 0]) rfl (by omega) (by omega)
                rw [hnx] at this
                exact this
              · simpa [obsL] using hk0.keep ((Keep.refl H0).push hw0)
            · rintro m tm h' ⟨i, rfl, hi, f44, f43, f42, f2, hown, H', k', w'⟩
              obtain ⟨v5, f5⟩ : ∃ v, fget tm 5 = v := ⟨_, rfl⟩
              rw [f5] at hown
              have hlo2 : ∀ b, b ∈ L.blocks → b < h.next + 2 := fun b hb => by have := (hlt b hb).2; omega
              have gB := k'.get h.next _ (fun hm => by have := (hlt _ hm).2; omega) g0
              have hG' : Frz E G h' := hS.frz hG ((k0.b L).trans k')
              have hkn := k'.next
              simp only [push_cast, Nat.reduceEqDiff, Nat.reduceAdd, Nat.reduceMul, Nat.reduceLeDiff, reduceIte, reduceCtorEq, Int.reduceBEq, Int.reduceBNe, Int.reduceLT, Int.reduceLE, Int.reduceToNat, Int.reduceEq, Int.reduceNe, Int.reduceNeg, Int.reduceMul, Int.reduceAdd, Int.reduceSub, Nat.reduceLT, hE.P, zz, f44, f43]
              refine kif_split (fun hb => ?_) (fun hb => ?_)
              · have hli : i < V.l.length := by simpa using hb
                obtain ⟨a, c, hsl1, hsp, hac⟩ := hsl.elem hG' hli
                injection hsl1 with hsl2 hsl3 hsl4; subst hsl2; subst hsl4
                have hrc := hl.at i V.l[i] (by simp [hli])
                have hxz : V.l[i].sz ≤ n := by have := l_sz (List.getElem_mem hli); omega
                have hxc := hcan2 V.l[i] (List.getElem_mem hli)
                obtain ⟨ci, hci⟩ : ∃ ci, ci = (cl.drop (i * 5)).take 5 := ⟨_, rfl⟩
                rw [← hci] at hrc hac
                obtain ⟨sl', sf', cl', cf', rfl, hsl', hsf', _⟩ := hrc.cells
                obtain ⟨a4, cap4, rfl, _, _⟩ := hsl'.slice
                obtain ⟨a5, cap5, rfl, _, _⟩ := hsf'.slice
                have htk := obsL_take hli O.length
                obtain ⟨B, hB⟩ := obsL_pre (l := V.l) (b := O.length) (i + 1)
                rw [htk] at hB
                simp only at hB
                rw [hB, allO_app, allO_app, allO_app] at hroom1
                rw [hB] at hroom2
                simp only [List.length_append] at hroom2
                have w'' := w'.push (.cells [.int .i64 V.l[i].k, .int .i64 V.l[i].n, .string V.l[i].s, .slice a4 V.l[i].l.length cap4, .slice a5 V.l[i].f.length cap5] 25 true)
                have k'' := (Keep.refl h').push (o := .cells [.int .i64 V.l[i].k, .int .i64 V.l[i].n, .string V.l[i].s, .slice a4 V.l[i].l.length cap4, .slice a5 V.l[i].f.length cap5] 25 true) w'
                have nbB : (h.next < E.base) = False := by have := hW.base; simp; omega
                have nbN : (h'.next < E.base) = False := by have := w'.base; simp; omega
                have hne : ¬ h'.next = h.next := by omega
                simp only [push_cast, Nat.reduceEqDiff, Nat.reduceAdd, Nat.reduceMul, Nat.reduceLeDiff, reduceIte, reduceCtorEq, Int.reduceBEq, Int.reduceBNe, Int.reduceLT, Int.reduceLE, Int.reduceToNat, Int.reduceEq, Int.reduceNe, Int.reduceNeg, Int.reduceMul, Int.reduceAdd, Int.reduceSub, Nat.reduceLT, hE.P, zz, f44, f43, f42, f2, f5]
                rw [ia22 hsp (by omega) (by omega), kpure_some]
                simp only [push_cast, Nat.reduceEqDiff, Nat.reduceAdd, Nat.reduceMul, Nat.reduceLeDiff, reduceIte, reduceCtorEq, Int.reduceBEq, Int.reduceBNe, Int.reduceLT, Int.reduceLE, Int.reduceToNat, Int.reduceEq, Int.reduceNe, Int.reduceNeg, Int.reduceMul, Int.reduceAdd, Int.reduceSub, Nat.reduceLT, hE.P, zz, f44, f43, f42, f2, f5, ↓hac, gB, nbB, nbN, hne]
                refine (ih V.l[i] hxz (H'.keep k'') w'' (hG'.keep k'') hS hrc hxc (by rw [allO_app, List.length_append]; omega) (by rw [List.length_append]; omega)).mono ?_
                rintro v h2 ⟨rfl, H2, k2, w2⟩
                rw [List.length_append] at H2 ⊢
                have hown2 := Own.keepB (hown.keep k'') hlo2 k2
                simp only [push_cast, Nat.reduceEqDiff, Nat.reduceAdd, Nat.reduceMul, Nat.reduceLeDiff, reduceIte, reduceCtorEq, Int.reduceBEq, Int.reduceBNe, Int.reduceLT, Int.reduceLE, Int.reduceToNat, Int.reduceEq, Int.reduceNe, Int.reduceNeg, Int.reduceMul, Int.reduceAdd, Int.reduceSub, Nat.reduceLT, hE.P, zz, f44, f43, f42, f2, f5]
                rw [bs50 rfl, kalloc_some]
                simp only [push_cast, Nat.reduceEqDiff, Nat.reduceAdd, Nat.reduceMul, Nat.reduceLeDiff, reduceIte, reduceCtorEq, Int.reduceBEq, Int.reduceBNe, Int.reduceLT, Int.reduceLE, Int.reduceToNat, Int.reduceEq, Int.reduceNe, Int.reduceNeg, Int.reduceMul, Int.reduceAdd, Int.reduceSub, Nat.reduceLT, hE.P, zz, f44, f43, f42, f2, f5]
                refine kwv_own1 (el50 hE.P) w2 (lo := h.next + 2) (by have := k2.next; simp at this; omega) hown2 rfl rfl (by omega) (by omega) ?_
                intro v' h3 hown3 hk3 hw3
                obtain ⟨i1, hi1⟩ : ∃ i1, i1 = i + 1 := ⟨_, rfl⟩
                have hi2 : (i : Int) + 1 = i1 := by omega
                have hi3 : IntKind.i64.wrap (i1 : Int) = i1 := wrN (by omega)
                simp only [push_cast, Nat.reduceEqDiff, Nat.reduceAdd, Nat.reduceMul, Nat.reduceLeDiff, reduceIte, reduceCtorEq, Int.reduceBEq, Int.reduceBNe, Int.reduceLT, Int.reduceLE, Int.reduceToNat, Int.reduceEq, Int.reduceNe, Int.reduceNeg, Int.reduceMul, Int.reduceAdd, Int.reduceSub, Nat.reduceLT, hE.P, zz, f44, f43, f42, f2, f5, hi2, hi3]
                rw [← hi1] at hown3
                refine ⟨V.l.length - i1, by omega, i1, rfl, by omega, rfl, ?_, ?_, ?_, hw3⟩
                · rw [← hi1] at htk
                  rw [htk]
                  unfold u64s
                  rw [List.map_append]
                  rw [List.length_append] at hown3
                  exact hown3
                · rw [← hi1] at htk
                  rw [htk]
                  rw [List.append_assoc] at H2
                  exact IsO.keepLo H2 hlo2 hk3
                · exact KeepB.thenLo hw0 ((k'.trans (k''.b L)).trans k2) hk3 (by omega)
              · have hge : i = V.l.length := by have : ¬ i < V.l.length := by simpa using hb
                                                omega
                subst hge
                rw [List.take_length] at H' hown
                obtain ⟨G2, hsl2, hfz2, hlo3⟩ := own_sl w' hown
                have hsep2 : Sep L G2 := fun b hb => by
                  cases hc : G2 b with
                  | none => rfl
                  | some c => have := hlo3 b c hc; have := (hlt b hb).2; omega
                have hl2 := obsL_len V.l O.length
                rw [← hl2] at hsl2
                rw [allO_app, allO_cons, allO_nil] at hroom1
                replace hroom1 : allO O + (allO (obsL O.length V.l).1 + ((obsL O.length V.l).2.length + 1 + 0)) ≤ W := hroom1
                simp only [List.length_append, List.length_cons, List.length_nil] at hroom2
                simp only [push_cast, Nat.reduceEqDiff, Nat.reduceAdd, Nat.reduceMul, Nat.reduceLeDiff, reduceIte, reduceCtorEq, Int.reduceBEq, Int.reduceBNe, Int.reduceLT, Int.reduceLE, Int.reduceToNat, Int.reduceEq, Int.reduceNe, Int.reduceNeg, Int.reduceMul, Int.reduceAdd, Int.reduceSub, Nat.reduceLT, hE.P, zz, f2, f5, gB, hW.nb0]
                refine (of_at hE H' w' hfz2 hsep2 (t := 5) (by omega) (by omega) (hs := (obsL O.length V.l).2) (ws := []) (by simp; omega) ?_ (fun y hy => by cases hy) hsl2 sl_nil ⟨by rw [allO_app]; simp; omega, by rw [List.length_append]; omega⟩).mono ?_
                · intro y hy
                  obtain ⟨j, rfl, hj1, hj2⟩ := obsL_h V.l O.length y hy
                  exact ⟨by unfold hOf; omega, hOf_obj (by rw [List.length_append]; omega)⟩
                · rintro v h2 ⟨rfl, H2, k2, w2⟩
                  simp only [push_cast, Nat.reduceEqDiff, Nat.reduceAdd, Nat.reduceMul, Nat.reduceLeDiff, reduceIte, reduceCtorEq, Int.reduceBEq, Int.reduceBNe, Int.reduceLT, Int.reduceLE, Int.reduceToNat, Int.reduceEq, Int.reduceNe, Int.reduceNeg, Int.reduceMul, Int.reduceAdd, Int.reduceSub, Nat.reduceLT, hE.P, zz]
                  refine ⟨?_, ?_, ((k0.b L).trans k').trans k2, w2⟩
                  · rw [List.length_append, List.length_append, List.length_cons, List.length_nil]; rfl
                  · rw [List.append_nil, List.append_assoc] at H2; exact H2
          · have hk5 : V.k ≠ 5 := by simpa using hb
            simp only [if_neg hk5] at hroom1 hroom2 ⊢
            simp only [push_cast, Nat.reduceEqDiff, Nat.reduceAdd, Nat.reduceMul, Nat.reduceLeDiff, reduceIte, reduceCtorEq, Int.reduceBEq, Int.reduceBNe, Int.reduceLT, Int.reduceLE, Int.reduceToNat, Int.reduceEq, Int.reduceNe, Int.reduceNeg, Int.reduceMul, Int.reduceAdd, Int.reduceSub, Nat.reduceLT, hE.P, zz]
            refine kif_split (fun hb => ?_) (fun hb => ?_)
            · have hk : V.k = 6 := by simpa using hb
              simp only [if_pos hk] at hroom1 hroom2 ⊢
              have hp : V.parts = V.f.map (·.2) := by simp [Vl.parts, hk]
              rw [hp, List.all_eq_true] at hcan2
              obtain ⟨c2, hc2⟩ : ∃ c2, c2 = 2 * V.f.length := ⟨_, rfl⟩
              have hc3 : (2 : Int) * V.f.length = c2 := by omega
              have hc4 : IntKind.i64.wrap (c2 : Int) = c2 := wrN (by omega)
              simp only [push_cast, Nat.reduceEqDiff, Nat.reduceAdd, Nat.reduceMul, Nat.reduceLeDiff, reduceIte, reduceCtorEq, Int.reduceBEq, Int.reduceBNe, Int.reduceLT, Int.reduceLE, Int.reduceToNat, Int.reduceEq, Int.reduceNe, Int.reduceNeg, Int.reduceMul, Int.reduceAdd, Int.reduceSub, Nat.reduceLT, hE.P, zz, g0, g1, hW.nb0, nb1, hc3, hc4]
              rw [mk50 (by omega) (by omega) (by omega) (by omega), kalloc_some]
              simp only [push_cast, Nat.reduceEqDiff, Nat.reduceAdd, Nat.reduceMul, Nat.reduceLeDiff, reduceIte, reduceCtorEq, Int.reduceBEq, Int.reduceBNe, Int.reduceLT, Int.reduceLE, Int.reduceToNat, Int.reduceEq, Int.reduceNe, Int.reduceNeg, Int.reduceMul, Int.reduceAdd, Int.reduceSub, Nat.reduceLT, hE.P, zz, g0, g1, hW.nb0, nb1, hnx]
              refine wpc_loop (fun m tm h' => ∃ i, m = V.f.length - i ∧ i ≤ V.f.length ∧ fget tm 68 = .int .i64 i ∧ fget tm 67 = .int .i64 V.f.length ∧ fget tm 66 = .slice a3 V.f.length cap3 ∧ fget tm 2 = .pointer (some ⟨h.next, 0, none⟩) ∧
                Own h' 33 1 (h.next + 2) (2 * i) (u64s (obsF O.length (V.f.take i)).2) (fget tm 8) ∧ IsO E h' L W nS R (O ++ (obsF O.length (V.f.take i)).1) ∧ KeepB L H0 h' ∧ WF E h') V.f.length ?_ ?_
              · refine ⟨0, by omega, by omega, by simp only [push_cast, Nat.reduceEqDiff, Nat.reduceAdd, Nat.reduceMul, Nat.reduceLeDiff, reduceIte, reduceCtorEq, Int.reduceBEq, Int.reduceBNe, Int.reduceLT, Int.reduceLE, Int.reduceToNat, Int.reduceEq, Int.reduceNe, Int.reduceNeg, Int.reduceMul, Int.reduceAdd, Int.reduceSub, Nat.reduceLT, hE.P, zz], by simp only [push_cast, Nat.reduceEqDiff, Nat.reduceAdd, Nat.reduceMul, Nat.reduceLeDiff, reduceIte, reduceCtorEq, Int.reduceBEq, Int.reduceBNe, Int.reduceLT, Int.reduceLE, Int.reduceToNat, Int.reduceEq, Int.reduceNe, Int.reduceNeg, Int.reduceMul, Int.reduceAdd, Int.reduceSub, Nat.reduceLT, hE.P, zz], by simp only [push_cast, Nat.reduceEqDiff, Nat.reduceAdd, Nat.reduceMul, Nat.reduceLeDiff, reduceIte, reduceCtorEq, Int.reduceBEq, Int.reduceBNe, Int.reduceLT, Int.reduceLE, Int.reduceToNat, Int.reduceEq, Int.reduceNe, Int.reduceNeg, Int.reduceMul, Int.reduceAdd, Int.reduceSub, Nat.reduceLT, hE.P, zz], by simp only [push_cast, Nat.reduceEqDiff, Nat.reduceAdd, Nat.reduceMul, Nat.reduceLeDiff, reduceIte, reduceCtorEq, Int.reduceBEq, Int.reduceBNe, Int.reduceLT, Int.reduceLE, Int.reduceToNat, Int.reduceEq, Int.reduceNe, Int.reduceNeg, Int.reduceMul, Int.reduceAdd, Int.reduceSub, Nat.reduceLT, hE.P, zz], ?_, ?_, ((Keep.refl H0).push hw0).b L, hw0.push _⟩
                · simp only [push_cast, Nat.reduceEqDiff, Nat.reduceAdd, Nat.reduceMul, Nat.reduceLeDiff, reduceIte, reduceCtorEq, Int.reduceBEq, Int.reduceBNe, Int.reduceLT, Int.reduceLE, Int.reduceToNat, Int.reduceEq, Int.reduceNe, Int.reduceNeg, Int.reduceMul, Int.reduceAdd, Int.reduceSub, Nat.reduceLT, hE.P, zz]
                  have := Own.made (h := H0) (e := 33) (z := 1) (lo := h.next + 2) (c := c2) (zs := [.int .u64 0]) rfl (by omega) (by omega)
                  rw [hnx] at this
                  exact this
                · simpa [obsF] using hk0.keep ((Keep.refl H0).push hw0)
              · rintro m tm h' ⟨i, rfl, hi, f68, f67, f66, f2, hown, H', k', w'⟩
                obtain ⟨v8, f8⟩ : ∃ v, fget tm 8 = v := ⟨_, rfl⟩
                rw [f8] at hown
                have hlo2 : ∀ b, b ∈ L.blocks → b < h.next + 2 := fun b hb => by have := (hlt b hb).2; omega
                have gB := k'.get h.next _ (fun hm => by have := (hlt _ hm).2; omega) g0
                have hG' : Frz E G h' := hS.frz hG ((k0.b L).trans k')
                have hkn := k'.next
                simp only [push_cast, Nat.reduceEqDiff, Nat.reduceAdd, Nat.reduceMul, Nat.reduceLeDiff, reduceIte, reduceCtorEq, Int.reduceBEq, Int.reduceBNe, Int.reduceLT, Int.reduceLE, Int.reduceToNat, Int.reduceEq, Int.reduceNe, Int.reduceNeg, Int.reduceMul, Int.reduceAdd, Int.reduceSub, Nat.reduceLT, hE.P, zz, f68, f67]
                refine kif_split (fun hb => ?_) (fun hb => ?_)
                · have hli : i < V.f.length := by simpa using hb
                  obtain ⟨a, c, hsl1, hsp, hac⟩ := hsf.elem hG' hli
                  injection hsl1 with hsl2 hsl3 hsl4; subst hsl2; subst hsl4
                  obtain ⟨ci, hci, hrc, hnmb⟩ := hf.at i V.f[i].1 V.f[i].2 (by simp [hli])
                  have hxz : V.f[i].2.sz ≤ n := by have := f_sz (List.getElem_mem hli); omega
                  have hxc := hcan2 V.f[i].2 (List.mem_map.2 ⟨_, List.getElem_mem hli, rfl⟩)
                  have hnms : V.f[i].1.size ≤ 10000 := by
                    have := List.all_eq_true.1 hnm _ (List.getElem_mem hli)
                    simp at this; omega
                  rw [hci] at hac
                  obtain ⟨sl', sf', cl', cf', rfl, hsl', hsf', _⟩ := hrc.cells
                  obtain ⟨a4, cap4, rfl, _, _⟩ := hsl'.slice
                  obtain ⟨a5, cap5, rfl, _, _⟩ := hsf'.slice
                  have htk := obsF_take hli O.length
                  obtain ⟨B, hB⟩ := obsF_pre (l := V.f) (b := O.length) (i + 1)
                  rw [htk] at hB
                  simp only at hB
                  rw [hB, allO_app, allO_app, allO_app, allO_cons] at hroom1
                  replace hroom1 : allO O + (allO (obsF O.length (List.take i V.f)).1 + ((packW V.f[i].1).length + 1 + allO (obs (O.length + (obsF O.length (List.take i V.f)).1.length + 1) V.f[i].2)) + allO B + allO [⟨6, (obsF O.length V.f).2.length, (obsF O.length V.f).2⟩]) ≤ W := hroom1
                  rw [hB] at hroom2
                  simp only [List.length_append, List.length_cons] at hroom2
                  have w'' := w'.push (.cells [.string V.f[i].1, .int .i64 V.f[i].2.k, .int .i64 V.f[i].2.n, .string V.f[i].2.s, .slice a4 V.f[i].2.l.length cap4, .slice a5 V.f[i].2.f.length cap5] 91 true)
                  have k'' := (Keep.refl h').push (o := .cells [.string V.f[i].1, .int .i64 V.f[i].2.k, .int .i64 V.f[i].2.n, .string V.f[i].2.s, .slice a4 V.f[i].2.l.length cap4, .slice a5 V.f[i].2.f.length cap5] 91 true) w'
                  have nbB : (h.next < E.base) = False := by have := hW.base; simp; omega
                  have nbN : (h'.next < E.base) = False := by have := w'.base; simp; omega
                  have hne : ¬ h'.next = h.next := by omega
                  have hnmN : h'.next ∉ L.blocks := fun hm => by have := (hlt _ hm).2; omega
                  have hnmB : h.next ∉ L.blocks := fun hm => by have := (hlt _ hm).2; omega
                  simp only [push_cast, Nat.reduceEqDiff, Nat.reduceAdd, Nat.reduceMul, Nat.reduceLeDiff, reduceIte, reduceCtorEq, Int.reduceBEq, Int.reduceBNe, Int.reduceLT, Int.reduceLE, Int.reduceToNat, Int.reduceEq, Int.reduceNe, Int.reduceNeg, Int.reduceMul, Int.reduceAdd, Int.reduceSub, Nat.reduceLT, hE.P, zz, f68, f67, f66, f2, f8]
                  rw [ia23 hsp (by omega) (by omega), kpure_some]
                  simp only [push_cast, Nat.reduceEqDiff, Nat.reduceAdd, Nat.reduceMul, Nat.reduceLeDiff, reduceIte, reduceCtorEq, Int.reduceBEq, Int.reduceBNe, Int.reduceLT, Int.reduceLE, Int.reduceToNat, Int.reduceEq, Int.reduceNe, Int.reduceNeg, Int.reduceMul, Int.reduceAdd, Int.reduceSub, Nat.reduceLT, hE.P, zz, f68, f67, f66, f2, f8, ↓hac, gB, nbB, nbN, hne]
                  refine wdraw_pairs [(5, 4), (7, 4)] (by rw [hE.P]; decide +kernel) (by rw [hE.P]; decide +kernel) (by rw [hE.P]; decide +kernel) ?_
                  simp only [push_cast, Nat.reduceEqDiff, Nat.reduceAdd, Nat.reduceMul, Nat.reduceLeDiff, reduceIte, reduceCtorEq, Int.reduceBEq, Int.reduceBNe, Int.reduceLT, Int.reduceLE, Int.reduceToNat, Int.reduceEq, Int.reduceNe, Int.reduceNeg, Int.reduceMul, Int.reduceAdd, Int.reduceSub, Nat.reduceLT, hE.P, zz, f68, f67, f66, f2, f8, gB, nbB, nbN, hne]
                  refine (text_at hE (H'.keep k'') w'' hnms ⟨by rw [allO_app]; omega, by rw [List.length_append]; omega⟩).mono ?_
                  rintro v h2 ⟨rfl, H2, k2, w2⟩
                  have gB2 := k2.get h.next _ hnmB (k''.get _ _ gB)
                  have gN2 := k2.get h'.next _ hnmN (show _ = some _ by rw [get_push, if_pos rfl])
                  have hT : ∀ x : Nat, (O ++ (obsF O.length (List.take i V.f)).1 ++ [(⟨4, 0, packW V.f[i].1⟩ : Ob)]).length = O.length + (obsF O.length (List.take i V.f)).1.length + 1 := fun _ => by simp; omega
                  simp only [push_cast, Nat.reduceEqDiff, Nat.reduceAdd, Nat.reduceMul, Nat.reduceLeDiff, reduceIte, reduceCtorEq, Int.reduceBEq, Int.reduceBNe, Int.reduceLT, Int.reduceLE, Int.reduceToNat, Int.reduceEq, Int.reduceNe, Int.reduceNeg, Int.reduceMul, Int.reduceAdd, Int.reduceSub, Nat.reduceLT, hE.P, zz, f68, f67, f66, f2, f8, gB2, gN2, nbB, nbN, hne]
                  refine (ih V.f[i].2 hxz H2 w2 (hS.frz (hG'.keep k'') k2) hS hrc hxc (by rw [hT 0, allO_app, allO_app, allO_cons, allO_nil]; show allO O + allO _ + ((packW V.f[i].1).length + 1 + 0) + _ ≤ W; omega) (by rw [hT 0]; omega)).mono ?_
                  rintro v h3 ⟨rfl, H3, k3, w3⟩
                  rw [hT 0] at H3 ⊢
                  have hown3 := Own.keepB (Own.keepB (hown.keep k'') hlo2 k2) hlo2 k3
                  simp only [push_cast, Nat.reduceEqDiff, Nat.reduceAdd, Nat.reduceMul, Nat.reduceLeDiff, reduceIte, reduceCtorEq, Int.reduceBEq, Int.reduceBNe, Int.reduceLT, Int.reduceLE, Int.reduceToNat, Int.reduceEq, Int.reduceNe, Int.reduceNeg, Int.reduceMul, Int.reduceAdd, Int.reduceSub, Nat.reduceLT, hE.P, zz, f68, f67, f66, f2, f8, gB2, gN2, nbB, nbN, hne]
                  have b2 := fun (x y : Nat) => buildSlice_two (el50 hE.P) (v := .int .u64 x) (w := .int .u64 y) rfl rfl
                  simp only [hE.P] at b2
                  rw [b2, kalloc_some]
                  simp only [push_cast, Nat.reduceEqDiff, Nat.reduceAdd, Nat.reduceMul, Nat.reduceLeDiff, reduceIte, reduceCtorEq, Int.reduceBEq, Int.reduceBNe, Int.reduceLT, Int.reduceLE, Int.reduceToNat, Int.reduceEq, Int.reduceNe, Int.reduceNeg, Int.reduceMul, Int.reduceAdd, Int.reduceSub, Nat.reduceLT, hE.P, zz, f68, f67, f66, f2, f8, gB2, gN2, nbB, nbN, hne]
                  refine kwv_own2 (el50 hE.P) w3 (lo := h.next + 2) (by have := k2.next; have := k3.next; simp at *; omega) hown3 rfl rfl (by omega) (by omega) ?_
                  intro v' h4 hown4 hk4 hw4
                  obtain ⟨i1, hi1⟩ : ∃ i1, i1 = i + 1 := ⟨_, rfl⟩
                  have hi2 : (i : Int) + 1 = i1 := by omega
                  have hi3 : IntKind.i64.wrap (i1 : Int) = i1 := wrN (by omega)
                  simp only [push_cast, Nat.reduceEqDiff, Nat.reduceAdd, Nat.reduceMul, Nat.reduceLeDiff, reduceIte, reduceCtorEq, Int.reduceBEq, Int.reduceBNe, Int.reduceLT, Int.reduceLE, Int.reduceToNat, Int.reduceEq, Int.reduceNe, Int.reduceNeg, Int.reduceMul, Int.reduceAdd, Int.reduceSub, Nat.reduceLT, hE.P, zz, f68, f67, f66, f2, f8, hi2, hi3, gB, gB2, gN2, nbB, nbN, hne]
                  rw [List.length_append] at hown4
                  refine ⟨V.f.length - i1, by omega, i1, rfl, by omega, rfl, ?_, ?_, ?_, hw4⟩
                  · rw [← hi1] at htk
                    rw [htk]
                    have e2 : 2 * i1 = 2 * i + 2 := by omega
                    unfold u64s at hown4 ⊢
                    rw [List.map_append, e2]
                    exact hown4
                  · rw [← hi1] at htk
                    rw [htk]
                    rw [List.append_assoc, List.append_assoc] at H3
                    exact IsO.keepLo H3 hlo2 hk4
                  · exact KeepB.thenLo hw0 (((k'.trans (k''.b L)).trans k2).trans k3) hk4 (by omega)
                · have hge : i = V.f.length := by have : ¬ i < V.f.length := by simpa using hb
                                                  omega
                  subst hge
                  rw [List.take_length] at H' hown
                  obtain ⟨G2, hsl2, hfz2, hlo3⟩ := own_sl w' hown
                  have hsep2 : Sep L G2 := fun b hb => by
                    cases hc : G2 b with
                    | none => rfl
                    | some c => have := hlo3 b c hc; have := (hlt b hb).2; omega
                  have hl2 := obsF_len V.f O.length
                  rw [← hl2] at hsl2
                  rw [allO_app, allO_cons, allO_nil] at hroom1
                  replace hroom1 : allO O + (allO (obsF O.length V.f).1 + ((obsF O.length V.f).2.length + 1 + 0)) ≤ W := hroom1
                  simp only [List.length_append, List.length_cons, List.length_nil] at hroom2
                  simp only [push_cast, Nat.reduceEqDiff, Nat.reduceAdd, Nat.reduceMul, Nat.reduceLeDiff, reduceIte, reduceCtorEq, Int.reduceBEq, Int.reduceBNe, Int.reduceLT, Int.reduceLE, Int.reduceToNat, Int.reduceEq, Int.reduceNe, Int.reduceNeg, Int.reduceMul, Int.reduceAdd, Int.reduceSub, Nat.reduceLT, hE.P, zz, f2, f8, gB, hW.nb0]
                  refine (of_at hE H' w' hfz2 hsep2 (t := 6) (by omega) (by omega) (hs := (obsF O.length V.f).2) (ws := []) (by simp; omega) ?_ (fun y hy => by cases hy) hsl2 sl_nil ⟨by rw [allO_app]; simp; omega, by rw [List.length_append]; omega⟩).mono ?_
                  · intro y hy
                    obtain ⟨j, rfl, hj1, hj2⟩ := obsF_h V.f O.length y hy
                    exact ⟨by unfold hOf; omega, hOf_obj (by rw [List.length_append]; omega)⟩
                  · rintro v h2 ⟨rfl, H2, k2, w2⟩
                    simp only [push_cast, Nat.reduceEqDiff, Nat.reduceAdd, Nat.reduceMul, Nat.reduceLeDiff, reduceIte, reduceCtorEq, Int.reduceBEq, Int.reduceBNe, Int.reduceLT, Int.reduceLE, Int.reduceToNat, Int.reduceEq, Int.reduceNe, Int.reduceNeg, Int.reduceMul, Int.reduceAdd, Int.reduceSub, Nat.reduceLT, hE.P, zz]
                    refine ⟨?_, ?_, ((k0.b L).trans k').trans k2, w2⟩
                    · rw [List.length_append, List.length_append, List.length_cons, List.length_nil]; rfl
                    · rw [List.append_nil, List.append_assoc] at H2; exact H2
            · have hk6 : V.k ≠ 6 := by simpa using hb
              simp only [if_neg hk6] at hroom1 hroom2 ⊢
              simp only [push_cast, Nat.reduceEqDiff, Nat.reduceAdd, Nat.reduceMul, Nat.reduceLeDiff, reduceIte, reduceCtorEq, Int.reduceBEq, Int.reduceBNe, Int.reduceLT, Int.reduceLE, Int.reduceToNat, Int.reduceEq, Int.reduceNe, Int.reduceNeg, Int.reduceMul, Int.reduceAdd, Int.reduceSub, Nat.reduceLT, hE.P, zz, g0, g1, hW.nb0, nb1]
              refine (of_at hE hk0 hw0 (noMem_frz E _) (fun _ _ => rfl) (t := 1) (by omega) (by omega) (hs := []) (ws := []) (by simp) (fun y hy => by cases hy) (fun y hy => by cases hy) sl_nil sl_nil ⟨by simpa [allO_cons, allO_nil] using hroom1, by simp at hroom2; omega⟩).mono ?_
              rintro v h2 ⟨rfl, H2, k2, w2⟩
              simp only [push_cast, Nat.reduceEqDiff, Nat.reduceAdd, Nat.reduceMul, Nat.reduceLeDiff, reduceIte, reduceCtorEq, Int.reduceBEq, Int.reduceBNe, Int.reduceLT, Int.reduceLE, Int.reduceToNat, Int.reduceEq, Int.reduceNe, Int.reduceNeg, Int.reduceMul, Int.reduceAdd, Int.reduceSub, Nat.reduceLT, hE.P, zz]
              exact ⟨rfl, by simpa using H2, (k0.b L).trans k2, w2⟩
end Go.Proofs.YthfopcdammlmfaaGreatDoor
