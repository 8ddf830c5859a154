/- The law DocForms. -/
import Derived.Test.YthfopcdammlmfaaDoorF4
set_option maxRecDepth 10000
set_option linter.all false
set_option linter.unusedSimpArgs false
set_option linter.unusedVariables false
namespace Go.Proofs.YthfopcdammlmfaaDoor
open Go.Tm
/-- A deed, as its cells hold it. -/
structure Dd where
  op : Int
  x : Int
  y : Int
  i : Int
  j : Int
  w : Nat
def Dd.cells (d : Dd) : List Value := [.int .i64 d.op, .int .i64 d.x, .int .i64 d.y, .int .i64 d.i, .int .i64 d.j, .int .u64 (d.w : Int)]
def inI (n : Int) : Prop := -9223372036854775808 ≤ n ∧ n ≤ 9223372036854775807
def Dd.ok (d : Dd) : Prop := inI d.op ∧ inI d.x ∧ inI d.y ∧ inI d.i ∧ inI d.j ∧ d.w < 18446744073709551616
def ddCells (l : List Dd) : List Value := l.flatMap Dd.cells
theorem ddCells_at : ∀ {l : List Dd} {i : Nat} (h : i < l.length), ((ddCells l).drop (i * 6)).take 6 = l[i].cells
  | [], i, h => by simp at h
  | d :: l, 0, h => by simp [ddCells, Dd.cells]
  | d :: l, i + 1, h => by
    have := ddCells_at (l := l) (i := i) (by simpa using h)
    have e : (ddCells (d :: l)).drop ((i + 1) * 6) = (ddCells l).drop (i * 6) := by
      have : (i + 1) * 6 = d.cells.length + i * 6 := by simp [Dd.cells]; omega
      rw [this]
      simp only [ddCells, List.flatMap_cons]
      rw [List.drop_length_add_append]
    rw [e, this]; rfl
/-- The state of the law's loops. -/
structure FoSt (E : Env) (G : Mem) (L : HL) (R : List Nat) (h2 : Heap) (xs : List Nat) (O : List Ob) (tv : Value) (h' : Heap) : Prop where
  iso : IsO E h' L 8192 1024 R O
  wf : WF E h'
  frz : Frz E G h'
  keep : KeepB L h2 h'
  told : Own h' 37 1 h2.next xs.length (u64s xs) tv
  all : ∀ x, x ∈ xs → ∃ j, x = hOf j ∧ j < O.length
theorem FoSt.up {E : Env} {G : Mem} {L : HL} {R : List Nat} {h2 h3 h' : Heap} {xs : List Nat} {O O' : List Ob} {tv : Value} (S : FoSt E G L R h2 xs O tv h3) (hlt : ∀ b, b ∈ L.blocks → b < h2.next) (hsep : Sep L G) (k : KeepB L h3 h') (hO : O.length ≤ O'.length) (iso : IsO E h' L 8192 1024 R O') (w : WF E h') : FoSt E G L R h2 xs O' tv h' :=
  ⟨iso, w, hsep.frz S.frz k, S.keep.trans k, Own.keepB S.told hlt k, fun x hx => by obtain ⟨j, e, h⟩ := S.all x hx; exact ⟨j, e, by omega⟩⟩
theorem hOf_lt2 {O : List Ob} {x : Nat} (h : ∃ j, x = hOf j ∧ j < O.length) (hO : O.length ≤ 1024) : x < 18446744073709551616 := by
  obtain ⟨j, rfl, hj⟩ := h
  exact hOf_lt (by omega)
theorem setRefO_len (O : List Ob) (x : Nat) (i : Int) (y : Nat) : (setRefO O x i y).2.length = O.length := by
  unfold setRefO
  repeat' split
  all_goals simp
theorem setWordO_len (O : List Ob) (x : Nat) (i : Int) (y : Nat) : (setWordO O x i y).2.length = O.length := by
  unfold setWordO
  repeat' split
  all_goals simp
variable {E : Env} (hE : EOk E)
include hE
set_option maxHeartbeats 1000000 in
theorem forms_at {h : Heap} (hW : WF E h) {G : Mem} (hG : Frz E G h) {l : List Dd} (hok : ∀ d, d ∈ l → d.ok) {v : Value} (hs : Sl E G 6 l.length (ddCells l) v) {x : Nat} (hx : x < 18446744073709551616) :
    CallsTo E 5 [v, .int .u64 x] h fun r h' => r = .bool true ∧ Keep h h' ∧ WF E h' := by
  have hs0 := hs
  obtain ⟨va, vk, rfl, hvk1, hvk2⟩ := hs.slice
  refine calls_of_runs (fn := Tryd.f5) (by rw [hE.P]; exact Tryd.func5) rfl (by rw [hE.known]; rfl) (by rw [Tryd.ntmps5]; exact Nat.le_of_ble_eq_true rfl) (by decide +kernel) (rs := [.tmp 4]) rfl (wpc_runs _ _ _ _ ?_)
  simp only [push_cast, Nat.reduceEqDiff, Nat.reduceAdd, Nat.reduceLeDiff, reduceIte, reduceCtorEq, Int.reduceBEq, Int.reduceBNe, Int.reduceLT, Int.reduceLE, Int.reduceEq, Int.reduceAdd, Nat.reduceLT, hE.P, awrite, wpc_label, wpc_block]
  refine (awake_at hE hW).mono ?_
  rintro v h1 ⟨rfl, k1, w1⟩
  simp only [push_cast, Nat.reduceEqDiff, Nat.reduceAdd, Nat.reduceLeDiff, reduceIte, reduceCtorEq, Int.reduceBEq, Int.reduceBNe, Int.reduceLT, Int.reduceLE, Int.reduceEq, Int.reduceAdd, Nat.reduceLT, hE.P, awrite, wpc_label, wpc_block]
  refine (fresh_at hE w1 (W := 8192) (nS := 1024) (by omega) (by omega) (by omega) (by omega)).mono ?_
  rintro v h2 ⟨L, rfl, H2, hL, k2, w2⟩
  simp only [push_cast, Nat.reduceEqDiff, Nat.reduceAdd, Nat.reduceLeDiff, reduceIte, reduceCtorEq, Int.reduceBEq, Int.reduceBNe, Int.reduceLT, Int.reduceLE, Int.reduceEq, Int.reduceAdd, Nat.reduceLT, hE.P, awrite, wpc_label, wpc_block, nilH]
  have hlt := H2.lt w2
  have hlt2 : ∀ b, b ∈ L.blocks → b < h2.next := fun b hb => (hlt b hb).2
  have kA : Keep h h2 := k1.trans k2
  have hGlt : ∀ b c, G b = some c → b < h1.next := fun b c hb => by
    obtain ⟨e, fx, hh⟩ := hG b c hb
    have := (hW.live _ _ hh).2; have := k1.next; omega
  have hsep : Sep L G := fun b hb => by
    cases hc : G b with
    | none => rfl
    | some c => have := hGlt b c hc; have := hL b hb; omega
  refine wpc_loop (fun m tm h' => ∃ i xs O tv, m = 200 - i ∧ i ≤ 200 ∧ i ≤ l.length ∧ xs.length ≤ i ∧ fget tm 0 = .slice va l.length vk ∧ fget tm 1 = .int .u64 x ∧ fget tm 5 = .pointer (some ⟨L.ph, 0, none⟩) ∧ fget tm 7 = .int .i64 i ∧ fget tm 6 = tv ∧ FoSt E G L (List.replicate 16 0) h2 xs O tv h') 200 ?_ ?_
  · simp only [push_cast, Nat.reduceEqDiff, Nat.reduceAdd, Nat.reduceLeDiff, reduceIte, reduceCtorEq, Int.reduceBEq, Int.reduceBNe, Int.reduceLT, Int.reduceLE, Int.reduceEq, Int.reduceAdd, Nat.reduceLT, hE.P, awrite, wpc_label, wpc_block]
    exact ⟨0, [], [], .slice none 0 0, by omega, by omega, by omega, by simp, rfl, rfl, ⟨H2, w2, hG.keep kA, KeepB.refl _ _, .inl ⟨rfl, rfl, rfl⟩, fun p hp => (by cases hp)⟩⟩
  · rintro m tm h3 ⟨i, xs, O, tv, rfl, hi, hil, hxi, f0, f1, f5, f7, f6, S⟩
    obtain ⟨ta, tk, rfl, htk⟩ := Own.slice S.told
    have hOl : O.length ≤ 1024 := by
      obtain ⟨SS, H', w', e1, e2, e3⟩ := S.iso
      rw [← e2]; exact w'.len H'.ok
    simp only [push_cast, Nat.reduceEqDiff, Nat.reduceAdd, Nat.reduceLeDiff, reduceIte, reduceCtorEq, Int.reduceBEq, Int.reduceBNe, Int.reduceLT, Int.reduceLE, Int.reduceEq, Int.reduceAdd, Nat.reduceLT, hE.P, awrite, wpc_label, wpc_block, f0, f7]
    refine kguard_cut (fun tm' h' => fget tm' 0 = .slice va l.length vk ∧ fget tm' 1 = .int .u64 x ∧ fget tm' 5 = .pointer (some ⟨L.ph, 0, none⟩) ∧ fget tm' 7 = .int .i64 i ∧ fget tm' 6 = .slice ta xs.length tk ∧ fget tm' 30 = .bool (decide ((i : Int) < l.length) && decide ((i : Int) < 200)) ∧ h' = h3) ?_ ?_
    rotate_left
    · repeat' (first | (refine kguard_splitF (fun hb => ?_) (fun hb => ?_) <;> simp only [push_cast, Nat.reduceEqDiff, Nat.reduceAdd, Nat.reduceLeDiff, reduceIte, reduceCtorEq, Int.reduceBEq, Int.reduceBNe, Int.reduceLT, Int.reduceLE, Int.reduceEq, Int.reduceAdd, Nat.reduceLT, hE.P, awrite, wpc_label, wpc_block, hb, f0, f1, f5, f6, f7]) | (refine kguard_splitT (fun hb => ?_) (fun hb => ?_) <;> simp only [push_cast, Nat.reduceEqDiff, Nat.reduceAdd, Nat.reduceLeDiff, reduceIte, reduceCtorEq, Int.reduceBEq, Int.reduceBNe, Int.reduceLT, Int.reduceLE, Int.reduceEq, Int.reduceAdd, Nat.reduceLT, hE.P, awrite, wpc_label, wpc_block, hb, f0, f1, f5, f6, f7]))
      all_goals simp [hb]
    clear f0 f1 f5 f7 f6
    rintro tm h3 ⟨f0, f1, f5, f7, f6, f30, rfl⟩
    simp only [push_cast, Nat.reduceEqDiff, Nat.reduceAdd, Nat.reduceLeDiff, reduceIte, reduceCtorEq, Int.reduceBEq, Int.reduceBNe, Int.reduceLT, Int.reduceLE, Int.reduceEq, Int.reduceAdd, Nat.reduceLT, hE.P, awrite, wpc_label, wpc_block, f30]
    refine kif_split (fun hb => ?_) (fun hb => ?_)
    · have hli : i < l.length ∧ i < 200 := by
        have : (i : Int) < l.length ∧ (i : Int) < 200 := by simpa using hb
        omega
      obtain ⟨a, c, hsl1, hsp, hac⟩ := hs0.elem S.frz hli.1
      injection hsl1 with e1 e2 e3; subst e1; subst e3
      rw [ddCells_at hli.1] at hac
      have hdk := hok l[i] (List.getElem_mem hli.1)
      generalize l[i] = d at *
      simp only [Dd.cells] at hac
      simp only [push_cast, Nat.reduceEqDiff, Nat.reduceAdd, Nat.reduceLeDiff, reduceIte, reduceCtorEq, Int.reduceBEq, Int.reduceBNe, Int.reduceLT, Int.reduceLE, Int.reduceEq, Int.reduceAdd, Nat.reduceLT, hE.P, awrite, wpc_label, wpc_block, f0, f7]
      rw [ia49 hsp (by omega) (by omega), kpure_some]
      simp only [push_cast, Nat.reduceEqDiff, Nat.reduceAdd, Nat.reduceLeDiff, reduceIte, reduceCtorEq, Int.reduceBEq, Int.reduceBNe, Int.reduceLT, Int.reduceLE, Int.reduceEq, Int.reduceAdd, Nat.reduceLT, hE.P, awrite, wpc_label, wpc_block, f0, f7, ↓hac]
      have k4 := (Keep.refl h3).push (o := .cells [.int .i64 d.op, .int .i64 d.x, .int .i64 d.y, .int .i64 d.i, .int .i64 d.j, .int .u64 (d.w : Int)] 51 true) S.wf
      have w4 := S.wf.push (.cells [.int .i64 d.op, .int .i64 d.x, .int .i64 d.y, .int .i64 d.i, .int .i64 d.j, .int .u64 (d.w : Int)] 51 true)
      have g4 : (h3.push (.cells [.int .i64 d.op, .int .i64 d.x, .int .i64 d.y, .int .i64 d.i, .int .i64 d.j, .int .u64 (d.w : Int)] 51 true)).get h3.next = some (.cells [.int .i64 d.op, .int .i64 d.x, .int .i64 d.y, .int .i64 d.i, .int .i64 d.j, .int .u64 (d.w : Int)] 51 true) := by simp only [get_push, if_true]
      have nb := S.wf.nb0
      have S4 := S.up hlt2 hsep (k4.b L) (Nat.le_refl _) (S.iso.keep k4) w4
      have hnl : h3.next ∉ L.blocks := fun hb => by have := hlt2 _ hb; have := S.keep.next; omega
      simp only [push_cast, Nat.reduceEqDiff, Nat.reduceAdd, Nat.reduceLeDiff, reduceIte, reduceCtorEq, Int.reduceBEq, Int.reduceBNe, Int.reduceLT, Int.reduceLE, Int.reduceEq, Int.reduceAdd, Nat.reduceLT, hE.P, awrite, wpc_label, wpc_block, nb, S.wf.nb]
      generalize h3.push (.cells [.int .i64 d.op, .int .i64 d.x, .int .i64 d.y, .int .i64 d.i, .int .i64 d.j, .int .u64 (d.w : Int)] 51 true) = h4 at *
      refine kif_cutN (fun tm' h' => ∃ xs O tv, xs.length ≤ i + 1 ∧ fget tm' 0 = .slice (some a) l.length vk ∧ fget tm' 1 = .int .u64 x ∧ fget tm' 5 = .pointer (some ⟨L.ph, 0, none⟩) ∧ fget tm' 7 = .int .i64 i ∧ fget tm' 6 = tv ∧ FoSt E G L (List.replicate 16 0) h2 xs O tv h') ?_ ?_
      · rintro tm' h' ⟨xs, O, tv, hxs, p0, p1, p5, p7, p6, S'⟩
        obtain ⟨i1, hi1⟩ : ∃ i1, i1 = i + 1 := ⟨_, rfl⟩
        have e1 : (i : Int) + 1 = i1 := by omega
        have e2 : IntKind.i64.wrap (i1 : Int) = i1 := wrN (by omega)
        simp only [push_cast, Nat.reduceEqDiff, Nat.reduceAdd, Nat.reduceLeDiff, reduceIte, reduceCtorEq, Int.reduceBEq, Int.reduceBNe, Int.reduceLT, Int.reduceLE, Int.reduceEq, Int.reduceAdd, Nat.reduceLT, hE.P, awrite, wpc_label, wpc_block, p7, e1, e2]
        exact ⟨200 - i1, by omega, i1, xs, O, tv, rfl, by omega, by omega, by omega, p0, p1, p5, rfl, p6, S'⟩
      · refine kif_split (fun hb2 => ?_) (fun hb2 => ?_)
        · obtain ⟨ti, hti⟩ : ∃ ti : Nat, d.i % 8 = (ti : Int) ∧ ti < 8 := ⟨(d.i % 8).toNat, by omega, by omega⟩
          obtain ⟨tj, htj⟩ : ∃ tj : Nat, d.j % 4 = (tj : Int) ∧ tj < 4 := ⟨(d.j % 4).toNat, by omega, by omega⟩
          obtain ⟨ty, hty⟩ : ∃ ty : Nat, d.y % 4 = (ty : Int) ∧ ty < 4 := ⟨(d.y % 4).toNat, by omega, by omega⟩
          have e1 : IntKind.i64.wrap (1 + (ti : Int)) = ((1 + ti : Nat) : Int) := by rw [wr64 (by omega) (by omega)]; omega
          have e2 : IntKind.i64.wrap ((tj : Int) + ty) = ((tj + ty : Nat) : Int) := by rw [wr64 (by omega) (by omega)]; omega
          obtain ⟨ta1, hta1⟩ : ∃ ta1, ta1 = 1 + ti := ⟨_, rfl⟩
          obtain ⟨ts, hts⟩ : ∃ ts, ts = tj + ty := ⟨_, rfl⟩
          rw [← hta1] at e1
          rw [← hts] at e2
          simp only [push_cast, Nat.reduceEqDiff, Nat.reduceAdd, Nat.reduceLeDiff, reduceIte, reduceCtorEq, Int.reduceBEq, Int.reduceBNe, Int.reduceLT, Int.reduceLE, Int.reduceEq, Int.reduceAdd, Nat.reduceLT, hE.P, awrite, wpc_label, wpc_block, f5, g4, nb, and7, and3, hti.1, htj.1, hty.1, e1, e2]
          refine (make_at hE S4.iso S4.wf (t := ta1) (r := tj) (s := ts) (by omega) (by omega) (by omega) (by omega)).mono ?_
          rintro v h5 ⟨hfit, hnof, k5, w5⟩
          by_cases hf : fitsO 8192 1024 O ts
          · obtain ⟨rfl, H5⟩ := hfit hf
            have S5 := S4.up hlt2 hsep k5 (by simp) H5 w5
            simp only [push_cast, Nat.reduceEqDiff, Nat.reduceAdd, Nat.reduceLeDiff, reduceIte, reduceCtorEq, Int.reduceBEq, Int.reduceBNe, Int.reduceLT, Int.reduceLE, Int.reduceEq, Int.reduceAdd, Nat.reduceLT, hE.P, awrite, wpc_label, wpc_block, f6]
            rw [bs41 rfl, kalloc_some]
            simp only [push_cast, Nat.reduceEqDiff, Nat.reduceAdd, Nat.reduceLeDiff, reduceIte, reduceCtorEq, Int.reduceBEq, Int.reduceBNe, Int.reduceLT, Int.reduceLE, Int.reduceEq, Int.reduceAdd, Nat.reduceLT, hE.P, awrite, wpc_label, wpc_block, f6]
            have n25 := S5.keep.next
            refine kwv_own1 (el41 hE.P) w5 (lo := h2.next) (by omega) S5.told rfl rfl (by omega) (by omega) ?_
            intro v' h6 hown6 hk6 hw6
            simp only [push_cast, Nat.reduceEqDiff, Nat.reduceAdd, Nat.reduceLeDiff, reduceIte, reduceCtorEq, Int.reduceBEq, Int.reduceBNe, Int.reduceLT, Int.reduceLE, Int.reduceEq, Int.reduceAdd, Nat.reduceLT, hE.P, awrite, wpc_label, wpc_block]
            refine ⟨xs ++ [hOf O.length], O ++ [⟨ta1, tj, List.replicate ts 0⟩], v', by simp; omega, f0, f1, f5, f7, rfl, ⟨S5.iso.keepLo hlt2 hk6, hw6, S5.frz.but fun b o hb hgb => hk6.get b o ?_ hgb, KeepB.thenLo w2 S5.keep hk6 (Nat.le_refl _), by simpa [u64s] using hown6, ?_⟩⟩
            · obtain ⟨cb, hcb⟩ := Option.isSome_iff_exists.1 hb
              have := hGlt b cb hcb; have := k2.next; omega
            · intro p hp
              rcases List.mem_append.1 hp with h10 | h10
              · exact S5.all p h10
              · simp only [List.mem_singleton] at h10; subst h10; exact ⟨O.length, rfl, by simp⟩
          · obtain ⟨rfl, H5⟩ := hnof hf
            have S5 := S4.up hlt2 hsep k5 (Nat.le_refl _) H5 w5
            have e50 : ((5 : Int) == 0) = false := rfl
            simp only [push_cast, Nat.reduceEqDiff, Nat.reduceAdd, Nat.reduceLeDiff, reduceIte, reduceCtorEq, Int.reduceBEq, Int.reduceBNe, Int.reduceLT, Int.reduceLE, Int.reduceEq, Int.reduceAdd, Nat.reduceLT, hE.P, awrite, wpc_label, wpc_block, f6, e50]
            exact ⟨xs, O, _, by omega, f0, f1, f5, f7, rfl, S5⟩
        · simp only [push_cast, Nat.reduceEqDiff, Nat.reduceAdd, Nat.reduceLeDiff, reduceIte, reduceCtorEq, Int.reduceBEq, Int.reduceBNe, Int.reduceLT, Int.reduceLE, Int.reduceEq, Int.reduceAdd, Nat.reduceLT, hE.P, awrite, wpc_label, wpc_block, f6]
          refine kguard_cut (fun tm' h' => fget tm' 0 = .slice (some a) l.length vk ∧ fget tm' 1 = .int .u64 x ∧ fget tm' 5 = .pointer (some ⟨L.ph, 0, none⟩) ∧ fget tm' 7 = .int .i64 i ∧ fget tm' 6 = .slice ta xs.length tk ∧ fget tm' 8 = .pointer (some ⟨h3.next, 0, none⟩) ∧ fget tm' 66 = .bool (decide ((0 : Int) < xs.length) && (decide (0 ≤ d.x) && decide (0 ≤ d.y))) ∧ h' = h4) ?_ ?_
          rotate_left
          · repeat' (first | (refine kguard_splitF (fun hb => ?_) (fun hb => ?_) <;> simp only [push_cast, Nat.reduceEqDiff, Nat.reduceAdd, Nat.reduceLeDiff, reduceIte, reduceCtorEq, Int.reduceBEq, Int.reduceBNe, Int.reduceLT, Int.reduceLE, Int.reduceEq, Int.reduceAdd, Nat.reduceLT, hE.P, awrite, wpc_label, wpc_block, hb, f0, f1, f5, f6, f7, g4, nb]) | (refine kguard_splitT (fun hb => ?_) (fun hb => ?_) <;> simp only [push_cast, Nat.reduceEqDiff, Nat.reduceAdd, Nat.reduceLeDiff, reduceIte, reduceCtorEq, Int.reduceBEq, Int.reduceBNe, Int.reduceLT, Int.reduceLE, Int.reduceEq, Int.reduceAdd, Nat.reduceLT, hE.P, awrite, wpc_label, wpc_block, hb, f0, f1, f5, f6, f7, g4, nb]))
            all_goals simp [hb, *]
          clear f0 f1 f5 f7 f6 f30 hb hb2
          rintro tm h5 ⟨f0, f1, f5, f7, f6, f8, f66, rfl⟩
          simp only [push_cast, Nat.reduceEqDiff, Nat.reduceAdd, Nat.reduceLeDiff, reduceIte, reduceCtorEq, Int.reduceBEq, Int.reduceBNe, Int.reduceLT, Int.reduceLE, Int.reduceEq, Int.reduceAdd, Nat.reduceLT, hE.P, awrite, wpc_label, wpc_block, f66]
          refine kif_split (fun hb => ?_) (fun hb => ?_)
          · have hb' : 0 < xs.length ∧ 0 ≤ d.x ∧ 0 ≤ d.y := by
              have : (0 : Int) < xs.length ∧ 0 ≤ d.x ∧ 0 ≤ d.y := by simpa using hb
              omega
            obtain ⟨hx0, hdx, hdy⟩ := hb'
            obtain ⟨qx, hqx, hqxl⟩ : ∃ qx : Nat, d.x.tmod xs.length = (qx : Int) ∧ qx < xs.length := by
              rw [Int.tmod_eq_emod_of_nonneg hdx]
              exact ⟨(d.x % xs.length).toNat, by have := Int.emod_nonneg d.x (b := xs.length) (by omega); omega, by have := Int.emod_lt_of_pos d.x (b := xs.length) (by omega); have := Int.emod_nonneg d.x (b := xs.length) (by omega); omega⟩
            obtain ⟨qy, hqy, hqyl⟩ : ∃ qy : Nat, d.y.tmod xs.length = (qy : Int) ∧ qy < xs.length := by
              rw [Int.tmod_eq_emod_of_nonneg hdy]
              exact ⟨(d.y % xs.length).toNat, by have := Int.emod_nonneg d.y (b := xs.length) (by omega); omega, by have := Int.emod_lt_of_pos d.y (b := xs.length) (by omega); have := Int.emod_nonneg d.y (b := xs.length) (by omega); omega⟩
            obtain ⟨tj, htj⟩ : ∃ tj : Nat, d.i % 4 = (tj : Int) ∧ tj < 4 := ⟨(d.i % 4).toNat, by omega, by omega⟩
            obtain ⟨Ga, sla, fza, _⟩ := own_sl S4.wf S4.told
            simp only [push_cast, Nat.reduceEqDiff, Nat.reduceAdd, Nat.reduceLeDiff, reduceIte, reduceCtorEq, Int.reduceBEq, Int.reduceBNe, Int.reduceLT, Int.reduceLE, Int.reduceEq, Int.reduceAdd, Nat.reduceLT, hE.P, awrite, wpc_label, wpc_block]
            refine wdraw_calm (by rw [hE.P]; decide +kernel) ?_
            have hne : ((xs.length : Nat) : Int) ≠ 0 := by omega
            have tacX : ∀ {hh : Heap} {O : List Ob}, FoSt E G L (List.replicate 16 0) h2 xs O (.slice ta xs.length tk) hh → ∀ q, q < xs.length → ∃ b, ta = some b ∧ b.spot = none ∧ acells E hh ⟨b.block, b.off + q, none⟩ 1 = some [.int .u64 ((xs.getD q 0 : Nat) : Int)] := by
              intro hh O SS q hq
              obtain ⟨Gb, slb, fzb, _⟩ := own_sl SS.wf SS.told
              obtain ⟨b, c, s1, s2, s3⟩ := slb.elem fzb hq
              injection s1 with s1 s2' s3'
              refine ⟨b, s1, s2, ?_⟩
              rw [u64s_at hq, Nat.mul_one] at s3
              rw [s3, List.getD_eq_getElem?_getD, List.getElem?_eq_getElem hq]; rfl
            obtain ⟨tb, rfl, hts, hq1⟩ := tacX S4 qx hqxl
            obtain ⟨tb', e9, _, hq2⟩ := tacX S4 qy hqyl
            injection e9 with e9
            subst e9
            have hmem : ∀ q, q < xs.length → xs.getD q 0 < 18446744073709551616 := fun q hq => by
              rw [List.getD_eq_getElem?_getD, List.getElem?_eq_getElem hq]
              exact hOf_lt2 (S4.all _ (List.getElem_mem hq)) hOl
            simp only [push_cast, Nat.reduceEqDiff, Nat.reduceAdd, Nat.reduceLeDiff, reduceIte, reduceCtorEq, Int.reduceBEq, Int.reduceBNe, Int.reduceLT, Int.reduceLE, Int.reduceEq, Int.reduceAdd, Nat.reduceLT, hE.P, awrite, wpc_label, wpc_block, f5, f6, f8, g4, nb, hne, hqx]
            rw [ia41 hts (by omega) (by omega), kpure_some]
            simp only [push_cast, Nat.reduceEqDiff, Nat.reduceAdd, Nat.reduceLeDiff, reduceIte, reduceCtorEq, Int.reduceBEq, Int.reduceBNe, Int.reduceLT, Int.reduceLE, Int.reduceEq, Int.reduceAdd, Nat.reduceLT, hE.P, awrite, wpc_label, wpc_block, f5, f6, f8, g4, nb, hne, hqx, hqy, ↓hq1, and3, htj.1]
            rw [ia41 hts (by omega) (by omega), kpure_some]
            simp only [push_cast, Nat.reduceEqDiff, Nat.reduceAdd, Nat.reduceLeDiff, reduceIte, reduceCtorEq, Int.reduceBEq, Int.reduceBNe, Int.reduceLT, Int.reduceLE, Int.reduceEq, Int.reduceAdd, Nat.reduceLT, hE.P, awrite, wpc_label, wpc_block, f5, f6, f8, g4, nb, hne, hqx, hqy, ↓hq1, ↓hq2, and3, htj.1]
            refine (setRef_at hE S4.iso S4.wf (hmem qx hqxl) (hmem qy hqyl) (i := tj) (by omega) (by omega)).mono ?_
            rintro v h6 ⟨rfl, H6, k6, w6⟩
            have hl6 := setRefO_len O (xs.getD qx 0) tj (xs.getD qy 0)
            have S6 := S4.up hlt2 hsep k6 (by omega) H6 w6
            have g6 := k6.get _ _ hnl g4
            simp only [push_cast, Nat.reduceEqDiff, Nat.reduceAdd, Nat.reduceLeDiff, reduceIte, reduceCtorEq, Int.reduceBEq, Int.reduceBNe, Int.reduceLT, Int.reduceLE, Int.reduceEq, Int.reduceAdd, Nat.reduceLT, hE.P, awrite, wpc_label, wpc_block]
            refine wdraw_calm (by rw [hE.P]; decide +kernel) ?_
            obtain ⟨tb', e9, _, hq2⟩ := tacX S6 qy hqyl
            injection e9 with e9
            subst e9
            simp only [push_cast, Nat.reduceEqDiff, Nat.reduceAdd, Nat.reduceLeDiff, reduceIte, reduceCtorEq, Int.reduceBEq, Int.reduceBNe, Int.reduceLT, Int.reduceLE, Int.reduceEq, Int.reduceAdd, Nat.reduceLT, hE.P, awrite, wpc_label, wpc_block, f5, f6, f8, g6, nb, hne, hqy]
            rw [ia41 hts (by omega) (by omega), kpure_some]
            simp only [push_cast, Nat.reduceEqDiff, Nat.reduceAdd, Nat.reduceLeDiff, reduceIte, reduceCtorEq, Int.reduceBEq, Int.reduceBNe, Int.reduceLT, Int.reduceLE, Int.reduceEq, Int.reduceAdd, Nat.reduceLT, hE.P, awrite, wpc_label, wpc_block, f5, f6, f8, g6, nb, hne, hqy, ↓hq2, andu3 hdk.2.2.2.2.2]
            refine (setWord_at hE S6.iso S6.wf (hmem qy hqyl) (y := d.w % 4) (by omega) (i := 0) (by omega) (by omega)).mono ?_
            rintro v h7 ⟨rfl, H7, k7, w7⟩
            have hl7 := setWordO_len (setRefO O (xs.getD qx 0) tj (xs.getD qy 0)).2 (xs.getD qy 0) 0 (d.w % 4)
            have S7 := S6.up hlt2 hsep k7 (by omega) H7 w7
            simp only [push_cast, Nat.reduceEqDiff, Nat.reduceAdd, Nat.reduceLeDiff, reduceIte, reduceCtorEq, Int.reduceBEq, Int.reduceBNe, Int.reduceLT, Int.reduceLE, Int.reduceEq, Int.reduceAdd, Nat.reduceLT, hE.P, awrite, wpc_label, wpc_block]
            exact ⟨xs, _, _, by omega, f0, f1, f5, f7, f6, S7⟩
          · simp only [push_cast, Nat.reduceEqDiff, Nat.reduceAdd, Nat.reduceLeDiff, reduceIte, reduceCtorEq, Int.reduceBEq, Int.reduceBNe, Int.reduceLT, Int.reduceLE, Int.reduceEq, Int.reduceAdd, Nat.reduceLT, hE.P, awrite, wpc_label, wpc_block]
            exact ⟨xs, O, _, by omega, f0, f1, f5, f7, f6, S4⟩
    · clear hb
      simp only [push_cast, Nat.reduceEqDiff, Nat.reduceAdd, Nat.reduceLeDiff, reduceIte, reduceCtorEq, Int.reduceBEq, Int.reduceBNe, Int.reduceLT, Int.reduceLE, Int.reduceEq, Int.reduceAdd, Nat.reduceLT, hE.P, awrite, wpc_label, wpc_block, f0, f1, f5, f7, f6]
      have hmem : ∀ q, q < xs.length → xs.getD q 0 < 18446744073709551616 := fun q hq => by
        rw [List.getD_eq_getElem?_getD, List.getElem?_eq_getElem hq]
        exact hOf_lt2 (S.all _ (List.getElem_mem hq)) hOl
      have tacX : ∀ {hh : Heap} {O : List Ob}, FoSt E G L (List.replicate 16 0) h2 xs O (.slice ta xs.length tk) hh → ∀ q, q < xs.length → ∃ b, ta = some b ∧ b.spot = none ∧ acells E hh ⟨b.block, b.off + q, none⟩ 1 = some [.int .u64 ((xs.getD q 0 : Nat) : Int)] := by
        intro hh O SS q hq
        obtain ⟨Gb, slb, fzb, _⟩ := own_sl SS.wf SS.told
        obtain ⟨b, c, s1, s2, s3⟩ := slb.elem fzb hq
        injection s1 with s1 s2' s3'
        refine ⟨b, s1, s2, ?_⟩
        rw [u64s_at hq, Nat.mul_one] at s3
        rw [s3, List.getD_eq_getElem?_getD, List.getElem?_eq_getElem hq]; rfl
      refine wpc_loop (fun m tm h' => ∃ k O, m = xs.length - k ∧ k ≤ xs.length ∧ fget tm 1 = .int .u64 x ∧ fget tm 5 = .pointer (some ⟨L.ph, 0, none⟩) ∧ fget tm 11 = .int .i64 k ∧ fget tm 6 = .slice ta xs.length tk ∧ FoSt E G L (List.replicate 16 0) h2 xs O (.slice ta xs.length tk) h') xs.length ?_ ?_
      · simp only [push_cast, Nat.reduceEqDiff, Nat.reduceAdd, Nat.reduceLeDiff, reduceIte, reduceCtorEq, Int.reduceBEq, Int.reduceBNe, Int.reduceLT, Int.reduceLE, Int.reduceEq, Int.reduceAdd, Nat.reduceLT, hE.P, awrite, wpc_label, wpc_block, f1, f5, f6]
        exact ⟨0, O, by omega, by omega, rfl, S⟩
      · clear f0 f1 f5 f7 f6 f30 hOl S
        rintro m tm h4 ⟨k, O, rfl, hk, f1, f5, f11, f6, S⟩
        have hOl : O.length ≤ 1024 := by
          obtain ⟨SS, H', w', e1, e2, e3⟩ := S.iso
          rw [← e2]; exact w'.len H'.ok
        simp only [push_cast, Nat.reduceEqDiff, Nat.reduceAdd, Nat.reduceLeDiff, reduceIte, reduceCtorEq, Int.reduceBEq, Int.reduceBNe, Int.reduceLT, Int.reduceLE, Int.reduceEq, Int.reduceAdd, Nat.reduceLT, hE.P, awrite, wpc_label, wpc_block, f11, f6]
        refine kif_split (fun hb => ?_) (fun hb => ?_)
        · have hlk : k < xs.length := by simpa using hb
          obtain ⟨tb, rfl, hts, hq1⟩ := tacX S k hlk
          simp only [push_cast, Nat.reduceEqDiff, Nat.reduceAdd, Nat.reduceLeDiff, reduceIte, reduceCtorEq, Int.reduceBEq, Int.reduceBNe, Int.reduceLT, Int.reduceLE, Int.reduceEq, Int.reduceAdd, Nat.reduceLT, hE.P, awrite, wpc_label, wpc_block, f11, f6, f5]
          rw [ia41 hts (by omega) (by omega), kpure_some]
          simp only [push_cast, Nat.reduceEqDiff, Nat.reduceAdd, Nat.reduceLeDiff, reduceIte, reduceCtorEq, Int.reduceBEq, Int.reduceBNe, Int.reduceLT, Int.reduceLE, Int.reduceEq, Int.reduceAdd, Nat.reduceLT, hE.P, awrite, wpc_label, wpc_block, f11, f6, f5, ↓hq1]
          refine (read_at hE S.iso S.wf (hmem k hlk)).mono ?_
          rintro v h5 ⟨V, e, c, G2, rfl, hro, hsz, hrep, hfr, hnew, k5, w5⟩
          have hrepC := hrep
          obtain ⟨sl, sf, cl, cf, rfl, hsl, hsf, _⟩ := hrep.cells
          obtain ⟨a2, cap2, rfl, _, _⟩ := hsl.slice
          obtain ⟨a3, cap3, rfl, _, _⟩ := hsf.slice
          simp only [push_cast, Nat.reduceEqDiff, Nat.reduceAdd, Nat.reduceLeDiff, reduceIte, reduceCtorEq, Int.reduceBEq, Int.reduceBNe, Int.reduceLT, Int.reduceLE, Int.reduceEq, Int.reduceAdd, Nat.reduceLT, hE.P, awrite, wpc_label, wpc_block, f11, f6, f5, w5.nb, w5.nb0]
          have kx := (Keep.refl h5).push (o := .cells [.int .i64 V.k, .int .i64 V.n, .string V.s, .slice a2 V.l.length cap2, .slice a3 V.f.length cap3] 28 true) w5
          have w6 := w5.push (.cells [.int .i64 V.k, .int .i64 V.n, .string V.s, .slice a2 V.l.length cap2, .slice a3 V.f.length cap3] 28 true)
          have g6 : (h5.push (.cells [.int .i64 V.k, .int .i64 V.n, .string V.s, .slice a2 V.l.length cap2, .slice a3 V.f.length cap3] 28 true)).get h5.next = some (.cells [.int .i64 V.k, .int .i64 V.n, .string V.s, .slice a2 V.l.length cap2, .slice a3 V.f.length cap3] 28 true) := by simp only [get_push, if_true]
          have nb := w5.nb0
          have hnl : h5.next ∉ L.blocks := fun hb => by have := hlt2 _ hb; have := S.keep.next; have := k5.next; omega
          have n4 := S.keep.next
          have hsep2 : Sep L G2 := fun b hb => by
            cases hc : G2 b with
            | none => rfl
            | some c => have := hnew b c hc; have := hlt2 b hb; omega
          generalize h5.push (.cells [.int .i64 V.k, .int .i64 V.n, .string V.s, .slice a2 V.l.length cap2, .slice a3 V.f.length cap3] 28 true) = h6 at *
          have S6 := S.up hlt2 hsep ((k5.trans kx).b L) (Nat.le_refl _) (S.iso.keep (k5.trans kx)) w6
          have hfr6 := hfr.keep kx
          refine kif_cutN (fun tm' h' => ∃ O, fget tm' 1 = .int .u64 x ∧ fget tm' 5 = .pointer (some ⟨L.ph, 0, none⟩) ∧ fget tm' 11 = .int .i64 k ∧ fget tm' 6 = .slice (some tb) xs.length tk ∧ FoSt E G L (List.replicate 16 0) h2 xs O (.slice (some tb) xs.length tk) h') ?_ ?_
          · rintro tm' h' ⟨O, p1, p5, p11, p6, S'⟩
            obtain ⟨i1, hi1⟩ : ∃ i1, i1 = k + 1 := ⟨_, rfl⟩
            have e1 : (k : Int) + 1 = i1 := by omega
            have e2 : IntKind.i64.wrap (i1 : Int) = i1 := wrN (by omega)
            simp only [push_cast, Nat.reduceEqDiff, Nat.reduceAdd, Nat.reduceLeDiff, reduceIte, reduceCtorEq, Int.reduceBEq, Int.reduceBNe, Int.reduceLT, Int.reduceLE, Int.reduceEq, Int.reduceAdd, Nat.reduceLT, hE.P, awrite, wpc_label, wpc_block, p11, e1, e2]
            exact ⟨xs.length - i1, by omega, i1, O, rfl, by omega, p1, p5, rfl, p6, S'⟩
          · rcases hro.err with ⟨rfl, hg, hr⟩ | ⟨he, rfl⟩
            · have e00 : ((0 : Int) == 0) = true := rfl
              have e0n : ((0 : Int) != 0) = false := rfl
              obtain ⟨hsm, hbl⟩ := small_of hg
              simp only [push_cast, Nat.reduceEqDiff, Nat.reduceAdd, Nat.reduceLeDiff, reduceIte, reduceCtorEq, Int.reduceBEq, Int.reduceBNe, Int.reduceLT, Int.reduceLE, Int.reduceEq, Int.reduceAdd, Nat.reduceLT, hE.P, awrite, wpc_label, wpc_block, e00, g6, nb]
              refine (goodR_at hE (V := V) (by omega) hsm (by omega) w6 hfr6 hrepC).mono ?_
              rintro v h7 ⟨rfl, k7, w7⟩
              have g7 := k7.get _ _ g6
              have S7 := S6.up hlt2 hsep (k7.b L) (Nat.le_refl _) (S6.iso.keep k7) w7
              obtain ⟨tb', e9, _, hq7⟩ := tacX S7 k hlk
              injection e9 with e9
              subst e9
              rw [hg]
              simp only [push_cast, Nat.reduceEqDiff, Nat.reduceAdd, Nat.reduceLeDiff, reduceIte, reduceCtorEq, Int.reduceBEq, Int.reduceBNe, Int.reduceLT, Int.reduceLE, Int.reduceEq, Int.reduceAdd, Nat.reduceLT, hE.P, awrite, wpc_label, wpc_block, e0n, f5, f6, f11]
              rw [ia41 hts (by omega) (by omega), kpure_some]
              simp only [push_cast, Nat.reduceEqDiff, Nat.reduceAdd, Nat.reduceLeDiff, reduceIte, reduceCtorEq, Int.reduceBEq, Int.reduceBNe, Int.reduceLT, Int.reduceLE, Int.reduceEq, Int.reduceAdd, Nat.reduceLT, hE.P, awrite, wpc_label, wpc_block, f5, f6, f11, ↓hq7]
              refine (copyD_at hE S7.iso w7 (hmem k hlk) hr hg).mono ?_
              rintro v h8 ⟨rfl, H8, hnum, k8, w8⟩
              have g8 := k8.get _ _ hnl g7
              have hfr8 := hsep2.frz (hfr6.keep k7) k8
              by_cases hroom : allO O + allO (obs O.length V) ≤ 8192 ∧ O.length + (obs O.length V).length ≤ 1024
              · have hbo : buildO 8192 1024 O V = (.tuple #[.int .u64 (hOf (O.length + (obs O.length V).length - 1)), .int .i64 0], O ++ obs O.length V) := by
                  unfold buildO
                  rw [if_pos hg, if_pos hroom]
                rw [hbo] at H8 ⊢
                have S8 := S7.up hlt2 hsep k8 (by simp) H8 w8
                have e05 : ((0 : Int) != 5) = true := rfl
                have hyl : hOf (O.length + (obs O.length V).length - 1) < 18446744073709551616 := hOf_lt (by omega)
                have hrd := built_rd (There.self O (obs O.length V)) hg hnum
                generalize hOf (O.length + (obs O.length V).length - 1) = y at *
                simp only [push_cast, Nat.reduceEqDiff, Nat.reduceAdd, Nat.reduceLeDiff, reduceIte, reduceCtorEq, Int.reduceBEq, Int.reduceBNe, Int.reduceLT, Int.reduceLE, Int.reduceEq, Int.reduceAdd, Nat.reduceLT, hE.P, awrite, wpc_label, wpc_block, e05, e0n, f5, g8, nb]
                refine (reads_at hE H8 w8 hyl hrd hg hfr8 hrepC).mono ?_
                rintro v h9 ⟨rfl, k9, w9⟩
                simp only [push_cast, Nat.reduceEqDiff, Nat.reduceAdd, Nat.reduceLeDiff, reduceIte, reduceCtorEq, Int.reduceBEq, Int.reduceBNe, Int.reduceLT, Int.reduceLE, Int.reduceEq, Int.reduceAdd, Nat.reduceLT, hE.P, awrite, wpc_label, wpc_block]
                exact ⟨_, f1, f5, f11, f6, S8.up hlt2 hsep (k9.b L) (Nat.le_refl _) (S8.iso.keep k9) w9⟩
              · have hbo : buildO 8192 1024 O V = (.tuple #[.int .u64 0, .int .i64 5], O) := by
                  unfold buildO
                  rw [if_pos hg, if_neg hroom]
                rw [hbo] at H8 ⊢
                have S8 := S7.up hlt2 hsep k8 (Nat.le_refl _) H8 w8
                have e55 : ((5 : Int) != 5) = false := rfl
                simp only [push_cast, Nat.reduceEqDiff, Nat.reduceAdd, Nat.reduceLeDiff, reduceIte, reduceCtorEq, Int.reduceBEq, Int.reduceBNe, Int.reduceLT, Int.reduceLE, Int.reduceEq, Int.reduceAdd, Nat.reduceLT, hE.P, awrite, wpc_label, wpc_block, e55]
                exact ⟨_, f1, f5, f11, f6, S8⟩
            · have e40 : (e == 0) = false := by rcases he with rfl | rfl <;> rfl
              rcases he with rfl | rfl
              · have e44 : ((4 : Int) != 4) = false := rfl
                simp only [push_cast, Nat.reduceEqDiff, Nat.reduceAdd, Nat.reduceLeDiff, reduceIte, reduceCtorEq, Int.reduceBEq, Int.reduceBNe, Int.reduceLT, Int.reduceLE, Int.reduceEq, Int.reduceAdd, Nat.reduceLT, hE.P, awrite, wpc_label, wpc_block, e40, e44, g6, nb]
                refine (zero_at hE w6 hfr6 hrepC).mono ?_
                rintro v h7 ⟨rfl, k7, w7⟩
                simp only [push_cast, Nat.reduceEqDiff, Nat.reduceAdd, Nat.reduceLeDiff, reduceIte, reduceCtorEq, Int.reduceBEq, Int.reduceBNe, Int.reduceLT, Int.reduceLE, Int.reduceEq, Int.reduceAdd, Nat.reduceLT, hE.P, awrite, wpc_label, wpc_block]
                exact ⟨_, f1, f5, f11, f6, S6.up hlt2 hsep (k7.b L) (Nat.le_refl _) (S6.iso.keep k7) w7⟩
              · have e64 : ((6 : Int) != 4) = true := rfl
                have e66 : ((6 : Int) != 6) = false := rfl
                simp only [push_cast, Nat.reduceEqDiff, Nat.reduceAdd, Nat.reduceLeDiff, reduceIte, reduceCtorEq, Int.reduceBEq, Int.reduceBNe, Int.reduceLT, Int.reduceLE, Int.reduceEq, Int.reduceAdd, Nat.reduceLT, hE.P, awrite, wpc_label, wpc_block, e40, e64, e66, g6, nb]
                refine (zero_at hE w6 hfr6 hrepC).mono ?_
                rintro v h7 ⟨rfl, k7, w7⟩
                simp only [push_cast, Nat.reduceEqDiff, Nat.reduceAdd, Nat.reduceLeDiff, reduceIte, reduceCtorEq, Int.reduceBEq, Int.reduceBNe, Int.reduceLT, Int.reduceLE, Int.reduceEq, Int.reduceAdd, Nat.reduceLT, hE.P, awrite, wpc_label, wpc_block]
                exact ⟨_, f1, f5, f11, f6, S6.up hlt2 hsep (k7.b L) (Nat.le_refl _) (S6.iso.keep k7) w7⟩
        · have hge : k = xs.length := by have : ¬ k < xs.length := by simpa using hb
                                         omega
          obtain ⟨y, hy, hy1, hy2⟩ := orTop hx
          simp only [push_cast, Nat.reduceEqDiff, Nat.reduceAdd, Nat.reduceLeDiff, reduceIte, reduceCtorEq, Int.reduceBEq, Int.reduceBNe, Int.reduceLT, Int.reduceLE, Int.reduceEq, Int.reduceAdd, Nat.reduceLT, hE.P, awrite, wpc_label, wpc_block, f5, f1, hy]
          refine (read_at hE S.iso S.wf hy2).mono ?_
          rintro v h5 ⟨V, e, c, G2, rfl, hro, hsz, hrep, hfr, hnew, k5, w5⟩
          have he : e = 6 := hro.stale (by
            unfold obj
            rw [if_pos (by omega), List.getElem?_eq_none_iff]; omega)
          subst he
          obtain ⟨sl, sf, cl, cf, rfl, hsl, hsf, _⟩ := hrep.cells
          obtain ⟨a2, cap2, rfl, _, _⟩ := hsl.slice
          obtain ⟨a3, cap3, rfl, _, _⟩ := hsf.slice
          have e66 : ((6 : Int) == 6) = true := rfl
          simp only [push_cast, Nat.reduceEqDiff, Nat.reduceAdd, Nat.reduceLeDiff, reduceIte, reduceCtorEq, Int.reduceBEq, Int.reduceBNe, Int.reduceLT, Int.reduceLE, Int.reduceEq, Int.reduceAdd, Nat.reduceLT, hE.P, awrite, wpc_label, wpc_block, w5.nb, w5.nb0, e66]
          have w6 := w5.push (.cells [.int .i64 V.k, .int .i64 V.n, .string V.s, .slice a2 V.l.length cap2, .slice a3 V.f.length cap3] 28 true)
          have k6 := k5.trans ((Keep.refl h5).push (o := .cells [.int .i64 V.k, .int .i64 V.n, .string V.s, .slice a2 V.l.length cap2, .slice a3 V.f.length cap3] 28 true) w5)
          refine ⟨⟨fun b o hb => k6.get _ _ (S.keep.get _ _ (fun hm => ?_) (kA.get _ _ hb)), by have := kA.next; have := S.keep.next; have := k6.next; omega⟩, w6⟩
          have := hL b hm; have := (hW.live _ _ hb).2; have := k1.next; omega
end Go.Proofs.YthfopcdammlmfaaDoor
