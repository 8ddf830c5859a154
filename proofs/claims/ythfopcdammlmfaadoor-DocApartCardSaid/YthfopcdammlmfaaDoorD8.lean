/- Merged by a program of ours: R14. -/
import Derived.Test.YthfopcdammlmfaaDoorD7
set_option linter.all false
set_option linter.unusedSimpArgs false
set_option linter.unusedVariables false
/- The law DocApart. -/
namespace Go.Proofs.YthfopcdammlmfaaDoor
open Go.Tm
set_option maxRecDepth 10000
set_option linter.unusedSimpArgs false
set_option linter.unusedVariables false
/-- A value that stands in the heap, by its handle. -/
def Held (O : List Ob) (p : Nat × Vl) : Prop := goodV p.2 = 0 ∧ allV numsV p.2 = true ∧ ∃ b, There O b (obs b p.2) ∧ p.1 = hOf (b + (obs b p.2).length - 1) ∧ b + (obs b p.2).length ≤ 8192
theorem Held.rd {O : List Ob} {p : Nat × Vl} (h : Held O p) : Rd O 2048 [] (.obj p.1) (p.2, 0) := by
  obtain ⟨h1, h2, b, h3, h4, h5⟩ := h
  rw [h4]; exact built_rd h3 h1 h2
theorem Held.lt {O : List Ob} {p : Nat × Vl} (h : Held O p) : p.1 < 18446744073709551616 := by
  obtain ⟨h1, h2, b, h3, h4, h5⟩ := h
  rw [h4]; exact hOf_lt (by omega)
theorem Held.app {O C : List Ob} {p : Nat × Vl} (h : Held O p) : Held (O ++ C) p := by
  obtain ⟨h1, h2, b, h3, h4, h5⟩ := h
  exact ⟨h1, h2, b, h3.app, h4, h5⟩
/-- The state of the law's loop. -/
structure ApSt (E : Env) (G : Mem) (L : HL) (R : List Nat) (h2 : Heap) (xs : List (Nat × Vl)) (O : List Ob) (av hv : Value) (h' : Heap) : Prop where
  iso : IsO E h' L 32768 8192 R O
  wf : WF E h'
  frz : Frz E G h'
  keep : KeepB L h2 h'
  ats : Own h' 37 1 h2.next xs.length (u64s (xs.map (·.1))) av
  held : ∃ ch, Own h' 28 5 h2.next xs.length ch hv ∧ RepLs E G (xs.map (·.2)) ch
  apart : ∀ b, b ∈ slB av → b ∉ slB hv
  all : ∀ p, p ∈ xs → Held O p
theorem ApSt.up {E : Env} {G : Mem} {L : HL} {R : List Nat} {h2 h3 h' : Heap} {xs : List (Nat × Vl)} {O : List Ob} {av hv : Value} (S : ApSt E G L R h2 xs O av hv h3) (hlt : ∀ b, b ∈ L.blocks → b < h2.next) (hsep : Sep L G) (k : KeepB L h3 h') {C O' : List Ob} (hO : O' = O ++ C) (iso : IsO E h' L 32768 8192 R O') (w : WF E h') : ApSt E G L R h2 xs O' av hv h' := by
  obtain ⟨ch, hch, hrl⟩ := S.held
  refine ⟨iso, w, hsep.frz S.frz k, S.keep.trans k, Own.keepB S.ats hlt k, ⟨ch, Own.keepB hch hlt k, hrl⟩, S.apart, fun p hp => ?_⟩
  rw [hO]; exact (S.all p hp).app
variable {E : Env} (hE : EOk E)
include hE
set_option maxHeartbeats 1000000 in
theorem apart_at {h : Heap} (hW : WF E h) {G : Mem} (hG : Frz E G h) {l : List Vl} {cs : List Value} {v : Value} (hs : Sl E G 5 l.length cs v) (hl : RepLs E G l cs) :
    CallsTo E 4 [v] h fun r h' => r = .bool true ∧ Keep h h' ∧ WF E h' := by
  have hs0 := hs
  obtain ⟨va, vk, rfl, _, _⟩ := hs.slice
  refine calls_of_runs (fn := Tryd.f4) (by rw [hE.P]; exact Tryd.func4) rfl (by rw [hE.known]; rfl) (by rw [Tryd.ntmps4]; exact Nat.le_of_ble_eq_true rfl) (by decide +kernel) (rs := [.tmp 2]) rfl (wpc_runs _ _ _ _ ?_)
  simp only [push_cast, Nat.reduceEqDiff, Nat.reduceAdd, Nat.reduceMul, Nat.reduceLeDiff, reduceIte, reduceCtorEq, Int.reduceBEq, Int.reduceBNe, Int.reduceLT, Int.reduceLE, Int.reduceToNat, Int.reduceEq, Int.reduceNe, Int.reduceNeg, Int.reduceMul, Int.reduceAdd, Int.reduceSub, Nat.reduceLT, hE.P, awrite, wpc_label]
  refine (awake_at hE hW).mono ?_
  rintro v h0 ⟨rfl, k0, w0⟩
  simp only [push_cast, Nat.reduceEqDiff, Nat.reduceAdd, Nat.reduceMul, Nat.reduceLeDiff, reduceIte, reduceCtorEq, Int.reduceBEq, Int.reduceBNe, Int.reduceLT, Int.reduceLE, Int.reduceToNat, Int.reduceEq, Int.reduceNe, Int.reduceNeg, Int.reduceMul, Int.reduceAdd, Int.reduceSub, Nat.reduceLT, hE.P, awrite, wpc_label]
  refine (vast_at hE w0 (hG.keep k0) hs0 hl).mono ?_
  rintro v h1 ⟨⟨b, rfl, hsum⟩, k1, w1⟩
  simp only [push_cast, Nat.reduceEqDiff, Nat.reduceAdd, Nat.reduceMul, Nat.reduceLeDiff, reduceIte, reduceCtorEq, Int.reduceBEq, Int.reduceBNe, Int.reduceLT, Int.reduceLE, Int.reduceToNat, Int.reduceEq, Int.reduceNe, Int.reduceNeg, Int.reduceMul, Int.reduceAdd, Int.reduceSub, Nat.reduceLT, hE.P, awrite, wpc_label]
  refine kif_split (fun hb => ?_) (fun hb => ?_)
  · subst hb
    simp only [push_cast, Nat.reduceEqDiff, Nat.reduceAdd, Nat.reduceMul, Nat.reduceLeDiff, reduceIte, reduceCtorEq, Int.reduceBEq, Int.reduceBNe, Int.reduceLT, Int.reduceLE, Int.reduceToNat, Int.reduceEq, Int.reduceNe, Int.reduceNeg, Int.reduceMul, Int.reduceAdd, Int.reduceSub, Nat.reduceLT, hE.P, awrite, wpc_label]
    exact ⟨k0.trans k1, w1⟩
  · subst hb
    have hsum := hsum rfl
    simp only [push_cast, Nat.reduceEqDiff, Nat.reduceAdd, Nat.reduceMul, Nat.reduceLeDiff, reduceIte, reduceCtorEq, Int.reduceBEq, Int.reduceBNe, Int.reduceLT, Int.reduceLE, Int.reduceToNat, Int.reduceEq, Int.reduceNe, Int.reduceNeg, Int.reduceMul, Int.reduceAdd, Int.reduceSub, Nat.reduceLT, hE.P, awrite, wpc_label]
    refine (fresh_at hE w1 (W := 32768) (nS := 8192) (by omega) (by omega) (by omega) (by omega)).mono ?_
    rintro v h2 ⟨L, rfl, H2, hL, k2, w2⟩
    simp only [push_cast, Nat.reduceEqDiff, Nat.reduceAdd, Nat.reduceMul, Nat.reduceLeDiff, reduceIte, reduceCtorEq, Int.reduceBEq, Int.reduceBNe, Int.reduceLT, Int.reduceLE, Int.reduceToNat, Int.reduceEq, Int.reduceNe, Int.reduceNeg, Int.reduceMul, Int.reduceAdd, Int.reduceSub, Nat.reduceLT, hE.P, awrite, wpc_label, nilH]
    have hsz : ∀ x, x ∈ l → x.sz ≤ 5000 := fun x hx => by
      have h0 : ∀ y, y ∈ (l.map fun x => (x.sz : Int)) → 0 ≤ y := fun y hy => by obtain ⟨z, _, rfl⟩ := List.mem_map.1 hy; omega
      have := sum_mem h0 (List.mem_map.2 ⟨x, hx, rfl⟩ : (x.sz : Int) ∈ l.map fun x => (x.sz : Int))
      omega
    have hlen : l.length ≤ 5000 := by
      have h1 : (l.map fun _ => (1 : Int)).sum ≤ (l.map fun x => (x.sz : Int)).sum := sum_mono fun x _ => by have := sz_eq x; omega
      have h2 : ∀ l : List Vl, (l.map fun _ => (1 : Int)).sum = l.length := fun l => by
        induction l with
        | nil => rfl
        | cons x l ih => simp only [List.map_cons, List.sum_cons, ih, List.length_cons]; omega
      rw [h2] at h1; omega
    have hlt := H2.lt w2
    have hlt2 : ∀ b, b ∈ L.blocks → b < h2.next := fun b hb => (hlt b hb).2
    have kA : Keep h h2 := (k0.trans k1).trans k2
    have hGlt : ∀ b c, G b = some c → b < h1.next := fun b c hb => by
      obtain ⟨e, fx, hh⟩ := hG b c hb
      have := (hW.live _ _ hh).2; have := k0.next; have := k1.next; omega
    have hsep : Sep L G := fun b hb => by
      cases hc : G b with
      | none => rfl
      | some c => have := hGlt b c hc; have := hL b hb; omega
    rw [wpc_block]
    refine wpc_loop (fun m tm h' => ∃ i xs O av hv, m = l.length - i ∧ i ≤ l.length ∧ xs.length ≤ i ∧ fget tm 6 = .int .i64 i ∧ fget tm 3 = .pointer (some ⟨L.ph, 0, none⟩) ∧ fget tm 0 = .slice va l.length vk ∧ fget tm 4 = av ∧ fget tm 5 = hv ∧ ApSt E G L (List.replicate 16 0) h2 xs O av hv h') l.length ?_ ?_
    · exact ⟨0, [], [], .slice none 0 0, .slice none 0 0, by omega, by omega, by simp, by simp only [push_cast, Nat.reduceEqDiff, Nat.reduceAdd, Nat.reduceMul, Nat.reduceLeDiff, reduceIte, reduceCtorEq, Int.reduceBEq, Int.reduceBNe, Int.reduceLT, Int.reduceLE, Int.reduceToNat, Int.reduceEq, Int.reduceNe, Int.reduceNeg, Int.reduceMul, Int.reduceAdd, Int.reduceSub, Nat.reduceLT, hE.P, awrite, wpc_label], by simp only [push_cast, Nat.reduceEqDiff, Nat.reduceAdd, Nat.reduceMul, Nat.reduceLeDiff, reduceIte, reduceCtorEq, Int.reduceBEq, Int.reduceBNe, Int.reduceLT, Int.reduceLE, Int.reduceToNat, Int.reduceEq, Int.reduceNe, Int.reduceNeg, Int.reduceMul, Int.reduceAdd, Int.reduceSub, Nat.reduceLT, hE.P, awrite, wpc_label], by simp only [push_cast, Nat.reduceEqDiff, Nat.reduceAdd, Nat.reduceMul, Nat.reduceLeDiff, reduceIte, reduceCtorEq, Int.reduceBEq, Int.reduceBNe, Int.reduceLT, Int.reduceLE, Int.reduceToNat, Int.reduceEq, Int.reduceNe, Int.reduceNeg, Int.reduceMul, Int.reduceAdd, Int.reduceSub, Nat.reduceLT, hE.P, awrite, wpc_label], by simp only [push_cast, Nat.reduceEqDiff, Nat.reduceAdd, Nat.reduceMul, Nat.reduceLeDiff, reduceIte, reduceCtorEq, Int.reduceBEq, Int.reduceBNe, Int.reduceLT, Int.reduceLE, Int.reduceToNat, Int.reduceEq, Int.reduceNe, Int.reduceNeg, Int.reduceMul, Int.reduceAdd, Int.reduceSub, Nat.reduceLT, hE.P, awrite, wpc_label], by simp only [push_cast, Nat.reduceEqDiff, Nat.reduceAdd, Nat.reduceMul, Nat.reduceLeDiff, reduceIte, reduceCtorEq, Int.reduceBEq, Int.reduceBNe, Int.reduceLT, Int.reduceLE, Int.reduceToNat, Int.reduceEq, Int.reduceNe, Int.reduceNeg, Int.reduceMul, Int.reduceAdd, Int.reduceSub, Nat.reduceLT, hE.P, awrite, wpc_label], ⟨H2, w2, hG.keep kA, KeepB.refl _ _, .inl ⟨rfl, rfl, rfl⟩, ⟨[], .inl ⟨rfl, rfl, rfl⟩, by unfold RepLs; rfl⟩, by simp [slB], fun p hp => (by cases hp)⟩⟩
    · rintro m tm h3 ⟨i, xs, O, av, hv, rfl, hi, hxi, f6, f3, f0, f4, f5, S⟩
      obtain ⟨ch, hch, hrl⟩ := S.held
      obtain ⟨aa, ak, rfl, _⟩ := Own.slice S.ats
      obtain ⟨ha, hk, rfl, _⟩ := Own.slice hch
      simp only [push_cast, Nat.reduceEqDiff, Nat.reduceAdd, Nat.reduceMul, Nat.reduceLeDiff, reduceIte, reduceCtorEq, Int.reduceBEq, Int.reduceBNe, Int.reduceLT, Int.reduceLE, Int.reduceToNat, Int.reduceEq, Int.reduceNe, Int.reduceNeg, Int.reduceMul, Int.reduceAdd, Int.reduceSub, Nat.reduceLT, hE.P, awrite, wpc_label, f6, f0]
      refine kif_split (fun hb => ?_) (fun hb => ?_)
      · have hli : i < l.length := by simpa using hb
        obtain ⟨a, c, hsl1, hsp, hac⟩ := hs0.elem S.frz hli
        injection hsl1 with e1 e2 e3; subst e1; subst e3
        have hrc := hl.at i l[i] (by simp [hli])
        have hxz : l[i].sz ≤ 5000 := hsz _ (List.getElem_mem hli)
        obtain ⟨ci, hci⟩ : ∃ ci, ci = (cs.drop (i * 5)).take 5 := ⟨_, rfl⟩
        rw [← hci] at hrc hac
        have hrcC := hrc
        obtain ⟨sl', sf', cl', cf', rfl, hsl', hsf', _⟩ := hrc.cells
        obtain ⟨a4, cap4, rfl, _, _⟩ := hsl'.slice
        obtain ⟨a5, cap5, rfl, _, _⟩ := hsf'.slice
        simp only [push_cast, Nat.reduceEqDiff, Nat.reduceAdd, Nat.reduceMul, Nat.reduceLeDiff, reduceIte, reduceCtorEq, Int.reduceBEq, Int.reduceBNe, Int.reduceLT, Int.reduceLE, Int.reduceToNat, Int.reduceEq, Int.reduceNe, Int.reduceNeg, Int.reduceMul, Int.reduceAdd, Int.reduceSub, Nat.reduceLT, hE.P, awrite, wpc_label]
        refine wpc_cutN (fun tm' h' => ∃ xs O av hv, xs.length ≤ i + 1 ∧ fget tm' 6 = .int .i64 i ∧ fget tm' 3 = .pointer (some ⟨L.ph, 0, none⟩) ∧ fget tm' 0 = .slice (some a) l.length vk ∧ fget tm' 4 = av ∧ fget tm' 5 = hv ∧ ApSt E G L (List.replicate 16 0) h2 xs O av hv h') ?_ ?_
        · rintro tm h' ⟨xs, O, av, hv, hxs, p6, p3, p0, p4, p5, S'⟩
          obtain ⟨i1, hi1⟩ : ∃ i1, i1 = i + 1 := ⟨_, rfl⟩
          have e1 : (i : Int) + 1 = i1 := by omega
          have e2 : IntKind.i64.wrap (i1 : Int) = i1 := wrN (by omega)
          simp only [push_cast, Nat.reduceEqDiff, Nat.reduceAdd, Nat.reduceMul, Nat.reduceLeDiff, reduceIte, reduceCtorEq, Int.reduceBEq, Int.reduceBNe, Int.reduceLT, Int.reduceLE, Int.reduceToNat, Int.reduceEq, Int.reduceNe, Int.reduceNeg, Int.reduceMul, Int.reduceAdd, Int.reduceSub, Nat.reduceLT, hE.P, awrite, wpc_label, p6, e1, e2]
          exact ⟨l.length - i1, by omega, i1, xs, O, av, hv, rfl, by omega, by omega, rfl, p3, p0, p4, p5, S'⟩
        · rw [wpc_block]
          simp only [push_cast, Nat.reduceEqDiff, Nat.reduceAdd, Nat.reduceMul, Nat.reduceLeDiff, reduceIte, reduceCtorEq, Int.reduceBEq, Int.reduceBNe, Int.reduceLT, Int.reduceLE, Int.reduceToNat, Int.reduceEq, Int.reduceNe, Int.reduceNeg, Int.reduceMul, Int.reduceAdd, Int.reduceSub, Nat.reduceLT, hE.P, awrite, wpc_label, f6, f0]
          rw [ia25 hsp (by omega) (by omega), kpure_some]
          simp only [push_cast, Nat.reduceEqDiff, Nat.reduceAdd, Nat.reduceMul, Nat.reduceLeDiff, reduceIte, reduceCtorEq, Int.reduceBEq, Int.reduceBNe, Int.reduceLT, Int.reduceLE, Int.reduceToNat, Int.reduceEq, Int.reduceNe, Int.reduceNeg, Int.reduceMul, Int.reduceAdd, Int.reduceSub, Nat.reduceLT, hE.P, awrite, wpc_label, f6, f0, ↓hac]
          refine (Words_at hE (V := l[i]) (by omega) S.wf S.frz hrcC).mono ?_
          rintro v h4 ⟨rfl, k4, w4⟩
          have iso4 := S.iso.keep k4
          have hOb : O.length ≤ 8192 ∧ allO O ≤ 32768 := by
            obtain ⟨SS, H', w', e1, e2, e3⟩ := S.iso
            exact ⟨by rw [← e2]; exact w'.len H'.ok, by rw [← e1]; exact allO_lt H' w'⟩
          have hob := obs_words l[i].sz l[i] (Nat.le_refl _)
          have e5a : ((5 : Int) == 5) = true := rfl
          by_cases hgd : goodV l[i] = 0
          · have hgp := good_parts hgd
            obtain ⟨ow, oc⟩ := hob hgp.1 O.length
            have hnm := Rep.nums l[i].sz l[i] (Nat.le_refl _) hrcC
            rw [if_pos hgd]
            obtain ⟨wv, hwv⟩ : ∃ wv, wv = allO (obs O.length l[i]) := ⟨_, rfl⟩
            obtain ⟨nv, hnv⟩ : ∃ nv, nv = (obs O.length l[i]).length := ⟨_, rfl⟩
            rw [← hwv] at ow
            rw [← hnv] at oc
            rw [← ow, ← oc]
            simp only [push_cast, Nat.reduceEqDiff, Nat.reduceAdd, Nat.reduceMul, Nat.reduceLeDiff, reduceIte, reduceCtorEq, Int.reduceBEq, Int.reduceBNe, Int.reduceLT, Int.reduceLE, Int.reduceToNat, Int.reduceEq, Int.reduceNe, Int.reduceNeg, Int.reduceMul, Int.reduceAdd, Int.reduceSub, Nat.reduceLT, hE.P, awrite, wpc_label, f3]
            refine (oarena_at hE iso4).mono ?_
            rintro v h5 ⟨rfl, rfl⟩
            simp only [push_cast, Nat.reduceEqDiff, Nat.reduceAdd, Nat.reduceMul, Nat.reduceLeDiff, reduceIte, reduceCtorEq, Int.reduceBEq, Int.reduceBNe, Int.reduceLT, Int.reduceLE, Int.reduceToNat, Int.reduceEq, Int.reduceNe, Int.reduceNeg, Int.reduceMul, Int.reduceAdd, Int.reduceSub, Nat.reduceLT, hE.P, awrite, wpc_label]
            refine (otop_at hE iso4).mono ?_
            rintro v h5 ⟨rfl, rfl⟩
            simp only [push_cast, Nat.reduceEqDiff, Nat.reduceAdd, Nat.reduceMul, Nat.reduceLeDiff, reduceIte, reduceCtorEq, Int.reduceBEq, Int.reduceBNe, Int.reduceLT, Int.reduceLE, Int.reduceToNat, Int.reduceEq, Int.reduceNe, Int.reduceNeg, Int.reduceMul, Int.reduceAdd, Int.reduceSub, Nat.reduceLT, hE.P, awrite, wpc_label, f3]
            refine (otable_at hE iso4).mono ?_
            rintro v h5 ⟨rfl, rfl⟩
            simp only [push_cast, Nat.reduceEqDiff, Nat.reduceAdd, Nat.reduceMul, Nat.reduceLeDiff, reduceIte, reduceCtorEq, Int.reduceBEq, Int.reduceBNe, Int.reduceLT, Int.reduceLE, Int.reduceToNat, Int.reduceEq, Int.reduceNe, Int.reduceNeg, Int.reduceMul, Int.reduceAdd, Int.reduceSub, Nat.reduceLT, hE.P, awrite, wpc_label]
            refine (ocount_at hE iso4).mono ?_
            rintro v h5 ⟨rfl, rfl⟩
            simp only [push_cast, Nat.reduceEqDiff, Nat.reduceAdd, Nat.reduceMul, Nat.reduceLeDiff, reduceIte, reduceCtorEq, Int.reduceBEq, Int.reduceBNe, Int.reduceLT, Int.reduceLE, Int.reduceToNat, Int.reduceEq, Int.reduceNe, Int.reduceNeg, Int.reduceMul, Int.reduceAdd, Int.reduceSub, Nat.reduceLT, hE.P, awrite, wpc_label, f6, f0, f3]
            rw [ia25 hsp (by omega) (by omega), kpure_some]
            have hac5 : acells E h5 ⟨a.block, a.off + i * 5, none⟩ 5 = some [.int .i64 l[i].k, .int .i64 l[i].n, .string l[i].s, .slice a4 l[i].l.length cap4, .slice a5 l[i].f.length cap5] := by
              obtain ⟨a', c', hsl1', hsp', hac'⟩ := hs0.elem (S.frz.keep k4) hli
              injection hsl1' with e1 e2 e3; injection e1 with e1; subst e1
              rw [← hci] at hac'; exact hac'
            simp only [push_cast, Nat.reduceEqDiff, Nat.reduceAdd, Nat.reduceMul, Nat.reduceLeDiff, reduceIte, reduceCtorEq, Int.reduceBEq, Int.reduceBNe, Int.reduceLT, Int.reduceLE, Int.reduceToNat, Int.reduceEq, Int.reduceNe, Int.reduceNeg, Int.reduceMul, Int.reduceAdd, Int.reduceSub, Nat.reduceLT, hE.P, awrite, wpc_label, f6, f0, f3, ↓hac5]
            refine (build_at hE iso4 (V := l[i]) (by omega) w4 (S.frz.keep k4) hsep hrcC).mono ?_
            rintro v h6 ⟨rfl, H6, k6, w6⟩
            have kk6 : KeepB L h3 h6 := (k4.b L).trans k6
            by_cases hroom : allO O + wv ≤ 32768 ∧ O.length + nv ≤ 8192
            · have hbo : buildO 32768 8192 O l[i] = (.tuple #[.int .u64 (hOf (O.length + nv - 1)), .int .i64 0], O ++ obs O.length l[i]) := by
                unfold buildO
                rw [if_pos hgd, if_pos (by rw [← hwv, ← hnv]; exact hroom), hnv]
              rw [hbo] at H6 ⊢
              have hO1 : allO (O ++ obs O.length l[i]) = allO O + wv := by rw [allO_app, hwv]
              have hO2 : (O ++ obs O.length l[i]).length = O.length + nv := by rw [List.length_append, hnv]
              have e1 : IntKind.i64.wrap ((allO O : Int) + wv) = (allO O : Int) + wv := wr64 (by omega) (by omega)
              have e2 : IntKind.i64.wrap ((O.length : Int) + nv) = (O.length : Int) + nv := wr64 (by omega) (by omega)
              have e3 : (((allO O + wv : Nat) : Int) != (allO O : Int) + wv) = false := by simp
              have e4 : (((O.length + nv : Nat) : Int) != (O.length : Int) + nv) = false := by simp
              simp only [push_cast, Nat.reduceEqDiff, Nat.reduceAdd, Nat.reduceMul, Nat.reduceLeDiff, reduceIte, reduceCtorEq, Int.reduceBEq, Int.reduceBNe, Int.reduceLT, Int.reduceLE, Int.reduceToNat, Int.reduceEq, Int.reduceNe, Int.reduceNeg, Int.reduceMul, Int.reduceAdd, Int.reduceSub, Nat.reduceLT, hE.P, awrite, wpc_label, f3]
              refine (oarena_at hE H6).mono ?_
              rintro v h7 ⟨rfl, rfl⟩
              simp only [push_cast, Nat.reduceEqDiff, Nat.reduceAdd, Nat.reduceMul, Nat.reduceLeDiff, reduceIte, reduceCtorEq, Int.reduceBEq, Int.reduceBNe, Int.reduceLT, Int.reduceLE, Int.reduceToNat, Int.reduceEq, Int.reduceNe, Int.reduceNeg, Int.reduceMul, Int.reduceAdd, Int.reduceSub, Nat.reduceLT, hE.P, awrite, wpc_label]
              refine (otop_at hE H6).mono ?_
              rintro v h7 ⟨rfl, rfl⟩
              rw [hO1]
              obtain ⟨tA, htA⟩ : ∃ tA, tA = allO O + wv := ⟨_, rfl⟩
              rw [← htA] at e3 ⊢
              simp only [push_cast, Nat.reduceEqDiff, Nat.reduceAdd, Nat.reduceMul, Nat.reduceLeDiff, reduceIte, reduceCtorEq, Int.reduceBEq, Int.reduceBNe, Int.reduceLT, Int.reduceLE, Int.reduceToNat, Int.reduceEq, Int.reduceNe, Int.reduceNeg, Int.reduceMul, Int.reduceAdd, Int.reduceSub, Nat.reduceLT, hE.P, awrite, wpc_label, f3, e1, e3]
              refine (otable_at hE H6).mono ?_
              rintro v h7 ⟨rfl, rfl⟩
              simp only [push_cast, Nat.reduceEqDiff, Nat.reduceAdd, Nat.reduceMul, Nat.reduceLeDiff, reduceIte, reduceCtorEq, Int.reduceBEq, Int.reduceBNe, Int.reduceLT, Int.reduceLE, Int.reduceToNat, Int.reduceEq, Int.reduceNe, Int.reduceNeg, Int.reduceMul, Int.reduceAdd, Int.reduceSub, Nat.reduceLT, hE.P, awrite, wpc_label]
              refine (ocount_at hE H6).mono ?_
              rintro v h7 ⟨rfl, rfl⟩
              rw [hO2]
              obtain ⟨tB, htB⟩ : ∃ tB, tB = O.length + nv := ⟨_, rfl⟩
              rw [← htB] at e4 ⊢
              simp only [push_cast, Nat.reduceEqDiff, Nat.reduceAdd, Nat.reduceMul, Nat.reduceLeDiff, reduceIte, reduceCtorEq, Int.reduceBEq, Int.reduceBNe, Int.reduceLT, Int.reduceLE, Int.reduceToNat, Int.reduceEq, Int.reduceNe, Int.reduceNeg, Int.reduceMul, Int.reduceAdd, Int.reduceSub, Nat.reduceLT, hE.P, awrite, wpc_label, f3, e2, e4]
              rw [bs41 rfl, kalloc_some]
              have SS := S.up hlt2 hsep kk6 (C := obs O.length l[i]) rfl H6 w6
              obtain ⟨ch2, hch2, hrl2⟩ := SS.held
              have hx1 : Held (O ++ obs O.length l[i]) (hOf (tB - 1), l[i]) := ⟨hgd, hnm, O.length, There.self _ _, by rw [htB, hnv], by rw [← hnv]; omega⟩
              have n27 : h2.next ≤ h7.next := SS.keep.next
              have hal := SS.ats.lt w6
              have hhl := hch2.lt w6
              simp only [push_cast, Nat.reduceEqDiff, Nat.reduceAdd, Nat.reduceMul, Nat.reduceLeDiff, reduceIte, reduceCtorEq, Int.reduceBEq, Int.reduceBNe, Int.reduceLT, Int.reduceLE, Int.reduceToNat, Int.reduceEq, Int.reduceNe, Int.reduceNeg, Int.reduceMul, Int.reduceAdd, Int.reduceSub, Nat.reduceLT, hE.P, awrite, wpc_label, f4]
              refine kwv_app1 (el41 hE.P) w6 (lo := h2.next) n27 SS.ats rfl rfl (by omega) (by omega) ?_
              intro v8 h8 hown8 hbut8 hblk8 hnx8 w8
              have held8 : Own h8 28 5 h2.next xs.length ch2 (.slice ha xs.length hk) := hch2.but fun b o hb hgb => hbut8 b o hgb (fun hh => SS.apart b hh hb)
              have kL8 : ∀ b o, b < h2.next → h7.get b = some o → h8.get b = some o := fun b o hb hgb => hbut8 b o hgb (fun hh => by have := (hal b hh).1; omega)
              have frz8 : Frz E G h8 := SS.frz.but fun b o hb hgb => kL8 b o (by
                obtain ⟨cb, hcb⟩ := Option.isSome_iff_exists.1 hb
                have := hGlt b cb hcb; have := k2.next; omega) hgb
              have hac8 : acells E h8 ⟨a.block, a.off + i * 5, none⟩ 5 = some [.int .i64 l[i].k, .int .i64 l[i].n, .string l[i].s, .slice a4 l[i].l.length cap4, .slice a5 l[i].f.length cap5] := by
                obtain ⟨a', c', hsl1', hsp', hac'⟩ := hs0.elem frz8 hli
                injection hsl1' with e1 e2 e3; injection e1 with e1; subst e1
                rw [← hci] at hac'; exact hac'
              obtain ⟨va8, vk8, rfl, _⟩ := Own.slice hown8
              simp only [push_cast, Nat.reduceEqDiff, Nat.reduceAdd, Nat.reduceMul, Nat.reduceLeDiff, reduceIte, reduceCtorEq, Int.reduceBEq, Int.reduceBNe, Int.reduceLT, Int.reduceLE, Int.reduceToNat, Int.reduceEq, Int.reduceNe, Int.reduceNeg, Int.reduceMul, Int.reduceAdd, Int.reduceSub, Nat.reduceLT, hE.P, awrite, wpc_label, f6, f0, f5]
              rw [ia25 hsp (by omega) (by omega), kpure_some]
              simp only [push_cast, Nat.reduceEqDiff, Nat.reduceAdd, Nat.reduceMul, Nat.reduceLeDiff, reduceIte, reduceCtorEq, Int.reduceBEq, Int.reduceBNe, Int.reduceLT, Int.reduceLE, Int.reduceToNat, Int.reduceEq, Int.reduceNe, Int.reduceNeg, Int.reduceMul, Int.reduceAdd, Int.reduceSub, Nat.reduceLT, hE.P, awrite, wpc_label, f6, f0, f5, ↓hac8]
              rw [bs25 rfl, kalloc_some]
              simp only [push_cast, Nat.reduceEqDiff, Nat.reduceAdd, Nat.reduceMul, Nat.reduceLeDiff, reduceIte, reduceCtorEq, Int.reduceBEq, Int.reduceBNe, Int.reduceLT, Int.reduceLE, Int.reduceToNat, Int.reduceEq, Int.reduceNe, Int.reduceNeg, Int.reduceMul, Int.reduceAdd, Int.reduceSub, Nat.reduceLT, hE.P, awrite, wpc_label, f5]
              refine kwv_app1 (el25 hE.P) w8 (lo := h2.next) (by omega) held8 rfl rfl (by omega) (by omega) ?_
              intro v9 h9 hown9 hbut9 hblk9 hnx9 w9
              obtain ⟨va9, vk9, rfl, _⟩ := Own.slice hown9
              have hap8 : ∀ b, b ∈ slB (.slice va8 (xs.length + 1) vk8) → b ∉ slB (.slice ha xs.length hk) := fun b hb hh => by
                rcases hblk8 b hb with h10 | h10
                · exact SS.apart b h10 hh
                · have := (hhl b hh).2; omega
              have kL9 : ∀ b o, b < h2.next → h7.get b = some o → h9.get b = some o := fun b o hb hgb => hbut9 b o (kL8 b o hb hgb) (fun hh => by have := (hhl b hh).1; omega)
              have S9 : ApSt E G L (List.replicate 16 0) h2 (xs ++ [(hOf (tB - 1), l[i])]) (O ++ obs O.length l[i]) (.slice va8 (xs.length + 1) vk8) (.slice va9 (xs.length + 1) vk9) h9 := by
                refine ⟨H6.keepLo hlt2 ⟨kL9, by omega⟩, w9, SS.frz.but fun b o hb hgb => kL9 b o (by
                  obtain ⟨cb, hcb⟩ := Option.isSome_iff_exists.1 hb
                  have := hGlt b cb hcb; have := k2.next; omega) hgb, ⟨fun b o hb hgb => kL9 b o (w2.live _ _ hgb).2 (SS.keep.get _ _ hb hgb), by have := SS.keep.next; omega⟩, ?_, ⟨ch2 ++ [.int .i64 l[i].k, .int .i64 l[i].n, .string l[i].s, .slice a4 l[i].l.length cap4, .slice a5 l[i].f.length cap5], ?_, ?_⟩, ?_, ?_⟩
                · have e1 : (xs ++ [(hOf (tB - 1), l[i])]).length = xs.length + 1 := by simp
                  have e2 : u64s ((xs ++ [(hOf (tB - 1), l[i])]).map (·.1)) = u64s (xs.map (·.1)) ++ [.int .u64 (hOf (tB - 1) : Nat)] := by simp [u64s]
                  rw [e1, e2]
                  exact hown8.but fun b o hb hgb => hbut9 b o hgb (hap8 b hb)
                · have e1 : (xs ++ [(hOf (tB - 1), l[i])]).length = xs.length + 1 := by simp
                  rw [e1]; exact hown9
                · have e2 : (xs ++ [(hOf (tB - 1), l[i])]).map (·.2) = xs.map (·.2) ++ [l[i]] := by simp
                  rw [e2]
                  exact RepLs.app hrl2 (RepLs.one hrcC)
                · intro b hb hh
                  rcases hblk9 b hh with h10 | h10
                  · exact hap8 b hb h10
                  · have := (hown8.lt w8 b hb).2; omega
                · intro p hp
                  rcases List.mem_append.1 hp with h10 | h10
                  · exact SS.all p h10
                  · simp only [List.mem_singleton] at h10; subst h10; exact hx1
              simp only [push_cast, Nat.reduceEqDiff, Nat.reduceAdd, Nat.reduceMul, Nat.reduceLeDiff, reduceIte, reduceCtorEq, Int.reduceBEq, Int.reduceBNe, Int.reduceLT, Int.reduceLE, Int.reduceToNat, Int.reduceEq, Int.reduceNe, Int.reduceNeg, Int.reduceMul, Int.reduceAdd, Int.reduceSub, Nat.reduceLT, hE.P, awrite, wpc_label, f4, f5]
              obtain ⟨xs2, hxs2⟩ : ∃ xs2, xs2 = xs ++ [(hOf (tB - 1), l[i])] := ⟨_, rfl⟩
              obtain ⟨n1, hn1⟩ : ∃ n1, n1 = xs.length + 1 := ⟨_, rfl⟩
              have hxl : xs2.length = n1 := by rw [hxs2, hn1]; simp
              rw [← hxs2, ← hn1] at S9
              rw [← hn1]
              obtain ⟨q, hq⟩ : ∃ q, q = n1 / 8 := ⟨_, rfl⟩
              have hq2 : (n1 : Int).tdiv 8 = q := by rw [Int.tdiv_eq_ediv_of_nonneg (by omega)]; omega
              have hq3 : IntKind.i64.wrap (q : Int) = q := wrN (by omega)
              have hown := S9.ats
              obtain ⟨chh, hownh, hrlh⟩ := S9.held
              rw [hxl] at hown hownh
              obtain ⟨Ga, sla, fza, _⟩ := own_sl w9 hown
              obtain ⟨Gh, slh, fzh, _⟩ := own_sl w9 hownh
              rw [wpc_block]
              refine wpc_loop (fun m tm h' => ∃ k : Nat, m = n1 - k ∧ k ≤ 2 * n1 ∧ fget tm 14 = .int .i64 k ∧ fget tm 6 = .int .i64 i ∧ fget tm 3 = .pointer (some ⟨L.ph, 0, none⟩) ∧ fget tm 0 = .slice (some a) l.length vk ∧ fget tm 4 = .slice va8 n1 vk8 ∧ fget tm 5 = .slice va9 n1 vk9 ∧ Keep h9 h' ∧ WF E h') n1 ?_ ?_
              · exact ⟨0, by omega, by omega, by simp only [push_cast, Nat.reduceEqDiff, Nat.reduceAdd, Nat.reduceMul, Nat.reduceLeDiff, reduceIte, reduceCtorEq, Int.reduceBEq, Int.reduceBNe, Int.reduceLT, Int.reduceLE, Int.reduceToNat, Int.reduceEq, Int.reduceNe, Int.reduceNeg, Int.reduceMul, Int.reduceAdd, Int.reduceSub, Nat.reduceLT, hE.P, awrite, wpc_label], by simp only [push_cast, Nat.reduceEqDiff, Nat.reduceAdd, Nat.reduceMul, Nat.reduceLeDiff, reduceIte, reduceCtorEq, Int.reduceBEq, Int.reduceBNe, Int.reduceLT, Int.reduceLE, Int.reduceToNat, Int.reduceEq, Int.reduceNe, Int.reduceNeg, Int.reduceMul, Int.reduceAdd, Int.reduceSub, Nat.reduceLT, hE.P, awrite, wpc_label, f6], by simp only [push_cast, Nat.reduceEqDiff, Nat.reduceAdd, Nat.reduceMul, Nat.reduceLeDiff, reduceIte, reduceCtorEq, Int.reduceBEq, Int.reduceBNe, Int.reduceLT, Int.reduceLE, Int.reduceToNat, Int.reduceEq, Int.reduceNe, Int.reduceNeg, Int.reduceMul, Int.reduceAdd, Int.reduceSub, Nat.reduceLT, hE.P, awrite, wpc_label, f3], by simp only [push_cast, Nat.reduceEqDiff, Nat.reduceAdd, Nat.reduceMul, Nat.reduceLeDiff, reduceIte, reduceCtorEq, Int.reduceBEq, Int.reduceBNe, Int.reduceLT, Int.reduceLE, Int.reduceToNat, Int.reduceEq, Int.reduceNe, Int.reduceNeg, Int.reduceMul, Int.reduceAdd, Int.reduceSub, Nat.reduceLT, hE.P, awrite, wpc_label, f0], by simp only [push_cast, Nat.reduceEqDiff, Nat.reduceAdd, Nat.reduceMul, Nat.reduceLeDiff, reduceIte, reduceCtorEq, Int.reduceBEq, Int.reduceBNe, Int.reduceLT, Int.reduceLE, Int.reduceToNat, Int.reduceEq, Int.reduceNe, Int.reduceNeg, Int.reduceMul, Int.reduceAdd, Int.reduceSub, Nat.reduceLT, hE.P, awrite, wpc_label], by simp only [push_cast, Nat.reduceEqDiff, Nat.reduceAdd, Nat.reduceMul, Nat.reduceLeDiff, reduceIte, reduceCtorEq, Int.reduceBEq, Int.reduceBNe, Int.reduceLT, Int.reduceLE, Int.reduceToNat, Int.reduceEq, Int.reduceNe, Int.reduceNeg, Int.reduceMul, Int.reduceAdd, Int.reduceSub, Nat.reduceLT, hE.P, awrite, wpc_label], Keep.refl _, w9⟩
              · rintro m tm ha ⟨k, rfl, hk2, g14, g6, g3, g0, g4, g5, kk, ww⟩
                simp only [push_cast, Nat.reduceEqDiff, Nat.reduceAdd, Nat.reduceMul, Nat.reduceLeDiff, reduceIte, reduceCtorEq, Int.reduceBEq, Int.reduceBNe, Int.reduceLT, Int.reduceLE, Int.reduceToNat, Int.reduceEq, Int.reduceNe, Int.reduceNeg, Int.reduceMul, Int.reduceAdd, Int.reduceSub, Nat.reduceLT, hE.P, awrite, wpc_label, g14, g4]
                refine kif_split (fun hb => ?_) (fun hb => ?_)
                · have hlk : k < n1 := by simpa using hb
                  obtain ⟨xa, xc, sa1, sa2, sa3⟩ := sla.elem (fza.keep kk) hlk
                  injection sa1 with s1 s2 s3; subst s1; subst s3
                  obtain ⟨ya, yc, sb1, sb2, sb3⟩ := slh.elem (fzh.keep kk) hlk
                  injection sb1 with s1 s2 s3; subst s1; subst s3
                  have hkl : k < xs2.length := by omega
                  have hp := S9.all xs2[k] (List.getElem_mem hkl)
                  have hu : ((u64s (xs2.map (·.1))).drop (k * 1)).take 1 = [.int .u64 (xs2[k].1 : Nat)] := by
                    rw [u64s_at (by simpa using hkl)]; simp
                  rw [hu, Nat.mul_one] at sa3
                  have hrep := hrlh.at k xs2[k].2 (by simp [hkl])
                  obtain ⟨cx, hcx⟩ : ∃ cx, cx = (chh.drop (k * 5)).take 5 := ⟨_, rfl⟩
                  rw [← hcx] at sb3 hrep
                  have hrepC := hrep
                  obtain ⟨sl7, sf7, cl7, cf7, rfl, hsl7, hsf7, _⟩ := hrep.cells
                  obtain ⟨a7, cap7, rfl, _, _⟩ := hsl7.slice
                  obtain ⟨b7, cbp7, rfl, _, _⟩ := hsf7.slice
                  have e1 : (k : Int) + 1 = ((k + 1 : Nat) : Int) := by omega
                  have e2 : IntKind.i64.wrap ((k + 1 : Nat) : Int) = ((k + 1 : Nat) : Int) := wrN (by omega)
                  obtain ⟨k1, hk1⟩ : ∃ k1, k1 = k + 1 := ⟨_, rfl⟩
                  rw [← hk1] at e1 e2
                  obtain ⟨k2', hk2'⟩ : ∃ k2', k2' = k1 + q := ⟨_, rfl⟩
                  have e3 : (k1 : Int) + q = k2' := by omega
                  have e4 : IntKind.i64.wrap (k2' : Int) = k2' := wrN (by omega)
                  simp only [push_cast, Nat.reduceEqDiff, Nat.reduceAdd, Nat.reduceMul, Nat.reduceLeDiff, reduceIte, reduceCtorEq, Int.reduceBEq, Int.reduceBNe, Int.reduceLT, Int.reduceLE, Int.reduceToNat, Int.reduceEq, Int.reduceNe, Int.reduceNeg, Int.reduceMul, Int.reduceAdd, Int.reduceSub, Nat.reduceLT, hE.P, awrite, wpc_label]
                  rw [wpc_block]
                  refine wpc_cutN (fun tm' h' => fget tm' 14 = .int .i64 k ∧ fget tm' 6 = .int .i64 i ∧ fget tm' 3 = .pointer (some ⟨L.ph, 0, none⟩) ∧ fget tm' 0 = .slice (some a) l.length vk ∧ fget tm' 4 = .slice (some xa) n1 vk8 ∧ fget tm' 5 = .slice (some ya) n1 vk9 ∧ Keep h9 h' ∧ WF E h') ?_ ?_
                  · rintro tm h' ⟨q14, q6, q3, q0, q4, q5, qk, qw⟩
                    simp only [push_cast, Nat.reduceEqDiff, Nat.reduceAdd, Nat.reduceMul, Nat.reduceLeDiff, reduceIte, reduceCtorEq, Int.reduceBEq, Int.reduceBNe, Int.reduceLT, Int.reduceLE, Int.reduceToNat, Int.reduceEq, Int.reduceNe, Int.reduceNeg, Int.reduceMul, Int.reduceAdd, Int.reduceSub, Nat.reduceLT, hE.P, awrite, wpc_label, q14, q4, e1, e2, e3, e4, hq2, hq3]
                    exact ⟨n1 - k2', by omega, k2', rfl, by omega, rfl, q6, q3, q0, q5, qk, qw⟩
                  · simp only [push_cast, Nat.reduceEqDiff, Nat.reduceAdd, Nat.reduceMul, Nat.reduceLeDiff, reduceIte, reduceCtorEq, Int.reduceBEq, Int.reduceBNe, Int.reduceLT, Int.reduceLE, Int.reduceToNat, Int.reduceEq, Int.reduceNe, Int.reduceNeg, Int.reduceMul, Int.reduceAdd, Int.reduceSub, Nat.reduceLT, hE.P, awrite, wpc_label]
                    refine wdraw_calm (by rw [hE.P]; decide +kernel) ?_
                    simp only [push_cast, Nat.reduceEqDiff, Nat.reduceAdd, Nat.reduceMul, Nat.reduceLeDiff, reduceIte, reduceCtorEq, Int.reduceBEq, Int.reduceBNe, Int.reduceLT, Int.reduceLE, Int.reduceToNat, Int.reduceEq, Int.reduceNe, Int.reduceNeg, Int.reduceMul, Int.reduceAdd, Int.reduceSub, Nat.reduceLT, hE.P, awrite, wpc_label, g3, g4, g5, g14]
                    rw [ia41 sa2 (by omega) (by omega), kpure_some]
                    simp only [push_cast, Nat.reduceEqDiff, Nat.reduceAdd, Nat.reduceMul, Nat.reduceLeDiff, reduceIte, reduceCtorEq, Int.reduceBEq, Int.reduceBNe, Int.reduceLT, Int.reduceLE, Int.reduceToNat, Int.reduceEq, Int.reduceNe, Int.reduceNeg, Int.reduceMul, Int.reduceAdd, Int.reduceSub, Nat.reduceLT, hE.P, awrite, wpc_label, g3, g4, g5, g14, ↓sa3]
                    rw [ia25 sb2 (by omega) (by omega), kpure_some]
                    simp only [push_cast, Nat.reduceEqDiff, Nat.reduceAdd, Nat.reduceMul, Nat.reduceLeDiff, reduceIte, reduceCtorEq, Int.reduceBEq, Int.reduceBNe, Int.reduceLT, Int.reduceLE, Int.reduceToNat, Int.reduceEq, Int.reduceNe, Int.reduceNeg, Int.reduceMul, Int.reduceAdd, Int.reduceSub, Nat.reduceLT, hE.P, awrite, wpc_label, g3, g4, g5, g14, ↓sb3]
                    refine (reads_at hE (S9.iso.keep kk) ww hp.lt hp.rd hp.1 (S9.frz.keep kk) hrepC).mono ?_
                    rintro v h10 ⟨rfl, k10, w10⟩
                    simp only [push_cast, Nat.reduceEqDiff, Nat.reduceAdd, Nat.reduceMul, Nat.reduceLeDiff, reduceIte, reduceCtorEq, Int.reduceBEq, Int.reduceBNe, Int.reduceLT, Int.reduceLE, Int.reduceToNat, Int.reduceEq, Int.reduceNe, Int.reduceNeg, Int.reduceMul, Int.reduceAdd, Int.reduceSub, Nat.reduceLT, hE.P, awrite, wpc_label, g14, g6, g3, g0, g4, g5]
                    exact ⟨kk.trans k10, w10⟩
                · simp only [push_cast, Nat.reduceEqDiff, Nat.reduceAdd, Nat.reduceMul, Nat.reduceLeDiff, reduceIte, reduceCtorEq, Int.reduceBEq, Int.reduceBNe, Int.reduceLT, Int.reduceLE, Int.reduceToNat, Int.reduceEq, Int.reduceNe, Int.reduceNeg, Int.reduceMul, Int.reduceAdd, Int.reduceSub, Nat.reduceLT, hE.P, awrite, wpc_label, g6, g3, g0, g4, g5]
                  exact ⟨xs2, O ++ obs O.length l[i], _, _, by omega, rfl, rfl, S9.up hlt2 hsep (kk.b L) (C := []) (by simp) (S9.iso.keep kk) ww⟩
            · have hbo : buildO 32768 8192 O l[i] = (.tuple #[.int .u64 0, .int .i64 5], O) := by
                unfold buildO
                rw [if_pos hgd, if_neg (by rw [← hwv, ← hnv]; exact hroom)]
              rw [hbo] at H6 ⊢
              simp only [push_cast, Nat.reduceEqDiff, Nat.reduceAdd, Nat.reduceMul, Nat.reduceLeDiff, reduceIte, reduceCtorEq, Int.reduceBEq, Int.reduceBNe, Int.reduceLT, Int.reduceLE, Int.reduceToNat, Int.reduceEq, Int.reduceNe, Int.reduceNeg, Int.reduceMul, Int.reduceAdd, Int.reduceSub, Nat.reduceLT, hE.P, awrite, wpc_label, f3]
              refine (oarena_at hE H6).mono ?_
              rintro v h7 ⟨rfl, rfl⟩
              simp only [push_cast, Nat.reduceEqDiff, Nat.reduceAdd, Nat.reduceMul, Nat.reduceLeDiff, reduceIte, reduceCtorEq, Int.reduceBEq, Int.reduceBNe, Int.reduceLT, Int.reduceLE, Int.reduceToNat, Int.reduceEq, Int.reduceNe, Int.reduceNeg, Int.reduceMul, Int.reduceAdd, Int.reduceSub, Nat.reduceLT, hE.P, awrite, wpc_label]
              refine (ofree_at hE H6).mono ?_
              rintro v h7 ⟨rfl, rfl⟩
              obtain ⟨fr, hfr⟩ : ∃ fr : Int, fr = ((32768 : Nat) : Int) - allO O := ⟨_, rfl⟩
              rw [← hfr]
              simp only [push_cast, Nat.reduceEqDiff, Nat.reduceAdd, Nat.reduceMul, Nat.reduceLeDiff, reduceIte, reduceCtorEq, Int.reduceBEq, Int.reduceBNe, Int.reduceLT, Int.reduceLE, Int.reduceToNat, Int.reduceEq, Int.reduceNe, Int.reduceNeg, Int.reduceMul, Int.reduceAdd, Int.reduceSub, Nat.reduceLT, hE.P, awrite, wpc_label, f3]
              have e7 : IntKind.i64.wrap ((8192 : Int) - O.length) = (8192 : Int) - O.length := wr64 (by omega) (by omega)
              refine kguard_splitT (fun hA => ?_) (fun hA => ?_)
              · have hA2 := of_decide_eq_true hA
                have e6 : decide ((nv : Int) ≤ 8192 - O.length) = false := by simp; omega
                simp only [push_cast, Nat.reduceEqDiff, Nat.reduceAdd, Nat.reduceMul, Nat.reduceLeDiff, reduceIte, reduceCtorEq, Int.reduceBEq, Int.reduceBNe, Int.reduceLT, Int.reduceLE, Int.reduceToNat, Int.reduceEq, Int.reduceNe, Int.reduceNeg, Int.reduceMul, Int.reduceAdd, Int.reduceSub, Nat.reduceLT, hE.P, awrite, wpc_label, hA, f3]
                refine (otable_at hE H6).mono ?_
                rintro v h8 ⟨rfl, rfl⟩
                simp only [push_cast, Nat.reduceEqDiff, Nat.reduceAdd, Nat.reduceMul, Nat.reduceLeDiff, reduceIte, reduceCtorEq, Int.reduceBEq, Int.reduceBNe, Int.reduceLT, Int.reduceLE, Int.reduceToNat, Int.reduceEq, Int.reduceNe, Int.reduceNeg, Int.reduceMul, Int.reduceAdd, Int.reduceSub, Nat.reduceLT, hE.P, awrite, wpc_label]
                refine (oslots_at hE H6).mono ?_
                rintro v h8 ⟨rfl, rfl⟩
                rw [show ((8192 : Nat) : Int) = 8192 from rfl]
                simp only [push_cast, Nat.reduceEqDiff, Nat.reduceAdd, Nat.reduceMul, Nat.reduceLeDiff, reduceIte, reduceCtorEq, Int.reduceBEq, Int.reduceBNe, Int.reduceLT, Int.reduceLE, Int.reduceToNat, Int.reduceEq, Int.reduceNe, Int.reduceNeg, Int.reduceMul, Int.reduceAdd, Int.reduceSub, Nat.reduceLT, hE.P, awrite, wpc_label, f3, e7, e6]
                refine (oarena_at hE H6).mono ?_
                rintro v h8 ⟨rfl, rfl⟩
                simp only [push_cast, Nat.reduceEqDiff, Nat.reduceAdd, Nat.reduceMul, Nat.reduceLeDiff, reduceIte, reduceCtorEq, Int.reduceBEq, Int.reduceBNe, Int.reduceLT, Int.reduceLE, Int.reduceToNat, Int.reduceEq, Int.reduceNe, Int.reduceNeg, Int.reduceMul, Int.reduceAdd, Int.reduceSub, Nat.reduceLT, hE.P, awrite, wpc_label]
                refine (otop_at hE H6).mono ?_
                rintro v h8 ⟨rfl, rfl⟩
                simp only [push_cast, Nat.reduceEqDiff, Nat.reduceAdd, Nat.reduceMul, Nat.reduceLeDiff, reduceIte, reduceCtorEq, Int.reduceBEq, Int.reduceBNe, Int.reduceLT, Int.reduceLE, Int.reduceToNat, Int.reduceEq, Int.reduceNe, Int.reduceNeg, Int.reduceMul, Int.reduceAdd, Int.reduceSub, Nat.reduceLT, hE.P, awrite, wpc_label, f3, f6, f0, f4, f5]
                exact ⟨xs, O, _, _, by omega, rfl, rfl, S.up hlt2 hsep kk6 (C := []) (by simp) H6 w6⟩
              · simp only [push_cast, Nat.reduceEqDiff, Nat.reduceAdd, Nat.reduceMul, Nat.reduceLeDiff, reduceIte, reduceCtorEq, Int.reduceBEq, Int.reduceBNe, Int.reduceLT, Int.reduceLE, Int.reduceToNat, Int.reduceEq, Int.reduceNe, Int.reduceNeg, Int.reduceMul, Int.reduceAdd, Int.reduceSub, Nat.reduceLT, hE.P, awrite, wpc_label, hA, f3]
                refine (oarena_at hE H6).mono ?_
                rintro v h8 ⟨rfl, rfl⟩
                simp only [push_cast, Nat.reduceEqDiff, Nat.reduceAdd, Nat.reduceMul, Nat.reduceLeDiff, reduceIte, reduceCtorEq, Int.reduceBEq, Int.reduceBNe, Int.reduceLT, Int.reduceLE, Int.reduceToNat, Int.reduceEq, Int.reduceNe, Int.reduceNeg, Int.reduceMul, Int.reduceAdd, Int.reduceSub, Nat.reduceLT, hE.P, awrite, wpc_label]
                refine (otop_at hE H6).mono ?_
                rintro v h8 ⟨rfl, rfl⟩
                simp only [push_cast, Nat.reduceEqDiff, Nat.reduceAdd, Nat.reduceMul, Nat.reduceLeDiff, reduceIte, reduceCtorEq, Int.reduceBEq, Int.reduceBNe, Int.reduceLT, Int.reduceLE, Int.reduceToNat, Int.reduceEq, Int.reduceNe, Int.reduceNeg, Int.reduceMul, Int.reduceAdd, Int.reduceSub, Nat.reduceLT, hE.P, awrite, wpc_label, f3, f6, f0, f4, f5]
                exact ⟨xs, O, _, _, by omega, rfl, rfl, S.up hlt2 hsep kk6 (C := []) (by simp) H6 w6⟩
          · rw [if_neg hgd]
            obtain ⟨g, hgg⟩ : ∃ g, g = goodV l[i] := ⟨_, rfl⟩
            rw [← hgg] at hgd ⊢
            simp only [push_cast, Nat.reduceEqDiff, Nat.reduceAdd, Nat.reduceMul, Nat.reduceLeDiff, reduceIte, reduceCtorEq, Int.reduceBEq, Int.reduceBNe, Int.reduceLT, Int.reduceLE, Int.reduceToNat, Int.reduceEq, Int.reduceNe, Int.reduceNeg, Int.reduceMul, Int.reduceAdd, Int.reduceSub, Nat.reduceLT, hE.P, awrite, wpc_label, f3]
            refine (oarena_at hE iso4).mono ?_
            rintro v h5 ⟨rfl, rfl⟩
            simp only [push_cast, Nat.reduceEqDiff, Nat.reduceAdd, Nat.reduceMul, Nat.reduceLeDiff, reduceIte, reduceCtorEq, Int.reduceBEq, Int.reduceBNe, Int.reduceLT, Int.reduceLE, Int.reduceToNat, Int.reduceEq, Int.reduceNe, Int.reduceNeg, Int.reduceMul, Int.reduceAdd, Int.reduceSub, Nat.reduceLT, hE.P, awrite, wpc_label]
            refine (otop_at hE iso4).mono ?_
            rintro v h5 ⟨rfl, rfl⟩
            simp only [push_cast, Nat.reduceEqDiff, Nat.reduceAdd, Nat.reduceMul, Nat.reduceLeDiff, reduceIte, reduceCtorEq, Int.reduceBEq, Int.reduceBNe, Int.reduceLT, Int.reduceLE, Int.reduceToNat, Int.reduceEq, Int.reduceNe, Int.reduceNeg, Int.reduceMul, Int.reduceAdd, Int.reduceSub, Nat.reduceLT, hE.P, awrite, wpc_label, f3]
            refine (otable_at hE iso4).mono ?_
            rintro v h5 ⟨rfl, rfl⟩
            simp only [push_cast, Nat.reduceEqDiff, Nat.reduceAdd, Nat.reduceMul, Nat.reduceLeDiff, reduceIte, reduceCtorEq, Int.reduceBEq, Int.reduceBNe, Int.reduceLT, Int.reduceLE, Int.reduceToNat, Int.reduceEq, Int.reduceNe, Int.reduceNeg, Int.reduceMul, Int.reduceAdd, Int.reduceSub, Nat.reduceLT, hE.P, awrite, wpc_label]
            refine (ocount_at hE iso4).mono ?_
            rintro v h5 ⟨rfl, rfl⟩
            simp only [push_cast, Nat.reduceEqDiff, Nat.reduceAdd, Nat.reduceMul, Nat.reduceLeDiff, reduceIte, reduceCtorEq, Int.reduceBEq, Int.reduceBNe, Int.reduceLT, Int.reduceLE, Int.reduceToNat, Int.reduceEq, Int.reduceNe, Int.reduceNeg, Int.reduceMul, Int.reduceAdd, Int.reduceSub, Nat.reduceLT, hE.P, awrite, wpc_label, f6, f0, f3]
            rw [ia25 hsp (by omega) (by omega), kpure_some]
            have hac5 : acells E h5 ⟨a.block, a.off + i * 5, none⟩ 5 = some [.int .i64 l[i].k, .int .i64 l[i].n, .string l[i].s, .slice a4 l[i].l.length cap4, .slice a5 l[i].f.length cap5] := by
              obtain ⟨a', c', hsl1', hsp', hac'⟩ := hs0.elem (S.frz.keep k4) hli
              injection hsl1' with e1 e2 e3; injection e1 with e1; subst e1
              rw [← hci] at hac'; exact hac'
            simp only [push_cast, Nat.reduceEqDiff, Nat.reduceAdd, Nat.reduceMul, Nat.reduceLeDiff, reduceIte, reduceCtorEq, Int.reduceBEq, Int.reduceBNe, Int.reduceLT, Int.reduceLE, Int.reduceToNat, Int.reduceEq, Int.reduceNe, Int.reduceNeg, Int.reduceMul, Int.reduceAdd, Int.reduceSub, Nat.reduceLT, hE.P, awrite, wpc_label, f6, f0, f3, ↓hac5]
            refine (build_at hE iso4 (V := l[i]) (by omega) w4 (S.frz.keep k4) hsep hrcC).mono ?_
            rintro v h6 ⟨rfl, H6, k6, w6⟩
            have kk6 : KeepB L h3 h6 := (k4.b L).trans k6
            have hbo : buildO 32768 8192 O l[i] = (.tuple #[.int .u64 0, .int .i64 g], O) := by
              unfold buildO
              rw [if_neg (by rw [← hgg]; exact hgd), hgg]
            rw [hbo] at H6 ⊢
            have eg : (g != 0) = true := by simp [hgd]
            simp only [push_cast, Nat.reduceEqDiff, Nat.reduceAdd, Nat.reduceMul, Nat.reduceLeDiff, reduceIte, reduceCtorEq, Int.reduceBEq, Int.reduceBNe, Int.reduceLT, Int.reduceLE, Int.reduceToNat, Int.reduceEq, Int.reduceNe, Int.reduceNeg, Int.reduceMul, Int.reduceAdd, Int.reduceSub, Nat.reduceLT, hE.P, awrite, wpc_label, eg, f3, f6, f0, f4, f5]
            exact ⟨xs, O, _, _, by omega, rfl, rfl, S.up hlt2 hsep kk6 (C := []) (by simp) H6 w6⟩
      · simp only [push_cast, Nat.reduceEqDiff, Nat.reduceAdd, Nat.reduceMul, Nat.reduceLeDiff, reduceIte, reduceCtorEq, Int.reduceBEq, Int.reduceBNe, Int.reduceLT, Int.reduceLE, Int.reduceToNat, Int.reduceEq, Int.reduceNe, Int.reduceNeg, Int.reduceMul, Int.reduceAdd, Int.reduceSub, Nat.reduceLT, hE.P, awrite, wpc_label]
        refine ⟨⟨fun b o hb => S.keep.get _ _ (fun hm => ?_) (kA.get _ _ hb), by have := kA.next; have := S.keep.next; omega⟩, S.wf⟩
        have := hL b hm; have := (hW.live _ _ hb).2; have := k0.next; have := k1.next; omega
end Go.Proofs.YthfopcdammlmfaaDoor
