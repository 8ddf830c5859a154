/- slices.Chunk's iterator: what it yields, round by round. -/
import Derived.Test.YthfopcdammlmfaaGreatDoorT1
import Derived.Test.YthfopcdammlmfaaGreatDoorA9
set_option maxRecDepth 10000
set_option linter.all false
set_option linter.unusedSimpArgs false
set_option linter.unusedVariables false
namespace Go.Tm
theorem chunk_inv {lb : List Value} {h : Heap} {i : Nat} {o : Option Value} (hx : chunkIt lb h i = some o) : ∃ a c sa len cap e e' fx fx', lb = [.pointer (some ⟨a, 0, none⟩), .pointer (some ⟨c, 0, none⟩)] ∧
    h.get a = some (.cells [.slice sa len cap] e fx) ∧ h.get c = some (.cells [.int .i64 2] e' fx') ∧ len % 2 = 0 ∧ len ≤ 1073741824 ∧
    (2 * i < len → ∃ s, sa = some s ∧ s.spot = none ∧ len ≤ cap ∧ o = some (.slice (some ⟨s.block, s.off + 2 * i, some 0⟩) 2 2)) ∧ (¬ 2 * i < len → o = none) := by
  unfold chunkIt at hx
  split at hx
  · rename_i a c
    split at hx
    · rename_i sa len cap e fx e' fx' h1 h2 h3 h4 h5 h6
      obtain ⟨ab, ao, asp⟩ := a
      obtain ⟨cb, co, csp⟩ := c
      simp only at h1 h2 h3 h4 h5 h6
      subst h1 h2 h3 h4
      split at hx
      · split at hx
        · rename_i hl
          injection hx with hx
          exact ⟨ab, cb, none, len, cap, e, e', fx, fx', rfl, h5, h6, by omega, by omega, fun hh => by omega, fun _ => hx.symm⟩
        · cases hx
      · rename_i s
        split at hx
        · rename_i hs
          split at hx
          · rename_i hl
            refine ⟨ab, cb, some s, len, cap, e, e', fx, fx', rfl, h5, h6, hl.1, hl.2.1, fun hlt => ⟨s, rfl, hs, hl.2.2, ?_⟩, fun hlt => ?_⟩
            · rw [if_pos hlt] at hx; injection hx with hx; exact hx.symm
            · rw [if_neg hlt] at hx; injection hx with hx; exact hx.symm
          · cases hx
        · cases hx
    · cases hx
  · cases hx
end Go.Tm
namespace Go.Proofs.YthfopcdammlmfaaGreatDoor
open Go.Tm
open Go.RowKit (Below)
theorem follows_mixed : Tryz.prog.follows .mixedOrders = true := by kernel_rfl
theorem code_ok131 : codeOk 0 31 (Tryz.f131.body.getD .skip) = true := by decide +kernel
variable {E : Env} (hE : EOk E)
include hE
theorem iter_ok (hp : progOk E = true) : IterOk E := by
  intro f lb h0 i0 o0 ho
  have hm : E.P.follows .mixedOrders = true := by rw [hE.P]; exact follows_mixed
  rw [hE.iter] at ho
  simp only [iterT] at ho
  split at ho
  rotate_left
  · cases ho
  rename_i hf
  subst hf
  have key : ∀ h i, E.iter 131 lb h i = chunkIt lb h i := fun h i => by rw [hE.iter]; simp [iterT]
  obtain ⟨a, c, s0, len0, cap0, e0, e0', fx0, fx0', hlb, ga0, gc0, hl0, hl1, ho0, ho1⟩ := chunk_inv ho
  subst hlb
  refine ⟨⟨Tryz.f131, _, by rw [hE.P]; exact Tryz.func131, rfl, by decide +kernel⟩, ?_, ?_⟩
  · rintro v rfl B ρ W H
    have := (H.live a _ ga0).2.2.2.1 _ (List.mem_singleton.2 rfl)
    by_cases hh : 2 * i0 < len0
    · obtain ⟨s, rfl, _, _, hv⟩ := ho0 hh
      injection hv with hv
      subst hv
      simpa [sc] using this
    · cases ho1 hh
  intro B l N lbc I R hI ρ h W h0
  obtain ⟨hst0, hiN, H0, hlbc, hsl, hjunk⟩ := hI 0 ρ h W h0
  clear hjunk
  have hP : (bare E).P = Tryz.prog := hE.P
  have hco : codeOk E.base 31 (Tryz.f131.body.getD .skip) = true := codeOk_mono (Nat.zero_le _) _ code_ok131
  simp only [Tryz.f131, Option.getD_some, codeOk, Bool.and_eq_true] at hco
  obtain ⟨o1, ⟨o2, oc1, _, _⟩, ⟨o3, o4, oc2, _, _⟩, o5⟩ := hco
  refine callsIn_of_wp (by rw [hE.P]; exact Tryz.func131) rfl trivial ?_
  have S0 : Sc ⟨afrom 0 [.func (.yield l) #[] #[], .pointer (some ⟨a, 0, none⟩), .pointer (some ⟨c, 0, none⟩)] .leaf, h⟩ := by
    intro t
    simp only [fget_from, Nat.zero_le, if_true, Nat.sub_zero, fget_leaf]
    match t with
    | 0 => rfl
    | 1 => exact hsl _ (by simp)
    | 2 => exact hsl _ (by simp)
    | t + 3 => rfl
  have F0 : FR ρ 31 [] (afrom 0 [.func (.yield l) #[] #[], .pointer (some ⟨a, 0, none⟩), .pointer (some ⟨c, 0, none⟩)] .leaf) { tmps := (.func (.yield l) #[] #[] :: lbc).toArray ++ Array.replicate (Tryz.f131.ntmps - (.func (.yield l) #[] #[] :: lbc).toArray.size) undef, defers := [] } := by
    have e3 : Tryz.f131.ntmps = 31 := rfl
    refine ⟨rfl, by simp [← hlbc, e3], ?_⟩
    intro t ht
    rw [← hlbc]
    simp only [fget_from, Nat.zero_le, if_true, Nat.sub_zero, fget_leaf, Array.getD_eq_getD_getElem?, Array.getElem?_append]
    match t with
    | 0 => simp [ren, renA_eq]
    | 1 => simp
    | 2 => simp
    | t + 3 => simp [Array.getElem?_replicate, undef, ren, renA_eq, e3]; rw [if_neg (by omega), if_pos (by omega)]; rfl
  have t0 : fget (afrom 0 [.func (.yield l) #[] #[], .pointer (some ⟨a, 0, none⟩), .pointer (some ⟨c, 0, none⟩)] .leaf) 0 = .func (.yield l) #[] #[] ∧ fget (afrom 0 [.func (.yield l) #[] #[], .pointer (some ⟨a, 0, none⟩), .pointer (some ⟨c, 0, none⟩)] .leaf) 1 = .pointer (some ⟨a, 0, none⟩) ∧ fget (afrom 0 [.func (.yield l) #[] #[], .pointer (some ⟨a, 0, none⟩), .pointer (some ⟨c, 0, none⟩)] .leaf) 2 = .pointer (some ⟨c, 0, none⟩) := by
    simp [fget_from]
  generalize afrom 0 [.func (.yield l) #[] #[], .pointer (some ⟨a, 0, none⟩), .pointer (some ⟨c, 0, none⟩)] .leaf = tm0 at *
  generalize ha0 : ({ tmps := (.func (.yield l) #[] #[] :: lbc).toArray ++ Array.replicate (Tryz.f131.ntmps - (.func (.yield l) #[] #[] :: lbc).toArray.size) undef, defers := [] } : Act) = a0 at *
  refine wpIn_seq (bare_region hp hm o1 (Q0 := fun tm' h' => h' = h ∧ fget tm' 0 = .func (.yield l) #[] #[] ∧ fget tm' 1 = .pointer (some ⟨a, 0, none⟩) ∧ fget tm' 2 = .pointer (some ⟨c, 0, none⟩) ∧ fget tm' 4 = .int .i64 0) ?_ H0 F0 S0 ?_)
  · simp only [push_cast, seval, hP, t0.1, t0.2.1, t0.2.2, and_self]
  rintro tm1 h1 ρ1 a1 w1 ⟨hh1, q0, q1, q2, q4⟩ st1 F1 S1
  subst hh1
  have hi1 := hst0 ρ1 w1 st1
  refine wpIn_block (wpIn_loop_rounds (N + 1) ?_)
  clear hst0 hlbc H0 F0 S0 st1 t0 ha0 hsl hiN h0 ga0 gc0
  generalize hmN : N + 1 = m
  obtain ⟨i, hi⟩ : ∃ i : Nat, i = 0 := ⟨0, rfl⟩
  have hlt : N < i + m := by omega
  have q4' : fget tm1 4 = .int .i64 ((2 * i : Nat) : Int) := by rw [q4, hi]; rfl
  rw [← hi] at hi1
  clear q4 hi hmN
  induction m generalizing i h1 ρ1 a1 w1 tm1 with
  | zero => exact absurd (hI i ρ1 h1 w1 hi1).2.1 (by omega)
  | succ m ih =>
  obtain ⟨hst, hiN, H, hlbc, hsl, o, ho, hend, hyld⟩ := hI i ρ1 h1 w1 hi1
  rw [key] at ho
  obtain ⟨a', c', sa, len, cap, e, e', fx, fx', hlb, ga, gc, hl0, hl1, hov, hov'⟩ := chunk_inv ho
  simp only [List.cons.injEq, Value.pointer.injEq, Option.some.injEq, Addr.mk.injEq, and_true] at hlb
  obtain ⟨rfl, rfl⟩ := hlb
  have nba : (a < (bare E).base) = False := by have := (H.live _ _ ga).1; simp only [eq_iff_iff, iff_false]; exact Nat.not_lt.2 this
  have nbc : (c < (bare E).base) = False := by have := (H.live _ _ gc).1; simp only [eq_iff_iff, iff_false]; exact Nat.not_lt.2 this
  rw [roundsIn_succ]
  refine wpIn_seq (wpIn_seq (bare_region hp hm o2 (Q0 := fun tm' h' => h' = h1 ∧ fget tm' 0 = .func (.yield l) #[] #[] ∧ fget tm' 1 = .pointer (some ⟨a, 0, none⟩) ∧ fget tm' 2 = .pointer (some ⟨c, 0, none⟩) ∧ fget tm' 4 = .int .i64 ((2 * i : Nat) : Int) ∧ fget tm' 9 = .bool (decide (2 * i < len))) ?_ H F1 S1 ?_))
  · simp only [push_cast, seval, hP, ld50 hP, wlen50 hP, le50, q0, q1, q2, q4', ga, nba, and_self, true_and]
    congr 1
    rw [decide_eq_decide]; omega
  rintro tm2 h2 ρ2 a2 w2 ⟨hh2, q0, q1, q2, q4, q9⟩ st2 F2 S2
  subst hh2
  have hi2 := hst ρ2 w2 st2
  have e9 : a2.eval (.tmp 9) = .bool (decide (2 * i < len)) := (F2.val 9 (by omega)).trans (by rw [q9]; simp [ren])
  simp only [Exit.then]
  refine wpIn_cond_split e9 (fun ht => ?_) (fun ht => ?_)
  rotate_left
  · -- the end
    simp only [decide_eq_false_iff_not] at ht
    have hov := hov' ht
    subst hov
    obtain ⟨_, _, _, _, _, o2, ho2, hend2, _⟩ := hI i ρ2 h2 w2 hi2
    rw [key, ho] at ho2
    injection ho2 with ho2
    refine wpIn_exit ?_
    simp only [Exit.then, Exit.inBlock, if_true]
    exact ⟨F2.defers, .tuple #[], by simp [results, Tryz.f131], _, rfl, hend2 ho2.symm⟩
  simp only [decide_eq_true_eq] at ht
  obtain ⟨s, rfl, hs, hl2, hov⟩ := hov ht
  clear hend hyld H hst
  obtain ⟨hst, hiN, H, hlbc, hsl, o2, ho2, hend, hyld⟩ := hI i ρ2 h2 w2 hi2
  refine wpIn_skip ?_
  simp only [Exit.then]
  refine wpIn_seq (wpIn_block (wpIn_seq (bare_draw hp hm o3 (Q0 := fun tm' h' => h' = h2 ∧ fget tm' 0 = .func (.yield l) #[] #[] ∧ fget tm' 1 = .pointer (some ⟨a, 0, none⟩) ∧ fget tm' 2 = .pointer (some ⟨c, 0, none⟩) ∧ fget tm' 4 = .int .i64 ((2 * i : Nat) : Int) ∧ fget tm' 5 = .int .i64 2) ?_ H F2 S2 ?_)))
  · refine wdraw_calm (by rw [hP]; decide +kernel) ?_
    have easl : asl Tryz.prog 50 (.slice (some s) len cap) (some (.int .i64 ((2 * i : Nat) : Int))) none = some (.slice (some (addo s (2 * i * 1))) (len - 2 * i) (cap - 2 * i)) := by
      simp only [asl, Tryz.underlying50, abnd, sz33, hs]
      rw [if_pos (by omega)]
      simp only [Int.toNat_natCast]
      rw [if_pos (by omega)]
    push_cast at easl
    simp only [push_cast, seval, hP, ld50 hP, ld3 hP, wlen50 hP, le50, q0, q1, q2, q4, ga, gc, nba, nbc, and_self, true_and, easl]
    rw [show min (2 : Int) ((len - 2 * i : Nat) : Int) = 2 by omega]
  rintro tm3 h3 ρ3 a3 w3 ⟨hh3, q0, q1, q2, q4, q5⟩ st3 F3 S3
  subst hh3
  have hi3 := hst ρ3 w3 st3
  clear hend hyld H hst
  obtain ⟨hst, hiN, H, hlbc, hsl, o3, ho3, hend, hyld⟩ := hI i ρ3 h3 w3 hi3
  simp only [Exit.then]
  refine wpIn_seq (wpIn_region ?_)
  change wpOpsIn _ _ _ _ _ (List.range' 0 9 ++ [9, 10, 11]) _ _
  refine bare_take hp hm o4 (Q0 := fun tm' h' => h' = h3 ∧ fget tm' 0 = .func (.yield l) #[] #[] ∧ fget tm' 1 = .pointer (some ⟨a, 0, none⟩) ∧ fget tm' 2 = .pointer (some ⟨c, 0, none⟩) ∧ fget tm' 4 = .int .i64 ((2 * i : Nat) : Int) ∧ fget tm' 19 = .func (.yield l) #[] #[] ∧
    fget tm' 20 = .slice (some s) len cap ∧ fget tm' 21 = .int .i64 ((2 * i : Nat) : Int) ∧ fget tm' 24 = .int .i64 ((2 * i + 2 : Nat) : Int) ∧ fget tm' 27 = .int .i64 ((2 * i + 2 : Nat) : Int)) 9 (by decide) ?_ H F3 S3 ?_
  · have ew : IntKind.i64.wrap (2 * (i : Int) + 2) = 2 * (i : Int) + 2 := wr64 (by omega) (by omega)
    simp only [List.take_succ_cons, List.take_zero, push_cast, seval, hP, ld50 hP, ld3 hP, wlen50 hP, le50, q0, q1, q2, q4, q5, ga, gc, nba, nbc, and_self, true_and, ew]
    simp only [show (2 : Int) * (i : Int) + 1 + 1 = 2 * i + 2 by omega]
  rintro tm4 h4 ρ4 a4 w4 ⟨hh4, q0, q1, q2, q4, q19, q20, q21, q24, q27⟩ st4 F4 S4
  subst hh4
  have hi4 := hst ρ4 w4 st4
  clear hend hyld H hst
  obtain ⟨hst, hiN, H, hlbc, hsl, o4', ho4, hend, hyld⟩ := hI i ρ4 h4 w4 hi4
  rw [key, ho] at ho4
  injection ho4 with ho4
  subst ho4
  rw [hov] at hyld
  obtain ⟨fn, tmps, assign, body, hy1, hy2⟩ := hyld _ rfl
  have ev : ∀ t : Nat, t < 31 → a4.eval (.tmp t) = ren ρ4 (fget tm4 t) := fun t ht => F4.val t ht
  have e28 : ren ρ4 (.slice (some ⟨s.block, s.off + 2 * i, some 0⟩) 2 2) = .slice (some ((rens ρ4 s).add (2 * i * 1))) (2 * i + 2 - 2 * i) (2 * i + 2 - 2 * i) := by
    have : (rens ρ4 s).spot = none := by simp [rens, hs]
    simp [ren, rens, capx, hs, add_of_none, addo]
    omega
  refine wpOpsIn_one rfl rfl (op_run (x := .value (ren ρ4 (.slice (some ⟨s.block, s.off + 2 * i, some 0⟩) 2 2))) (w' := w4) ?_ ?_)
  · simp only [List.getElem_toArray, List.getElem_cons_succ, List.getElem_cons_zero, execOp, Option.map_some, ev 20 (by omega), ev 21 (by omega), ev 24 (by omega), ev 27 (by omega), q20, q21, q24, q27, ren, Sem.run_bind]
    rw [run_slice3 (by rw [hE.P]; exact Tryz.underlying50) (by rw [hE.P]; exact sz33) (by omega) (Nat.le_trans (by omega : 2 * i + 2 ≤ cap) (le_capx _ _ _ _))]
    simp only [Result.andThen_ok, Sem.run_pure]
    rw [← e28]; simp only [ren]
  simp only [Oper.uponIn_value, List.getElem_toArray, List.getElem_cons_succ, List.getElem_cons_zero]
  have hscv : sc h4.next (.slice (some ⟨s.block, s.off + 2 * i, some 0⟩) 2 2) = true := by
    have := (H.live a _ ga).2.2.2.1 _ (List.mem_singleton.2 rfl)
    simpa [sc] using this
  have F5 := F4.put (ρ' := ρ4) (m := h4.next) (fun _ _ => rfl) S4 (d := some 28) (by decide) (.slice (some ⟨s.block, s.off + 2 * i, some 0⟩) 2 2)
  have S5 := sc_aput S4 (Nat.le_refl _) (d := some 28) hscv
  have r28 : fget (aput tm4 (some 28) (.slice (some ⟨s.block, s.off + 2 * i, some 0⟩) 2 2)) 28 = .slice (some ⟨s.block, s.off + 2 * i, some 0⟩) 2 2 := by simp [aput, fget_set]
  have r19 : fget (aput tm4 (some 28) (.slice (some ⟨s.block, s.off + 2 * i, some 0⟩) 2 2)) 19 = .func (.yield l) #[] #[] := by simp [aput, fget_set, q19]
  have r0 : fget (aput tm4 (some 28) (.slice (some ⟨s.block, s.off + 2 * i, some 0⟩) 2 2)) 0 = .func (.yield l) #[] #[] := by simp [aput, fget_set, q0]
  have r1 : fget (aput tm4 (some 28) (.slice (some ⟨s.block, s.off + 2 * i, some 0⟩) 2 2)) 1 = .pointer (some ⟨a, 0, none⟩) := by simp [aput, fget_set, q1]
  have r2 : fget (aput tm4 (some 28) (.slice (some ⟨s.block, s.off + 2 * i, some 0⟩) 2 2)) 2 = .pointer (some ⟨c, 0, none⟩) := by simp [aput, fget_set, q2]
  have r4 : fget (aput tm4 (some 28) (.slice (some ⟨s.block, s.off + 2 * i, some 0⟩) 2 2)) 4 = .int .i64 ((2 * i : Nat) : Int) := by simp [aput, fget_set, q4]
  generalize aput tm4 (some 28) (.slice (some ⟨s.block, s.off + 2 * i, some 0⟩) 2 2) = tm5 at *
  generalize a4.put (some 28) (ren ρ4 (.slice (some ⟨s.block, s.off + 2 * i, some 0⟩) 2 2)) = a5 at *
  have ev5 : ∀ t : Nat, t < 31 → a5.eval (.tmp t) = ren ρ4 (fget tm5 t) := fun t ht => F5.val t ht
  refine wpOpsIn_one rfl rfl (op_run (x := .round l fn tmps assign body) (w' := w4) ?_ ?_)
  · simp only [List.getElem_toArray, List.getElem_cons_succ, List.getElem_cons_zero, execOp, resolve, ev5 19 (by omega), r19, ren, renA_eq, Deferred.ofValue, Sem.run_bind, Sem.run_pure, Result.andThen_ok, invoke]
    have : (#[] : Array Value).map (ren ρ4) ++ #[Operand.tmp 28].map a5.eval = #[ren ρ4 (.slice (some ⟨s.block, s.off + 2 * i, some 0⟩) 2 2)] := by
      simp [ev5 28 (by omega), r28]
    rw [this]; exact hy1
  simp only [Oper.uponIn_round, List.getElem_toArray, List.getElem_cons_succ, List.getElem_cons_zero]
  refine ⟨fun h => Bool.noConfusion h, hy2.mono ?_⟩
  rintro e9 W2 (⟨rfl, ρ', h', hext, hle, hi'⟩ | ⟨rfl, hR⟩)
  · simp only
    have F6 := F5.put hext S5 (d := some 29) (by decide) (.bool true)
    have S6 := sc_aput S5 hle (d := some 29) (v := .bool true) rfl
    have F7 := F6.put (ρ' := ρ') (m := h'.next) (fun _ _ => rfl) S6 (d := some 30) (by decide) (.bool false)
    have S7 := sc_aput S6 (Nat.le_refl _) (d := some 30) (v := .bool false) rfl
    refine wpOpsIn_one rfl rfl (op_run (x := .value (.bool false)) (w' := W2) ?_ ?_)
    · have : (a5.put (some 29) (.bool true)).eval (.tmp 29) = .bool true := (F6.val 29 (by decide)).trans (by simp [aput, fget_set, ren])
      simp [execOp, this, Op.unary]
    simp only [Oper.uponIn_value, List.getElem_toArray, List.getElem_cons_succ, List.getElem_cons_zero, wpOpsIn, Exit.then]
    have r0' : fget (aput (aput tm5 (some 29) (.bool true)) (some 30) (.bool false)) 0 = .func (.yield l) #[] #[] := by simp [aput, fget_set, r0]
    have r1' : fget (aput (aput tm5 (some 29) (.bool true)) (some 30) (.bool false)) 1 = .pointer (some ⟨a, 0, none⟩) := by simp [aput, fget_set, r1]
    have r2' : fget (aput (aput tm5 (some 29) (.bool true)) (some 30) (.bool false)) 2 = .pointer (some ⟨c, 0, none⟩) := by simp [aput, fget_set, r2]
    have r4' : fget (aput (aput tm5 (some 29) (.bool true)) (some 30) (.bool false)) 4 = .int .i64 ((2 * i : Nat) : Int) := by simp [aput, fget_set, r4]
    have r30 : fget (aput (aput tm5 (some 29) (.bool true)) (some 30) (.bool false)) 30 = .bool false := by simp [aput, fget_set]
    simp only [ren] at F7
    generalize aput (aput tm5 (some 29) (.bool true)) (some 30) (.bool false) = tm7 at *
    generalize (a5.put (some 29) (.bool true)).put (some 30) (.bool false) = a7 at *
    refine wpIn_cond_false ((F7.val 30 (by decide)).trans (by rw [r30]; rfl)) (wpIn_skip ?_)
    simp only [Exit.inBlock, Exit.then]
    obtain ⟨hst', _, H', hlbc', hsl', o7, ho7, _, _⟩ := hI (i + 1) ρ' h' W2 hi'
    rw [key] at ho7
    obtain ⟨a', c', s', len', cap', e', e'', fx', fx'', hlb', ga', gc', _, _, _, _⟩ := chunk_inv ho7
    simp only [List.cons.injEq, Value.pointer.injEq, Option.some.injEq, Addr.mk.injEq, and_true] at hlb'
    obtain ⟨rfl, rfl⟩ := hlb'
    refine bare_region hp hm o5 (Q0 := fun tm' h'' => h'' = h' ∧ fget tm' 0 = .func (.yield l) #[] #[] ∧ fget tm' 1 = .pointer (some ⟨a, 0, none⟩) ∧ fget tm' 2 = .pointer (some ⟨c, 0, none⟩) ∧ fget tm' 4 = .int .i64 ((2 * (i + 1) : Nat) : Int)) ?_ H' F7 S7 ?_
    · have ew : IntKind.i64.wrap (2 * (i : Int) + 2) = 2 * (i : Int) + 2 := wr64 (by omega) (by omega)
      simp only [push_cast, seval, hP, ld50 hP, ld3 hP, wlen50 hP, le50, r0', r1', r2', r4', ga', gc', nba, nbc, and_self, true_and, ew]
      rw [show (2 : Int) * ((i : Int) + 1) = 2 * i + 2 by omega]
    rintro tm8 h8 ρ8 a8 w8 ⟨hh8, q0, q1, q2, q4⟩ st8 F8 S8
    subst hh8
    simp only [Exit.then]
    exact ih tm8 h8 ρ8 a8 w8 q0 q1 q2 F8 S8 (i + 1) (hst' ρ8 w8 st8) (by omega) q4
  · simp only
    have F6 := F5.put (ρ' := ρ4) (m := h4.next) (fun _ _ => rfl) S5 (d := some 29) (by decide) (.bool false)
    have S6 := sc_aput S5 (Nat.le_refl _) (d := some 29) (v := .bool false) rfl
    have F7 := F6.put (ρ' := ρ4) (m := h4.next) (fun _ _ => rfl) S6 (d := some 30) (by decide) (.bool true)
    refine wpOpsIn_one rfl rfl (op_run (x := .value (.bool true)) (w' := W2) ?_ ?_)
    · have : (a5.put (some 29) (.bool false)).eval (.tmp 29) = .bool false := (F6.val 29 (by decide)).trans (by simp [aput, fget_set, ren])
      simp [execOp, this, Op.unary]
    simp only [Oper.uponIn_value, List.getElem_toArray, List.getElem_cons_succ, List.getElem_cons_zero, wpOpsIn, Exit.then]
    refine wpIn_cond_true ((F7.val 30 (by decide)).trans (by simp [aput, fget_set, ren])) (wpIn_ret ?_)
    simp only [Exit.inBlock, Exit.then]
    exact ⟨F7.defers, .tuple #[], by simp [results, Tryz.f131], _, rfl, hR⟩
end Go.Proofs.YthfopcdammlmfaaGreatDoor
