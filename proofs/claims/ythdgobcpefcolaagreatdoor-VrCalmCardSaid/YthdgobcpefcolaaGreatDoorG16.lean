/- Chapter 25, plain: laws of executing. -/
/- Merged by a program of ours: U3 VP0 UP. -/
import Derived.Test.YthdgobcpefcolaaGreatDoorG15
import Derived.Test.YthdgobcpefcolaaGreatDoorG14
set_option maxRecDepth 10000
set_option linter.all false
set_option linter.unusedSimpArgs false
set_option linter.unusedVariables false
/- Chapter 25: the model's service: Last, Apply. -/
namespace Go.Proofs.YthdgobcpefcolaaGreatDoor
open Go.Tm Vr
/-- A reply's cells. -/
def RpR (E : Env) (G : Mem) (x : Rpl) (cs : List Value) : Prop := ∃ a c, cs = [iv x.e, iv x.n, .slice a 0 c] ∧ Fz E G 5 0 [] (.slice a 0 c)
theorem lastOf_drop : ∀ {l : List La} {c i : Nat} {x : La}, lastOf l c = lastOf (l.drop i) c → l[i]? = some x → x.c ≠ c → lastOf l c = lastOf (l.drop (i + 1)) c := by
  intro l c i x h hx hc
  have hi : i < l.length := by
    rw [List.getElem?_eq_some_iff] at hx
    exact hx.1
  have hx' : l[i] = x := by
    rw [List.getElem?_eq_some_iff] at hx
    exact hx.2
  rw [h, List.drop_eq_getElem_cons hi, lastOf, hx', if_neg hc]
theorem placeOf_drop {c : Nat} {l : List La} {i a : Nat} (hi : i < l.length) : placeOf c (l.drop i) i a = placeOf c (l.drop (i + 1)) (i + 1) (if l[i].c < c then i + 1 else a) := by
  rw [List.drop_eq_getElem_cons hi, placeOf]
theorem placeOf_le {c : Nat} : ∀ {l : List La} {i a : Nat}, a ≤ i → placeOf c l i a ≤ i + l.length
  | [], i, a, h => by simpa [placeOf] using h
  | x :: l, i, a, h => by
    rw [placeOf]
    have := placeOf_le (c := c) (l := l) (i := i + 1) (a := if x.c < c then i + 1 else a) (by split <;> omega)
    simp only [List.length_cons]; omega
variable {E : Env} (hE : EOk E)
include hE
section
variable {G : Mem} {h : Heap} (hW : WF E h) (hG : Frz E G h) {S : Sv} {cs : List Value} (hS : SvR E G S cs)
include hW hG hS
theorem lastR_at (c : Nat) (hl : S.tab.length ≤ 1099511627776) : CallsTo E 75 [.agg cs.toArray, iv c] h fun v h' => KW E h h' ∧ ∃ r, LaR E G ((lastOf S.tab c).getD ⟨0, 0, ⟨0, 0⟩⟩) r ∧ v = .tuple #[.agg r.toArray, .bool (lastOf S.tab c).isSome] := by
  obtain ⟨a1, c1, a2, c2, ct, rfl, h1, h2, h3⟩ := hS.e
  refine calls_of_runs (fn := Tryz.f75) (by rw [hE.P]; exact Tryz.func75) rfl (by rw [hE.known]; rfl) (by rw [Tryz.ntmps75]; exact Nat.le_of_ble_eq_true rfl) (by decide +kernel) (rs := [.cell 4 121, .tmp 5]) rfl (wpc_runs _ _ _ _ ?_)
  simp only [push_cast, seval, hE.P, awrite, wpc_label, wpc_block, hW.b0, hW.b1, hW.b2, hW.b3, hW.b4, hW.b5]
  refine wpc_loop (fun k tm h2 => ∃ i, k = S.tab.length - i ∧ i ≤ S.tab.length ∧ fget tm 1 = iv c ∧ fget tm 2 = .pointer (some ⟨h.next, 0, none⟩) ∧ fget tm 4 = .pointer (some ⟨h.next + 1, 0, none⟩) ∧ fget tm 6 = iv i ∧ fget tm 5 = .bool false ∧
    h2 = ((h.push (.cells [.bool false, .slice a1 S.l.length c1, .slice none 0 0, .slice a2 S.tab.length c2] 42 true)).push (.cells [.int .i64 0, .int .i64 0, .int .i64 0, .int .i64 0, .slice none 0 0] 121 true)) ∧ lastOf S.tab c = lastOf (S.tab.drop i) c) S.tab.length ?_ ?_
  · simp only [push_cast, seval, hE.P, awrite, wpc_label, wpc_block]
    exact ⟨0, by omega, by omega, rfl, by simp⟩
  · rintro k tm h2 ⟨i, rfl, hi, f1, f2, f4, f6, f5, rfl, hq⟩
    simp only [push_cast, seval, hE.P, awrite, wpc_label, wpc_block, f1, f2, f4, f6, f5, hW.b0, hW.b1, hW.b2, hW.b3, hW.b4, hW.b5]
    refine kif_split (fun hb => ?_) (fun hb => ?_)
    · have hlt : i < S.tab.length := by simpa using hb
      have kw : KW E h ((h.push (.cells [.bool false, .slice a1 S.l.length c1, .slice none 0 0, .slice a2 S.tab.length c2] 42 true)).push (.cells [.int .i64 0, .int .i64 0, .int .i64 0, .int .i64 0, .slice none 0 0] 121 true)) := (KW.refl hW).push.push
      obtain ⟨b, d, e1, hsp, hac⟩ := h2.1.elem (hG.keep kw.k) hlt
      injection e1 with e1 e2 e3
      subst e1; subst e3
      have hr := h3.at i _ (List.getElem?_eq_getElem hlt)
      obtain ⟨sd, hrc, hsd⟩ := hr
      obtain ⟨a3, c3, rfl, _, _⟩ := hsd.slice
      rw [hrc] at hac
      have hac0 := acells_part hac 0 1 (by omega)
      simp only [Nat.add_zero, List.drop_zero, List.take_succ_cons, List.take_zero] at hac0
      simp only [push_cast, seval, hE.P, awrite, wpc_label, wpc_block, f1, f2, f4, f6, f5, hW.b0, hW.b1, hW.b2, hW.b3, hW.b4, hW.b5]
      rw [ia40 hsp (by omega) (by omega), kpure_some]
      simp only [push_cast, seval, hE.P, awrite, wpc_label, wpc_block, f1, f2, f4, f6, f5, hW.b0, hW.b1, hW.b2, hW.b3, hW.b4, hW.b5, ↓hac0, Int.toNat_natCast]
      refine kif_split (fun hb => ?_) (fun hb => ?_)
      · have he : (S.tab[i]).c = c := by have he : ((S.tab[i]).c : Int) = c := by simpa using hb
                                         omega
        simp only [push_cast, seval, hE.P, awrite, wpc_label, wpc_block, f1, f2, f4, f6, f5, hW.b0, hW.b1, hW.b2, hW.b3, hW.b4, hW.b5]
        rw [ia40 hsp (by omega) (by omega), kpure_some]
        simp only [push_cast, seval, hE.P, awrite, wpc_label, wpc_block, f1, f2, f4, f6, f5, hW.b0, hW.b1, hW.b2, hW.b3, hW.b4, hW.b5, ↓hac, Int.toNat_natCast]
        have hv : lastOf S.tab c = some S.tab[i] := by rw [hq, List.drop_eq_getElem_cons hlt, lastOf, if_pos he]
        rw [hv]
        exact ⟨(by repeat (first | assumption | exact KW.refl hW | apply KW.push | refine KW.put ?_ (by first | omega | (simp <;> omega)) (by first | omega | (simp <;> omega)) hW)), _, ⟨_, rfl, hsd⟩, rfl⟩
      · have he : (S.tab[i]).c ≠ c := fun he => by rw [he] at hb; simp at hb
        simp only [push_cast, seval, hE.P, awrite, wpc_label, wpc_block, f1, f2, f4, f6, f5, hW.b0, hW.b1, hW.b2, hW.b3, hW.b4, hW.b5]
        exact ⟨S.tab.length - (i + 1), by omega, i + 1, rfl, by omega, iv_succ (by omega), lastOf_drop hq (List.getElem?_eq_getElem hlt) he⟩
    · have he : i = S.tab.length := by have : ¬ i < S.tab.length := by simpa using hb
                                       omega
      subst he
      rw [List.drop_length] at hq
      have hq : lastOf S.tab c = none := hq
      rw [hq]
      simp only [push_cast, seval, hE.P, awrite, wpc_label, wpc_block, f1, f2, f4, f6, f5, hW.b0, hW.b1, hW.b2, hW.b3, hW.b4, hW.b5]
      exact ⟨(by repeat (first | assumption | exact KW.refl hW | apply KW.push | refine KW.put ?_ (by first | omega | (simp <;> omega)) (by first | omega | (simp <;> omega)) hW)), _, ⟨_, rfl, Fz.nil⟩, rfl⟩
set_option maxHeartbeats 2000000 in
theorem applyR_at {e : Ent} (hb : e.c ≤ 1099511627776 ∧ e.n ≤ 1099511627776) (hl : S.tab.length ≤ 1000000) (hl2 : S.l.length ≤ 1000000) (hs : ∀ x, lastOf S.tab e.c = some x → placeOf e.c S.tab 0 0 < S.tab.length) : CallsTo E 101 [.agg cs.toArray, .agg (entC e).toArray] h fun v h' =>
    ∃ G' sc rc, Ext E G h G' h' ∧ SvR E G' (applyS S e).1 sc ∧ RpR E G' (applyS S e).2 rc ∧ v = .tuple #[.agg sc.toArray, .agg rc.toArray] := by
  have hS0 := hS
  obtain ⟨a1, c1, aT, c2, ct, rfl, h1, h2, h3⟩ := hS.e
  unfold entC
  refine calls_of_runs (fn := Tryz.f101) (by rw [hE.P]; exact Tryz.func101) rfl (by rw [hE.known]; rfl) (by rw [Tryz.ntmps101]; exact Nat.le_of_ble_eq_true rfl) (by decide +kernel) (rs := [.cell 4 42, .cell 5 60]) rfl (wpc_runs _ _ _ _ ?_)
  simp only [push_cast, seval, hE.P, awrite, wpc_label, wpc_block, hW.b0, hW.b1, hW.b2, hW.b3, hW.b4, hW.b5]
  refine push4 (motive := fun H => CallsTo E _ _ H _) hW fun H g0 g1 g2 g3 kw0 nx0 => ?_
  refine (lastR_at hE kw0.w (hG.keep kw0.k) hS0 e.c (by omega)).mono ?_
  rintro v h1' ⟨kw1, rc, hrc, rfl⟩
  have g0 := kw1.k.get _ _ g0
  have g1 := kw1.k.get _ _ g1
  have g2 := kw1.k.get _ _ g2
  have g3 := kw1.k.get _ _ g3
  have nx1 := kw1.k.next
  have kw1 := kw0.trans kw1
  have n0 := kw1.w.nlt g0
  have n1 := kw1.w.nlt g1
  have n2 := kw1.w.nlt g2
  have n3 := kw1.w.nlt g3
  obtain ⟨sd, rfl, hsd⟩ := hrc
  obtain ⟨a3, c3, rfl, _, _⟩ := hsd.slice
  have e0 := kw1.w.ne g0
  have e1 := kw1.w.ne g1
  have e2 := kw1.w.ne g2
  have e3 := kw1.w.ne g3
  have w0 := kw1.w.b0
  have d0 := kw1.w.ne' g0
  have d1 := kw1.w.ne' g1
  have d2 := kw1.w.ne' g2
  have d3 := kw1.w.ne' g3
  generalize hgo : applyS S e = R at *
  unfold applyS at hgo
  rcases hv : lastOf S.tab e.c with _ | x
  case' some =>
    simp only [hv, Option.getD_some, Option.isSome_some] at hgo ⊢
    simp only [push_cast, seval, hE.P, awrite, wpc_label, wpc_block, g0, g1, g2, g3, n0, n1, n2, n3, w0, e0, e1, e2, e3, d0, d1, d2, d3]
    refine kif_split (fun hb => ?_) (fun hb => ?_)
    · have hlt : e.n < x.n := by have : (e.n : Int) < x.n := by simpa using hb
                                 omega
      rw [if_pos hlt] at hgo
      subst hgo
      simp only [push_cast, seval, hE.P, awrite, wpc_label, wpc_block, g0, g1, g2, g3, n0, n1, n2, n3, w0, e0, e1, e2, e3, d0, d1, d2, d3]
      exact ⟨G, _, _, KW.ext (by repeat (first | assumption | exact KW.refl hW | apply KW.push | refine KW.put ?_ (by first | omega | (simp <;> omega)) (by first | omega | (simp <;> omega)) hW)) hG, hS0, ⟨none, 0, rfl, Fz.nil⟩, rfl⟩
    have hge : ¬ e.n < x.n := by have : ¬ (e.n : Int) < x.n := by simpa using hb
                                 omega
    rw [if_neg hge] at hgo
    simp only [push_cast, seval, hE.P, awrite, wpc_label, wpc_block, g0, g1, g2, g3, n0, n1, n2, n3, w0, e0, e1, e2, e3, d0, d1, d2, d3]
    refine kif_split (fun hb => ?_) (fun hb => ?_)
    · have heq : e.n = x.n := by have : (e.n : Int) = x.n := by simpa using hb
                                 omega
      rw [if_pos heq] at hgo
      subst hgo
      simp only [push_cast, seval, hE.P, awrite, wpc_label, wpc_block, g0, g1, g2, g3, n0, n1, n2, n3, w0, e0, e1, e2, e3, d0, d1, d2, d3]
      refine wdraw_pairs [(2, 3)] (by rw [hE.P]; decide +kernel) (by rw [hE.P]; decide +kernel) (by rw [hE.P]; decide +kernel) ?_
      simp only [push_cast, seval, hE.P, awrite, wpc_label, wpc_block, g0, g1, g2, g3, n0, n1, n2, n3, w0, e0, e1, e2, e3, d0, d1, d2, d3]
      exact ⟨G, _, _, KW.ext (by repeat (first | assumption | exact KW.refl hW | apply KW.push | refine KW.put ?_ (by first | omega | (simp <;> omega)) (by first | omega | (simp <;> omega)) hW)) hG, hS0, ⟨_, _, rfl, hsd⟩, rfl⟩
    have hne : ¬ e.n = x.n := fun he => by rw [he] at hb; simp at hb
    rw [if_neg hne] at hgo
    simp only [push_cast, seval, hE.P, awrite, wpc_label, wpc_block, g0, g1, g2, g3, n0, n1, n2, n3, w0, e0, e1, e2, e3, d0, d1, d2, d3]
  case' none =>
    simp only [hv, Option.getD_none, Option.isSome_none] at hgo ⊢
    simp only [push_cast, seval, hE.P, awrite, wpc_label, wpc_block, g0, g1, g2, g3, n0, n1, n2, n3, w0, e0, e1, e2, e3, d0, d1, d2, d3]
  all_goals
    refine push1 (motive := fun H => wdraw E _ _ _ H) kw1.w fun H1 g4 kwA nxA => ?_
    have g0 := kwA.k.get _ _ g0
    have g1 := kwA.k.get _ _ g1
    have g2 := kwA.k.get _ _ g2
    have g3 := kwA.k.get _ _ g3
    have kw2 := kw1.trans kwA
    refine gtm (motive := wdraw E _ _) [2, 3, 4, 5, 7, 8] fun t hf => ?_
    simp only [push_cast, seval, hE.P, awrite, wpc_label, wpc_block, List.mem_cons, List.not_mem_nil, or_false, forall_eq_or_imp, forall_eq] at hf
    obtain ⟨f2, f3, f4, f5, f7, f8⟩ := hf
    refine wdraw_two [(2, [0]), (4, [0, 4])] [3, 5, 6, 8] [(5, [4])] [(0, (65, [0])), (1, (66, [1])), (2, (67, [2, 1])), (3, (68, [3, 0, 1, 2])), (4, (69, [4])), (5, (70, [5, 4])), (6, (71, [6, 0, 1, 2, 3, 4, 5])), (7, (72, [7, 0, 1, 2, 3, 4, 5, 6]))] [0, 1, 2, 3, 4, 5, 6, 7, 8] (by rw [hE.P]; decide +kernel) (by rw [hE.P]; decide +kernel) (by rw [hE.P]; decide +kernel) (by rw [hE.P]; decide +kernel) (by rw [hE.P]; decide +kernel) (by decide +kernel) rfl ?_
    simp only [push_cast, seval, hE.P, awrite, wpc_label, wpc_block, g0, g1, g2, g3, n0, n1, n2, n3, f2, f3, f4, f5, f7, f8]
    refine kwv_GS (el36 hE.P) kw2.w (hG.keep kw2.k) (lo := H1.next) (Nat.le_refl _) (Own.nil _ _ _ _) h1.1 (by rw [entsC_len]) (entsC_one _) (by omega) (by omega) ?_
    intro v2 H2 a2
    obtain ⟨va2, vc2, hv2⟩ := a2.sl
    have k2 := (KW.refl kw2.w).app kw2.w (Own.nil _ _ _ _) a2
    have o2 := a2.own
    rw [Nat.zero_add, List.nil_append] at o2
    have h0 := k2.k.get _ _ g0
    have h1' := k2.k.get _ _ g1
    rw [Nat.zero_add] at hv2
    subst hv2
    simp only [push_cast, seval, hE.P, awrite, wpc_label, wpc_block, g0, g1, g2, g3, h0, h1', n0, n1, n2, n3, f2, f3, f4, f5, f7, f8]
    rw [bs36 rfl, kalloc_some]
    simp only [push_cast, seval, hE.P, awrite, wpc_label, wpc_block, g0, g1, g2, g3, h0, h1', n0, n1, n2, n3, f2, f3, f4, f5, f7, f8]
    refine kwv_G1 (el36 hE.P) k2.w (lo := H1.next) k2.k.next o2 rfl rfl (by omega) (by omega) ?_
    intro v3 H3 a3' nx3
    obtain ⟨va3, vc3, hv3⟩ := a3'.sl
    have k3 := k2.app kw2.w o2 a3'
    have q0 := k3.k.get _ _ g0
    have q1 := k3.k.get _ _ g1
    subst hv3
    simp only [push_cast, seval, hE.P, awrite, wpc_label, wpc_block, g0, g1, g2, g3, h0, h1', q0, q1, n0, n1, n2, n3, f2, f3, f4, f5, f7, f8]
    refine ⟨⟨?_, ?_, ?_, ?_, ?_⟩, ?_⟩
    · exact ⟨k2.k.next, by omega, nx3⟩
    · simp only [push_cast, seval, hE.P, awrite, wpc_label, wpc_block, g0, g1, g2, g3, h0, h1', q0, q1, n0, n1, n2, n3, f2, f3, f4, f5, f7, f8, rdOk]
    · have s1 := h1.1.sc kw2.w (hG.keep kw2.k)
      have s2 := o2.sc k2.w
      have s3 := a3'.own.sc a3'.wf
      simp only [push_cast, seval, hE.P, awrite, wpc_label, wpc_block, g0, g1, g2, g3, h0, h1', q0, q1, n0, n1, n2, n3, f2, f3, f4, f5, f7, f8, faOk, Op.operands, ops_builtin, sc, scA, scL]
      have b2 := (k2.w.live _ _ h0).2
      have b3 := (k3.w.live _ _ q0).2
      have s2' : sc (H2.next + 1) (.slice va2 S.l.length vc2) = true := by
        cases va2 with
        | none => rfl
        | some x => have := sc_slice s2 x rfl; simp [sc]; omega
      exact ⟨s1, ⟨s2', by simp⟩, by simpa using b3, s3⟩
    · simp only [push_cast, seval, hE.P, awrite, wpc_label, wpc_block, g0, g1, g2, g3, h0, h1', q0, q1, n0, n1, n2, n3, f2, f3, f4, f5, f7, f8, aOk, scO_nil, scO_cons, aalloc_bs]
      rw [bs36 rfl]
      refine ⟨_, rfl, ?_⟩
      rfl
    · have s1 := h1.1.sc kw2.w (hG.keep kw2.k)
      have s2 := o2.sc k2.w
      have s3 := a3'.own.sc a3'.wf
      have b1 := (kw2.w.live _ _ g0).2
      have b3 := (k3.w.live _ _ q0).2
      simp only [push_cast, seval, hE.P, awrite, wpc_label, wpc_block, f2, f3, f4, f5, f7, f8, dOk]
      refine ⟨?_, ?_, ?_, ?_, ?_, ?_, ?_, ?_⟩
      · rfl
      · exact scQ_pt 0 (by omega) b1
      · exact scQ_sl 0 (by omega) s1
      · exact scQ_sl 4 (by decide) s2
      · rfl
      · exact scQ_sl1 (K := 5) (by decide) (Nat.le_refl _) (Nat.lt_succ_self _)
      · exact scQ_sl 7 (by decide) s3
      · exact scQ_pt 7 (by decide) b3
    · have hnx3 : h.next < H3.next := (k3.w.live _ _ q0).2
      have kw3 := kw2.trans k3
      have q2 := k3.k.get _ _ g2
      have q3 := k3.k.get _ _ g3
      have x0 := kw3.w.ne q0
      have x1 := kw3.w.ne q1
      have x2 := kw3.w.ne q2
      have x3 := kw3.w.ne q3
      have y0 := kw3.w.ne' q0
      have y1 := kw3.w.ne' q1
      have y2 := kw3.w.ne' q2
      have y3 := kw3.w.ne' q3
      have nbx := kw3.w.b0
      simp only [push_cast, seval, hE.P, awrite, wpc_label, wpc_block, q0, q1, q2, q3, x0, x1, x2, x3, y0, y1, y2, y3, nbx, n0, n1, n2, n3, f2, f3, f4, f5, f7, f8]
      obtain ⟨H4, hH4⟩ : ∃ H4, H4 = (((H3.put h.next (.cells [.bool false, .slice va3 (S.l.length + 1) vc3, .slice none 0 0, .slice aT S.tab.length c2] 42 true)).push (.cells [.int .i64 0, .int .i64 0, .slice none 0 0] 60 true)).put H3.next (.cells [.int .i64 0, .int .i64 (S.l.length + 1), .slice none 0 0] 60 true)) := ⟨_, rfl⟩
      have kw4 : KW E h H4 := by rw [hH4]; exact (by repeat (first | assumption | exact KW.refl hW | apply KW.push | refine KW.put ?_ (by first | omega | (simp <;> omega)) (by first | omega | (simp <;> omega)) hW))
      have r0 : H4.get h.next = some (.cells [.bool false, .slice va3 (S.l.length + 1) vc3, .slice none 0 0, .slice aT S.tab.length c2] 42 true) := by
        rw [hH4]; simp only [push_cast, seval, hE.P, awrite, wpc_label, wpc_block, x0]
      have r1 : H4.get (h.next + 1) = some (.cells [iv e.c, iv e.n, .string e.t] 56 true) := by
        rw [hH4]; simp only [push_cast, seval, hE.P, awrite, wpc_label, wpc_block, x1, q1]
      have r2 : H4.get (h.next + 1 + 1) = some (.cells [.bool false, .slice none 0 0, .slice none 0 0, .slice none 0 0] 42 true) := by
        rw [hH4]; simp only [push_cast, seval, hE.P, awrite, wpc_label, wpc_block, x2, q2]
      have r3 : H4.get (h.next + 1 + 1 + 1) = some (.cells [.int .i64 0, .int .i64 0, .slice none 0 0] 60 true) := by
        rw [hH4]; simp only [push_cast, seval, hE.P, awrite, wpc_label, wpc_block, x3, q3]
      have r9 : H4.get H3.next = some (.cells [.int .i64 0, .int .i64 (S.l.length + 1), .slice none 0 0] 60 true) := by
        rw [hH4]; simp only [push_cast, seval, hE.P, awrite, wpc_label, wpc_block]
      have hn4 : H4.next = H3.next + 1 := by rw [hH4]; simp
      rw [← hH4]
      have m0 := kw4.w.nlt r0
      have m1 := kw4.w.nlt r1
      refine wpc_loop (fun k tm hh => ∃ i a, k = S.tab.length - i ∧ i ≤ S.tab.length ∧ hh = H4 ∧ fget tm 2 = .pointer (some ⟨h.next, 0, none⟩) ∧ fget tm 3 = .pointer (some ⟨h.next + 1, 0, none⟩) ∧ fget tm 4 = .pointer (some ⟨h.next + 1 + 1, 0, none⟩) ∧ fget tm 5 = .pointer (some ⟨h.next + 1 + 1 + 1, 0, none⟩) ∧
        fget tm 7 = fget t 7 ∧ fget tm 9 = .pointer (some ⟨H3.next, 0, none⟩) ∧ fget tm 10 = iv a ∧ fget tm 11 = .slice none 0 0 ∧ fget tm 12 = iv i ∧ a ≤ i ∧ placeOf e.c (S.tab.drop i) i a = placeOf e.c S.tab 0 0) S.tab.length ?_ ?_
      · simp only [push_cast, seval, hE.P, awrite, wpc_label, wpc_block, f2, f3, f4, f5, f7, f8]
        exact ⟨0, 0, by omega, by omega, rfl, rfl, Nat.le_refl _, rfl⟩
      · rintro k tm hh ⟨i, a, rfl, hi, rfl, u2, u3, u4, u5, u7, u9, u10, u11, u12, hai, hpl⟩
        simp only [push_cast, seval, hE.P, awrite, wpc_label, wpc_block, r0, r1, m0, m1, u2, u3, u12]
        refine kif_split (fun hb => ?_) (fun hb => ?_)
        · have hlt : i < S.tab.length := by simpa using hb
          obtain ⟨b, d, e1', hsp, hac⟩ := h2.1.elem (hG.keep kw4.k) hlt
          injection e1' with e1' e2' e3'
          have hr := h3.at i _ (List.getElem?_eq_getElem hlt)
          obtain ⟨sd, hrc, hsd⟩ := hr
          rw [hrc] at hac
          have hac0 := acells_part hac 0 1 (by omega)
          simp only [Nat.add_zero, List.drop_zero, List.take_succ_cons, List.take_zero] at hac0
          subst e1'; subst e3'
          simp only [push_cast, seval, hE.P, awrite, wpc_label, wpc_block, r0, r1, m0, m1, u2, u3, u12]
          refine wdraw_calm (by rw [hE.P]; decide +kernel) ?_
          simp only [push_cast, seval, hE.P, awrite, wpc_label, wpc_block, r0, r1, m0, m1, u2, u3, u12]
          rw [ia40 hsp (by omega) (by omega), kpure_some]
          simp only [push_cast, seval, hE.P, awrite, wpc_label, wpc_block, r0, r1, m0, m1, u2, u3, u12, ↓hac0, Int.toNat_natCast]
          have hpd := placeOf_drop (c := e.c) (a := a) hlt
          refine kif_split (fun hb => ?_) (fun hb => ?_)
          · have hc : (S.tab[i]).c < e.c := by have : ((S.tab[i]).c : Int) < e.c := by simpa using hb
                                               omega
            rw [if_pos hc] at hpd
            simp only [push_cast, seval, hE.P, awrite, wpc_label, wpc_block, r0, r1, m0, m1, u2, u3, u12]
            exact ⟨S.tab.length - (i + 1), by omega, i + 1, i + 1, rfl, by omega, u4, u5, u7, u9, iv_succ (by omega), u11, iv_succ (by omega), Nat.le_refl _, by rw [← hpd]; exact hpl⟩
          · have hc : ¬ (S.tab[i]).c < e.c := by have : ¬ ((S.tab[i]).c : Int) < e.c := by simpa using hb
                                                 omega
            rw [if_neg hc] at hpd
            simp only [push_cast, seval, hE.P, awrite, wpc_label, wpc_block, r0, r1, m0, m1, u2, u3, u12]
            exact ⟨S.tab.length - (i + 1), by omega, i + 1, a, rfl, by omega, u4, u5, u7, u9, u10, u11, iv_succ (by omega), by omega, by rw [← hpd]; exact hpl⟩
        · have he : i = S.tab.length := by have : ¬ i < S.tab.length := by simpa using hb
                                           omega
          subst he
          rw [List.drop_length] at hpl
          have hpl : a = placeOf e.c S.tab 0 0 := hpl
          obtain ⟨ya, yc, hy, hys⟩ := h2.upto (P := Tryz.prog) (t := 40) Tryz.underlying40 sz121 (k := a) hai
          have hctl := h3.len
          simp only [push_cast, seval, hE.P, awrite, wpc_label, wpc_block, r0, r1, m0, m1, u2, u3, u10, u11, u12]
          rw [hy, kpure_some]
          simp only [push_cast, seval, hE.P, awrite, wpc_label, wpc_block, r0, r1, m0, m1, u2, u3, u10, u11, u12]
          refine kwv_GS (el40 hE.P) kw4.w (hG.keep kw4.k) (lo := hh.next) (Nat.le_refl _) (Own.nil _ _ _ _) hys (by rw [List.length_take, hctl]; have := Nat.mul_le_mul_right 5 hai; omega) (h3.take a).one' (by omega) (by omega) ?_
          intro v5 H5 a5
          have o5 := a5.own
          have k5 := (KW.refl kw4.w).app kw4.w (Own.nil _ _ _ _) a5
          rw [Nat.zero_add, List.nil_append] at o5
          obtain ⟨va5, vc5, hv5⟩ := a5.sl
          rw [Nat.zero_add] at hv5
          subst hv5
          have R0 := r0
          have R2 := r2
          have R3 := r3
          have R9 := r9
          have r0 := k5.k.get _ _ r0
          have r1 := k5.k.get _ _ r1
          have r2 := k5.k.get _ _ r2
          have r3 := k5.k.get _ _ r3
          have r9 := k5.k.get _ _ r9
          have m9 := k5.w.nlt r9
          simp only [push_cast, seval, hE.P, awrite, wpc_label, wpc_block, r0, r1, r9, m0, m1, m9, u2, u3, u9, u10, u11, u12]
          rw [bs40 rfl, kalloc_some]
          simp only [push_cast, seval, hE.P, awrite, wpc_label, wpc_block, r0, r1, r9, m0, m1, m9, u2, u3, u9, u10, u11, u12]
          refine kwv_G1 (el40 hE.P) k5.w (lo := hh.next) k5.k.next o5 rfl rfl (by omega) (by omega) ?_
          intro v6 H6 a6 nx6
          have k6 := k5.app kw4.w o5 a6
          have o6 := a6.own
          obtain ⟨va6, vc6, hv6⟩ := a6.sl
          subst hv6
          have g9 := a6.get _ _ r9 (fun hb => by have := (o5.lt k5.w _ hb).1; omega)
          have d0 := a6.get _ _ r0 (fun hb => by have := (o5.lt k5.w _ hb).1; have := (kw4.w.live _ _ ‹hh.get h.next = _›).2; omega)
          have hk : ∃ (k : Nat) (b : Bool), fget t 7 = .bool b ∧ k = b.toNat ∧ a + k ≤ S.tab.length ∧ R = (⟨S.l ++ [e], S.tab.take a ++ [⟨e.c, e.n, ⟨0, S.l.length + 1⟩⟩] ++ S.tab.drop (a + k)⟩, ⟨0, S.l.length + 1⟩) := by
            subst hpl
            first
            | exact ⟨0, false, f7, rfl, by omega, hgo.symm⟩
            | (have := hs x hv; exact ⟨1, true, f7, rfl, by omega, hgo.symm⟩)
          obtain ⟨k, b7, hb7, hk1, hk2, hk3⟩ := hk
          simp only [push_cast, seval, hE.P, awrite, wpc_label, wpc_block, u2, u3, u9, u10, u11, u12]
          rw [u7, hb7]
          refine kif_cutN (fun tm' h' => h' = H6 ∧ fget tm' 10 = iv (a + k) ∧ fget tm' 11 = .slice va6 (a + 1) vc6 ∧ fget tm' 2 = .pointer (some ⟨h.next, 0, none⟩) ∧ fget tm' 4 = .pointer (some ⟨h.next + 1 + 1, 0, none⟩) ∧ fget tm' 5 = .pointer (some ⟨h.next + 1 + 1 + 1, 0, none⟩) ∧ fget tm' 9 = .pointer (some ⟨H3.next, 0, none⟩)) ?_ ?_
          · rintro tm' h' ⟨rfl, u10, u11, u2, u4, u5, u9⟩
            obtain ⟨za, zc, hz, hzs⟩ := h2.from (P := Tryz.prog) (t := 40) Tryz.underlying40 sz121 hctl hk2
            have g0 := a6.get _ _ r0 (fun hb => by have := (o5.lt k5.w _ hb).1; have := (kw4.w.live _ _ ‹hh.get h.next = _›).2; omega)
            simp only [push_cast, seval, hE.P, awrite, wpc_label, wpc_block, u10, u11, u2, u4, u5, u9, g0, m0]
            rw [hz, kpure_some]
            simp only [push_cast, seval, hE.P, awrite, wpc_label, wpc_block, u10, u11, u2, u4, u5, u9, g0, m0]
            refine kwv_GS (el40 hE.P) k6.w (hG.keep (kw4.trans k6).k) (lo := hh.next) k6.k.next o6 hzs (by rw [List.length_drop, hctl, ← Nat.sub_mul]) (h3.drop (a + k)).one' (by omega) (by omega) ?_
            intro v7 H7 a7
            have o7 := a7.own
            have k7 := k6.app kw4.w o6 a7
            obtain ⟨va7, vc7, hv7⟩ := a7.sl
            subst hv7
            have q0 := k7.k.get _ _ R0
            have q2 := k7.k.get _ _ R2
            have q3 := k7.k.get _ _ R3
            have q9 := k7.k.get _ _ R9
            have n9 := k7.w.nlt q9
            simp only [push_cast, seval, hE.P, awrite, wpc_label, wpc_block, u10, u11, u2, u4, u5, u9, q0, q2, q3, q9, m0, n9, n2, n3, x0, y0]
            refine wdraw_pairs [(1, 2)] (by rw [hE.P]; decide +kernel) (by rw [hE.P]; decide +kernel) (by rw [hE.P]; decide +kernel) ?_
            simp only [push_cast, seval, hE.P, awrite, wpc_label, wpc_block, u10, u11, u2, u4, u5, u9, q0, q2, q3, q9, m0, n9, n2, n3, x0, y0, x2, y2, x3, y3]
            have hne2 : h.next + 1 + 1 + 1 < H1.next := (kw2.w.live _ _ g3).2
            obtain ⟨H8, hH8⟩ : ∃ H8, H8 = (((H7.put h.next (.cells [.bool false, .slice va3 (S.l.length + 1) vc3, .slice none 0 0, .slice va7 (a + 1 + (S.tab.length - (a + k))) vc7] 42 true)).put (h.next + 1 + 1) (.cells [.bool false, .slice va3 (S.l.length + 1) vc3, .slice none 0 0, .slice va7 (a + 1 + (S.tab.length - (a + k))) vc7] 42 true)).put (h.next + 1 + 1 + 1) (.cells [.int .i64 0, .int .i64 (S.l.length + 1), .slice none 0 0] 60 true)) := ⟨_, rfl⟩
            have kw7 := kw4.trans k7
            have nx7 := k7.k.next
            have nx3' := k3.k.next
            have kw8 : KW E h H8 := by rw [hH8]; exact (by repeat (first | assumption | exact KW.refl hW | apply KW.push | refine KW.put ?_ (by first | omega | (simp <;> omega)) (by first | omega | (simp <;> omega)) hW))
            rw [← hH8]
            have g78 : ∀ b o, H1.next ≤ b → H7.get b = some o → H8.get b = some o := by
              intro b o hb hg
              rw [hH8]
              simp only [get_put]
              rw [if_neg (by omega), if_neg (by omega), if_neg (by omega)]
              exact hg
            have o3 : Own H8 56 3 h.next (S.l.length + 1) (entsC S.l ++ [iv e.c, iv e.n, .string e.t]) (.slice va3 (S.l.length + 1) vc3) := by
              refine Own.low (lo := H1.next) (a3'.own.at fun b o hb hg => ?_) (by omega)
              have hb1 := a3'.own.lt k3.w b hb
              refine g78 b o hb1.1 (k7.k.get _ _ ?_)
              rw [hH4]
              simp only [get_put, get_push, next_put]
              rw [if_neg (by omega), if_neg (by omega), if_neg (by omega)]
              exact hg
            have o8 : Own H8 121 5 h.next (a + 1 + (S.tab.length - (a + k))) (ct.take (a * 5) ++ [iv e.c, iv e.n, .int .i64 0, .int .i64 (S.l.length + 1), .slice none 0 0] ++ ct.drop ((a + k) * 5)) (.slice va7 (a + 1 + (S.tab.length - (a + k))) vc7) := by
              exact Own.low (lo := hh.next) (o7.at fun b o hb hg => g78 b o (by have := (o7.lt k7.w b hb).1; have := k3.k.next; omega) hg) (by omega)
            obtain ⟨G1, z1, x1⟩ := Own.frz hW hG kw8 o3
            obtain ⟨G2, z2, x2, s2, _⟩ := x1.frz2 o8
            subst hk3
            have hz1 : Fz E G2 3 (S.l ++ [e]).length (entsC (S.l ++ [e])) (.slice va3 (S.l.length + 1) vc3) := by
              have := z1.sub s2
              rw [show entsC S.l ++ [iv e.c, iv e.n, .string e.t] = entsC (S.l ++ [e]) by simp [entsC, entC]] at this
              simpa using this
            have hr1 : LaR E G2 ⟨e.c, e.n, ⟨0, S.l.length + 1⟩⟩ [iv e.c, iv e.n, .int .i64 0, .int .i64 (S.l.length + 1), .slice none 0 0] := ⟨_, rfl, Fz.nil⟩
            have hz3 : LasR E G2 (S.tab.take a ++ [(⟨e.c, e.n, ⟨0, S.l.length + 1⟩⟩ : La)] ++ S.tab.drop (a + k)) (ct.take (a * 5) ++ [iv e.c, iv e.n, .int .i64 0, .int .i64 (S.l.length + 1), .slice none 0 0] ++ ct.drop ((a + k) * 5)) :=
              (((h3.sub x2.sub).take a).app (LasR.one hr1)).app ((h3.sub x2.sub).drop (a + k))
            have hlen : (S.tab.take a ++ [(⟨e.c, e.n, ⟨0, S.l.length + 1⟩⟩ : La)] ++ S.tab.drop (a + k)).length = a + 1 + (S.tab.length - (a + k)) := by simp; omega
            exact ⟨G2, _, _, x2, ⟨_, _, _, rfl, hz1, by rw [hlen]; exact z2, hz3⟩, ⟨_, _, rfl, Fz.nil⟩, rfl⟩
          · cases b7
            · simp only [push_cast, seval, hE.P, awrite, wpc_label, wpc_block, u2, u4, u5, u9, u10, u11, u12]
              subst hk1
              rfl
            · simp only [push_cast, seval, hE.P, awrite, wpc_label, wpc_block, u2, u4, u5, u9, u10, u11, u12]
              subst hk1
              exact iv_succ (by omega)
end
end Go.Proofs.YthdgobcpefcolaaGreatDoor
/- Chapter 25, plain: the rest of a replica: view changes, recovery, state transfer, a group. -/
namespace Vr
/-- What an image tells (of images that are someone's). -/
def execS (l : List Ent) : Sv := l.foldl (fun s e => (applyS s e).1) ⟨[], []⟩
def varint (n : Nat) : List UInt8 := if h : n < 128 then [n.toUInt8] else (n % 128 + 128).toUInt8 :: varint (n / 128)
termination_by n
decreasing_by omega
def saveE (e : Ent) : List UInt8 := varint e.c ++ varint e.n ++ varint e.t.size ++ e.t.data.toList
def save (s : Sv) : List UInt8 := 1 :: s.l.flatMap saveE
def emptyB (b : List UInt8) : Bool := match b with | [] => true | _ => false
/-- The state that an image's bytes are of. -/
noncomputable def unsave (b : List UInt8) : Sv := open Classical in if h : ∃ l : List Ent, (execS l).l = l ∧ b = save (execS l) then execS h.choose else ⟨[], []⟩
def PR.wholeM (P : PR) (m : Mg) : Mg := { m with op := P.op, cm := P.cm, bs := P.bs, log := P.log, img := if 0 < P.bs then save P.sv else m.img }
noncomputable def installP (P : PR) (m : Mg) : PR :=
  if P.cm < m.bs then { P with sv := unsave m.img, cm := m.cm, bs := m.bs, log := m.log }
  else if P.bs ≤ m.bs then { P with log := P.log.take (m.bs - P.bs) ++ m.log }
  else { P with log := m.log.drop (P.bs - m.bs) }
def viewP (P : PR) (v s : Nat) : PR :=
  { P with told := if v = P.vw then P.told else List.replicate P.n 0, vw := v, st := s, nm := if s = 0 then v else P.nm }
def startP (P : PR) (v : Nat) : PR × List Mg :=
  let Q := { viewP P v 1 with voted := List.replicate P.n false, sent := false, came := List.replicate P.n {} }
  (Q, Q.allM { k := 5, vw := v })
def votesN (l : List Bool) : Nat := (l.filter id).length
/-- The messages that came, with their places. -/
def cameL (l : List Mg) : List (Nat × Mg) := (l.zipIdx.map fun p => (p.2, p.1)).filter fun p => p.2.k != 0
def better (c b : Mg) : Bool := decide (b.nm < c.nm) || (c.nm == b.nm && decide (b.op < c.op))
/-- The first of the best. -/
def bestOf : List (Nat × Mg) → Option (Nat × Mg)
  | l => l.foldl (fun b c => match b with | none => some c | some b => if better c.2 b.2 then some c else some b) none
def topOf (l : List Mg) : Nat := l.foldl (fun a m => max a m.cm) 0
/-- The view begins with what the best one has. -/
noncomputable def beginP (P : PR) (b : Nat × Mg) : PR × List Mg :=
  let Q := if b.1 = P.me then P else installP P b.2
  let R := { Q with st := 0, nm := P.vw, told := List.replicate P.n 0 }
  let out := R.allM (R.wholeM { k := 7, vw := P.vw })
  let c := commit R (topOf P.came)
  (c.1, out ++ c.2)
noncomputable def cameP (P : PR) (m : Mg) : PR × List Mg :=
  let Q := if (P.came.getD m.fr {}).k = 0 then { P with came := P.came.set m.fr m } else P
  if (cameL Q.came).length ≤ P.F ∨ (Q.came.getD P.me {}).k = 0 then (Q, []) else
  match bestOf (cameL Q.came) with
  | none => (Q, [])
  | some b => beginP Q b
noncomputable def voteP (P : PR) (fr : Nat) : PR × List Mg :=
  let Q := { P with voted := P.voted.set fr true }
  if P.sent ∨ votesN Q.voted < P.F then (Q, []) else
  let Q := { Q with sent := true }
  let m := Q.toM (Q.wholeM { k := 6, vw := P.vw, nm := P.nm }) (P.vw % P.n)
  if P.vw % P.n = P.me then cameP Q m else (Q, [m])
def okM (P : PR) (i : Nat) : Mg := P.toM { k := 3, vw := P.vw, op := P.op } i
noncomputable def changeP (P : PR) (m : Mg) : PR × List Mg :=
  if P.st = 2 then (P, []) else
  if m.k = 7 then
    if m.vw < P.vw ∨ (m.vw = P.vw ∧ P.st ≠ 1) ∨ m.op < P.cm then (P, []) else
    let Q := viewP (installP P m) m.vw 0
    let a := commit Q m.cm
    (a.1, a.2 ++ [okM a.1 m.fr])
  else
    let a := if P.vw < m.vw then startP P m.vw else (P, [])
    if m.vw ≠ a.1.vw ∨ a.1.st ≠ 1 then a else
    if m.k = 5 then let b := voteP a.1 m.fr; (b.1, a.2 ++ b.2)
    else if !a.1.prim then a
    else let b := cameP a.1 m; (b.1, a.2 ++ b.2)
def recoveryP (P : PR) (m : Mg) : List Mg :=
  if P.st ≠ 0 then [] else
  let a : Mg := { k := 9, vw := P.vw, nc := m.nc }
  [P.toM (if P.prim then P.wholeM a else a) m.fr]
def topV (l : List Mg) : Nat := (cameL l).foldl (fun a p => max a p.2.vw) 0
noncomputable def answerP (P : PR) (m : Mg) : PR × List Mg :=
  if P.st ≠ 2 ∨ m.nc ≠ P.nc then (P, []) else
  let Q := { P with ans := P.ans.set m.fr m }
  let v := topV Q.ans
  let w := Q.ans.getD (v % P.n) {}
  if (cameL Q.ans).length ≤ P.F ∨ v < P.vw ∨ w.k = 0 ∨ w.vw ≠ v then (Q, []) else
  let R := viewP (installP Q w) v 0
  let a := commit R w.cm
  (a.1, a.2 ++ [okM a.1 (v % P.n)])
def getStateP (P : PR) (m : Mg) : List Mg :=
  if P.st ≠ 0 ∨ m.vw ≠ P.vw ∨ P.op < m.op then [] else
  let a : Mg := { k := 11, vw := P.vw, op := P.op, cm := P.cm, bs := m.op }
  [P.toM (if m.op < P.bs then P.wholeM a else { a with log := logOf P m.op }) m.fr]
noncomputable def stateP (P : PR) (m : Mg) : PR × List Mg :=
  if P.st ≠ 0 ∨ m.vw < P.vw ∨ (m.vw = P.vw ∧ m.op ≤ P.op) then (P, []) else
  let go (Q : PR) : PR × List Mg :=
    let a := commit (viewP Q m.vw 0) m.cm
    (a.1, a.2 ++ if a.1.prim then [] else [okM a.1 (m.vw % P.n)])
  if !emptyB m.img then
    if m.bs ≤ P.cm ∨ m.op < P.cm then (P, []) else go (installP P m)
  else if m.vw = P.vw then
    if P.op < m.bs then (P, []) else go { P with log := P.log ++ m.log.drop (P.op - m.bs) }
  else if P.cm < m.bs ∨ m.op < P.cm then (P, []) else go (installP P m)
def madeM (m : Mg) : Bool := decide (m.bs ≤ m.cm) && decide (m.cm ≤ m.op) && m.log.length == m.op - m.bs
def goodM (P : PR) (m : Mg) : Bool :=
  m.to == P.me && decide (1 ≤ m.k) && decide (m.k ≤ 11) && (m.k == 1 || (decide (m.fr < P.n) && m.fr != P.me)) &&
  (if m.k = 6 ∨ m.k = 7 ∨ m.k = 9 then madeM m
   else if m.k = 11 then (decide (m.bs ≤ m.cm) || emptyB m.img) && decide (m.bs ≤ m.op) && decide (m.cm ≤ m.op) && m.log.length == m.op - m.bs else true)
noncomputable def stepP (P : PR) (m : Mg) : PR × List Mg :=
  if !goodM P m then (P, []) else
  if m.k = 1 then request P m else
  if m.k ≤ 4 then normalM P m else
  if m.k ≤ 7 then changeP P m else
  if m.k = 8 then (P, recoveryP P m) else
  if m.k = 9 then answerP P m else
  if m.k = 10 then (P, getStateP P m) else stateP P m
def timeoutP (P : PR) : PR × List Mg :=
  if P.st = 2 then (P, P.allM { k := 8, nc := P.nc }) else
  if P.st = 0 ∧ P.prim then (P, []) else startP P (P.vw + 1)
def restartP (P : PR) (nonce : Nat) : PR × List Mg :=
  let Q := { PR.new P.me P.n with vw := P.vw, st := 2, nc := nonce }
  (Q, Q.allM { k := 8, nc := nonce })
def truncP (P : PR) (keep : Nat) : PR :=
  let k := max P.bs (P.cm - keep)
  { P with log := logOf P k, bs := k }
end Vr
namespace Vr
def srt (l : List La) : Prop := l.Pairwise fun a b => a.c < b.c
theorem placeOf_gen (c : Nat) : ∀ (l : List La) (i a : Nat), srt l → a ≤ i → placeOf c l i a = if (l.filter fun x => decide (x.c < c)).length = 0 then a else i + (l.filter fun x => decide (x.c < c)).length
  | [], i, a, _, _ => by simp [placeOf]
  | x :: l, i, a, hs, ha => by
    obtain ⟨h1, h2⟩ := List.pairwise_cons.1 hs
    rw [placeOf]
    by_cases hx : x.c < c
    · rw [if_pos hx, placeOf_gen c l _ _ h2 (Nat.le_refl _)]
      rw [List.filter_cons_of_pos (by simpa using hx)]
      simp only [List.length_cons]
      split
      · rename_i h0; simp [h0]
      · rw [if_neg (by omega)]; omega
    · rw [if_neg hx, placeOf_gen c l _ _ h2 (by omega)]
      rw [List.filter_cons_of_neg (by simpa using hx)]
      have : l.filter (fun x => decide (x.c < c)) = [] := by
        rw [List.filter_eq_nil_iff]
        intro y hy
        have := h1 y hy
        simp; omega
      rw [this]; simp
theorem placeOf_srt {c : Nat} {l : List La} (h : srt l) : placeOf c l 0 0 = (l.filter fun x => decide (x.c < c)).length := by
  rw [placeOf_gen c l 0 0 h (Nat.le_refl _)]
  split <;> omega
theorem lastOf_mem {c : Nat} : ∀ {l : List La} {x : La}, lastOf l c = some x → x ∈ l ∧ x.c = c
  | [], x, h => by simp [lastOf] at h
  | y :: l, x, h => by
    rw [lastOf] at h
    split at h
    · rename_i hc; injection h with h; subst h; exact ⟨by simp, hc⟩
    · obtain ⟨h1, h2⟩ := lastOf_mem h
      exact ⟨by simp [h1], h2⟩
theorem place_lt {c : Nat} {l : List La} (h : srt l) {x : La} (hx : lastOf l c = some x) : placeOf c l 0 0 < l.length := by
  rw [placeOf_srt h]
  obtain ⟨h1, h2⟩ := lastOf_mem hx
  refine Nat.lt_of_le_of_ne (List.length_filter_le _ _) fun e => ?_
  have := (List.length_filter_eq_length_iff).1 e x h1
  simp at this; omega
/-- A table as its small and its great clients. -/
theorem split_srt {c : Nat} : ∀ {l : List La}, srt l → l.take ((l.filter fun x => decide (x.c < c)).length) = l.filter (fun x => decide (x.c < c)) ∧ l.drop ((l.filter fun x => decide (x.c < c)).length) = l.filter (fun x => !decide (x.c < c))
  | [], _ => by simp
  | x :: l, hs => by
    obtain ⟨h1, h2⟩ := List.pairwise_cons.1 hs
    obtain ⟨e1, e2⟩ := split_srt (c := c) h2
    by_cases hx : x.c < c
    · rw [List.filter_cons_of_pos (by simpa using hx), List.filter_cons_of_neg (by simpa using hx)]
      simp only [List.length_cons, List.take_succ_cons, List.drop_succ_cons, e1, e2, and_self]
    · have h0 : l.filter (fun x => decide (x.c < c)) = [] := by
        rw [List.filter_eq_nil_iff]
        intro y hy
        have := h1 y hy
        simp; omega
      have h3 : l.filter (fun x => !decide (x.c < c)) = l := by
        rw [List.filter_eq_self]
        intro y hy
        have := h1 y hy
        simp; omega
      rw [List.filter_cons_of_neg (by simpa using hx), List.filter_cons_of_pos (by simpa using hx), h0, h3]
      simp
theorem applyS_srt {s : Sv} {e : Ent} (h : srt s.tab) : srt (applyS s e).1.tab := by
  have key : ∀ k, (k = 0 → lastOf s.tab e.c = none) → (k = 1 → ∃ x, lastOf s.tab e.c = some x) → k ≤ 1 → srt (s.tab.take (placeOf e.c s.tab 0 0) ++ [⟨e.c, e.n, ⟨0, s.l.length + 1⟩⟩] ++ s.tab.drop (placeOf e.c s.tab 0 0 + k)) := by
    intro k h0 h1 hk
    rw [placeOf_srt h, ← List.drop_drop]
    obtain ⟨e1, e2⟩ := split_srt (c := e.c) h
    rw [e1, e2]
    unfold srt
    rw [List.append_assoc, List.pairwise_append]
    refine ⟨h.filter _, ?_, ?_⟩
    · rw [List.singleton_append, List.pairwise_cons]
      refine ⟨fun y hy => ?_, ((h.filter _).sublist (List.drop_sublist _ _))⟩
      have hge : y ∈ s.tab.filter (fun x => !decide (x.c < e.c)) := List.mem_of_mem_drop hy
      have hy2 := List.mem_filter.1 hge
      simp at hy2
      refine Nat.lt_of_le_of_ne hy2.2 fun he => ?_
      -- y is the client's own row
      have hlast : ∀ {l : List La} {y : La}, srt l → y ∈ l → lastOf l y.c = some y := by
        intro l
        induction l with
        | nil => intro y _ hy; simp at hy
        | cons z l ih =>
          intro y hs hy
          obtain ⟨a1, a2⟩ := List.pairwise_cons.1 hs
          rw [lastOf]
          rcases List.mem_cons.1 hy with rfl | hy
          · rw [if_pos rfl]
          · rw [if_neg (by have := a1 y hy; omega)]
            exact ih a2 hy
      have hl := hlast h hy2.1
      rw [← he] at hl
      rcases Nat.eq_zero_or_pos k with hk0 | hk1
      · have := h0 hk0
        rw [this] at hl; cases hl
      · have hk1 : k = 1 := by omega
        subst hk1
        -- the first of the great ones is the client's own row; y lies behind it
        have hsg : srt (s.tab.filter fun x => !decide (x.c < e.c)) := h.filter _
        generalize hg : s.tab.filter (fun x => !decide (x.c < e.c)) = g at *
        cases g with
        | nil => simp at hge
        | cons z g =>
          obtain ⟨a1, a2⟩ := List.pairwise_cons.1 hsg
          simp only [List.drop_succ_cons, List.drop_zero] at hy
          have hz := a1 y hy
          have hzm : z ∈ s.tab.filter (fun x => !decide (x.c < e.c)) := by rw [hg]; simp
          have := List.mem_filter.1 hzm
          simp at this
          have h3 := this.2
          have h4 : e.c = y.c := he
          have h5 : z.c < y.c := hz
          omega
    · intro a ha b hb
      have ha1 := List.mem_filter.1 ha
      simp at ha1
      have ha2 := ha1.2
      rcases List.mem_append.1 hb with hb | hb
      · simp at hb; subst hb; exact ha2
      · have := List.mem_filter.1 (List.mem_of_mem_drop hb)
        simp at this
        have hb2 := this.2
        omega
  unfold applyS
  split
  · rename_i h0
    exact key 0 (fun _ => h0) (fun hk => by omega) (by omega)
  · rename_i x hx
    split
    · exact h
    · split
      · exact h
      · exact key 1 (fun hk => by omega) (fun _ => ⟨x, hx⟩) (by omega)
theorem applyS_len {s : Sv} {e : Ent} : (applyS s e).1.l.length ≤ s.l.length + 1 ∧ (applyS s e).1.tab.length ≤ s.tab.length + 1 := by
  unfold applyS
  split
  · constructor
    · simp
    · simp; omega
  · split
    · constructor <;> simp
    · split
      · constructor <;> simp
      · constructor
        · simp
        · simp; omega
/-- A replica's numbers are small. -/
structure PR.Sz (P : PR) : Prop where
  n : 3 ≤ P.n ∧ P.n ≤ 7
  odd : P.n % 2 = 1
  me : P.me < P.n
  vw : P.vw ≤ 1000000
  bs : P.bs ≤ P.cm
  cm : P.cm ≤ P.op
  op : P.op ≤ 1000000
  told : P.told.length = P.n
  voted : P.voted.length = P.n
  came : P.came.length = P.n
  ans : P.ans.length = P.n
  tab : P.sv.tab.length ≤ P.cm
  svl : P.sv.l.length ≤ P.cm
  srt : srt P.sv.tab
  ent : ∀ e, e ∈ P.log → e.c ≤ 1000000 ∧ e.n ≤ 1000000
theorem PR.Sz.commit1 {P : PR} (z : P.Sz) (h : P.cm < P.op) {e : Ent} : (Vr.commit1 P e).1.Sz := by
  have := applyS_len (s := P.sv) (e := e)
  exact ⟨z.n, z.odd, z.me, z.vw, by have := z.bs; show P.bs ≤ P.cm + 1; omega, h, z.op, z.told, z.voted, z.came, z.ans, by have := z.tab; show (applyS P.sv e).1.tab.length ≤ P.cm + 1; omega, by have := z.svl; show (applyS P.sv e).1.l.length ≤ P.cm + 1; omega, applyS_srt z.srt, z.ent⟩
theorem PR.Sz.push {P : PR} (z : P.Sz) (h : P.op < 1000000) {e : Ent} (he : e.c ≤ 1000000 ∧ e.n ≤ 1000000) : PR.Sz { P with log := P.log ++ [e] } := by
  have hop : PR.op { P with log := P.log ++ [e] } = P.op + 1 := by unfold PR.op; simp; omega
  exact ⟨z.n, z.odd, z.me, z.vw, z.bs, by rw [hop]; have := z.cm; show P.cm ≤ P.op + 1; omega, by rw [hop]; omega, z.told, z.voted, z.came, z.ans, z.tab, z.svl, z.srt, fun x hx => by
    rcases List.mem_append.1 hx with h1 | h1
    · exact z.ent x h1
    · simp at h1; subst h1; exact he⟩
theorem commitK_len : ∀ (l : List Ent) (P : PR), (commitK l P).2.length ≤ l.length
  | [], P => by simp [commitK]
  | e :: l, P => by
    rw [commitK]
    have := commitK_len l (commit1 P e).1
    have h1 : (commit1 P e).2.length ≤ 1 := by unfold commit1; simp only; split <;> simp
    simp only [List.length_append, List.length_cons]; omega
theorem commitK_keep : ∀ (l : List Ent) (P : PR), (commitK l P).1.op = P.op ∧ (commitK l P).1.vw = P.vw ∧ (commitK l P).1.me = P.me ∧ (commitK l P).1.n = P.n ∧ (commitK l P).1.st = P.st
  | [], P => ⟨rfl, rfl, rfl, rfl, rfl⟩
  | e :: l, P => by
    rw [commitK]
    exact commitK_keep l (commit1 P e).1
theorem commit_len (P : PR) (k : Nat) : (commit P k).2.length ≤ P.op := by
  refine Nat.le_trans (commitK_len _ _) ?_
  unfold PR.todo PR.op
  simp; omega
theorem commit_step {P : PR} {k : Nat} {e : Ent} (hk : P.cm < k) (hb : P.bs ≤ P.cm) (he : P.log[P.cm - P.bs]? = some e) : commit P k = ((commit (commit1 P e).1 k).1, (commit1 P e).2 ++ (commit (commit1 P e).1 k).2) := by
  have hlt : P.cm - P.bs < P.log.length := (List.getElem?_eq_some_iff.1 he).1
  have heq : P.log[P.cm - P.bs] = e := (List.getElem?_eq_some_iff.1 he).2
  have h1 : P.todo k = e :: (commit1 P e).1.todo k := by
    unfold PR.todo
    rw [List.drop_eq_getElem_cons hlt, heq, show k - P.cm = (k - (P.cm + 1)) + 1 by omega, List.take_succ_cons]
    show e :: ((P.log.drop (P.cm - P.bs + 1)).take (k - (P.cm + 1))) = e :: ((P.log.drop (P.cm + 1 - P.bs)).take (k - (P.cm + 1)))
    rw [show P.cm - P.bs + 1 = P.cm + 1 - P.bs by omega]
  unfold commit
  rw [h1, commitK]
theorem commit_done {P : PR} {k : Nat} (hb : P.bs ≤ P.cm) (h : k ≤ P.cm ∨ P.op ≤ P.cm) : commit P k = (P, []) := by
  have : P.todo k = [] := by
    unfold PR.todo PR.op at *
    rcases h with h | h
    · rw [show k - P.cm = 0 by omega, List.take_zero]
    · rw [List.drop_eq_nil_iff.2 (by omega), List.take_nil]
  unfold commit
  rw [this]; rfl
end Vr
