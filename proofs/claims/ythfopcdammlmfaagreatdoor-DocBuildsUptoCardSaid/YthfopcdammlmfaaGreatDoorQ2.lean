/- The heap's Check finds nothing wrong. -/
/- Merged by a program of ours: Q3 Q4. -/
import Derived.Test.YthfopcdammlmfaaGreatDoorQ1
set_option maxRecDepth 10000
set_option linter.all false
set_option linter.unusedSimpArgs false
set_option linter.unusedVariables false
/- The heap's walk and Check. -/
namespace Go.Proofs.YthfopcdammlmfaaGreatDoor
open Go.Tm
/-- So many numbers below n, each once, are no more than n. -/
theorem few_below : ∀ (n : Nat) (l : List Nat), l.Nodup → (∀ x, x ∈ l → x < n) → l.length ≤ n
  | 0, l, _, h => by
    cases l with
    | nil => simp
    | cons a l => have := h a (by simp); omega
  | n + 1, l, hd, h => by
    have ih := few_below n (l.erase n) (hd.erase n) (fun x hx => by
      have h1 := (hd.mem_erase_iff).1 hx
      have := h x h1.2
      have := h1.1
      omega)
    by_cases hm : n ∈ l
    · rw [List.length_erase_of_mem hm] at ih; omega
    · rw [List.erase_of_not_mem hm] at ih; omega
/-- What the walk has met. -/
def Met (O : List Ob) (xs : List Nat) : Prop := xs.Nodup ∧ ∀ x, x ∈ xs → (obj O x).isSome = true
theorem Met.len {O : List Ob} {xs : List Nat} (h : Met O xs) : xs.length ≤ O.length := by
  have h1 : ∀ x, x ∈ xs → 4294967297 ≤ x ∧ x < 4294967297 + O.length := fun x hx => by
    obtain ⟨o, ho⟩ := Option.isSome_iff_exists.1 (h.2 x hx)
    have := objOf_some ho
    omega
  have h2 := few_below O.length (xs.map fun x => x - 4294967297) (by
    have := h.1
    unfold List.Nodup at this ⊢
    rw [List.pairwise_map]
    exact this.imp_of_mem fun ha hb hne => by have := h1 _ ha; have := h1 _ hb; omega) (fun x hx => by
    obtain ⟨y, hy, rfl⟩ := List.mem_map.1 hx
    have := h1 y hy
    omega)
  simpa using h2
theorem Met.meet {O : List Ob} {xs : List Nat} (h : Met O xs) (y : Nat) : Met O (meetO O xs y) := by
  unfold meetO
  split
  · rename_i hc
    refine ⟨?_, fun x hx => ?_⟩
    · rw [List.nodup_append]
      refine ⟨h.1, by simp, fun a ha b hb => ?_⟩
      simp only [List.mem_singleton] at hb
      subst hb
      intro e; subst e; exact hc.2 ha
    · rcases List.mem_append.1 hx with h1 | h1
      · exact h.2 x h1
      · simp only [List.mem_singleton] at h1; subst h1; exact hc.1
  · exact h
theorem Met.nil (O : List Ob) : Met O [] := ⟨List.nodup_nil, fun x hx => by cases hx⟩
theorem IsO.facts {E : Env} {h : Heap} {L : HL} {W nS : Nat} {R : List Nat} {O : List Ob} (H : IsO E h L W nS R O) : O.length ≤ 1048576 ∧ R.length = 16 ∧ acells E h ⟨L.ph, 2, none⟩ 16 = some (u64s R) ∧
    ∀ (i : Nat) (o : Ob), O[i]? = some o → o.refs ≤ o.ws.length ∧ o.refs < 8192 ∧ ∀ (k x : Nat), o.ws[k]? = some x → x < 18446744073709551616 := by
  obtain ⟨S, H, w, rfl, rfl, rfl⟩ := H
  have hn := w.len H.ok
  have hnS := H.ok.nS
  have hr := H.ok.roots
  refine ⟨by omega, hr, ?_, fun i o hi => ⟨w.refs i o hi, (w.small H.ok hi).2.1, fun k x hx => ?_⟩⟩
  · simp only [acells, H.n_ph, if_false, H.heap]
    rw [if_pos (by simp [hr])]
    simp only [List.drop_succ_cons, List.drop_zero]
    rw [List.take_append_of_le_length (by simp [hr]), List.take_of_length_le (by simp [hr])]
    rfl
  · rw [← w.ws i o hi k x hx]; exact H.ok.w _
theorem ri_at {R : List Nat} (hR : R.length = 16) {i : Nat} (hi : i < 16) : aindex Tryz.prog 82 (.agg (u64s R).toArray) (.int .i64 i) = some (.int .u64 (R[i]'(by omega) : Nat)) := by
  have e : (u64s R)[i]? = some (.int .u64 (R[i]'(by omega) : Nat)) := by
    unfold u64s
    rw [List.getElem?_map, List.getElem?_eq_getElem (by omega)]; rfl
  simp only [aindex, Tryz.underlying82, sz33, apart, ag33]
  rw [if_pos ⟨by omega, by omega⟩]
  simp [e]
variable {E : Env} (hE : EOk E)
include hE
section
variable {h : Heap} {L : HL} {W nS : Nat} {R : List Nat} {O : List Ob} (H : IsO E h L W nS R O) (hW : WF E h) (hR : ∀ r, r ∈ R → r < 18446744073709551616)
include H hW hR
theorem walk_at : CallsTo E 61 [.pointer (some ⟨L.ph, 0, none⟩)] h fun v h' => ∃ xs sl mp, v = .tuple #[sl, mp] ∧ Met O xs ∧ Own h' 33 1 h.next xs.length (u64s xs) sl ∧ Keep h h' ∧ WF E h' := by
  obtain ⟨hOl, hRl, hRc, hOb⟩ := H.facts
  have hb0 := hW.base
  have nb0 : (h.next < E.base) = False := by simp; omega
  have nb1 : (h.next + 1 < E.base) = False := by simp; omega
  have nb3 : (h.next + 3 < E.base) = False := by simp; omega
  have hlt := H.lt hW
  have a2 : h.next + 1 + 1 = h.next + 2 := rfl
  have a3 : h.next + 2 + 1 = h.next + 3 := rfl
  obtain ⟨H3, hH3⟩ : ∃ H3, H3 = (((h.push (.cells [.pointer (some ⟨L.ph, 0, none⟩)] 28 true)).push (.cells [.slice none 0 0] 50 true)).push (.map [] 0)).push (.cells [.map none] 110 true) := ⟨_, rfl⟩
  obtain ⟨H4, hH4⟩ : ∃ H4, H4 = H3.put (h.next + 3) (.cells [.map (some (h.next + 2))] 110 true) := ⟨_, rfl⟩
  have k3 : Keep h H3 := by rw [hH3]; exact ((((Keep.refl h).push hW).push (hW.push _)).push ((hW.push _).push _)).push (((hW.push _).push _).push _)
  have w3 : WF E H3 := by rw [hH3]; exact (((hW.push _).push _).push _).push _
  have g3 : H3.get (h.next + 3) = some (.cells [.map none] 110 true) := by rw [hH3]; simp only [get_push, next_push, if_true]
  have w4 : WF E H4 := by rw [hH4]; exact w3.put g3
  have n4 : H4.next = h.next + 4 := by rw [hH4, hH3]; simp
  have g4 : ∀ b, H4.get b = if h.next + 3 = b then some (.cells [.map (some (h.next + 2))] 110 true) else if h.next + 2 = b then some (.map [] 0) else if h.next + 1 = b then some (.cells [.slice none 0 0] 50 true) else if h.next = b then some (.cells [.pointer (some ⟨L.ph, 0, none⟩)] 28 true) else h.get b := by
    intro b; rw [hH4, hH3]; simp only [get_put, get_push, next_push]; split <;> simp_all
  have k4 : Keep h H4 := ⟨fun b o hb => by
    have := (hW.live b o hb).2
    rw [g4, if_neg (by omega), if_neg (by omega), if_neg (by omega), if_neg (by omega)]; exact hb, by omega⟩
  have S4 : Wk E L h H4 [] := ⟨k4, w4, by omega, by rw [g4, if_neg (by omega), if_neg (by omega), if_neg (by omega), if_pos rfl], ⟨_, by rw [g4, if_neg (by omega), if_neg (by omega), if_pos rfl], .inl ⟨rfl, rfl, rfl⟩⟩, ⟨[], 0, by rw [g4, if_neg (by omega), if_pos rfl], rfl⟩, by rw [g4, if_pos rfl]⟩
  have HO4 := H.keep k4
  obtain ⟨_, _, hRc4, _⟩ := HO4.facts
  have hc1 := S4.c1
  rw [hH4, hH3] at hRc4 hc1
  refine calls_of_runs (fn := Tryz.f61) (by rw [hE.P]; exact Tryz.func61) rfl (by rw [hE.known]; rfl) (by rw [Tryz.ntmps61]; exact Nat.le_of_ble_eq_true rfl) (by decide +kernel) (rs := [.tmp 2, .tmp 3]) rfl (wpc_runs _ _ _ _ ?_)
  simp only [push_cast, seval, hE.P, awrite, wpc_label, wpc_block, nb0, nb1, nb3, a2, a3, ↓hRc4]
  rw [← hH3, ← hH4]
  refine wpc_loop (fun m tm h' => ∃ (i : Nat) (xs : List Nat), m = 16 - i ∧ i ≤ 16 ∧ Met O xs ∧ fget tm 23 = .int .i64 i ∧ fget tm 22 = .agg (u64s R).toArray ∧ fget tm 1 = .pointer (some ⟨h.next, 0, none⟩) ∧ fget tm 4 = .pointer (some ⟨h.next + 1, 0, none⟩) ∧ fget tm 5 = .pointer (some ⟨h.next + 3, 0, none⟩) ∧
    fget tm 6 = .func (.func 112) #[] #[.pointer (some ⟨h.next, 0, none⟩), .pointer (some ⟨h.next + 3, 0, none⟩), .pointer (some ⟨h.next + 1, 0, none⟩)] ∧ Wk E L h h' xs) 16 ?_ ?_
  · exact ⟨0, [], by omega, by omega, Met.nil O, by simp only [push_cast, seval, hE.P, awrite, wpc_label, wpc_block], by simp only [push_cast, seval, hE.P, awrite, wpc_label, wpc_block], by simp only [push_cast, seval, hE.P, awrite, wpc_label, wpc_block], by simp only [push_cast, seval, hE.P, awrite, wpc_label, wpc_block], by simp only [push_cast, seval, hE.P, awrite, wpc_label, wpc_block], by simp only [push_cast, seval, hE.P, awrite, wpc_label, wpc_block], S4⟩
  · rintro m tm h1 ⟨i, xs, rfl, hi, hmet, f23, f22, f1, f4, f5, f6, S1⟩
    have hxl := hmet.len
    simp only [push_cast, seval, hE.P, awrite, wpc_label, wpc_block, f23]
    refine kif_split (fun hb => ?_) (fun hb => ?_)
    · have hi2 : i < 16 := Int.ofNat_lt.1 (show (i : Int) < ((16 : Nat) : Int) from by simpa using hb)
      have hri := ri_at hRl hi2
      obtain ⟨y, hy⟩ : ∃ y, y = R[i]'(by omega) := ⟨_, rfl⟩
      rw [← hy] at hri
      have hyl : y < 18446744073709551616 := by rw [hy]; exact hR _ (List.getElem_mem _)
      obtain ⟨i1, hi1⟩ : ∃ i1, i1 = i + 1 := ⟨_, rfl⟩
      have e1 : (i : Int) + 1 = i1 := by omega
      have e2 : IntKind.i64.wrap (i1 : Int) = i1 := wrN (by omega)
      simp only [push_cast, seval, hE.P, awrite, wpc_label, wpc_block, f23, f22, f6, hri]
      refine (meet_at hE H hW S1 hyl (by omega)).mono ?_
      rintro v h2 ⟨rfl, S2⟩
      simp only [push_cast, seval, hE.P, awrite, wpc_label, wpc_block, f23, f22, f6, f1, f4, f5, e1, e2]
      exact ⟨16 - i1, by omega, i1, _, rfl, by omega, hmet.meet y, rfl, S2⟩
    · simp only [push_cast, seval, hE.P, awrite, wpc_label, wpc_block, f23, f22, f1, f4, f5, f6]
      refine wpc_loop (fun m tm h' => ∃ (i : Nat) (xs : List Nat), m = O.length - i ∧ i ≤ xs.length ∧ Met O xs ∧ fget tm 9 = .int .i64 i ∧ fget tm 1 = .pointer (some ⟨h.next, 0, none⟩) ∧ fget tm 4 = .pointer (some ⟨h.next + 1, 0, none⟩) ∧ fget tm 5 = .pointer (some ⟨h.next + 3, 0, none⟩) ∧
        fget tm 6 = .func (.func 112) #[] #[.pointer (some ⟨h.next, 0, none⟩), .pointer (some ⟨h.next + 3, 0, none⟩), .pointer (some ⟨h.next + 1, 0, none⟩)] ∧ Wk E L h h' xs) O.length ?_ ?_
      · exact ⟨0, xs, by omega, by omega, hmet, by simp only [push_cast, seval, hE.P, awrite, wpc_label, wpc_block], by simp only [push_cast, seval, hE.P, awrite, wpc_label, wpc_block, f1], by simp only [push_cast, seval, hE.P, awrite, wpc_label, wpc_block, f4], by simp only [push_cast, seval, hE.P, awrite, wpc_label, wpc_block, f5], by simp only [push_cast, seval, hE.P, awrite, wpc_label, wpc_block, f6], S1⟩
      · clear f23 f22 f1 f4 f5 f6 hmet hxl S1 hi hb
        clear i xs h1
        rintro m tm h1 ⟨i, xs, rfl, hi, hmet, f9, f1, f4, f5, f6, S1⟩
        have hxl := hmet.len
        obtain ⟨v4, hv4, hown⟩ := S1.l
        obtain ⟨a4, k4', rfl, _⟩ := Own.slice hown
        simp only [push_cast, seval, hE.P, awrite, wpc_label, wpc_block, f9, f4, hv4, nb1]
        refine kif_split (fun hb => ?_) (fun hb => ?_)
        · have hi2 : i < xs.length := by simpa using hb
          obtain ⟨Ga, sla, fza, _⟩ := own_sl S1.wf hown
          obtain ⟨xa, xc, sa1, sa2, sa3⟩ := sla.elem fza hi2
          injection sa1 with s1 s2 s3; subst s1; subst s3
          rw [u64s_at hi2, Nat.mul_one] at sa3
          obtain ⟨x, hx⟩ : ∃ x, x = xs[i] := ⟨_, rfl⟩
          rw [← hx] at sa3
          have hxs := hmet.2 x (by rw [hx]; exact List.getElem_mem hi2)
          obtain ⟨o, ho⟩ := Option.isSome_iff_exists.1 hxs
          obtain ⟨_, ho2, ho3, ho4⟩ := objOf_some ho
          obtain ⟨hr1, hr2, hr3⟩ := hOb _ _ ho2
          have hxl2 : x < 18446744073709551616 := by omega
          have c1 := S1.c1
          simp only [push_cast, seval, hE.P, awrite, wpc_label, wpc_block]
          refine wdraw_calm (by rw [hE.P]; decide +kernel) ?_
          simp only [push_cast, seval, hE.P, awrite, wpc_label, wpc_block, f9, f1, f4, hv4, nb1, c1, nb0]
          rw [ia50 sa2 (by omega) (by omega), kpure_some]
          simp only [push_cast, seval, hE.P, awrite, wpc_label, wpc_block, ↓sa3]
          refine (head_at hE (H.keep S1.keep) S1.wf hxl2).mono ?_
          rintro v h2 ⟨rfl, k2, w2⟩
          rw [ho]
          simp only [push_cast, seval, hE.P, awrite, wpc_label, wpc_block, headO]
          have S2 := S1.up k2 w2
          refine wpc_loop (fun m tm h' => ∃ (j : Nat) (ys : List Nat), m = o.refs - j ∧ j ≤ o.refs ∧ i < ys.length ∧ ys[i]? = some x ∧ Met O ys ∧ fget tm 48 = .int .i64 j ∧ fget tm 47 = .int .i64 o.refs ∧ fget tm 9 = .int .i64 i ∧ fget tm 1 = .pointer (some ⟨h.next, 0, none⟩) ∧ fget tm 4 = .pointer (some ⟨h.next + 1, 0, none⟩) ∧ fget tm 5 = .pointer (some ⟨h.next + 3, 0, none⟩) ∧
            fget tm 6 = .func (.func 112) #[] #[.pointer (some ⟨h.next, 0, none⟩), .pointer (some ⟨h.next + 3, 0, none⟩), .pointer (some ⟨h.next + 1, 0, none⟩)] ∧ Wk E L h h' ys) o.refs ?_ ?_
          · exact ⟨0, xs, by omega, by omega, hi2, by rw [hx]; exact List.getElem?_eq_getElem hi2, hmet, by simp only [push_cast, seval, hE.P, awrite, wpc_label, wpc_block], by simp only [push_cast, seval, hE.P, awrite, wpc_label, wpc_block], by simp only [push_cast, seval, hE.P, awrite, wpc_label, wpc_block, f9], by simp only [push_cast, seval, hE.P, awrite, wpc_label, wpc_block, f1], by simp only [push_cast, seval, hE.P, awrite, wpc_label, wpc_block, f4], by simp only [push_cast, seval, hE.P, awrite, wpc_label, wpc_block, f5], by simp only [push_cast, seval, hE.P, awrite, wpc_label, wpc_block, f6], S2⟩
          · clear f9 f1 f4 f5 f6 hv4 hown sla fza sa2 sa3 c1 S2 k2 w2 h2
            rintro m tm h2 ⟨j, ys, rfl, hj, hiy, hyx, hmy, f48, f47, f9, f1, f4, f5, f6, S2⟩
            have hyl := hmy.len
            simp only [push_cast, seval, hE.P, awrite, wpc_label, wpc_block, f48, f47]
            refine kif_split (fun hb => ?_) (fun hb => ?_)
            · have hj2 : j < o.refs := by simpa using hb
              obtain ⟨v4, hv4, hown⟩ := S2.l
              obtain ⟨a5, k5, rfl, _⟩ := Own.slice hown
              obtain ⟨Ga, sla, fza, _⟩ := own_sl S2.wf hown
              obtain ⟨xb, xc', sa1, sa2, sa3⟩ := sla.elem fza hiy
              injection sa1 with s1 s2 s3; subst s1; subst s3
              rw [u64s_at hiy, Nat.mul_one] at sa3
              have hyx2 : ys[i] = x := by rw [List.getElem?_eq_getElem hiy] at hyx; injection hyx
              rw [hyx2] at sa3
              have c1 := S2.c1
              have hjw : j < o.ws.length := by omega
              have hwl := hr3 j o.ws[j] (List.getElem?_eq_getElem hjw)
              obtain ⟨i1, hi1⟩ : ∃ i1, i1 = j + 1 := ⟨_, rfl⟩
              have e1 : (j : Int) + 1 = i1 := by omega
              have e2 : IntKind.i64.wrap (i1 : Int) = i1 := wrN (by omega)
              simp only [push_cast, seval, hE.P, awrite, wpc_label, wpc_block, f48]
              refine wdraw_calm (by rw [hE.P]; decide +kernel) ?_
              simp only [push_cast, seval, hE.P, awrite, wpc_label, wpc_block, f9, f1, f4, hv4, nb1, c1, nb0]
              rw [ia50 sa2 (by omega) (by omega), kpure_some]
              simp only [push_cast, seval, hE.P, awrite, wpc_label, wpc_block, ↓sa3]
              refine (ref_at hE (H.keep S2.keep) S2.wf hxl2 (i := j) (by omega) (by omega)).mono ?_
              rintro v h3 ⟨rfl, k3, w3⟩
              rw [ho, refO_in hj2 hjw]
              simp only [push_cast, seval, hE.P, awrite, wpc_label, wpc_block, f6]
              refine (meet_at hE H hW (S2.up k3 w3) hwl (by omega)).mono ?_
              rintro v h4 ⟨rfl, S5⟩
              simp only [push_cast, seval, hE.P, awrite, wpc_label, wpc_block, f48, f47, f9, f1, f4, f5, f6, e1, e2]
              have hpre : ∀ {zs : List Nat} {y : Nat}, i < zs.length → zs[i]? = some x → i < (meetO O zs y).length ∧ (meetO O zs y)[i]? = some x := fun {zs y} h1 h2 => by
                unfold meetO; split
                · exact ⟨by simp; omega, by rw [List.getElem?_append_left h1]; exact h2⟩
                · exact ⟨h1, h2⟩
              obtain ⟨p1, p2⟩ := hpre (y := o.ws[j]) hiy hyx
              exact ⟨o.refs - i1, by omega, i1, _, rfl, by omega, p1, p2, hmy.meet _, rfl, S5⟩
            · obtain ⟨i1, hi1⟩ : ∃ i1, i1 = i + 1 := ⟨_, rfl⟩
              have e1 : (i : Int) + 1 = i1 := by omega
              have e2 : IntKind.i64.wrap (i1 : Int) = i1 := wrN (by omega)
              simp only [push_cast, seval, hE.P, awrite, wpc_label, wpc_block, f9, f1, f4, f5, f6, e1, e2]
              exact ⟨O.length - i1, by omega, i1, _, rfl, by omega, hmy, rfl, S2⟩
        · have c5 := S1.c5
          simp only [push_cast, seval, hE.P, awrite, wpc_label, wpc_block]
          refine wdraw_calm (by rw [hE.P]; decide +kernel) ?_
          simp only [push_cast, seval, hE.P, awrite, wpc_label, wpc_block, f4, f5, hv4, nb1, c5, nb3]
          exact ⟨xs, _, _, rfl, hmet, Own.low hown (by omega), S1.keep, S1.wf⟩
end
end Go.Proofs.YthfopcdammlmfaaGreatDoor
namespace Go.Proofs.YthfopcdammlmfaaGreatDoor
open Go.Tm
theorem handles_at {n i : Nat} (h : i < n) : ((u64s (handles n)).drop i).take 1 = [.int .u64 (hOf i : Nat)] := by
  have h1 : i < (handles n).length := by simpa [handles] using h
  have := u64s_at h1
  rw [Nat.mul_one] at this
  rw [this]; simp [handles]
variable {E : Env} (hE : EOk E)
include hE
section
variable {h : Heap} {L : HL} {W nS : Nat} {R : List Nat} {O : List Ob} (H : IsO E h L W nS R O) (hW : WF E h) (hO : RefsOk O) (hR : ∀ r, r ∈ R → r < 18446744073709551616 ∧ (r = 0 ∨ (obj O r).isSome = true))
include H hW hO hR
set_option maxHeartbeats 1000000 in
theorem check_at : CallsTo E 19 [.pointer (some ⟨L.ph, 0, none⟩)] h fun v h' => v = .int .i64 0 ∧ Keep h h' ∧ WF E h' := by
  obtain ⟨hOl, hRl, hRc, hOb⟩ := H.facts
  have hlt := H.lt hW
  have HO := H
  obtain ⟨S, H, w, rfl, rfl, rfl⟩ := H
  have hWm := H.ok.W
  have htop := H.ok.top
  have hwt := w.top
  refine calls_of_runs (fn := Tryz.f19) (by rw [hE.P]; exact Tryz.func19) rfl (by rw [hE.known]; rfl) (by rw [Tryz.ntmps19]; exact Nat.le_of_ble_eq_true rfl) (by decide +kernel) (rs := [.tmp 2]) rfl (wpc_runs _ _ _ _ ?_)
  simp only [push_cast, seval, hE.P, awrite, wpc_label, wpc_block, ↓H.lT]
  refine (tlive_at hE H hW w).mono ?_
  rintro v h1 ⟨hown, k1, w1⟩
  obtain ⟨la, lk, rfl, _⟩ := Own.slice hown
  obtain ⟨Ga, sla, fza, _⟩ := own_sl w1 hown
  simp only [push_cast, seval, hE.P, awrite, wpc_label, wpc_block]
  refine wpc_loop (fun m tm h' => ∃ i : Nat, m = O.length - i ∧ i ≤ O.length ∧ fget tm 35 = .int .i64 i ∧ fget tm 34 = .int .i64 O.length ∧ fget tm 33 = .slice la O.length lk ∧ fget tm 0 = .pointer (some ⟨L.ph, 0, none⟩) ∧ Keep h1 h' ∧ WF E h') O.length ?_ ?_
  · exact ⟨0, by omega, by omega, by simp only [push_cast, seval, hE.P, awrite, wpc_label, wpc_block], by simp only [push_cast, seval, hE.P, awrite, wpc_label, wpc_block], by simp only [push_cast, seval, hE.P, awrite, wpc_label, wpc_block], by simp only [push_cast, seval, hE.P, awrite, wpc_label, wpc_block], Keep.refl _, w1⟩
  · rintro m tm h2 ⟨i, rfl, hi, f35, f34, f33, f0, k2, w2⟩
    simp only [push_cast, seval, hE.P, awrite, wpc_label, wpc_block, f35, f34]
    refine kif_split (fun hb => ?_) (fun hb => ?_)
    · have hi2 : i < O.length := by simpa using hb
      obtain ⟨xa, xc, sa1, sa2, sa3⟩ := sla.elem (fza.keep k2) hi2
      injection sa1 with s1 s2 s3; subst s1; subst s3
      rw [Nat.mul_one, handles_at hi2] at sa3
      obtain ⟨i1, hi1⟩ : ∃ i1, i1 = i + 1 := ⟨_, rfl⟩
      have e1 : (i : Int) + 1 = i1 := by omega
      have e2 : IntKind.i64.wrap (i1 : Int) = i1 := wrN (by omega)
      have H2 := H.keep (k1.trans k2)
      have hhl : hOf i < 18446744073709551616 := by unfold hOf; omega
      have hho := objOf_h hi2
      obtain ⟨o, ho⟩ : ∃ o, O[i]? = some o := ⟨_, List.getElem?_eq_getElem hi2⟩
      have hob : obj O (hOf i) = some o := by unfold obj hOf; rw [if_pos (by omega)]; have : 4294967297 + i - 4294967297 = i := by omega
                                              rw [this]; exact ho
      simp only [push_cast, seval, hE.P, awrite, wpc_label, wpc_block, f35, f33]
      rw [ia50 sa2 (by omega) (by omega), kpure_some]
      simp only [push_cast, seval, hE.P, awrite, wpc_label, wpc_block, f0, ↓sa3, ↓H2.lT]
      refine (tslot_at hE H2 hhl).mono ?_
      rintro v h3 ⟨rfl, rfl⟩
      rw [w.slot H.ok hhl, hho]
      simp only [push_cast, seval, hE.P, awrite, wpc_label, wpc_block, errOf, Option.getD_some, f0]
      refine (find_some hE H2 w w2 hhl hob).mono ?_
      rintro v h4 ⟨rfl, k4, w4⟩
      obtain ⟨z, hz⟩ : ∃ z, z = hOf i - 4294967297 := ⟨_, rfl⟩
      have hzi : z = i := by unfold hOf at hz; omega
      rw [← hz, hzi]
      have k5 := k4.push (o := .cells [.int .i64 o.tag, .int .i64 o.refs, .int .i64 o.ws.length, .bool false, .int .i64 i] 103 true) w4
      have w5 := w4.push (.cells [.int .i64 o.tag, .int .i64 o.refs, .int .i64 o.ws.length, .bool false, .int .i64 i] 103 true)
      simp only [push_cast, seval, hE.P, awrite, wpc_label, wpc_block, w4.nb, w4.nb0, f35, f34, f33, f0, e1, e2]
      exact ⟨O.length - i1, by omega, i1, rfl, by omega, rfl, k2.trans k5, w5⟩
    · have H2 := H.keep (k1.trans k2)
      simp only [push_cast, seval, hE.P, awrite, wpc_label, wpc_block, f0, ↓H2.lA]
      refine (afirst_at hE H2 w).mono ?_
      rintro v h3 ⟨rfl, rfl⟩
      simp only [push_cast, seval, hE.P, awrite, wpc_label, wpc_block]
      refine wpc_loop (fun m tm h' => ∃ i : Nat, m = O.length - i ∧ i ≤ O.length ∧ fget tm 10 = .int .i64 (posO O i) ∧ fget tm 0 = .pointer (some ⟨L.ph, 0, none⟩) ∧ Keep h h' ∧ WF E h') O.length ?_ ?_
      · exact ⟨0, by omega, by omega, by simp only [push_cast, seval, hE.P, awrite, wpc_label, wpc_block]; rfl, by simp only [push_cast, seval, hE.P, awrite, wpc_label, wpc_block, f0], k1.trans k2, w2⟩
      · clear f35 f34 f33 f0 hb H2 k2 w2 hi
        clear i h3
        rintro m tm h3 ⟨i, rfl, hi, f10, f0, k3, w3⟩
        have H3 := H.keep k3
        have HO3 := HO.keep k3
        simp only [push_cast, seval, hE.P, awrite, wpc_label, wpc_block, f10, f0, ↓H3.lA]
        refine (otop_at hE HO3).mono ?_
        rintro v h4 ⟨rfl, rfl⟩
        by_cases hi2 : i < O.length
        · obtain ⟨o, ho⟩ : ∃ o, O[i]? = some o := ⟨_, List.getElem?_eq_getElem hi2⟩
          have hroom := w.room H.ok ho
          have hA := w.isAt_ H.ok ho
          have hH := w.headAt_ H.ok ho
          have hA2 : (decide (posO O i < S.W) && bitB S.bg (posO O i)) = true := hA
          have hne : ((posO O i : Int) != (allO O : Int)) = true := by simp; omega
          have hhl : hOf i < 18446744073709551616 := by unfold hOf; omega
          have hho := objOf_h hi2
          have hat := w.at_ i o ho
          simp only [push_cast, seval, hE.P, awrite, wpc_label, wpc_block, hne, f10, f0, ↓H3.lA]
          refine (ahead_at hE H3 w3 (a := posO O i) (by omega)).mono ?_
          rintro v h5 ⟨rfl, k5, w5⟩
          rw [hH]
          have k6 := k5.push (o := .cells [.int .i64 o.tag, .int .i64 o.refs, .int .i64 o.ws.length, .bool false, .int .i64 i] 103 true) w5
          have w6 := w5.push (.cells [.int .i64 o.tag, .int .i64 o.refs, .int .i64 o.ws.length, .bool false, .int .i64 i] 103 true)
          have H6 := H3.keep k6
          simp only [push_cast, seval, hE.P, awrite, wpc_label, wpc_block, hA, if_true, w5.nb, w5.nb0]
          refine wdraw_calm (by rw [hE.P]; decide +kernel) ?_
          simp only [push_cast, seval, hE.P, awrite, wpc_label, wpc_block, w5.nb, w5.nb0, f0, ↓H6.lT]
          refine (tof_at hE H6 w hi2).mono ?_
          rintro v h7 ⟨rfl, rfl⟩
          simp only [push_cast, seval, hE.P, awrite, wpc_label, wpc_block, f0, ↓H6.lT]
          refine (tat_at hE H6 hhl).mono ?_
          rintro v h7 ⟨rfl, rfl⟩
          rw [w.slot H.ok hhl, hho]
          simp only [hat]
          simp only [push_cast, seval, hE.P, awrite, wpc_label, wpc_block, errOf, f0, f10, ↓H6.lA]
          refine (anext_at hE H6 w6 w ho).mono ?_
          rintro v h7 ⟨rfl, k7, w7⟩
          simp only [push_cast, seval, hE.P, awrite, wpc_label, wpc_block, f0]
          exact ⟨O.length - (i + 1), by omega, i + 1, rfl, by omega, rfl, (k3.trans k6).trans k7, w7⟩
        · have hie : i = O.length := by omega
          have hne : ((posO O i : Int) != (allO O : Int)) = false := by rw [hie, posO_all]; simp
          obtain ⟨_, _, hRc3, _⟩ := HO3.facts
          simp only [push_cast, seval, hE.P, awrite, wpc_label, wpc_block, hne, f0, ↓hRc3]
          refine wpc_loop (fun m tm h' => ∃ i : Nat, m = 16 - i ∧ i ≤ 16 ∧ fget tm 126 = .int .i64 i ∧ fget tm 125 = .agg (u64s S.roots).toArray ∧ fget tm 0 = .pointer (some ⟨L.ph, 0, none⟩) ∧ h' = h4) 16 ?_ ?_
          · exact ⟨0, by omega, by omega, by simp only [push_cast, seval, hE.P, awrite, wpc_label, wpc_block], by simp only [push_cast, seval, hE.P, awrite, wpc_label, wpc_block], by simp only [push_cast, seval, hE.P, awrite, wpc_label, wpc_block, f0], rfl⟩
          · clear f10 f0 hi hie hne hi2
            clear i
            rintro m tm h5 ⟨i, rfl, hi, f126, f125, f0, rfl⟩
            simp only [push_cast, seval, hE.P, awrite, wpc_label, wpc_block, f126]
            refine kif_split (fun hb => ?_) (fun hb => ?_)
            · have hi2 : i < 16 := Int.ofNat_lt.1 (show (i : Int) < ((16 : Nat) : Int) from by simpa using hb)
              have hri := ri_at hRl hi2
              obtain ⟨y, hy⟩ : ∃ y, y = S.roots[i]'(by omega) := ⟨_, rfl⟩
              rw [← hy] at hri
              obtain ⟨hyl, hyo⟩ := hR y (by rw [hy]; exact List.getElem_mem _)
              obtain ⟨i1, hi1⟩ : ∃ i1, i1 = i + 1 := ⟨_, rfl⟩
              have e1 : (i : Int) + 1 = i1 := by omega
              have e2 : IntKind.i64.wrap (i1 : Int) = i1 := wrN (by omega)
              simp only [push_cast, seval, hE.P, awrite, wpc_label, wpc_block, f126, f125, f0, hri]
              refine (may_at hE HO3 hyl).mono ?_
              rintro v h6 ⟨rfl, rfl⟩
              rw [if_pos hyo]
              simp only [push_cast, seval, hE.P, awrite, wpc_label, wpc_block, f126, f125, f0, e1, e2]
              exact ⟨16 - i1, by omega, i1, rfl, by omega, rfl⟩
            · clear f126 f125 hRc3
              simp only [push_cast, seval, hE.P, awrite, wpc_label, wpc_block, f0]
              refine (walk_at hE HO3 w3 (fun r hr => (hR r hr).1)).mono ?_
              rintro v h6 ⟨xs, sl, mp, rfl, hmet, hown2, k6, w6⟩
              obtain ⟨va, vk, rfl, _⟩ := Own.slice hown2
              obtain ⟨Gx, slx, fzx, _⟩ := own_sl w6 hown2
              have hxl := hmet.len
              simp only [push_cast, seval, hE.P, awrite, wpc_label, wpc_block]
              refine wpc_loop (fun m tm h' => ∃ i : Nat, m = xs.length - i ∧ i ≤ xs.length ∧ fget tm 141 = .int .i64 i ∧ fget tm 140 = .int .i64 xs.length ∧ fget tm 139 = .slice va xs.length vk ∧ fget tm 0 = .pointer (some ⟨L.ph, 0, none⟩) ∧ Keep h6 h' ∧ WF E h') xs.length ?_ ?_
              · exact ⟨0, by omega, by omega, by simp only [push_cast, seval, hE.P, awrite, wpc_label, wpc_block], by simp only [push_cast, seval, hE.P, awrite, wpc_label, wpc_block], by simp only [push_cast, seval, hE.P, awrite, wpc_label, wpc_block], by simp only [push_cast, seval, hE.P, awrite, wpc_label, wpc_block, f0], Keep.refl _, w6⟩
              · clear f0 hi hb
                clear i
                rintro m tm h7 ⟨i, rfl, hi, f141, f140, f139, f0, k7, w7⟩
                have k37 := (k3.trans k6).trans k7
                simp only [push_cast, seval, hE.P, awrite, wpc_label, wpc_block, f141, f140]
                refine kif_split (fun hb => ?_) (fun hb => ?_)
                · have hi2 : i < xs.length := by simpa using hb
                  obtain ⟨xa, xc, sa1, sa2, sa3⟩ := slx.elem (fzx.keep k7) hi2
                  injection sa1 with s1 s2 s3; subst s1; subst s3
                  rw [u64s_at hi2, Nat.mul_one] at sa3
                  obtain ⟨x, hx⟩ : ∃ x, x = xs[i] := ⟨_, rfl⟩
                  rw [← hx] at sa3
                  obtain ⟨o, ho⟩ := Option.isSome_iff_exists.1 (hmet.2 x (by rw [hx]; exact List.getElem_mem hi2))
                  obtain ⟨_, ho2, ho3, ho4⟩ := objOf_some ho
                  obtain ⟨hr1, hr2, hr3⟩ := hOb _ _ ho2
                  have hxl2 : x < 18446744073709551616 := by omega
                  simp only [push_cast, seval, hE.P, awrite, wpc_label, wpc_block, f141, f139]
                  rw [ia50 sa2 (by omega) (by omega), kpure_some]
                  simp only [push_cast, seval, hE.P, awrite, wpc_label, wpc_block, f0, ↓sa3]
                  refine (head_at hE (HO.keep k37) w7 hxl2).mono ?_
                  rintro v h8 ⟨rfl, k8, w8⟩
                  rw [ho]
                  simp only [push_cast, seval, hE.P, awrite, wpc_label, wpc_block, headO]
                  refine wpc_loop (fun m tm h' => ∃ j : Nat, m = o.refs - j ∧ j ≤ o.refs ∧ fget tm 154 = .int .i64 j ∧ fget tm 153 = .int .i64 o.refs ∧ fget tm 21 = .int .u64 x ∧ fget tm 141 = .int .i64 i ∧ fget tm 140 = .int .i64 xs.length ∧ fget tm 139 = .slice (some xa) xs.length vk ∧ fget tm 0 = .pointer (some ⟨L.ph, 0, none⟩) ∧ Keep h7 h' ∧ WF E h') o.refs ?_ ?_
                  · exact ⟨0, by omega, by omega, by simp only [push_cast, seval, hE.P, awrite, wpc_label, wpc_block], by simp only [push_cast, seval, hE.P, awrite, wpc_label, wpc_block], by simp only [push_cast, seval, hE.P, awrite, wpc_label, wpc_block], by simp only [push_cast, seval, hE.P, awrite, wpc_label, wpc_block, f141], by simp only [push_cast, seval, hE.P, awrite, wpc_label, wpc_block, f140], by simp only [push_cast, seval, hE.P, awrite, wpc_label, wpc_block, f139], by simp only [push_cast, seval, hE.P, awrite, wpc_label, wpc_block, f0], k8, w8⟩
                  · clear f141 f140 f139 f0 k8 w8 h8
                    rintro m tm h8 ⟨j, rfl, hj, f154, f153, f21, f141, f140, f139, f0, k8, w8⟩
                    simp only [push_cast, seval, hE.P, awrite, wpc_label, wpc_block, f154, f153]
                    refine kif_split (fun hb => ?_) (fun hb => ?_)
                    · have hj2 : j < o.refs := by simpa using hb
                      have hjw : j < o.ws.length := by omega
                      have hwl := hr3 j o.ws[j] (List.getElem?_eq_getElem hjw)
                      have hwo := hO _ o ho2 j o.ws[j] hj2 (List.getElem?_eq_getElem hjw)
                      obtain ⟨i1, hi1⟩ : ∃ i1, i1 = j + 1 := ⟨_, rfl⟩
                      have e1 : (j : Int) + 1 = i1 := by omega
                      have e2 : IntKind.i64.wrap (i1 : Int) = i1 := wrN (by omega)
                      simp only [push_cast, seval, hE.P, awrite, wpc_label, wpc_block, f154, f21, f0]
                      refine (ref_at hE (HO.keep (k37.trans k8)) w8 hxl2 (i := j) (by omega) (by omega)).mono ?_
                      rintro v h9 ⟨rfl, k9, w9⟩
                      rw [ho, refO_in hj2 hjw]
                      simp only [push_cast, seval, hE.P, awrite, wpc_label, wpc_block, f0]
                      refine (may_at hE (HO.keep ((k37.trans k8).trans k9)) hwl).mono ?_
                      rintro v h10 ⟨rfl, rfl⟩
                      rw [if_pos hwo]
                      simp only [push_cast, seval, hE.P, awrite, wpc_label, wpc_block, f154, f153, f21, f141, f140, f139, f0, e1, e2]
                      exact ⟨o.refs - i1, by omega, i1, rfl, by omega, rfl, k8.trans k9, w9⟩
                    · obtain ⟨i1, hi1⟩ : ∃ i1, i1 = i + 1 := ⟨_, rfl⟩
                      have e1 : (i : Int) + 1 = i1 := by omega
                      have e2 : IntKind.i64.wrap (i1 : Int) = i1 := wrN (by omega)
                      simp only [push_cast, seval, hE.P, awrite, wpc_label, wpc_block, f141, f140, f139, f0, e1, e2]
                      exact ⟨xs.length - i1, by omega, i1, rfl, by omega, rfl, k7.trans k8, w8⟩
                · simp only [push_cast, seval, hE.P, awrite, wpc_label, wpc_block]
                  exact ⟨k37, w7⟩
end
end Go.Proofs.YthfopcdammlmfaaGreatDoor
