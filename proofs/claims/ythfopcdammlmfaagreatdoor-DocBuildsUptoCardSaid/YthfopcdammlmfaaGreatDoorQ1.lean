/- The heap's walk: what is reached, each once. -/
/- Merged by a program of ours: Q1 Q2. -/
import Derived.Test.YthfopcdammlmfaaGreatDoorC6
import Derived.Test.YthfopcdammlmfaaGreatDoorA9
import Derived.Test.YthfopcdammlmfaaGreatDoorD2
set_option maxRecDepth 10000
set_option linter.all false
set_option linter.unusedSimpArgs false
set_option linter.unusedVariables false
/- The heap: a root set; the table's live handles; the arena's objects in their order. -/
namespace Go.Proofs.YthfopcdammlmfaaGreatDoor
open Go.Tm
/-- No reference but to what is there. -/
def RefsOk (O : List Ob) : Prop := ∀ (i : Nat) (o : Ob), O[i]? = some o → ∀ (k x : Nat), k < o.refs → o.ws[k]? = some x → x = 0 ∨ (obj O x).isSome = true
theorem splice_root {A B w : Value} {R : List Value} {i : Nat} {x : Value} (hi : i < R.length) : splice (A :: B :: (R ++ [w])) (2 + i) [x] = A :: B :: (R.set i x ++ [w]) := by
  have e : 2 + i = i + 1 + 1 := by omega
  rw [e]
  unfold splice
  simp only [List.length_cons, List.length_nil, List.take_succ_cons, List.cons_append]
  have e2 : i + 1 + 1 + (0 + 1) = (i + 1) + 1 + 1 := by omega
  rw [e2, List.drop_succ_cons, List.drop_succ_cons, List.take_append_of_le_length (by omega), List.drop_append_of_le_length (by omega), List.set_eq_take_append_cons_drop, if_pos hi]
  simp
section
variable {E : Env} {h : Heap} {L : HL} {S : HS} (H : IsH E h L S) (hW : WF E h)
include H hW
theorem IsH.wRoot {i x : Nat} (hi : i < 16) : Wrote E h L { S with roots := S.roots.set i x } (awrite h ⟨L.ph, 2 + i, none⟩ [.int .u64 x]) := by
  have hl := H.ok.roots
  have hn := H.ne
  refine ⟨_, awrite_of H.heap (by simp [hl]; omega) rfl, ?_⟩
  rw [splice_root (by simpa [hl] using hi)]
  refine ⟨⟨{ H.ok with roots := by simp [hl] }, H.nd, H.base, ?_, ?_, ?_, ?_, ?_, ?_⟩, put_keepB (by simp [HL.blocks]), hW.put H.heap⟩ <;> rw [get_put]
  · rw [if_pos rfl]; simp [List.map_set]
  · rw [if_neg (by omega)]; exact H.arena
  · rw [if_neg (by omega)]; exact H.table
  · rw [if_neg (by omega)]; exact H.words
  · rw [if_neg (by omega)]; exact H.begins
  · rw [if_neg (by omega)]; exact H.slots
end
theorem Wf.roots {S : HS} {O : List Ob} (w : Wf S O) (R : List Nat) : Wf { S with roots := R } O :=
  ⟨w.freed, w.fresh, w.cnt, w.wt, w.opn, w.gen, w.out, w.taken, w.at_, w.is, w.head, w.refs, w.ws, w.top⟩
theorem ra_at {a : Addr} (ha : a.spot = none) {i : Nat} (hi : i < 16) : aindexAddr Tryz.prog 82 (.pointer (some a)) (.int .i64 i) = some (.pointer (some ⟨a.block, a.off + i, none⟩)) := by
  simp [aindexAddr, Tryz.underlying82, sz33, ha, addo, hi]
  omega
variable {E : Env} (hE : EOk E)
include hE
section
variable {h : Heap} {L : HL} {W nS : Nat} {R : List Nat} {O : List Ob} (H : IsO E h L W nS R O) (hW : WF E h)
include H hW
theorem setRoot_at {i y : Nat} (hi : i < 16) (hy : y < 18446744073709551616) (hm : y = 0 ∨ (obj O y).isSome = true) :
    CallsTo E 18 [.pointer (some ⟨L.ph, 0, none⟩), .int .i64 i, .int .u64 y] h fun v h' =>
    v = .int .i64 0 ∧ IsO E h' L W nS (R.set i y) O ∧ KeepB L h h' ∧ WF E h' := by
  have HO := H
  obtain ⟨S, H, w, rfl, rfl, rfl⟩ := H
  have e1 : decide ((i : Int) < 0) = false := by simp
  have e2 : decide ((i : Int) ≥ 16) = false := by simp; omega
  refine calls_of_runs (fn := Tryz.f18) (by rw [hE.P]; exact Tryz.func18) rfl (by rw [hE.known]; rfl) (by rw [Tryz.ntmps18]; exact Nat.le_of_ble_eq_true rfl) (by decide +kernel) (rs := [.tmp 6]) rfl (wpc_runs _ _ _ _ ?_)
  simp only [push_cast, seval, hE.P, wpc_label, wpc_block, e1, e2]
  refine (may_at hE HO hy).mono ?_
  rintro v h3 ⟨rfl, rfl⟩
  simp only [if_pos hm]
  obtain ⟨h4, hw4, H4, k4, w4⟩ := H.wRoot hW (i := i) (x := y) hi
  simp only [push_cast, seval, hE.P, wpc_label, wpc_block]
  rw [ra_at rfl hi, kpure_some]
  simp only [push_cast, seval, hE.P, wpc_label, wpc_block, hw4]
  have HO4 : IsO E h4 L S.W S.nS (S.roots.set i y) O := ⟨_, H4, w.roots _, rfl, rfl, rfl⟩
  refine (linked_at hE HO4).mono ?_
  rintro v h5 ⟨rfl, rfl⟩
  simp only [push_cast, seval, hE.P, wpc_label, wpc_block]
  exact ⟨HO4, k4, w4⟩
end
section
variable {h : Heap} {L : HL} {S : HS} (H : IsH E h L S)
include H
theorem afrom_at {O : List Ob} (w : Wf S O) {a : Nat} : CallsTo E 109 [.pointer (some ⟨L.pa, 0, none⟩), .int .i64 a] h fun v h' => v = .int .i64 a ∧ h' = h := by
  have ho := H.lOpen
  rw [w.opn] at ho
  refine calls_of_runs (fn := Tryz.f109) (by rw [hE.P]; exact Tryz.func109) rfl (by rw [hE.known]; rfl) (by rw [Tryz.ntmps109]; exact Nat.le_of_ble_eq_true rfl) (by decide +kernel) (rs := [.tmp 4]) rfl (wpc_runs _ _ _ _ ?_)
  simp only [push_cast, seval, hE.P, awrite, wpc_label, wpc_block, ↓ho]
theorem afirst_at {O : List Ob} (w : Wf S O) : CallsTo E 56 [.pointer (some ⟨L.pa, 0, none⟩)] h fun v h' => v = .int .i64 0 ∧ h' = h := by
  refine calls_of_runs (fn := Tryz.f56) (by rw [hE.P]; exact Tryz.func56) rfl (by rw [hE.known]; rfl) (by rw [Tryz.ntmps56]; exact Nat.le_of_ble_eq_true rfl) (by decide +kernel) (rs := [.tmp 2]) rfl (wpc_runs _ _ _ _ ?_)
  simp only [push_cast, seval, hE.P, awrite, wpc_label, wpc_block]
  refine (afrom_at hE H w (a := 0)).mono ?_
  rintro v h1 ⟨rfl, rfl⟩
  simp only [push_cast, seval, hE.P, awrite, wpc_label, wpc_block]
theorem anext_at (hW : WF E h) {O : List Ob} (w : Wf S O) {i : Nat} {o : Ob} (hi : O[i]? = some o) : CallsTo E 60 [.pointer (some ⟨L.pa, 0, none⟩), .int .i64 (posO O i)] h fun v h' => v = .tuple #[.int .i64 (posO O (i + 1)), .int .i64 0] ∧ Keep h h' ∧ WF E h' := by
  have hroom := w.room H.ok hi
  have htop := H.ok.top
  have hWm := H.ok.W
  have hA := w.isAt_ H.ok hi
  have hH := w.headAt_ H.ok hi
  have hp := posO_succ hi
  refine calls_of_runs (fn := Tryz.f60) (by rw [hE.P]; exact Tryz.func60) rfl (by rw [hE.known]; rfl) (by rw [Tryz.ntmps60]; exact Nat.le_of_ble_eq_true rfl) (by decide +kernel) (rs := [.tmp 4, .tmp 5]) rfl (wpc_runs _ _ _ _ ?_)
  simp only [push_cast, seval, hE.P, awrite, wpc_label, wpc_block]
  refine (ahead_at hE H hW (a := posO O i) (by omega)).mono ?_
  rintro v h1 ⟨rfl, k1, w1⟩
  rw [hH]
  have hA2 : (decide (posO O i < S.W) && bitB S.bg (posO O i)) = true := hA
  have k2 := k1.push (o := .cells [.int .i64 o.tag, .int .i64 o.refs, .int .i64 o.ws.length, .bool false, .int .i64 i] 103 true) w1
  have w2 := w1.push (.cells [.int .i64 o.tag, .int .i64 o.refs, .int .i64 o.ws.length, .bool false, .int .i64 i] 103 true)
  simp only [push_cast, seval, hE.P, awrite, wpc_label, wpc_block, hA, if_true, w1.nb, w1.nb0]
  obtain ⟨q, hq⟩ : ∃ q, q = posO O i + 1 := ⟨_, rfl⟩
  have e1 : (posO O i : Int) + 1 = q := by omega
  have e2 : IntKind.i64.wrap (q : Int) = q := wrN (by omega)
  have e3 : (q : Int) + o.ws.length = posO O (i + 1) := by omega
  have e4 : IntKind.i64.wrap (posO O (i + 1) : Int) = posO O (i + 1) := wrN (by omega)
  simp only [push_cast, seval, hE.P, awrite, wpc_label, wpc_block, e1, e2, e3, e4]
  refine (afrom_at hE (H.keep k2) w (a := posO O (i + 1))).mono ?_
  rintro v h3 ⟨rfl, rfl⟩
  simp only [push_cast, seval, hE.P, awrite, wpc_label, wpc_block]
  exact ⟨k2, w2⟩
theorem tof_at {O : List Ob} (w : Wf S O) {i : Nat} (hi : i < O.length) : CallsTo E 58 [.pointer (some ⟨L.pt, 0, none⟩), .int .i64 i] h fun v h' => v = .tuple #[.int .u64 (hOf i), .int .i64 0] ∧ h' = h := by
  have hn := w.len H.ok
  have hnS := H.ok.nS
  have e1 : decide ((i : Int) < 0) = false := by simp
  have e2 : decide ((i : Int) ≥ S.nS) = false := by simp; omega
  have ht : (S.sl i).taken = true := w.taken _ _ (List.getElem?_eq_getElem hi)
  have h1 := H.lTaken (i := i) (by omega)
  rw [ht] at h1
  have hh : hnd S i = hOf i := by unfold hnd hOf; rw [w.gen _ (by omega)]; omega
  refine calls_of_runs (fn := Tryz.f58) (by rw [hE.P]; exact Tryz.func58) rfl (by rw [hE.known]; rfl) (by rw [Tryz.ntmps58]; exact Nat.le_of_ble_eq_true rfl) (by decide +kernel) (rs := [.tmp 4, .tmp 5]) rfl (wpc_runs _ _ _ _ ?_)
  simp only [push_cast, seval, hE.P, awrite, wpc_label, wpc_block, e1, e2, ↓H.lSlots]
  rw [ia92 rfl (by omega) (by omega), kpure_some]
  simp only [push_cast, seval, hE.P, awrite, wpc_label, wpc_block, ↓h1]
  refine (thandle_at hE H (i := i) (by omega)).mono ?_
  rintro v h1 ⟨rfl, rfl⟩
  rw [hh]
  simp only [push_cast, seval, hE.P, awrite, wpc_label, wpc_block]
/-- The handles of the objects, in their order. -/
def handles (n : Nat) : List Nat := (List.range n).map hOf
theorem tlive_at (hW : WF E h) {O : List Ob} (w : Wf S O) : CallsTo E 53 [.pointer (some ⟨L.pt, 0, none⟩)] h fun v h' =>
    Own h' 33 1 h.next O.length (u64s (handles O.length)) v ∧ Keep h h' ∧ WF E h' := by
  have hn := w.len H.ok
  have hnS := H.ok.nS
  have hlt : ∀ b, b ∈ L.blocks → b < h.next := fun b hb => ((show IsO E h L S.W S.nS S.roots O from ⟨S, H, w, rfl, rfl, rfl⟩).lt hW b hb).2
  have hc := H.lCnt
  rw [w.cnt] at hc
  refine calls_of_runs (fn := Tryz.f53) (by rw [hE.P]; exact Tryz.func53) rfl (by rw [hE.known]; rfl) (by rw [Tryz.ntmps53]; exact Nat.le_of_ble_eq_true rfl) (by decide +kernel) (rs := [.tmp 2]) rfl (wpc_runs _ _ _ _ ?_)
  simp only [push_cast, seval, hE.P, awrite, wpc_label, wpc_block, ↓hc]
  rw [mk50 (by omega) (by omega) (by omega) (by omega), kalloc_some]
  have o1 := Own.made (h := h) (e := 33) (z := 1) (lo := h.next) (c := O.length) (zs := [.int .u64 0]) rfl (by omega) (by omega)
  have k1 := (Keep.refl h).push (o := .cells (arep O.length [.int .u64 0]) 33 true) hW
  have w1 := hW.push (.cells (arep O.length [.int .u64 0]) 33 true)
  have ecap : (O.length : Int).toNat = O.length := by simp
  rw [ecap]
  generalize h.push (.cells (arep O.length [.int .u64 0]) 33 true) = H1 at *
  have H1s := (H.keep k1).lSlots
  simp only [push_cast, seval, hE.P, awrite, wpc_label, wpc_block, ↓H1s]
  refine wpc_loop (fun m tm h' => ∃ i : Nat, m = S.nS - i ∧ i ≤ S.nS ∧ fget tm 0 = .pointer (some ⟨L.pt, 0, none⟩) ∧ fget tm 15 = .int .i64 i ∧ fget tm 14 = .int .i64 S.nS ∧
    Own h' 33 1 h.next (min i O.length) (u64s (handles (min i O.length))) (fget tm 3) ∧ Keep h h' ∧ WF E h') S.nS ?_ ?_
  · refine ⟨0, by omega, by omega, by simp only [push_cast, seval, hE.P, awrite, wpc_label, wpc_block], by simp only [push_cast, seval, hE.P, awrite, wpc_label, wpc_block], by simp only [push_cast, seval, hE.P, awrite, wpc_label, wpc_block], ?_, k1, w1⟩
    simp only [push_cast, seval, hE.P, awrite, wpc_label, wpc_block]
    rw [Nat.zero_min]; exact o1
  · rintro m tm h2 ⟨i, rfl, hi, f0, f15, f14, hown, hk, hw⟩
    obtain ⟨x3, f3⟩ : ∃ v, fget tm 3 = v := ⟨_, rfl⟩
    rw [f3] at hown
    have H2 := H.keep hk
    simp only [push_cast, seval, hE.P, awrite, wpc_label, wpc_block, f15, f14]
    refine kif_split (fun hb => ?_) (fun hb => ?_)
    · have hlt2 : i < S.nS := by simpa using hb
      obtain ⟨i1, hi1⟩ : ∃ i1, i1 = i + 1 := ⟨_, rfl⟩
      have e1 : (i : Int) + 1 = i1 := by omega
      have e2 : IntKind.i64.wrap (i1 : Int) = i1 := wrN (by omega)
      simp only [push_cast, seval, hE.P, awrite, wpc_label, wpc_block, f0, f15, ↓H2.lSlots]
      rw [ia92 rfl (by omega) (by omega), kpure_some]
      by_cases hio : i < O.length
      · have h1 := H2.lTaken (i := i) hlt2
        rw [w.taken _ _ (List.getElem?_eq_getElem hio)] at h1
        have hh : hnd S i = hOf i := by unfold hnd hOf; rw [w.gen _ hlt2]; omega
        rw [Nat.min_eq_left (by omega)] at hown
        simp only [push_cast, seval, hE.P, awrite, wpc_label, wpc_block, ↓h1, f0, f3]
        refine (thandle_at hE H2 (i := i) hlt2).mono ?_
        rintro v h3 ⟨rfl, rfl⟩
        rw [hh]
        simp only [push_cast, seval, hE.P, awrite, wpc_label, wpc_block, f3]
        rw [bs50 rfl, kalloc_some]
        simp only [push_cast, seval, hE.P, awrite, wpc_label, wpc_block, f3]
        refine kwv_app1 (el50 hE.P) hw (lo := h.next) hk.next hown rfl rfl (by omega) (by omega) ?_
        intro v8 h8 hown8 hbut8 hblk8 hnx8 w8
        simp only [push_cast, seval, hE.P, awrite, wpc_label, wpc_block, f0, f14, f15, e1, e2]
        refine ⟨S.nS - i1, by omega, i1, rfl, by omega, rfl, ?_, ?_, w8⟩
        · rw [Nat.min_eq_left (by omega), hi1]
          have : u64s (handles (i + 1)) = u64s (handles i) ++ [.int .u64 (hOf i : Nat)] := by simp [u64s, handles, List.range_succ]
          rw [this]; exact hown8
        · refine ⟨fun b o hb => hbut8 b o (hk.get b o hb) (fun hh => ?_), by have := hk.next; omega⟩
          have := (hown.lt hw b hh).1
          have := (hW.live b o hb).2
          omega
      · have h1 := H2.lTaken (i := i) hlt2
        rw [w.out _ (by omega)] at h1
        rw [Nat.min_eq_right (by omega)] at hown
        simp only [push_cast, seval, hE.P, awrite, wpc_label, wpc_block, ↓h1, f0, f14, f15, e1, e2, f3]
        refine ⟨S.nS - i1, by omega, i1, rfl, by omega, rfl, ?_, hk, hw⟩
        rw [Nat.min_eq_right (by omega)]
        exact hown
    · have hge : i = S.nS := by have : ¬ i < S.nS := by simpa using hb
                                omega
      subst hge
      rw [Nat.min_eq_right hn] at hown
      simp only [push_cast, seval, hE.P, awrite, wpc_label, wpc_block, f3]
      exact ⟨hown, hk, hw⟩
end
end Go.Proofs.YthfopcdammlmfaaGreatDoor
namespace Go.Proofs.YthfopcdammlmfaaGreatDoor
open Go.Tm
theorem u64s_cons (x : Nat) (l : List Nat) : u64s (x :: l) = .int .u64 (x : Int) :: u64s l := rfl
theorem afind_no : ∀ {es : List MapEntry} {xs : List Nat} {y : Nat}, es.map (·.key) = u64s xs → y ∉ xs → afindKey (.int .u64 (y : Int)) es = none
  | [], _, _, _, _ => rfl
  | e :: es, xs, y, h, hy => by
    cases xs with
    | nil => cases h
    | cons x xs =>
      rw [List.map_cons, u64s_cons] at h
      injection h with h1 h2
      have ih := afind_no h2 (fun hh => hy (List.mem_cons_of_mem _ hh))
      have hne : ¬ (y : Int) = (x : Int) := fun hh => hy (by rw [Int.ofNat_inj.1 hh]; exact List.mem_cons_self)
      simp only [afindKey, h1, if_neg hne, ih, Option.map_none]
theorem afind_yes : ∀ {es : List MapEntry} {xs : List Nat} {y : Nat}, es.map (·.key) = u64s xs → y ∈ xs → ∃ i e, afindKey (.int .u64 (y : Int)) es = some i ∧ es[i]? = some e
  | [], xs, y, h, hy => by
    cases xs with
    | nil => cases hy
    | cons x xs => cases h
  | e :: es, xs, y, h, hy => by
    cases xs with
    | nil => cases hy
    | cons x xs =>
      rw [List.map_cons, u64s_cons] at h
      injection h with h1 h2
      by_cases hne : (y : Int) = (x : Int)
      · exact ⟨0, e, by simp only [afindKey, h1, if_pos hne], rfl⟩
      · have hy2 : y ∈ xs := by
          rcases List.mem_cons.1 hy with h3 | h3
          · subst h3; exact (hne rfl).elim
          · exact h3
        obtain ⟨i, e', h3, h4⟩ := afind_yes h2 hy2
        exact ⟨i + 1, e', by simp only [afindKey, h1, if_neg hne, h3, Option.map_some], by simpa using h4⟩
theorem akey_ok : ∀ {es : List MapEntry} {xs : List Nat} {y : Nat}, es.map (·.key) = u64s xs → akeyOk Tryz.prog 33 (.int .u64 (y : Int)) es = true := by
  intro es xs y h
  unfold akeyOk
  rw [Tryz.underlying33]
  simp only
  rw [List.all_eq_true]
  intro e he
  have : e.key ∈ u64s xs := by rw [← h]; exact List.mem_map.2 ⟨e, he, rfl⟩
  unfold u64s at this
  obtain ⟨x, _, hx⟩ := List.mem_map.1 this
  rw [← hx]; simp
section
variable {E : Env} (hE : EOk E)
include hE
theorem lk_no {h : Heap} {mb clock : Nat} {es : List MapEntry} {xs : List Nat} {y : Nat} (hm : h.get mb = some (.map es clock)) (hk : es.map (·.key) = u64s xs) (hy : y ∉ xs) : alookup E h 110 (.map (some mb)) (.int .u64 (y : Int)) true = some (.tuple #[.int .i64 0, .bool false]) := by
  unfold alookup ament
  rw [hE.P, Tryz.underlying110]
  simp only [hm, akey_ok hk, if_true, afind_no hk hy, zr3]
theorem lk_yes {h : Heap} {mb clock : Nat} {es : List MapEntry} {xs : List Nat} {y : Nat} (hm : h.get mb = some (.map es clock)) (hk : es.map (·.key) = u64s xs) (hy : y ∈ xs) : ∃ v, alookup E h 110 (.map (some mb)) (.int .u64 (y : Int)) true = some (.tuple #[v, .bool true]) := by
  obtain ⟨i, e, h1, h2⟩ := afind_yes hk hy
  unfold alookup ament
  rw [hE.P, Tryz.underlying110]
  simp only [hm, akey_ok hk, if_true, h1, h2]
  exact ⟨_, rfl⟩
theorem up_no {h : Heap} {mb clock : Nat} {es : List MapEntry} {xs : List Nat} {y : Nat} {v : Value} (hm : h.get mb = some (.map es clock)) (hk : es.map (·.key) = u64s xs) (hy : y ∉ xs) : aupdate E h 110 (.map (some mb)) (.int .u64 (y : Int)) v = some (h.put mb (.map (es ++ [{ key := .int .u64 (y : Int), val := v, born := clock }]) (clock + 1))) := by
  unfold aupdate
  rw [hE.P, Tryz.underlying110]
  simp only [hm, akey_ok hk, if_true, afind_no hk hy]
end
/-- The walk's state: the heap's pointer, the list, the map, and the map's pointer, each in a block of its own. -/
structure Wk (E : Env) (L : HL) (h0 h : Heap) (xs : List Nat) : Prop where
  keep : Keep h0 h
  wf : WF E h
  next : h0.next + 4 ≤ h.next
  c1 : h.get h0.next = some (.cells [.pointer (some ⟨L.ph, 0, none⟩)] 28 true)
  l : ∃ v, h.get (h0.next + 1) = some (.cells [v] 50 true) ∧ Own h 33 1 (h0.next + 4) xs.length (u64s xs) v
  m : ∃ es clock, h.get (h0.next + 2) = some (.map es clock) ∧ es.map (·.key) = u64s xs
  c5 : h.get (h0.next + 3) = some (.cells [.map (some (h0.next + 2))] 110 true)
theorem Wk.up {E : Env} {L : HL} {h0 h h' : Heap} {xs : List Nat} (H : Wk E L h0 h xs) (k : Keep h h') (w : WF E h') : Wk E L h0 h' xs := by
  obtain ⟨v, h1, h2⟩ := H.l
  obtain ⟨es, c, h3, h4⟩ := H.m
  exact ⟨H.keep.trans k, w, Nat.le_trans H.next k.next, k.get _ _ H.c1, ⟨v, k.get _ _ h1, h2.keep k⟩, ⟨es, c, k.get _ _ h3, h4⟩, k.get _ _ H.c5⟩
/-- What one more handle does. -/
def meetO (O : List Ob) (xs : List Nat) (y : Nat) : List Nat := if (obj O y).isSome = true ∧ y ∉ xs then xs ++ [y] else xs
variable {E : Env} (hE : EOk E)
include hE
section
variable {h0 h : Heap} {L : HL} {W nS : Nat} {R : List Nat} {O : List Ob} (H0 : IsO E h0 L W nS R O) (hW0 : WF E h0) {xs : List Nat} (hk : Wk E L h0 h xs)
include H0 hW0 hk
theorem meet_at {y : Nat} (hy : y < 18446744073709551616) (hsm : xs.length ≤ 1048576) : CallsTo E 112 [.int .u64 y, .pointer (some ⟨h0.next, 0, none⟩), .pointer (some ⟨h0.next + 3, 0, none⟩), .pointer (some ⟨h0.next + 1, 0, none⟩)] h fun v h' =>
    v = .tuple #[] ∧ Wk E L h0 h' (meetO O xs y) := by
  have HO := H0.keep hk.keep
  have hW := hk.wf
  have hb0 := hW0.base
  have nb0 : (h0.next < E.base) = False := by simp; omega
  have nb1 : (h0.next + 1 < E.base) = False := by simp; omega
  have nb2 : (h0.next + 2 < E.base) = False := by simp; omega
  have nb3 : (h0.next + 3 < E.base) = False := by simp; omega
  obtain ⟨S, H, w, rfl, rfl, rfl⟩ := HO
  refine calls_of_runs (fn := Tryz.f112) (by rw [hE.P]; exact Tryz.func112) rfl (by rw [hE.known]; rfl) (by rw [Tryz.ntmps112]; exact Nat.le_of_ble_eq_true rfl) (by decide +kernel) (rs := []) rfl (wpc_runs _ _ _ _ ?_)
  simp only [push_cast, seval, hE.P, awrite, wpc_label, wpc_block, hk.c1, nb0]
  cases ho : obj O y with
  | none =>
    have hme : meetO O xs y = xs := by unfold meetO; rw [if_neg (by simp [ho])]
    refine (find_none hE H w hW hy ho).mono ?_
    rintro v h1 ⟨rfl, k1, w1⟩
    have k2 := k1.push (o := .cells [.int .i64 0, .int .i64 0, .int .i64 0, .bool false, .int .i64 0] 103 true) w1
    have w2 := w1.push (.cells [.int .i64 0, .int .i64 0, .int .i64 0, .bool false, .int .i64 0] 103 true)
    simp only [push_cast, seval, hE.P, awrite, wpc_label, wpc_block, w1.nb, w1.nb0]
    rw [hme]; exact hk.up k2 w2
  | some o =>
    obtain ⟨_, hi3, _, _⟩ := objOf_some ho
    refine (find_some hE H w hW hy ho).mono ?_
    rintro v h1 ⟨rfl, k1, w1⟩
    obtain ⟨z, hz⟩ : ∃ z, z = y - 4294967297 := ⟨_, rfl⟩
    rw [← hz] at hi3 ⊢
    have k2 := k1.push (o := .cells [.int .i64 o.tag, .int .i64 o.refs, .int .i64 o.ws.length, .bool false, .int .i64 z] 103 true) w1
    have w2 := w1.push (.cells [.int .i64 o.tag, .int .i64 o.refs, .int .i64 o.ws.length, .bool false, .int .i64 z] 103 true)
    have H2 := hk.up k2 w2
    have H1 := hk.up k1 w1
    have c51 := H1.c5
    have hne : (h1.next = h0.next + 3) = False := by have := H1.next; simp; omega
    simp only [push_cast, seval, hE.P, awrite, wpc_label, wpc_block, w1.nb, w1.nb0, hne, c51, nb3]
    generalize h1.push (.cells [.int .i64 o.tag, .int .i64 o.refs, .int .i64 o.ws.length, .bool false, .int .i64 z] 103 true) = h2 at *
    have c5 := H2.c5
    obtain ⟨v4, hv4, hown⟩ := H2.l
    obtain ⟨es, clock, hm, hkey⟩ := H2.m
    have hnx := H2.next
    by_cases hmem : y ∈ xs
    · have hme : meetO O xs y = xs := by unfold meetO; rw [if_neg (by simp [hmem])]
      obtain ⟨vv, hlk⟩ := lk_yes hE hm hkey hmem
      simp only [push_cast, seval, hE.P, awrite, wpc_label, wpc_block, hlk, c5, nb3]
      rw [hme]; exact H2
    · have hme : meetO O xs y = xs ++ [y] := by unfold meetO; rw [if_pos (by simp [hmem, ho])]
      have hlk := lk_no hE hm hkey hmem
      obtain ⟨a4, k4, rfl, _⟩ := Own.slice hown
      have hup := up_no hE (v := .int .i64 (xs.length : Int)) hm hkey hmem
      obtain ⟨mo, hmo⟩ : ∃ mo, mo = AObj.map (es ++ [{ key := .int .u64 (y : Int), val := .int .i64 (xs.length : Int), born := clock }]) (clock + 1) := ⟨_, rfl⟩
      rw [← hmo] at hup
      have w3 : WF E (h2.put (h0.next + 2) mo) := w2.put hm
      have hg3 : ∀ b o, b ≠ h0.next + 2 → h2.get b = some o → (h2.put (h0.next + 2) mo).get b = some o := fun b o hb hg => by rw [get_put, if_neg (by omega)]; exact hg
      have hm3 : (h2.put (h0.next + 2) mo).get (h0.next + 2) = some mo := by rw [get_put, if_pos rfl]
      have hn3 : (h2.put (h0.next + 2) mo).next = h2.next := by simp
      simp only [push_cast, seval, hE.P, awrite, wpc_label, wpc_block, hlk, c5, hv4, nb3, nb1, hup]
      generalize h2.put (h0.next + 2) mo = h3 at *
      have hv43 := hg3 _ _ (by omega) hv4
      have hown3 : Own h3 33 1 (h0.next + 4) xs.length (u64s xs) (.slice a4 xs.length k4) := hown.but fun b o hb hg => hg3 b o (by have := (hown.lt w2 b hb).1; omega) hg
      rw [bs50 rfl, kalloc_some]
      simp only [push_cast, seval, hE.P, awrite, wpc_label, wpc_block]
      refine kwv_app1 (el50 hE.P) w3 (lo := h0.next + 4) (by omega) hown3 rfl rfl (by omega) (by omega) ?_
      intro v8 h8 hown8 hbut8 hblk8 hnx8 w8
      have hnm : ∀ b, b < h0.next + 4 → b ∉ slB (.slice a4 xs.length k4) := fun b hb hh => by have := (hown.lt w2 b hh).1; omega
      have hv48 := hbut8 _ _ hv43 (hnm _ (by omega))
      obtain ⟨a5, k5, rfl, _⟩ := Own.slice hown8
      simp only [push_cast, seval, hE.P, awrite, wpc_label, wpc_block, hv48, nb1]
      have g8 : ∀ b o, b < h0.next + 4 → b ≠ h0.next + 1 → h3.get b = some o → (h8.put (h0.next + 1) (.cells [.slice a5 (xs.length + 1) k5] 50 true)).get b = some o := fun b o hb hne hg => by
        rw [get_put, if_neg (by omega)]; exact hbut8 b o hg (hnm b hb)
      rw [hme]
      refine ⟨⟨fun b o hb => ?_, by simp; omega⟩, w8.put hv48, by simp; omega, g8 _ _ (by omega) (by omega) (hg3 _ _ (by omega) H2.c1), ⟨_, by rw [get_put, if_pos rfl], ?_⟩, ⟨_, _, by rw [g8 _ _ (by omega) (by omega) hm3, hmo], ?_⟩, g8 _ _ (by omega) (by omega) (hg3 _ _ (by omega) c5)⟩
      · have := (hW0.live _ _ hb).2
        exact g8 _ _ (by omega) (by omega) (hg3 _ _ (by omega) (H2.keep.get _ _ hb))
      · have e1 : (xs ++ [y]).length = xs.length + 1 := by simp
        have e2 : u64s (xs ++ [y]) = u64s xs ++ [.int .u64 (y : Int)] := by simp [u64s]
        rw [e1, e2]
        exact hown8.but fun b o hb hg => by rw [get_put, if_neg (by have := (hown8.lt w8 b hb).1; omega)]; exact hg
      · rw [List.map_append, hkey]; simp [u64s]
end
end Go.Proofs.YthfopcdammlmfaaGreatDoor
