/- doc.Step. -/
/- Merged by a program of ours: St0 S1. -/
import Derived.Test.YthfopcdammlmfaaGreatDoorJ1
import Derived.Test.YthfopcdammlmfaaGreatDoorJ2
import Derived.Test.YthfopcdammlmfaaGreatDoorJ3
import Derived.Test.YthfopcdammlmfaaGreatDoorJ6
import Derived.Test.YthfopcdammlmfaaGreatDoorB3
import Derived.Test.YthfopcdammlmfaaGreatDoorF4
set_option maxRecDepth 10000
set_option linter.all false
set_option linter.unusedSimpArgs false
set_option linter.unusedVariables false
/- One step into a value: what it is to answer. -/
namespace Go.Tm
theorem maxL_mem : ∀ {l : List Int} {x : Int}, x ∈ l → x ≤ maxL l
  | a :: l, x, h => by
    have : maxL (a :: l) = max a (maxL l) := rfl
    rcases List.mem_cons.1 h with rfl | h
    · omega
    · have := maxL_mem h; omega
end Go.Tm
namespace Go.Proofs.YthfopcdammlmfaaGreatDoor
open Go.Tm
theorem good_part {V X : Vl} (hg : goodV V = 0) (hx : X ∈ V.parts) : goodV X = 0 := by
  obtain ⟨p1, p2, p3, p4, p5⟩ := good_parts hg
  have q1 := allV_part p1 hx
  have q2 := allV_part p2 hx
  have q3 := allV_part p3 hx
  have q4 : depthV X ≤ 8 := by
    rw [depthV_eq] at p4
    by_cases hk : V.k = 5 ∨ V.k = 6
    · rw [if_pos hk] at p4
      have := maxL_mem (List.mem_map.2 ⟨X, hx, rfl⟩ : depthV X ∈ V.parts.map depthV)
      omega
    · have : V.parts = [] := by unfold Vl.parts; rw [if_neg (by omega), if_neg (by omega)]
      rw [this] at hx; cases hx
  have q5 : sizeV X ≤ 2048 := by
    rw [sizeV_eq] at p5
    have hh := head_pos V
    have hnn : ∀ y, y ∈ V.parts.map sizeV → 0 ≤ y := fun y hy => by
      obtain ⟨Z, hZ, rfl⟩ := List.mem_map.1 hy
      have := sz_le_size Z.sz Z (Nat.le_refl _) (allV_part p1 hZ)
      omega
    have := sum_mem hnn (List.mem_map.2 ⟨X, hx, rfl⟩ : sizeV X ∈ V.parts.map sizeV)
    omega
  unfold goodV
  rw [if_neg (by rw [q1]; simp), if_neg (by rw [q2]; simp), if_neg (by rw [q3]; simp), if_neg (by omega), if_neg (by omega)]
theorem step_part {V X : Vl} {p : ByteArray} (h : stepW V p = some X) : X ∈ V.parts := by
  unfold stepW at h
  split at h
  · split at h
    · rename_i hk
      have : V.parts = V.l := by simp [Vl.parts, hk]
      rw [this]; exact List.mem_of_getElem? h
    · cases h
  · unfold findW at h
    split at h
    · rename_i hk
      have : V.parts = V.f.map (·.2) := by simp [Vl.parts, hk]
      rw [this]
      rw [Option.map_eq_some_iff] at h
      obtain ⟨y, hy, rfl⟩ := h
      exact List.mem_map.2 ⟨y, List.mem_of_find?_eq_some hy, rfl⟩
    · cases h
def Stands (O : List Ob) (x : Nat) (V : Vl) : Prop := ∃ b, There O b (obs b V) ∧ x = hOf (b + (obs b V).length - 1) ∧ b + (obs b V).length ≤ 8192
theorem Stands.rd {O : List Ob} {x : Nat} {V : Vl} (h : Stands O x V) (hg : goodV V = 0) (hn : allV numsV V = true) : Rd O 2048 [] (.obj x) (V, 0) := by
  obtain ⟨b, h3, h4, h5⟩ := h
  rw [h4]; exact built_rd h3 hg hn
theorem Stands.lt {O : List Ob} {x : Nat} {V : Vl} (h : Stands O x V) : x < 18446744073709551616 := by
  obtain ⟨b, h3, h4, h5⟩ := h
  rw [h4]; exact hOf_lt (by omega)
def Stepped (O : List Ob) (r : Option Vl) (v : Value) : Prop := ∃ (y : Nat) (b : Bool), v = .tuple #[.int .u64 y, .bool b, .int .i64 0] ∧ match r with
  | some X => b = true ∧ Stands O y X
  | none => b = false ∧ y = 0
def StepSays (E : Env) : Prop := ∀ {h : Heap} {L : HL} {W nS : Nat} {R : List Nat} {O : List Ob}, IsO E h L W nS R O → WF E h → ∀ {x : Nat} {V : Vl}, Stands O x V → goodV V = 0 → allV numsV V = true → ∀ {p : ByteArray}, p.size ≤ 140737488355328 →
  CallsTo E 28 [.pointer (some ⟨L.ph, 0, none⟩), .int .u64 x, .string p] h fun v h' => Stepped O (if stepOk p = true then stepW V p else none) v ∧ Keep h h' ∧ WF E h'
theorem obsL_at {l : List Vl} {i : Nat} (h : i < l.length) (b : Nat) : ∃ c, (∃ A B, (obsL b l).1 = A ++ (obs c l[i] ++ B) ∧ c = b + A.length) ∧ (obsL b l).2[i]? = some (hOf (c + (obs c l[i]).length - 1)) := by
  have e := obsL_app (l.take (i + 1)) b (l.drop (i + 1))
  rw [List.take_append_drop, obsL_take h] at e
  have e1 := congrArg Prod.fst e
  simp only [List.append_assoc] at e1
  refine ⟨b + (obsL b (l.take i)).1.length, ⟨(obsL b (l.take i)).1, _, e1, rfl⟩, ?_⟩
  rw [e]
  simp only [List.append_assoc]
  rw [List.getElem?_append_right (by rw [obsL_len, List.length_take]; omega)]
  have : i - (obsL b (l.take i)).2.length = 0 := by rw [obsL_len, List.length_take]; omega
  rw [this]; rfl
theorem obsF_at {l : List (ByteArray × Vl)} {i : Nat} (h : i < l.length) (b : Nat) : ∃ c, (∃ A B, (obsF b l).1 = A ++ ((⟨4, 0, packW l[i].1⟩ :: obs (c + 1) l[i].2) ++ B) ∧ c = b + A.length) ∧ (obsF b l).2[2 * i]? = some (hOf c) ∧ (obsF b l).2[2 * i + 1]? = some (hOf (c + 1 + (obs (c + 1) l[i].2).length - 1)) := by
  have e := obsF_app (l.take (i + 1)) b (l.drop (i + 1))
  rw [List.take_append_drop, obsF_take h] at e
  have hl : (obsF b (l.take i)).2.length = 2 * i := by rw [obsF_len, List.length_take]; omega
  have e1 := congrArg Prod.fst e
  simp only [List.append_assoc] at e1
  refine ⟨b + (obsF b (l.take i)).1.length, ⟨(obsF b (l.take i)).1, _, e1, rfl⟩, ?_, ?_⟩
  · rw [e]
    simp only [List.append_assoc]
    rw [List.getElem?_append_right (by omega), hl, Nat.sub_self]; rfl
  · rw [e]
    simp only [List.append_assoc]
    rw [List.getElem?_append_right (by omega), hl, show 2 * i + 1 - 2 * i = 1 by omega]; rfl
theorem Stands.head {O : List Ob} {x : Nat} {V : Vl} (h : Stands O x V) (hf : allV formedV V = true) (hw : allV fewV V = true) : ∃ o, obj O x = some o ∧ o.refs ≤ o.ws.length ∧
    (V.k = 5 → o.tag = 5 ∧ o.refs = V.l.length ∧ ∀ i (hi : i < V.l.length), ∃ y, (o.ws.take o.refs)[i]? = some y ∧ Stands O y V.l[i]) ∧
    (V.k = 6 → o.tag = 6 ∧ o.refs = 2 * V.f.length ∧ ∀ i (hi : i < V.f.length), ∃ y z, (o.ws.take o.refs)[2 * i]? = some y ∧ (o.ws.take o.refs)[2 * i + 1]? = some z ∧ Stands O z V.f[i].2 ∧ obj O y = some ⟨4, 0, packW V.f[i].1⟩ ∧ y < 18446744073709551616) ∧
    (V.k ≠ 5 → o.tag ≠ 5) ∧ (V.k ≠ 6 → o.tag ≠ 6) := by
  obtain ⟨b, hT, hx, hb⟩ := h
  rw [hx, obj_h]
  by_cases e5 : V.k = 5
  · have e : obs b V = (obsL b V.l).1 ++ [⟨5, (obsL b V.l).2.length, (obsL b V.l).2⟩] := by
      rw [obs_eq, if_neg (by omega), if_neg (by omega), if_neg (by omega), if_pos e5]
    have hl := obsL_len V.l b
    rw [e] at hT hb ⊢
    have hlast := hT.right 0 _ rfl
    rw [List.length_append, List.length_cons, List.length_nil] at hb ⊢
    refine ⟨_, hlast, by simp, fun _ => ⟨rfl, hl, fun i hi => ?_⟩, fun h6 => by omega, fun h => absurd e5 h, fun _ => by simp⟩
    obtain ⟨c, ⟨A, B, h1, h2⟩, h3⟩ := obsL_at hi b
    rw [List.take_length]
    refine ⟨_, h3, c, ?_, rfl, ?_⟩
    · have := hT.left
      rw [h1] at this
      have := this.right.left
      rw [← h2] at this; exact this
    · rw [h1] at hb
      simp only [List.length_append] at hb
      omega
  · by_cases e6 : V.k = 6
    · have e : obs b V = (obsF b V.f).1 ++ [⟨6, (obsF b V.f).2.length, (obsF b V.f).2⟩] := by
        rw [obs_eq, if_neg (by omega), if_neg (by omega), if_neg (by omega), if_neg e5, if_pos e6]
      have hl := obsF_len V.f b
      rw [e] at hT hb ⊢
      have hlast := hT.right 0 _ rfl
      rw [List.length_append, List.length_cons, List.length_nil] at hb ⊢
      refine ⟨_, hlast, by simp, fun h5 => by omega, fun _ => ⟨rfl, hl, fun i hi => ?_⟩, fun _ => by simp, fun h => absurd e6 h⟩
      obtain ⟨c, ⟨A, B, h1, h2⟩, h3, h4⟩ := obsF_at hi b
      rw [List.take_length]
      rw [h1] at hb
      simp only [List.length_append, List.length_cons] at hb
      have h5 := hT.left
      rw [h1] at h5
      have h6 := h5.right.left
      refine ⟨_, _, h3, h4, ⟨c + 1, ?_, rfl, by omega⟩, ?_, hOf_lt (by omega)⟩
      · have := There.right (A := [⟨4, 0, packW V.f[i].1⟩]) (B := obs (c + 1) V.f[i].2) (b := b + A.length) h6
        rw [← h2] at this; exact this
      · rw [obj_h, h2]; exact h6 0 _ rfl
    · have e : ∃ o, obs b V = [o] ∧ o.refs ≤ o.ws.length ∧ o.tag ≠ 5 ∧ o.tag ≠ 6 := by
        rw [obs_eq]
        repeat' split
        all_goals first | omega | exact ⟨_, rfl, by simp, by simp, by simp⟩
      obtain ⟨o, e, h1, h2, h3⟩ := e
      rw [e] at hT ⊢
      exact ⟨o, hT 0 _ rfl, h1, fun h => absurd h e5, fun h => absurd h e6, fun _ => h2, fun _ => h3⟩
end Go.Proofs.YthfopcdammlmfaaGreatDoor
namespace Go.Tm
theorem kput_gen {tm : Tr Value} {d : Option Nat} {R : Cont} {v : Value} {h : Heap} (H : ∀ tm', (∀ k, fget tm' k = fget tm k) → kput tm' d R v h) : kput tm d R v h := H tm fun _ => rfl
theorem wpc_range {E : Env} {g : Operand} {ps : Array Tmp} {x y : Code} {Q : XCont} {tm : Tr Value} {h : Heap} (hfl : (flat x && flat y) = true) {it : Heap → Nat → Option (Option Value)} {p : Nat} (hai : aiter E (opd tm g) = some it) (hps : ps.toList = [p])
    (I : Nat → Nat → Heap → Prop) (n : Nat) (h0 : I n 0 h) (hs : ∀ n i h, I n i h → ∃ o, it h i = some o ∧ kround (wpc E x) (wpc E y) p tm (kback tm I n i Q) Q o h) : wpc E (.rangeFunc g ps x y) Q tm h := ⟨hfl, it, p, hai, hps, I, n, h0, hs⟩
theorem kback_ret {tm0 : Tr Value} {I : Nat → Nat → Heap → Prop} {n i : Nat} {Q : XCont} {tm : Tr Value} {h : Heap} : kback tm0 I n i Q .ret tm h = Q .ret tm0 h := rfl
theorem kback_normal {tm0 : Tr Value} {I : Nat → Nat → Heap → Prop} {n i : Nat} {Q : XCont} {tm : Tr Value} {h : Heap} (H : ∃ m, m < n ∧ I m (i + 1) h) : kback tm0 I n i Q .normal tm h := H
theorem find_first {α : Type} {q : α → Bool} : ∀ {l : List α} {i : Nat} (hi : i < l.length), (∀ j (hj : j < l.length), j < i → q l[j] = false) → q l[i] = true → l.find? q = some l[i]
  | a :: l, 0, hi, _, hq => by simp only [List.getElem_cons_zero] at hq ⊢; rw [List.find?_cons, hq]
  | a :: l, i + 1, hi, hn, hq => by
    have h0 : q a = false := hn 0 (by simp) (by omega)
    rw [List.find?_cons, h0]
    simp only [List.getElem_cons_succ] at hq ⊢
    exact find_first (by simpa using hi) (fun j hj hji => (by rw [List.getElem_cons_succ] : (a :: l)[j + 1]'(by simpa using hj) = l[j]) ▸ hn (j + 1) (by simpa using hj) (by omega)) hq
theorem find_no {α : Type} {q : α → Bool} {l : List α} (h : ∀ j (hj : j < l.length), q l[j] = false) : l.find? q = none := by
  rw [List.find?_eq_none]
  intro x hx
  obtain ⟨j, hj, rfl⟩ := List.mem_iff_getElem.1 hx
  rw [h j hj]; simp
end Go.Tm
namespace Go.Proofs.YthfopcdammlmfaaGreatDoor
open Go.Tm
variable {E : Env} (hE : EOk E)
include hE
omit hE in
theorem ren_nil : (#[] : Array Value).toList = [] := rfl
theorem chunk_at {h : Heap} (hW : WF E h) {a : Option Addr} {n c : Nat} : CallsTo E 79 [.slice a n c, .int .i64 2] h fun v h' =>
    v = .func (.func 131) #[] #[.pointer (some ⟨h.next, 0, none⟩), .pointer (some ⟨h.next + 1, 0, none⟩)] ∧ h' = (h.push (.cells [.slice a n c] 50 true)).push (.cells [.int .i64 2] 3 true) := by
  refine en hE Tryz.func79 rfl rfl Tryz.ntmps79 rfl (by decide +kernel) (rs := [.tmp 4]) rfl ?_
  simp only [push_cast, seval, hE.P, zz, hW.nb, hW.nb0]
set_option maxHeartbeats 8000000 in
theorem step_at : StepSays E := by
  intro h L W nS R O H hW x V hS hg hn p hp
  obtain ⟨p1, p2, p3, p4, p5⟩ := good_parts hg
  have hx := hS.lt
  have hf32 : V.f.length ≤ 32 := by
    have := p3
    rw [allV_eq, Bool.and_eq_true] at this
    have := this.1
    simp only [fewV, Bool.and_eq_true, decide_eq_true_eq] at this
    exact this.1.2
  have nbb : ∀ k, (h.next + k < E.base) = False := hW.nb
  have nb4 : (h.next + 1 + 1 + 1 + 1 < E.base) = False := by have := nbb 4; simpa [Nat.add_assoc] using this
  refine en hE Tryz.func28 rfl rfl Tryz.ntmps28 rfl (by decide +kernel) (rs := [.cell 6 33, .cell 7 4, .cell 8 30]) rfl ?_
  simp only [push_cast, seval, hE.P, zz, hW.nb, hW.nb0, nb4]
  obtain ⟨H1, hH1⟩ : ∃ H1 : Heap, H1 = (((((h.push (AObj.cells [.int .u64 0] 33 true)).push (AObj.cells [.bool false] 4 true)).push (AObj.cells [.int .i64 0] 30 true)).push (AObj.cells [.pointer (some { block := L.ph, off := 0 }), .int .i64 2048] 125 true)).push (AObj.cells [.pointer none] 123 true)).put (h.next + 1 + 1 + 1 + 1) (AObj.cells [.pointer (some { block := h.next + 1 + 1 + 1, off := 0 })] 123 true) := ⟨_, rfl⟩
  rw [← hH1]
  have k1 : Keep h H1 := by
    rw [hH1]
    refine Keep.putNew (((((Keep.refl h).push hW).push (hW.push _)).push ((hW.push _).push _)).push (((hW.push _).push _).push _) |>.push ((((hW.push _).push _).push _).push _)) hW (by omega)
  have w1 : WF E H1 := by
    rw [hH1]
    exact WF.put (((((hW.push _).push _).push _).push _).push _) (o' := AObj.cells [.pointer none] 123 true) (by simp [get_push])
  have g6 : H1.get h.next = some (.cells [.int .u64 0] 33 true) := by rw [hH1]; simp only [get_put, get_push, next_push]; repeat (first | rw [if_pos trivial] | rw [if_neg (by omega)])
  have g7 : H1.get (h.next + 1) = some (.cells [.bool false] 4 true) := by rw [hH1]; simp only [get_put, get_push, next_push]; repeat (first | rw [if_pos trivial] | rw [if_neg (by omega)])
  have g8 : H1.get (h.next + 1 + 1) = some (.cells [.int .i64 0] 30 true) := by rw [hH1]; simp only [get_put, get_push, next_push]; repeat (first | rw [if_pos trivial] | rw [if_neg (by omega)])
  have gr : H1.get (h.next + 1 + 1 + 1) = some (.cells [.pointer (some { block := L.ph, off := 0 }), .int .i64 2048] 125 true) := by rw [hH1]; simp only [get_put, get_push, next_push]; repeat (first | rw [if_pos trivial] | rw [if_neg (by omega)])
  have g9 : H1.get (h.next + 1 + 1 + 1 + 1) = some (.cells [.pointer (some { block := h.next + 1 + 1 + 1, off := 0 })] 123 true) := by rw [hH1]; simp only [get_put, get_push, next_push]; repeat (first | rw [if_pos trivial] | rw [if_neg (by omega)])
  have n1 : H1.next = h.next + 5 := by rw [hH1]; simp
  clear hH1
  refine (object_at hE (H.keep k1) w1 gr hx).mono ?_
  rintro v h2 ⟨_, hob, k2, w2⟩
  refine kput_gen ?_
  intro tm hf
  have f2 := hf 2; have f6 := hf 6; have f7 := hf 7; have f8 := hf 8; have f9 := hf 9
  clear hf
  simp only [push_cast, seval] at f2 f6 f7 f8 f9
  obtain ⟨o, ho, hrw, hk5, hk6, hn5, hn6⟩ := hS.head p1 p3
  obtain ⟨rv, sv, rfl, hown, hown2⟩ := hob o ho
  obtain ⟨sa, sc, rfl, _⟩ := Own.slice hown2
  obtain ⟨ra, rc, rfl, hrc⟩ := Own.slice hown
  have g6 := k2.get _ _ g6
  have g7 := k2.get _ _ g7
  have g8 := k2.get _ _ g8
  have gr := k2.get _ _ gr
  have g9 := k2.get _ _ g9
  have n2 : h.next + 5 ≤ h2.next := by have := k2.next; omega
  have k2 := k1.trans k2
  simp only [push_cast, seval, hE.P, zz, f2, f6, f7, f8, f9, hW.nb, hW.nb0, w2.nb, w2.nb0]
  have k3' := (Keep.refl h2).push (o := .cells [.int .i64 ↑o.tag, .slice ra o.refs rc, .slice sa (o.ws.length - o.refs) sc] 127 true) w2
  have w3 := w2.push (.cells [.int .i64 ↑o.tag, .slice ra o.refs rc, .slice sa (o.ws.length - o.refs) sc] 127 true)
  have g10 : (h2.push (.cells [.int .i64 ↑o.tag, .slice ra o.refs rc, .slice sa (o.ws.length - o.refs) sc] 127 true)).get h2.next = some (.cells [.int .i64 ↑o.tag, .slice ra o.refs rc, .slice sa (o.ws.length - o.refs) sc] 127 true) := by rw [get_push, if_pos rfl]
  have g6 := k3'.get _ _ g6
  have g7 := k3'.get _ _ g7
  have g8 := k3'.get _ _ g8
  have gr := k3'.get _ _ gr
  have g9 := k3'.get _ _ g9
  have hown := hown.keep k3'
  have k3 := k2.trans k3'
  have n3 := k3'.next
  have nb10 := w3.nlt g10
  generalize h2.push (.cells [.int .i64 ↑o.tag, .slice ra o.refs rc, .slice sa (o.ws.length - o.refs) sc] 127 true) = h3 at *
  refine (steps_at hE w3 hp).mono ?_
  rintro v h4 ⟨va, vn, vc, ve, rfl, hok, hno, k4', w4⟩
  refine kput_gen ?_
  intro tm1 hf
  have e2 := hf 2; have e6 := hf 6; have e7 := hf 7; have e8 := hf 8; have e9 := hf 9; have e10 := hf 10
  clear hf
  simp only [push_cast, seval, f2, f6, f7, f8, f9] at e2 e6 e7 e8 e9 e10
  clear f2 f6 f7 f8 f9
  have g6 := k4'.get _ _ g6
  have g7 := k4'.get _ _ g7
  have g8 := k4'.get _ _ g8
  have gr := k4'.get _ _ gr
  have g9 := k4'.get _ _ g9
  have g10 := k4'.get _ _ g10
  have hown := hown.keep k4'
  have k4 := k3.trans k4'
  have n4 := k4'.next
  simp only [push_cast, seval, hE.P, zz, e2, e6, e7, e8, e9, w4.nb, w4.nb0]
  have k5' := (Keep.refl h4).push (o := .cells [.slice va vn vc] 130 true) w4
  have w5 := w4.push (.cells [.slice va vn vc] 130 true)
  have g12 : (h4.push (.cells [.slice va vn vc] 130 true)).get h4.next = some (.cells [.slice va vn vc] 130 true) := by rw [get_push, if_pos rfl]
  have g6 := k5'.get _ _ g6
  have g7 := k5'.get _ _ g7
  have g8 := k5'.get _ _ g8
  have gr := k5'.get _ _ gr
  have g9 := k5'.get _ _ g9
  have g10 := k5'.get _ _ g10
  have hown := hown.keep k5'
  have k5 := k4.trans k5'
  have n5 := k5'.next
  have nb12 := w5.nlt g12
  have hokk : stepOk p = true → Own (h4.push (.cells [.slice va vn vc] 130 true)) 9 1 h3.next 1 (strs [p]) (.slice va vn vc) := fun hh => (hok hh).2.2.keep k5'
  generalize h4.push (.cells [.slice va vn vc] 130 true) = h5 at *
  have nb6 : (h.next < E.base) = False := hW.nb0
  have nb7 : (h.next + 1 < E.base) = False := hW.nb 1
  have nb8 : (h.next + 1 + 1 < E.base) = False := by have := hW.nb 2; simpa [Nat.add_assoc] using this
  have bad : stepOk p = false → (ve != 0) = true ∨ ((ve != 0) = false ∧ ((vn : Int) != 1) = true) := fun hh => by
    by_cases h0 : ve = 0
    · right
      refine ⟨by simp [h0], ?_⟩
      have : vn ≠ 1 := (hno hh).resolve_left (fun x => x h0)
      simp; omega
    · left; simp [h0]
  have fin : ∀ {h' : Heap} {y : Nat} {b : Bool}, Keep h5 h' → WF E h' → Keep h (((h'.put h.next (.cells [.int .u64 y] 33 true)).put (h.next + 1) (.cells [.bool b] 4 true)).put (h.next + 1 + 1) (.cells [.int .i64 0] 30 true)) ∧
      WF E (((h'.put h.next (.cells [.int .u64 y] 33 true)).put (h.next + 1) (.cells [.bool b] 4 true)).put (h.next + 1 + 1) (.cells [.int .i64 0] 30 true)) := by
    intro h' y b k w
    refine ⟨(((k5.trans k).putNew hW (Nat.le_refl _)).putNew hW (by omega)).putNew hW (by omega), ?_⟩
    have a6 := k.get _ _ g6
    have a7 := k.get _ _ g7
    have a8 := k.get _ _ g8
    refine ((w.put a6).put (o' := .cells [.bool false] 4 true) (by rw [get_put, if_neg (by omega)]; exact a7)).put (o' := .cells [.int .i64 0] 30 true) (by rw [get_put, if_neg (by omega), get_put, if_neg (by omega)]; exact a8)
  have ne1 : (h.next = h.next + 1) = False := by simp
  have ne2 : (h.next = h.next + 1 + 1) = False := by simp; omega
  have ne3 : (h.next + 1 = h.next + 1 + 1) = False := by simp
  have ne4 : (h.next + 1 = h.next) = False := by simp
  have ne5 : (h.next + 1 + 1 = h.next) = False := by simp; omega
  have ne6 : (h.next + 1 + 1 = h.next + 1) = False := by simp
  cases hst : stepOk p with
  | false =>
    rw [if_neg (by simp)]
    rcases bad hst with hb | ⟨hb, hb'⟩
    · simp only [push_cast, seval, hE.P, zz, hb, e6, e7, e8, g6, g7, g8, nb6, nb7, nb8, ne1, ne2, ne3, ne4, ne5, ne6]
      exact ⟨⟨0, false, rfl, rfl, rfl⟩, fin (Keep.refl _) w5⟩
    · simp only [push_cast, seval, hE.P, zz, hb, hb', g12, nb12, e6, e7, e8, g6, g7, g8, nb6, nb7, nb8, ne1, ne2, ne3, ne4, ne5, ne6]
      exact ⟨⟨0, false, rfl, rfl, rfl⟩, fin (Keep.refl _) w5⟩
  | true =>
    obtain ⟨rfl, rfl, _⟩ := hok hst
    have hst1 := hokk hst
    rw [if_pos rfl]
    have hb : ((0 : Int) != 0) = false := rfl
    have hb' : (((1 : Nat) : Int) != 1) = false := rfl
    rcases hst1 with ⟨_, h1, _⟩ | ⟨sb, scap, srest, sfx, hes, gs, hs1, hs2, hs3, _, _⟩
    · omega
    simp only [Value.slice.injEq] at hes
    obtain ⟨rfl, _, rfl⟩ := hes
    have nbs := w5.nlt gs
    simp only [strs, List.map_cons, List.map_nil, List.cons_append, List.nil_append] at gs
    simp only [push_cast, seval, hE.P, zz, hb, hb', g12, nb12, e6, e7, e8, e9, e10]
    rw [ia130 rfl (by omega) (by omega), kpure_some]
    simp only [push_cast, seval, hE.P, zz, gs, nbs]
    refine (Place_at hE w5 hp).mono ?_
    rintro v h6 ⟨⟨pn, rfl, hpn⟩, k6', w6⟩
    refine kput_gen ?_
    intro tm2 hf
    have f6 := hf 6; have f7 := hf 7; have f8 := hf 8; have f9 := hf 9; have f10 := hf 10; have f12 := hf 12
    clear hf
    simp only [push_cast, seval, e6, e7, e8, e9, e10] at f6 f7 f8 f9 f10 f12
    clear e2 e6 e7 e8 e9 e10
    have a6 := k6'.get _ _ g6
    have a7 := k6'.get _ _ g7
    have a8 := k6'.get _ _ g8
    have ar := k6'.get _ _ gr
    have a9 := k6'.get _ _ g9
    have a10 := k6'.get _ _ g10
    have a12 := k6'.get _ _ g12
    have ags := k6'.get _ _ gs
    have hown6 := hown.keep k6'
    by_cases hpl : 0 ≤ placeB (strB p)
    · have hp0 := hpn hpl
      obtain ⟨nn, hnn⟩ : ∃ nn : Nat, placeB (strB p) = nn := ⟨(placeB (strB p)).toNat, by omega⟩
      rw [hnn] at hp0
      subst hp0
      have hsw : stepW V p = if V.k = 5 then V.l[nn]? else none := by
        unfold stepW; rw [if_pos hpl, hnn]; rfl
      rw [hsw]
      rw [decide_eq_true hpl]
      by_cases e5 : V.k = 5
      · obtain ⟨ht, hr, hel⟩ := hk5 e5
        have hbt : ((o.tag : Int) != 5) = false := by simp [ht]
        rw [if_pos e5]
        simp only [push_cast, seval, hE.P, zz, f6, f7, f8, f9, f10, f12, a10, nb10, hbt]
        refine kif_split (fun hb => ?_) (fun hb => ?_)
        · have hge : V.l.length ≤ nn := by have : (o.refs : Int) ≤ nn := by simpa using hb
                                           omega
          simp only [push_cast, seval, hE.P, zz, f6, f7, f8, f9, f10, f12, a6, a7, a8, nb6, nb7, nb8, ne1, ne2, ne3, ne4, ne5, ne6]
          rw [List.getElem?_eq_none hge]
          exact ⟨⟨0, false, rfl, rfl, rfl⟩, fin k6' w6⟩
        · have hlt : nn < V.l.length := by have : ¬ (o.refs : Int) ≤ nn := by simpa using hb
                                           omega
          obtain ⟨y, hy, hst⟩ := hel nn hlt
          rcases hown6 with ⟨_, h1, _⟩ | ⟨ob, ocap, orest, ofx, heo, go, ho1, ho2, ho3, _, _⟩
          · omega
          simp only [Value.slice.injEq] at heo
          obtain ⟨rfl, _, rfl⟩ := heo
          have nbo := w6.nlt go
          have hac : acells E h6 ⟨ob, nn, none⟩ 1 = some [.int .u64 (y : Nat)] := by
            simp only [acells, nbo, go, if_false]
            have hlen : nn < (u64s (o.ws.take o.refs)).length := by rw [ho1]; omega
            have hel2 : (u64s (o.ws.take o.refs))[nn]? = some (.int .u64 (y : Nat)) := by unfold u64s; rw [List.getElem?_map, hy]; rfl
            rw [if_pos (by rw [List.length_append]; omega), List.drop_append_of_le_length (by omega), List.take_append_of_le_length (by rw [List.length_drop]; omega)]
            rw [List.drop_eq_getElem_cons hlen, List.take_succ_cons, List.take_zero]
            rw [List.getElem?_eq_getElem hlen] at hel2
            injection hel2 with hel2
            rw [hel2]
          simp only [push_cast, seval, hE.P, zz, f6, f7, f8, f9, f10, f12, a10, nb10]
          rw [ia50 rfl (by omega) (by omega), kpure_some]
          simp only [push_cast, seval, hE.P, zz, ↓hac, f6, f7, f8, a6, a7, a8, nb6, nb7, nb8, ne1, ne2, ne3, ne4, ne5, ne6]
          rw [List.getElem?_eq_getElem hlt]
          exact ⟨⟨y, true, rfl, rfl, hst⟩, fin k6' w6⟩
      · have hbt : ((o.tag : Int) != 5) = true := by have := hn5 e5; simp; omega
        rw [if_neg e5]
        simp only [push_cast, seval, hE.P, zz, f6, f7, f8, f9, f10, f12, a10, nb10, hbt, a6, a7, a8, nb6, nb7, nb8, ne1, ne2, ne3, ne4, ne5, ne6]
        exact ⟨⟨0, false, rfl, rfl, rfl⟩, fin k6' w6⟩
    · have hsw : stepW V p = findW V p := by unfold stepW; rw [if_neg hpl]
      rw [hsw]
      rw [decide_eq_false hpl]
      by_cases e6 : V.k = 6
      · obtain ⟨ht, hr, hel⟩ := hk6 e6
        have hbt : ((o.tag : Int) != 6) = false := by simp [ht]
        have hrem : ((o.refs : Int).tmod 2 == 1) = false := by
          have : (o.refs : Int).tmod 2 = 0 := by rw [hr, Int.tmod_eq_emod_of_nonneg (by omega)]; omega
          rw [this]; rfl
        simp only [push_cast, seval, hE.P, zz, f6, f7, f8, f9, f10, f12, a10, nb10, hbt, hrem]
        refine (chunk_at hE w6).mono ?_
        rintro v h7 ⟨rfl, hh7⟩
        refine kput_gen ?_
        intro tm3 hf
        have e6' := hf 6; have e7 := hf 7; have e8 := hf 8; have e9 := hf 9; have e12 := hf 12
        clear hf
        simp only [push_cast, seval, f6, f7, f8, f9, f12] at e6' e7 e8 e9 e12
        clear f6 f7 f8 f9 f10 f12
        have k7' : Keep h6 h7 := by rw [hh7]; exact ((Keep.refl h6).push w6).push (w6.push _)
        have w7 : WF E h7 := by rw [hh7]; exact (w6.push _).push _
        have c1 : h7.get h6.next = some (.cells [.slice ra o.refs rc] 50 true) := by rw [hh7, get_push, if_neg (by simp), get_push, if_pos rfl]
        have c2 : h7.get (h6.next + 1) = some (.cells [.int .i64 2] 3 true) := by rw [hh7, get_push, if_pos (by simp)]
        clear hh7
        have b6 := k7'.get _ _ a6
        have b7 := k7'.get _ _ a7
        have b8 := k7'.get _ _ a8
        have br := k7'.get _ _ ar
        have b9 := k7'.get _ _ a9
        have b12 := k7'.get _ _ a12
        have bgs := k7'.get _ _ ags
        have hown7 := hown6.keep k7'
        simp only [push_cast, seval, hE.P, zz, e6', e7, e8, e9, e12]
        refine wpc_range rfl (it := E.iter 131 [.pointer (some ⟨h6.next, 0, none⟩), .pointer (some ⟨h6.next + 1, 0, none⟩)]) (p := 78) (by simp [aiter, opd, fget_set]) rfl
          (fun m i h' => m = V.f.length - i ∧ i ≤ V.f.length ∧ (∀ j (hj : j < V.f.length), j < i → (V.f[j].1.data.toList == p.data.toList) = false) ∧ Keep h7 h' ∧ WF E h') V.f.length ⟨by omega, by omega, fun j hj h => by omega, Keep.refl _, w7⟩ ?_
        rintro m i h8 ⟨rfl, hi, hbef, k8, w8⟩
        have c1 := k8.get _ _ c1
        have c2 := k8.get _ _ c2
        have b6 := k8.get _ _ b6
        have b7 := k8.get _ _ b7
        have b8 := k8.get _ _ b8
        have br := k8.get _ _ br
        have b9 := k8.get _ _ b9
        have b12 := k8.get _ _ b12
        have bgs := k8.get _ _ bgs
        have hown8 := hown7.keep k8
        by_cases hlt : i < V.f.length
        · rcases hown8 with ⟨_, h1, _⟩ | ⟨ob, ocap, orest, ofx, heo, go, ho1, ho2, ho3, _, _⟩
          · omega
          simp only [Value.slice.injEq] at heo
          obtain ⟨rfl, _, rfl⟩ := heo
          refine ⟨some (.slice (some ⟨ob, 2 * i, some 0⟩) 2 2), ?_, ?_⟩
          · rw [hE.iter]
            simp only [iterT, chunkIt, c1, c2, if_true]
            rw [if_pos (by omega), if_pos (by omega), Nat.zero_add]
          · simp only [kround]
            simp only [push_cast, seval, hE.P, zz]
            refine wdraw_calm (by rw [hE.P]; decide +kernel) ?_
            obtain ⟨y, z, hy, hz, hsz, hoy, hylt⟩ := hel i hlt
            have nbo := w8.nlt go
            have hlen : (u64s (o.ws.take o.refs)).length = o.refs := by rw [ho1]; omega
            have cell : ∀ (k v : Nat), (o.ws.take o.refs)[k]? = some v → ∀ h', h'.get ob = some (.cells (u64s (o.ws.take o.refs) ++ orest) 33 ofx) → acells E h' ⟨ob, k, none⟩ 1 = some [.int .u64 (v : Nat)] := by
              intro k v hv h' go'
              have hlt' : k < (o.ws.take o.refs).length := (List.getElem?_eq_some_iff.1 hv).1
              have hk : k < (u64s (o.ws.take o.refs)).length := by rw [u64s_len]; exact hlt'
              simp only [acells, nbo, go', if_false]
              have hel2 : (u64s (o.ws.take o.refs))[k]? = some (.int .u64 (v : Nat)) := by unfold u64s; rw [List.getElem?_map, hv]; rfl
              rw [if_pos (by rw [List.length_append]; omega), List.drop_append_of_le_length (by omega), List.take_append_of_le_length (by rw [List.length_drop]; omega)]
              rw [List.drop_eq_getElem_cons hk, List.take_succ_cons, List.take_zero]
              rw [List.getElem?_eq_getElem hk] at hel2
              injection hel2 with hel2
              rw [hel2]
            have hix0 : aindexAddr Tryz.prog 50 (.slice (some ⟨ob, 2 * i, some 0⟩) 2 2) (.int .i64 0) = some (.pointer (some ⟨ob, 2 * i, none⟩)) := by simp [aindexAddr, Tryz.underlying50, sz33]
            have hix1 : aindexAddr Tryz.prog 50 (.slice (some ⟨ob, 2 * i, some 0⟩) 2 2) (.int .i64 1) = some (.pointer (some ⟨ob, 2 * i + 1, none⟩)) := by simp [aindexAddr, Tryz.underlying50, sz33]
            have hac0 := cell _ _ hy _ go
            have nbr9 := w8.nlt b9
            have nbr12 := w8.nlt b12
            simp only [push_cast, seval, hE.P, zz, e9, b9, nbr9, hix0, ↓hac0]
            refine (name_at hE (((((H.keep k5).keep k6').keep k7').keep k8)) w8 br hylt).mono ?_
            rw [hoy, nameO_text]
            rintro v h9 ⟨rfl, k9, w9⟩
            refine kput_gen ?_
            intro tm4 hf
            have q6 := hf 6; have q7 := hf 7; have q8 := hf 8; have q12 := hf 12; have q15 := hf 15
            clear hf
            simp only [push_cast, seval, e6', e7, e8, e12] at q6 q7 q8 q12 q15
            have b6 := k9.get _ _ b6
            have b7 := k9.get _ _ b7
            have b8 := k9.get _ _ b8
            have b12 := k9.get _ _ b12
            have bgs := k9.get _ _ bgs
            have go := k9.get _ _ go
            have kk := (k6'.trans (k7'.trans k8)).trans k9
            have nbs := w9.nlt bgs
            simp only [push_cast, seval, hE.P, zz, q6, q7, q8, q12, q15, b12, nbr12]
            rw [ia130 rfl (by omega) (by omega), kpure_some]
            simp only [push_cast, seval, hE.P, zz, bgs, nbs]
            refine (strcmp_at hE).mono ?_
            rintro v h10 ⟨rfl, hh10⟩
            subst hh10
            by_cases hm : (V.f[i].1.data.toList == p.data.toList) = true
            · have hc0 : (cmpS V.f[i].1 p == 0) = true := by
                unfold cmpS
                rw [beq_iff_eq.1 hm, compareBytes_self]; rfl
              have hac1 := cell _ _ hz _ go
              simp only [push_cast, seval, hE.P, zz, hc0, q6, q7, q8, q15, hix1, ↓hac1, b6, b7, b8, nb6, nb7, nb8, ne1, ne2, ne3, ne4, ne5, ne6]
              rw [kback_ret]
              have hfw : findW V p = some V.f[i].2 := by
                unfold findW
                rw [if_pos e6, find_first hlt hbef hm]; rfl
              rw [hfw]
              simp only [push_cast, seval, hE.P, zz, e6', e7, e8, nb6, nb7, nb8, ne1, ne2, ne3, ne4, ne5, ne6]
              exact ⟨⟨z, true, rfl, rfl, hsz⟩, fin kk w9⟩
            · have hm' : (V.f[i].1.data.toList == p.data.toList) = false := by simpa using hm
              have hc0 : (cmpS V.f[i].1 p == 0) = false := by
                unfold cmpS
                rw [cmp_bslt, hm']
                split <;> rfl
              simp only [push_cast, seval, hE.P, zz, hc0]
              refine kback_normal ⟨V.f.length - (i + 1), by omega, rfl, by omega, fun j hj hji => ?_, k8.trans k9, w9⟩
              rcases Nat.lt_or_ge j i with hh | hh
              · exact hbef j hj hh
              · have : j = i := by omega
                subst this; exact hm'
        · have hii : i = V.f.length := by omega
          refine ⟨none, ?_, ?_⟩
          · rw [hE.iter]
            simp only [iterT, chunkIt, c1, c2, if_true]
            rcases hown8 with ⟨hh, h1, _⟩ | ⟨ob, ocap, orest, ofx, heo, go, ho1, ho2, ho3, _, _⟩
            · simp only [Value.slice.injEq] at hh
              obtain ⟨rfl, _, rfl⟩ := hh
              simp [h1]
            · simp only [Value.slice.injEq] at heo
              obtain ⟨rfl, _, rfl⟩ := heo
              simp only
              rw [if_pos (by omega), if_neg (by omega)]
          · simp only [kround]
            simp only [push_cast, seval, hE.P, zz, e6', e7, e8, b6, b7, b8, nb6, nb7, nb8, ne1, ne2, ne3, ne4, ne5, ne6]
            have hfw : findW V p = none := by
              unfold findW; rw [if_pos e6, find_no (fun j hj => hbef j hj (by omega))]; rfl
            rw [hfw]
            exact ⟨⟨0, false, rfl, rfl, rfl⟩, fin (k6'.trans (k7'.trans k8)) w8⟩
      · have hbt : ((o.tag : Int) != 6) = true := by have := hn6 e6; simp; omega
        have hfw : findW V p = none := by unfold findW; rw [if_neg e6]
        rw [hfw]
        simp only [push_cast, seval, hE.P, zz, f6, f7, f8, f9, f10, f12, a10, nb10, hbt, a6, a7, a8, nb6, nb7, nb8, ne1, ne2, ne3, ne4, ne5, ne6]
        exact ⟨⟨0, false, rfl, rfl, rfl⟩, fin k6' w6⟩
end Go.Proofs.YthfopcdammlmfaaGreatDoor
