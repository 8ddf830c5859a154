/- Chapter 25, plain: what a replica is, what it does with messages (no program in sight). -/
/- Merged by a program of ours: UN UA U0. -/
import Derived.Test.YthdgobcpefcolaaGreatDoorG12
set_option maxRecDepth 10000
set_option linter.all false
set_option linter.unusedSimpArgs false
set_option linter.unusedVariables false
/- Numbers of blocks that lie one behind the other. -/
namespace Go.Tm
variable {n : Nat}
theorem nx0_1 : (n = n + 1) = False := by simp only [eq_iff_iff, iff_false]; omega
theorem nx0_2 : (n = n + 1 + 1) = False := by simp only [eq_iff_iff, iff_false]; omega
theorem nx0_3 : (n = n + 1 + 1 + 1) = False := by simp only [eq_iff_iff, iff_false]; omega
theorem nx0_4 : (n = n + 1 + 1 + 1 + 1) = False := by simp only [eq_iff_iff, iff_false]; omega
theorem nx0_5 : (n = n + 1 + 1 + 1 + 1 + 1) = False := by simp only [eq_iff_iff, iff_false]; omega
theorem nx0_6 : (n = n + 1 + 1 + 1 + 1 + 1 + 1) = False := by simp only [eq_iff_iff, iff_false]; omega
theorem nx1_0 : (n + 1 = n) = False := by simp only [eq_iff_iff, iff_false]; omega
theorem nx1_2 : (n + 1 = n + 1 + 1) = False := by simp only [eq_iff_iff, iff_false]; omega
theorem nx1_3 : (n + 1 = n + 1 + 1 + 1) = False := by simp only [eq_iff_iff, iff_false]; omega
theorem nx1_4 : (n + 1 = n + 1 + 1 + 1 + 1) = False := by simp only [eq_iff_iff, iff_false]; omega
theorem nx1_5 : (n + 1 = n + 1 + 1 + 1 + 1 + 1) = False := by simp only [eq_iff_iff, iff_false]; omega
theorem nx1_6 : (n + 1 = n + 1 + 1 + 1 + 1 + 1 + 1) = False := by simp only [eq_iff_iff, iff_false]; omega
theorem nx2_0 : (n + 1 + 1 = n) = False := by simp only [eq_iff_iff, iff_false]; omega
theorem nx2_1 : (n + 1 + 1 = n + 1) = False := by simp only [eq_iff_iff, iff_false]; omega
theorem nx2_3 : (n + 1 + 1 = n + 1 + 1 + 1) = False := by simp only [eq_iff_iff, iff_false]; omega
theorem nx2_4 : (n + 1 + 1 = n + 1 + 1 + 1 + 1) = False := by simp only [eq_iff_iff, iff_false]; omega
theorem nx2_5 : (n + 1 + 1 = n + 1 + 1 + 1 + 1 + 1) = False := by simp only [eq_iff_iff, iff_false]; omega
theorem nx2_6 : (n + 1 + 1 = n + 1 + 1 + 1 + 1 + 1 + 1) = False := by simp only [eq_iff_iff, iff_false]; omega
theorem nx3_0 : (n + 1 + 1 + 1 = n) = False := by simp only [eq_iff_iff, iff_false]; omega
theorem nx3_1 : (n + 1 + 1 + 1 = n + 1) = False := by simp only [eq_iff_iff, iff_false]; omega
theorem nx3_2 : (n + 1 + 1 + 1 = n + 1 + 1) = False := by simp only [eq_iff_iff, iff_false]; omega
theorem nx3_4 : (n + 1 + 1 + 1 = n + 1 + 1 + 1 + 1) = False := by simp only [eq_iff_iff, iff_false]; omega
theorem nx3_5 : (n + 1 + 1 + 1 = n + 1 + 1 + 1 + 1 + 1) = False := by simp only [eq_iff_iff, iff_false]; omega
theorem nx3_6 : (n + 1 + 1 + 1 = n + 1 + 1 + 1 + 1 + 1 + 1) = False := by simp only [eq_iff_iff, iff_false]; omega
theorem nx4_0 : (n + 1 + 1 + 1 + 1 = n) = False := by simp only [eq_iff_iff, iff_false]; omega
theorem nx4_1 : (n + 1 + 1 + 1 + 1 = n + 1) = False := by simp only [eq_iff_iff, iff_false]; omega
theorem nx4_2 : (n + 1 + 1 + 1 + 1 = n + 1 + 1) = False := by simp only [eq_iff_iff, iff_false]; omega
theorem nx4_3 : (n + 1 + 1 + 1 + 1 = n + 1 + 1 + 1) = False := by simp only [eq_iff_iff, iff_false]; omega
theorem nx4_5 : (n + 1 + 1 + 1 + 1 = n + 1 + 1 + 1 + 1 + 1) = False := by simp only [eq_iff_iff, iff_false]; omega
theorem nx4_6 : (n + 1 + 1 + 1 + 1 = n + 1 + 1 + 1 + 1 + 1 + 1) = False := by simp only [eq_iff_iff, iff_false]; omega
theorem nx5_0 : (n + 1 + 1 + 1 + 1 + 1 = n) = False := by simp only [eq_iff_iff, iff_false]; omega
theorem nx5_1 : (n + 1 + 1 + 1 + 1 + 1 = n + 1) = False := by simp only [eq_iff_iff, iff_false]; omega
theorem nx5_2 : (n + 1 + 1 + 1 + 1 + 1 = n + 1 + 1) = False := by simp only [eq_iff_iff, iff_false]; omega
theorem nx5_3 : (n + 1 + 1 + 1 + 1 + 1 = n + 1 + 1 + 1) = False := by simp only [eq_iff_iff, iff_false]; omega
theorem nx5_4 : (n + 1 + 1 + 1 + 1 + 1 = n + 1 + 1 + 1 + 1) = False := by simp only [eq_iff_iff, iff_false]; omega
theorem nx5_6 : (n + 1 + 1 + 1 + 1 + 1 = n + 1 + 1 + 1 + 1 + 1 + 1) = False := by simp only [eq_iff_iff, iff_false]; omega
theorem nx6_0 : (n + 1 + 1 + 1 + 1 + 1 + 1 = n) = False := by simp only [eq_iff_iff, iff_false]; omega
theorem nx6_1 : (n + 1 + 1 + 1 + 1 + 1 + 1 = n + 1) = False := by simp only [eq_iff_iff, iff_false]; omega
theorem nx6_2 : (n + 1 + 1 + 1 + 1 + 1 + 1 = n + 1 + 1) = False := by simp only [eq_iff_iff, iff_false]; omega
theorem nx6_3 : (n + 1 + 1 + 1 + 1 + 1 + 1 = n + 1 + 1 + 1) = False := by simp only [eq_iff_iff, iff_false]; omega
theorem nx6_4 : (n + 1 + 1 + 1 + 1 + 1 + 1 = n + 1 + 1 + 1 + 1) = False := by simp only [eq_iff_iff, iff_false]; omega
theorem nx6_5 : (n + 1 + 1 + 1 + 1 + 1 + 1 = n + 1 + 1 + 1 + 1 + 1) = False := by simp only [eq_iff_iff, iff_false]; omega
attribute [push_cast] nx0_1 nx0_2 nx0_3 nx0_4 nx0_5 nx0_6 nx1_0 nx1_2 nx1_3 nx1_4 nx1_5 nx1_6 nx2_0 nx2_1 nx2_3 nx2_4 nx2_5 nx2_6 nx3_0 nx3_1 nx3_2 nx3_4 nx3_5 nx3_6 nx4_0 nx4_1 nx4_2 nx4_3 nx4_5 nx4_6 nx5_0 nx5_1 nx5_2 nx5_3 nx5_4 nx5_6 nx6_0 nx6_1 nx6_2 nx6_3 nx6_4 nx6_5
section
variable {E : Env} {h : Heap} (hw : WF E h)
include hw
theorem WF.b0 : (h.next < E.base) = False := by have := hw.base; simp only [eq_iff_iff, iff_false]; omega
theorem WF.b1 : (h.next + 1 < E.base) = False := by have := hw.base; simp only [eq_iff_iff, iff_false]; omega
theorem WF.b2 : (h.next + 1 + 1 < E.base) = False := by have := hw.base; simp only [eq_iff_iff, iff_false]; omega
theorem WF.b3 : (h.next + 1 + 1 + 1 < E.base) = False := by have := hw.base; simp only [eq_iff_iff, iff_false]; omega
theorem WF.b4 : (h.next + 1 + 1 + 1 + 1 < E.base) = False := by have := hw.base; simp only [eq_iff_iff, iff_false]; omega
theorem WF.b5 : (h.next + 1 + 1 + 1 + 1 + 1 < E.base) = False := by have := hw.base; simp only [eq_iff_iff, iff_false]; omega
end
/-- What was is kept, and the memory is in order. -/
structure KW (E : Env) (h h' : Heap) : Prop where
  k : Keep h h'
  w : WF E h'
theorem WF.ne' {E : Env} {h : Heap} (hw : WF E h) {b : Nat} {o : AObj} (hb : h.get b = some o) : (b = h.next) = False := by have := (hw.live b o hb).2; simp; omega
theorem KW.ext {E : Env} {G : Mem} {h h' : Heap} (a : KW E h h') (hG : Frz E G h) : Ext E G h G h' := Ext.same hG a.k a.w
theorem KW.refl {E : Env} {h : Heap} (hW : WF E h) : KW E h h := ⟨Keep.refl h, hW⟩
theorem KW.trans {E : Env} {h h1 h2 : Heap} (a : KW E h h1) (b : KW E h1 h2) : KW E h h2 := ⟨a.k.trans b.k, b.w⟩
theorem KW.push {E : Env} {h h1 : Heap} {o : AObj} (a : KW E h h1) : KW E h (h1.push o) := ⟨a.k.push a.w, a.w.push o⟩
theorem KW.put {E : Env} {h h1 : Heap} {b : Nat} {o : AObj} (a : KW E h h1) (hb : h.next ≤ b) (hl : b < h1.next) (hB : WF E h) : KW E h (h1.put b o) := by
  refine ⟨⟨fun x p hx => ?_, by simpa using a.k.next⟩, ⟨by simpa using a.w.base, fun x p hx => ?_⟩⟩
  · rw [get_put, if_neg (by have := (hB.live x p hx).2; omega)]
    exact a.k.get x p hx
  · rw [get_put] at hx
    split at hx
    · rename_i e
      subst e
      exact ⟨by have := hB.base; omega, by simpa using hl⟩
    · simpa using a.w.live x p hx
theorem push1 {E : Env} {h : Heap} {motive : Heap → Prop} (hW : WF E h) {o0 : AObj} (K : ∀ H, H.get (h.next) = some o0 → KW E h H → H.next = h.next + 1 → motive H) : motive (h.push o0) :=
  K _ (by simp only [get_push, next_push, if_true, if_false]) (KW.refl hW).push (by simp)
theorem push2 {E : Env} {h : Heap} {motive : Heap → Prop} (hW : WF E h) {o0 o1 : AObj} (K : ∀ H, H.get (h.next) = some o0 → H.get (h.next + 1) = some o1 → KW E h H → H.next = h.next + 2 → motive H) : motive ((h.push o0).push o1) :=
  K _ (by simp only [get_push, next_push, nx1_0, if_true, if_false]) (by simp only [get_push, next_push, nx1_0, if_true, if_false]) (KW.refl hW).push.push (by simp)
theorem push3 {E : Env} {h : Heap} {motive : Heap → Prop} (hW : WF E h) {o0 o1 o2 : AObj} (K : ∀ H, H.get (h.next) = some o0 → H.get (h.next + 1) = some o1 → H.get (h.next + 1 + 1) = some o2 → KW E h H → H.next = h.next + 3 → motive H) : motive (((h.push o0).push o1).push o2) :=
  K _ (by simp only [get_push, next_push, nx1_0, nx2_0, nx2_1, if_true, if_false]) (by simp only [get_push, next_push, nx1_0, nx2_0, nx2_1, if_true, if_false]) (by simp only [get_push, next_push, nx1_0, nx2_0, nx2_1, if_true, if_false]) (KW.refl hW).push.push.push (by simp)
theorem push4 {E : Env} {h : Heap} {motive : Heap → Prop} (hW : WF E h) {o0 o1 o2 o3 : AObj} (K : ∀ H, H.get (h.next) = some o0 → H.get (h.next + 1) = some o1 → H.get (h.next + 1 + 1) = some o2 → H.get (h.next + 1 + 1 + 1) = some o3 → KW E h H → H.next = h.next + 4 → motive H) : motive ((((h.push o0).push o1).push o2).push o3) :=
  K _ (by simp only [get_push, next_push, nx1_0, nx2_0, nx2_1, nx3_0, nx3_1, nx3_2, if_true, if_false]) (by simp only [get_push, next_push, nx1_0, nx2_0, nx2_1, nx3_0, nx3_1, nx3_2, if_true, if_false]) (by simp only [get_push, next_push, nx1_0, nx2_0, nx2_1, nx3_0, nx3_1, nx3_2, if_true, if_false]) (by simp only [get_push, next_push, nx1_0, nx2_0, nx2_1, nx3_0, nx3_1, nx3_2, if_true, if_false]) (KW.refl hW).push.push.push.push (by simp)
theorem push5 {E : Env} {h : Heap} {motive : Heap → Prop} (hW : WF E h) {o0 o1 o2 o3 o4 : AObj} (K : ∀ H, H.get (h.next) = some o0 → H.get (h.next + 1) = some o1 → H.get (h.next + 1 + 1) = some o2 → H.get (h.next + 1 + 1 + 1) = some o3 → H.get (h.next + 1 + 1 + 1 + 1) = some o4 → KW E h H → H.next = h.next + 5 → motive H) : motive (((((h.push o0).push o1).push o2).push o3).push o4) :=
  K _ (by simp only [get_push, next_push, nx1_0, nx2_0, nx2_1, nx3_0, nx3_1, nx3_2, nx4_0, nx4_1, nx4_2, nx4_3, if_true, if_false]) (by simp only [get_push, next_push, nx1_0, nx2_0, nx2_1, nx3_0, nx3_1, nx3_2, nx4_0, nx4_1, nx4_2, nx4_3, if_true, if_false]) (by simp only [get_push, next_push, nx1_0, nx2_0, nx2_1, nx3_0, nx3_1, nx3_2, nx4_0, nx4_1, nx4_2, nx4_3, if_true, if_false]) (by simp only [get_push, next_push, nx1_0, nx2_0, nx2_1, nx3_0, nx3_1, nx3_2, nx4_0, nx4_1, nx4_2, nx4_3, if_true, if_false]) (by simp only [get_push, next_push, nx1_0, nx2_0, nx2_1, nx3_0, nx3_1, nx3_2, nx4_0, nx4_1, nx4_2, nx4_3, if_true, if_false]) (KW.refl hW).push.push.push.push.push (by simp)
/-- The temporaries forgotten, but for some. -/
theorem gtm {motive : Tr Value → Heap → Prop} (ks : List Nat) {tm : Tr Value} {h : Heap} (K : ∀ t, (∀ i, i ∈ ks → fget t i = fget tm i) → motive t h) : motive tm h := K tm fun _ _ => rfl
theorem ops_builtin {b : Builtin} {as : Array Operand} {ts : Array TypeId} : (Call.operands ⟨.builtin b, as, ts⟩).toList = as.toList := by simp [Call.operands]
theorem ops_func {f : FuncId} {as : Array Operand} {ts : Array TypeId} : (Call.operands ⟨.value (.func f), as, ts⟩).toList = .func f :: as.toList := by simp [Call.operands]
theorem aalloc_bs {P : Program} {ev : Operand → Value} {t : TypeId} {n : Nat} {ps : Array (Nat × Operand)} : aalloc P ev (.buildSlice t n ps) = abs1 P t n (ps.toList.map fun p => (p.1, ev p.2)) := rfl
theorem live_all {c : Nat → St} {D : List Nat} {b : Nat} : ∀ (K : Nat), (∀ k, k < K → k ∈ D) → b < (c K).h.next → live c D b = true
  | 0, _, h => by rw [live_at]; simp [h]
  | K + 1, hD, h => by
    by_cases hb : b < (c K).h.next
    · exact live_all K (fun k hk => hD k (by omega)) hb
    · rw [live_at, Bool.or_eq_true]
      right
      rw [List.any_eq_true]
      exact ⟨K, hD K (by omega), by simp [inSpan]; omega⟩
theorem live_one {c : Nat → St} {D : List Nat} {b k : Nat} (hk : k ∈ D) (h1 : (c k).h.next ≤ b) (h2 : b < (c (k + 1)).h.next) : live c D b = true := by
  rw [live_at, Bool.or_eq_true]
  right
  rw [List.any_eq_true]
  exact ⟨k, hk, by simp [inSpan]; omega⟩
theorem scQ_slice {q : Nat → Bool} {a : Option Addr} {n k : Nat} (h : ∀ x, a = some x → q x.block = true) : scQ q (.slice a n k) = true := by
  cases a with
  | none => rfl
  | some x => exact h x rfl
theorem sc_slice {m : Nat} {a : Option Addr} {n k : Nat} (h : sc m (.slice a n k) = true) : ∀ x, a = some x → x.block < m := fun x e => by
  subst e
  simpa [sc] using h
/-- A slice out of what was there at the K-th state. -/
theorem scQ_sl {c : Nat → St} {D : List Nat} {a : Option Addr} {n k : Nat} (K : Nat) (hD : ∀ k, k < K → k ∈ D) (h : sc (c K).h.next (.slice a n k) = true) : scQ (live c D) (.slice a n k) = true :=
  scQ_slice fun x e => live_all K hD (sc_slice h x e)
theorem scQ_sl1 {c : Nat → St} {D : List Nat} {a : Addr} {n k : Nat} {K : Nat} (hk : K ∈ D) (h1 : (c K).h.next ≤ a.block) (h2 : a.block < (c (K + 1)).h.next) : scQ (live c D) (.slice (some a) n k) = true := live_one hk h1 h2
theorem scQ_pt {c : Nat → St} {D : List Nat} {a : Addr} (K : Nat) (hD : ∀ k, k < K → k ∈ D) (h : a.block < (c K).h.next) : scQ (live c D) (.pointer (some a)) = true := live_all K hD h
end Go.Tm
/- Appends to lists of one's own. -/
namespace Go.Tm
/-- A list that stays, its place known. -/
def Fz (E : Env) (G : Mem) (z n : Nat) (cs : List Value) (v : Value) : Prop := Sl E G z n cs v ∧ ∀ a k c, v = .slice (some a) k c → a.spot = none ∧ (k = 0 → gcells E G a 0 = some [])
theorem Fz.slice {E : Env} {G : Mem} {z n : Nat} {cs : List Value} {v : Value} (H : Fz E G z n cs v) : ∃ a c, v = .slice a n c ∧ n ≤ c ∧ c ≤ 9223372036854775807 := H.1.slice
theorem Fz.sub {E : Env} {G G' : Mem} {z n : Nat} {cs : List Value} {v : Value} (H : Fz E G z n cs v) (s : Sub G G') : Fz E G' z n cs v := ⟨H.1.sub s, fun a k c e => ⟨(H.2 a k c e).1, fun h0 => gcells_sub s ((H.2 a k c e).2 h0)⟩⟩
/-- What lies in a block that stays. -/
theorem gcells_none {E : Env} {G : Mem} {a : Addr} {g : List Value} (hb : ¬ a.block < E.base) (hs : a.spot = none) (ho : a.off = 0) (hg : G a.block = some g) : gcells E G a 0 = some [] := by
  unfold gcells
  rw [if_neg hb]
  simp only [hs, hg, ho, Nat.zero_add, Nat.zero_le, if_true, List.take_zero]
theorem Own.fz {E : Env} {G : Mem} {h : Heap} {e z lo n : Nat} {cs : List Value} {v : Value} (hW : WF E h) (H : Own h e z lo n cs v) (hs : Sl E G z n cs v) : Fz E G z n cs v := by
  refine ⟨hs, fun a k c e1 => ?_⟩
  rcases H with ⟨rfl, _⟩ | ⟨b, cap, rest, fx, rfl, hg, _⟩
  · cases e1
  · injection e1 with e1 _ e3
    injection e1 with e1
    subst e1
    refine ⟨rfl, fun _ => ?_⟩
    obtain ⟨a', c', e4, _, _, ⟨_, h5⟩, _⟩ := hs
    injection e4 with e4 _ _
    have hb := hW.nlt hg
    simp only [eq_iff_iff, iff_false] at hb
    rcases h5 _ e4.symm with h6 | ⟨g, h6⟩
    · exact absurd h6 hb
    · exact gcells_none hb rfl rfl h6
theorem Fz.nil {E : Env} {G : Mem} {z : Nat} : Fz E G z 0 [] (.slice none 0 0) := ⟨⟨none, 0, rfl, by omega, by omega, ⟨fun _ => rfl, fun _ x => (by cases x)⟩, .inl ⟨rfl, rfl⟩⟩, fun a k c h => by cases h⟩
/-- What an append leaves: the list, what else was, its block. -/
structure Apd (E : Env) (h h' : Heap) (e z lo n : Nat) (cs : List Value) (v v' : Value) : Prop where
  own : Own h' e z lo n cs v'
  get : ∀ b o, h.get b = some o → b ∉ slB v → h'.get b = some o
  blk : ∀ b, b ∈ slB v' → b ∈ slB v ∨ h.next ≤ b
  next : h.next ≤ h'.next
  wf : WF E h'
  sl : ∃ a c, v' = .slice a n c
theorem Own.isSl {h : Heap} {e z lo n : Nat} {cs : List Value} {v : Value} (H : Own h e z lo n cs v) : ∃ a c, v = .slice a n c ∧ n ≤ c := by
  rcases H with ⟨rfl, rfl, rfl⟩ | ⟨b, cap, rest, fx, rfl, _, _, _, h3, _⟩
  · exact ⟨_, _, rfl, by omega⟩
  · exact ⟨_, _, rfl, h3⟩
theorem kwv_G {E : Env} {h : Heap} {t e z by_ lo n m : Nat} {cs xs : List Value} {v x : Value} {d : Option Nat} {R : Cont} {tm : Tr Value} (T : Elem E t e z by_) (hW : WF E h) (hlo : lo ≤ h.next) (H : Own h e z lo n cs v)
    (hm : alenOf x = some m) (hx : 0 < m → asrc E h z x m = some xs) (hl : xs.length = m * z) (ho : xs.all Value.oneCell' = true) (hb : (n + m) * by_ ≤ 140737488355328) (hn : n + m ≤ 9223372036854775807)
    (K : ∀ v' h', Apd E h h' e z lo (n + m) (cs ++ xs) v v' → R (aput tm d v') h') : kwv (aappend E h t t v x) d R tm h := by
  by_cases h0 : m = 0
  · subst h0
    have : xs = [] := List.eq_nil_of_length_eq_zero (by simpa using hl)
    subst this
    obtain ⟨i, hi, hiz⟩ : ∃ i, E.P.info? e = some i ∧ (i.size, i.bytes) = (z, by_) := by
      have := T.info
      rw [Option.map_eq_some_iff] at this
      exact this
    obtain ⟨base, sCap, rfl, hle⟩ := H.isSl
    refine ⟨(.slice base n sCap, h), ?_, K _ _ ⟨by simpa using H, fun b o hb _ => hb, fun b hb => .inl hb, Nat.le_refl _, hW, _, _, rfl⟩⟩
    simp only [aappend, T.und, hm, isIntD, Bool.false_eq_true, if_false, hi]
    unfold aappendE
    rw [if_pos ⟨rfl, hle⟩]
  · obtain ⟨v', h', e1, e2, e3, e4, e5⟩ := append_own T hW hlo H hm (by omega) (hx (by omega)) hl ho hb hn
    obtain ⟨a, c, e6, _⟩ := e2.isSl
    refine ⟨(v', h'), e1, K v' h' ⟨e2, fun b o hb hn => e5 b o hb fun c a k hv he => hn (by subst hv; simp [slB, he]), append_blk T hW H hm (by omega) (hx (by omega)) e1, e3.next, e4, a, c, e6⟩⟩
/-- Of what lies somewhere and stays. -/
theorem kwv_GS {E : Env} {G : Mem} {h : Heap} {t e z by_ lo n m : Nat} {cs xs : List Value} {v x : Value} {d : Option Nat} {R : Cont} {tm : Tr Value} (T : Elem E t e z by_) (hW : WF E h) (hG : Frz E G h) (hlo : lo ≤ h.next) (H : Own h e z lo n cs v)
    (hx : Sl E G z m xs x) (hl : xs.length = m * z) (ho : xs.all Value.oneCell' = true) (hb : (n + m) * by_ ≤ 140737488355328) (hn : n + m ≤ 9223372036854775807)
    (K : ∀ v' h', Apd E h h' e z lo (n + m) (cs ++ xs) v v' → R (aput tm d v') h') : kwv (aappend E h t t v x) d R tm h := by
  obtain ⟨a, cap, rfl, hc1, hc2, hc3, hcs⟩ := hx
  refine kwv_G T hW hlo H rfl (fun h0 => ?_) hl ho hb hn K
  rcases hcs with ⟨h1, _⟩ | ⟨b, rfl, hg⟩
  · omega
  · have hz := T.pos
    simp only [asrc]
    rw [if_neg (by have := Nat.mul_pos h0 hz; omega)]
    exact gcells_acells hG hg
/-- Of a list of one's own. -/
theorem kwv_GO {E : Env} {h : Heap} {t e e' z by_ lo lo' n m : Nat} {cs xs : List Value} {v x : Value} {d : Option Nat} {R : Cont} {tm : Tr Value} (T : Elem E t e z by_) (hW : WF E h) (hlo : lo ≤ h.next) (H : Own h e z lo n cs v)
    (hx : Own h e' z lo' m xs x) (ho : xs.all Value.oneCell' = true) (hb : (n + m) * by_ ≤ 140737488355328) (hn : n + m ≤ 9223372036854775807)
    (K : ∀ v' h', Apd E h h' e z lo (n + m) (cs ++ xs) v v' → R (aput tm d v') h') : kwv (aappend E h t t v x) d R tm h := by
  rcases hx with ⟨rfl, rfl, rfl⟩ | ⟨b, cap, rest, fx, rfl, hg, hc1, hc2, hc3, hc4, hc5⟩
  · exact kwv_G T hW hlo H rfl (fun h0 => by omega) (by simp) rfl hb hn K
  · refine kwv_G T hW hlo H rfl (fun h0 => ?_) hc1 ho hb hn K
    have hz := T.pos
    simp only [asrc]
    rw [if_neg (by have := Nat.mul_pos h0 hz; omega)]
    unfold acells
    rw [if_neg (by have := hW.nlt hg; simpa using this)]
    simp only [hg]
    rw [if_pos (by simp [hc1]), List.drop_zero, ← hc1, List.take_left]
/-- Of one element, just laid. -/
theorem kwv_G1 {E : Env} {h : Heap} {t e e' z by_ lo n : Nat} {cs xs : List Value} {v : Value} {d : Option Nat} {R : Cont} {tm : Tr Value} (T : Elem E t e z by_) (hW : WF E h) (hlo : lo ≤ h.next) (H : Own h e z lo n cs v)
    (hl : xs.length = z) (ho : xs.all Value.oneCell' = true) (hb : (n + 1) * by_ ≤ 140737488355328) (hn : n + 1 ≤ 9223372036854775807)
    (K : ∀ v' h', Apd E h h' e z lo (n + 1) (cs ++ xs) v v' → h.next + 1 ≤ h'.next → R (aput tm d v') h') : kwv (aappend E (h.push (.cells xs e' true)) t t v (.slice (some ⟨h.next, 0, none⟩) 1 1)) d R tm (h.push (.cells xs e' true)) := by
  have kp := (Keep.refl h).push (o := .cells xs e' true) hW
  refine kwv_G T (hW.push _) (by simp; omega) (H.keep kp) rfl (fun _ => ?_) (by omega) ho hb hn fun v' h' a => K v' h' ⟨a.own, fun b o hb hn => a.get b o (kp.get b o hb) hn, fun b hb => ?_, ?_, a.wf, a.sl⟩ ?_
  · have hz := T.pos
    simp only [asrc, Nat.one_mul]
    rw [if_neg (by omega)]
    unfold acells
    simp only [hW.nb0, if_false, get_push, if_true, Nat.zero_add]
    rw [if_pos (by omega), List.drop_zero, List.take_of_length_le (by omega)]
  · rcases a.blk b hb with h1 | h1
    · exact .inl h1
    · right; simp at h1; omega
  · have := a.next; simp at this; omega
  · have := a.next; simpa using this
theorem Own.sc {E : Env} {h : Heap} {e z lo n : Nat} {cs : List Value} {v : Value} (hW : WF E h) (H : Own h e z lo n cs v) : Go.Tm.sc h.next v = true := by
  rcases H with ⟨rfl, _⟩ | ⟨b, cap, rest, fx, rfl, hg, _⟩
  · rfl
  · simp only [Go.Tm.sc]
    simpa using (hW.live _ _ hg).2
theorem Own.at {h h' : Heap} {e z lo n : Nat} {cs : List Value} {v : Value} (H : Own h e z lo n cs v) (k : ∀ b o, b ∈ slB v → h.get b = some o → h'.get b = some o) : Own h' e z lo n cs v := by
  rcases H with H | ⟨b, cap, rest, fx, rfl, h2, h3⟩
  · exact .inl H
  · exact .inr ⟨b, cap, rest, fx, rfl, k _ _ (by simp [slB]) h2, h3⟩
theorem Own.spot {h : Heap} {e z lo n : Nat} {cs : List Value} {v : Value} (H : Own h e z lo n cs v) : ∀ a k c, v = .slice (some a) k c → a.spot = none := by
  intro a k c e1
  rcases H with ⟨rfl, _⟩ | ⟨b, cap, rest, fx, rfl, _⟩
  · cases e1
  · injection e1 with e1; injection e1 with e1; subst e1; rfl
theorem Own.low {h : Heap} {e z lo lo' n : Nat} {cs : List Value} {v : Value} (H : Own h e z lo n cs v) (hl : lo' ≤ lo) : Own h e z lo' n cs v := by
  rcases H with H | ⟨b, cap, rest, fx, a1, a2, a3, a4, a5, a6, a7⟩
  · exact .inl H
  · exact .inr ⟨b, cap, rest, fx, a1, a2, a3, a4, a5, by omega, a7⟩
/-- What was ahead of the call is kept. -/
theorem KW.app {E : Env} {h0 h h' : Heap} {e z lo n m : Nat} {cs cs' : List Value} {v v' : Value} (hk : KW E h0 h) (h0w : WF E h0) (H : Own h e z lo n cs v) (a : Apd E h h' e z lo m cs' v v') (hl : h0.next ≤ lo := by omega) : KW E h0 h' :=
  ⟨⟨fun b o hb => a.get b o (hk.k.get b o hb) fun hs => by
    have h1 := H.lt hk.w b hs
    have h2 := (h0w.live b o hb).2
    omega, Nat.le_trans hk.k.next a.next⟩, a.wf⟩
/-- A list that was made stays. -/
theorem Own.frz {E : Env} {G : Mem} {h h' : Heap} {e z n : Nat} {cs : List Value} {v : Value} (hW : WF E h) (hG : Frz E G h) (k : KW E h h') (H : Own h' e z h.next n cs v) : ∃ G', Fz E G' z n cs v ∧ Ext E G h G' h' := by
  obtain ⟨G', h1, h2⟩ := Own.freeze hW hG (Nat.le_refl _) k.k k.w H
  exact ⟨G', H.fz k.w h1, h2⟩
/-- An element of a list of one's own. -/
theorem Own.elem {E : Env} {h : Heap} {e z lo n : Nat} {cs : List Value} {v : Value} (hW : WF E h) (H : Own h e z lo n cs v) {i : Nat} (hi : i < n) : ∃ b c, v = .slice (some ⟨b, 0, none⟩) n c ∧ acells E h ⟨b, i * z, none⟩ z = some ((cs.drop (i * z)).take z) := by
  rcases H with ⟨_, h1, _⟩ | ⟨b, cap, rest, fx, rfl, hg, hc1, hc2, hc3, hc4, hc5⟩
  · omega
  · refine ⟨b, cap, rfl, ?_⟩
    have h1 : i * z + z ≤ n * z := by
      have : (i + 1) * z ≤ n * z := Nat.mul_le_mul_right z (by omega)
      rw [Nat.add_mul] at this; omega
    unfold acells
    simp only [hg]
    rw [if_neg (by have := hW.nlt hg; simpa using this), if_pos (by rw [List.length_append]; omega), List.drop_append_of_le_length (by omega), List.take_append_of_le_length (by rw [List.length_drop]; omega)]
/-- A further list that was made stays. -/
theorem Ext.frz2 {E : Env} {G G' : Mem} {h h' : Heap} {e z n : Nat} {cs : List Value} {v : Value} (X : Ext E G h G' h') (H : Own h' e z h.next n cs v) : ∃ G'', Fz E G'' z n cs v ∧ Ext E G h G'' h' ∧ Sub G' G'' ∧ ∀ b c, G'' b = some c → G' b = some c ∨ b ∈ slB v := by
  rcases H with ⟨rfl, rfl, rfl⟩ | ⟨b, cap, rest, fx, rfl, hg, hc1, hc2, hc3, hc4, hc5⟩
  · exact ⟨G', Fz.nil, X, Sub.refl _, fun b c h => .inl h⟩
  · have hs : Sub G' (fun j => if j = b then some (cs ++ rest) else G' j) := by
      intro j c hj
      show (if j = b then some (cs ++ rest) else G' j) = some c
      by_cases e1 : j = b
      · subst e1
        obtain ⟨e', fx', hh⟩ := X.frz j c hj
        rw [hg] at hh
        injection hh with hh
        injection hh with hh
        rw [if_pos rfl, hh]
      · rw [if_neg e1]; exact hj
    have hnb : ¬ b < E.base := by have := X.wf.nlt hg; simpa using this
    refine ⟨fun j => if j = b then some (cs ++ rest) else G' j, ⟨⟨some ⟨b, 0, none⟩, cap, rfl, hc3, hc5, ⟨fun x => (by cases x), fun b' e => .inr ⟨cs ++ rest, by injection e with e; subst e; simp⟩⟩, .inr ⟨_, rfl, ?_⟩⟩, fun a k c e => by injection e with e; injection e with e; subst e; exact ⟨rfl, fun _ => gcells_none hnb rfl rfl (g := cs ++ rest) (if_pos rfl)⟩⟩, ⟨X.sub.trans hs, ?_, ?_, X.keep, X.wf⟩, hs, ?_⟩
    · unfold gcells
      rw [if_neg (by have := X.wf.nlt hg; simpa using this)]
      simp only [if_true]
      rw [if_pos (by simp [hc1])]
      simp [← hc1]
    · intro j c hj
      replace hj : (if j = b then some (cs ++ rest) else G' j) = some c := hj
      split at hj
      · rename_i e1; subst e1; injection hj with hj; subst hj; exact ⟨_, _, hg⟩
      · exact X.frz j c hj
    · intro j c hj
      replace hj : (if j = b then some (cs ++ rest) else G' j) = some c := hj
      split at hj
      · rename_i e1; right; omega
      · exact X.new j c hj
    · intro j c hj
      replace hj : (if j = b then some (cs ++ rest) else G' j) = some c := hj
      split at hj
      · rename_i e1; subst e1; right; simp [slB]
      · exact .inl hj
theorem Fz.cut {E : Env} {P : Program} {G : Mem} {t e z : TypeId} (hu : P.underlying t = some (.slice e)) (hz : asz P e = some z) {n : Nat} {cs : List Value} {v : Value} (hs : Fz E G z n cs v) {lo hi : Option Value} {l h : Nat}
    (hh : ∀ c, n ≤ c → abnd hi n c = some h) (hl : abnd lo 0 h = some l) (hlh : l ≤ h) (hhn : h ≤ n) :
    ∃ y, asl P t v lo hi = some y ∧ Sl E G z (h - l) ((cs.drop (l * z)).take ((h - l) * z)) y := by
  obtain ⟨⟨a, c, rfl, h1, h2, h3, h4⟩, hsp⟩ := hs
  unfold asl
  rw [hu]
  simp only [hh c h1, hl, hz]
  cases a with
  | none =>
    have hc0 := h3.1 rfl
    subst hc0
    have hn0 : n = 0 := by omega
    subst hn0
    have : h - l = 0 := by omega
    rw [this]
    exact ⟨_, rfl, _, _, rfl, by omega, by omega, ⟨fun _ => by omega, fun _ x => (by cases x)⟩, .inl ⟨rfl, by simp⟩⟩
  | some a =>
    have hsp' := (hsp a n c rfl).1
    simp only [hsp']
    by_cases hc : l < c
    · rw [if_pos hc]
      refine ⟨_, rfl, _, _, rfl, by omega, by omega, ⟨fun x => (by cases x), fun b e => ?_⟩, ?_⟩
      · injection e with e; subst e; exact h3.2 a rfl
      · rcases h4 with ⟨h5, h6⟩ | ⟨b, h5, h6⟩
        · left; subst h6; exact ⟨by omega, by simp⟩
        · injection h5 with h5; subst h5
          right
          refine ⟨_, rfl, ?_⟩
          have := gcells_part h6 (i := l * z) (m := (h - l) * z) (by rw [← Nat.add_mul]; exact Nat.mul_le_mul_right z (by omega))
          simp only [addo] at this ⊢
          exact this
    · rw [if_neg hc, if_pos (by omega)]
      have : h - l = 0 := by omega
      rw [this]
      refine ⟨_, rfl, _, _, rfl, by omega, by omega, ⟨fun x => (by cases x), fun b e => ?_⟩, .inl ⟨rfl, by simp⟩⟩
      · injection e with e; subst e; exact h3.2 a rfl
theorem Fz.from {E : Env} {P : Program} {G : Mem} {t e z : TypeId} (hu : P.underlying t = some (.slice e)) (hz : asz P e = some z) {n : Nat} {cs : List Value} {v : Value} (hs : Fz E G z n cs v) (hc : cs.length = n * z) {k : Nat} (hk : k ≤ n) :
    ∃ a c, asl P t v (some (.int .i64 (k : Int))) none = some (.slice a (n - k) c) ∧ Sl E G z (n - k) (cs.drop (k * z)) (.slice a (n - k) c) := by
  obtain ⟨y, h1, h2⟩ := hs.cut (lo := some (.int .i64 (k : Int))) (hi := none) (l := k) (h := n) hu hz (fun c _ => rfl) (by unfold abnd; simp only; rw [if_pos (by omega)]; simp) hk (Nat.le_refl _)
  obtain ⟨a, c, rfl, _⟩ := h2.slice
  rw [List.take_of_length_le (by rw [List.length_drop, hc, ← Nat.sub_mul]; exact Nat.le_refl _)] at h2
  exact ⟨a, c, h1, h2⟩
theorem Fz.upto {E : Env} {P : Program} {G : Mem} {t e z : TypeId} (hu : P.underlying t = some (.slice e)) (hz : asz P e = some z) {n : Nat} {cs : List Value} {v : Value} (hs : Fz E G z n cs v) {k : Nat} (hk : k ≤ n) :
    ∃ a c, asl P t v none (some (.int .i64 (k : Int))) = some (.slice a k c) ∧ Sl E G z k (cs.take (k * z)) (.slice a k c) := by
  obtain ⟨y, h1, h2⟩ := hs.cut (lo := none) (hi := some (.int .i64 (k : Int))) (l := 0) (h := k) hu hz (fun c hc => by unfold abnd; simp only; rw [if_pos (by omega)]; simp) rfl (by omega) hk
  rw [Nat.sub_zero, Nat.zero_mul, List.drop_zero] at h2
  obtain ⟨a, c, rfl, _⟩ := h2.slice
  exact ⟨a, c, h1, h2⟩
end Go.Tm
namespace Vr
structure Ent where
  c : Nat
  n : Nat
  t : ByteArray deriving Inhabited, DecidableEq
structure Rpl where
  e : Nat
  n : Nat deriving Inhabited, DecidableEq
structure La where
  c : Nat
  n : Nat
  r : Rpl deriving Inhabited, DecidableEq
/-- A message. -/
structure Mg where
  k : Nat := 0
  fr : Nat := 0
  to : Nat := 0
  vw : Nat := 0
  op : Nat := 0
  cm : Nat := 0
  bs : Nat := 0
  nm : Nat := 0
  nc : Nat := 0
  log : List Ent := []
  img : List UInt8 := []
  en : Ent := ⟨0, 0, .empty⟩
  rp : Rpl := ⟨0, 0⟩ deriving Inhabited, DecidableEq
/-- A service: what was executed, the table. -/
structure Sv where
  l : List Ent
  tab : List La deriving Inhabited, DecidableEq
/-- A replica. -/
structure PR where
  me : Nat
  n : Nat
  vw : Nat
  st : Nat
  nm : Nat
  bs : Nat
  cm : Nat
  nc : Nat
  log : List Ent
  sv : Sv
  told : List Nat
  voted : List Bool
  sent : Bool
  came : List Mg
  ans : List Mg deriving Inhabited
def PR.new (me n : Nat) : PR := ⟨me, n, 0, 0, 0, 0, 0, 0, [], ⟨[], []⟩, List.replicate n 0, List.replicate n false, false, List.replicate n {}, List.replicate n {}⟩
def PR.op (P : PR) : Nat := P.bs + P.log.length
def PR.F (P : PR) : Nat := (P.n - 1) / 2
def PR.prim (P : PR) : Bool := P.vw % P.n == P.me
def PR.toM (P : PR) (m : Mg) (i : Nat) : Mg := { m with fr := P.me, to := i }
/-- To the others ahead of the i-th. -/
def allF (P : PR) (m : Mg) (i : Nat) : List Mg := ((List.range i).filter fun j => j != P.me).map (P.toM m)
def PR.allM (P : PR) (m : Mg) : List Mg := allF P m P.n
theorem allF_succ (P : PR) (m : Mg) (i : Nat) : allF P m (i + 1) = allF P m i ++ if i = P.me then [] else [P.toM m i] := by
  unfold allF
  rw [List.range_succ, List.filter_append, List.map_append]
  congr 1
  by_cases h : i = P.me <;> simp [h]
theorem allF_len (P : PR) (m : Mg) (i : Nat) : (allF P m i).length ≤ i := by
  unfold allF
  rw [List.length_map]
  exact Nat.le_trans (List.length_filter_le _ _) (by simp)
def lastOf : List La → Nat → Option La
  | [], _ => none
  | x :: l, c => if x.c = c then some x else lastOf l c
/-- Where a client's row goes: behind the last one of a smaller client. -/
def placeOf (c : Nat) : List La → Nat → Nat → Nat
  | [], _, at_ => at_
  | x :: l, i, at_ => placeOf c l (i + 1) (if x.c < c then i + 1 else at_)
def applyS (s : Sv) (e : Ent) : Sv × Rpl :=
  let go (k : Nat) : Sv × Rpl :=
    let r : Rpl := ⟨0, s.l.length + 1⟩
    let a := placeOf e.c s.tab 0 0
    (⟨s.l ++ [e], s.tab.take a ++ [⟨e.c, e.n, r⟩] ++ s.tab.drop (a + k)⟩, r)
  match lastOf s.tab e.c with
  | none => go 0
  | some x => if e.n < x.n then (s, ⟨19, 0⟩) else if e.n = x.n then (s, x.r) else go 1
/-- One entry is executed. -/
def commit1 (P : PR) (e : Ent) : PR × List Mg :=
  let a := applyS P.sv e
  let Q := { P with sv := a.1, cm := P.cm + 1 }
  (Q, if P.st = 0 ∧ P.prim then [P.toM { k := 12, en := ⟨e.c, e.n, .empty⟩, rp := a.2 } (100 + e.c)] else [])
def commitK : List Ent → PR → PR × List Mg
  | [], P => (P, [])
  | e :: l, P => let a := commit1 P e; let b := commitK l a.1; (b.1, a.2 ++ b.2)
/-- The entries that a commit up to k executes. -/
def PR.todo (P : PR) (k : Nat) : List Ent := (P.log.drop (P.cm - P.bs)).take (k - P.cm)
def commit (P : PR) (k : Nat) : PR × List Mg := commitK (P.todo k) P
def logOf (P : PR) (k : Nat) : List Ent := P.log.drop (k - P.bs)
def request (P : PR) (m : Mg) : PR × List Mg :=
  if P.st ≠ 0 ∨ !P.prim then (P, []) else
  let e := m.en
  let go : PR × List Mg :=
    if (P.log.drop (P.cm - P.bs)).any (fun x => x.c == e.c && decide (e.n ≤ x.n)) then (P, []) else
    let Q := { P with log := P.log ++ [e] }
    (Q, Q.allM { k := 2, vw := P.vw, op := Q.op, cm := P.cm, en := e })
  match lastOf P.sv.tab e.c with
  | none => go
  | some x => if e.n < x.n then (P, []) else if e.n = x.n then (P, [P.toM { k := 12, en := ⟨e.c, e.n, .empty⟩, rp := x.r } (100 + e.c)]) else go
def ask (P : PR) (v op fr : Nat) : List Mg := [P.toM { k := 10, vw := v, op := op } fr]
/-- How many others told at least k. -/
def toldN (P : PR) (k : Nat) : Nat := ((List.range P.n).filter fun i => i != P.me && decide (k ≤ P.told.getD i 0)).length
/-- The greatest k that may be committed, out of those from a on, n of them; 0: none. -/
def bestK (P : PR) : Nat → Nat → Nat → Nat
  | 0, _, b => b
  | n + 1, k, b => bestK P n (k + 1) (if P.F ≤ toldN P k then k else b)
def normalM (P : PR) (m : Mg) : PR × List Mg :=
  if P.st ≠ 0 then (P, []) else
  if m.k = 3 then
    if !P.prim ∨ m.vw ≠ P.vw then (P, []) else
    let Q := { P with told := P.told.set m.fr (max (P.told.getD m.fr 0) m.op) }
    commit Q (bestK Q (P.op - P.cm) (P.cm + 1) 0)
  else if m.vw < P.vw then (P, [])
  else if P.vw < m.vw then (P, ask P m.vw P.cm m.fr)
  else if P.prim then (P, [])
  else if m.k = 4 then
    if P.op < m.cm then (P, ask P P.vw P.op m.fr) else commit P m.cm
  else if P.op + 1 < m.op then (P, ask P P.vw P.op m.fr)
  else
    let Q := if m.op = P.op + 1 then { P with log := P.log ++ [m.en] } else P
    let a := commit Q m.cm
    (a.1, a.2 ++ [a.1.toM { k := 3, vw := a.1.vw, op := a.1.op } m.fr])
def idle (P : PR) : List Mg :=
  if P.st ≠ 0 ∨ !P.prim then [] else
  if P.cm < P.op then P.allM { k := 2, vw := P.vw, op := P.op, cm := P.cm, en := P.log.getLastD ⟨0, 0, .empty⟩ }
  else P.allM { k := 4, vw := P.vw, cm := P.cm }
end Vr
