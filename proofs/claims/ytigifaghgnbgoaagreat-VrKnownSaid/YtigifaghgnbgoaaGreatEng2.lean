/- The engine, second part: the abstract heap, what it says of a world, and how both go on together. -/
import Derived.Test.YtigifaghgnbgoaaGreatEng1
namespace Go.Tm

inductive AObj where
  | cells (c : List Value) (e : TypeId) (fx : Bool)
  | map (es : List MapEntry) (clock : Nat)
  | iter (s : ByteArray) (pos : Nat)

structure Heap where
  next : Nat
  tr : Tr AObj

structure Env where
  P : Program
  base : Nat
  ro : Nat → Option Obj

def Heap.get (h : Heap) (b : Nat) : Option AObj := h.tr.get b
def Heap.put (h : Heap) (b : Nat) (o : AObj) : Heap := { h with tr := h.tr.set b (some o) }
def Heap.kill (h : Heap) (b : Nat) : Heap := { h with tr := h.tr.set b none }
def Heap.push (h : Heap) (o : AObj) : Heap := { next := h.next + 1, tr := h.tr.set h.next (some o) }

theorem get_put (h : Heap) (b j : Nat) (o : AObj) : (h.put b o).get j = if b = j then some o else h.get j := Tr.get_set _ _ _ _
theorem get_kill (h : Heap) (b j : Nat) : (h.kill b).get j = if b = j then none else h.get j := Tr.get_set _ _ _ _
theorem get_push (h : Heap) (j : Nat) (o : AObj) : (h.push o).get j = if h.next = j then some o else h.get j := Tr.get_set _ _ _ _
@[simp] theorem next_put (h : Heap) (b : Nat) (o : AObj) : (h.put b o).next = h.next := rfl
@[simp] theorem next_kill (h : Heap) (b : Nat) : (h.kill b).next = h.next := rfl
@[simp] theorem next_push (h : Heap) (o : AObj) : (h.push o).next = h.next + 1 := rfl

def renE (ρ : Ren) (e : MapEntry) : MapEntry := { e with key := ren ρ e.key, val := ren ρ e.val }

def scO (n : Nat) : AObj → Prop
  | .cells c _ _ => ∀ v, v ∈ c → sc n v = true
  | .map es _ => ∀ e, e ∈ es → sc n e.key = true ∧ sc n e.val = true
  | .iter _ _ => True

def objR (P : Program) (ρ : Ren) (x : Loc) : AObj → Obj → Prop
  | .cells c e fx, .cells c' e' fr => e' = e ∧ (fx = true → x.ex = 0) ∧ ∃ pre hid : List Value, c' = (pre ++ c.map (ren ρ) ++ hid).toArray ∧ pre.length = x.sh ∧ hid.length = x.ex * P.cellsOf e ∧ ∀ i, i < c'.size → ¬ (fr.1 ≤ i ∧ i < fr.2)
  | .map es k, .map es' k' => es' = (es.map (renE ρ)).toArray ∧ k' = k
  | .iter s p, .stringIter s' p' => s' = s ∧ p' = p ∧ x.sh = 0
  | _, _ => False

theorem objR_congr {P : Program} {ρ ρ' : Ren} {n : Nat} {x : Loc} {o : AObj} {c : Obj} (h : ∀ b, b < n → ρ' b = ρ b) (hs : scO n o) (hr : objR P ρ x o c) : objR P ρ' x o c := by
  cases o with
  | cells l e fx =>
    cases c <;> simp only [objR] at hr ⊢
    have : l.map (ren ρ') = l.map (ren ρ) := List.map_congr_left fun v hv => ren_congr ρ ρ' n h v (hs v hv)
    rw [this]; exact hr
  | map es k =>
    cases c <;> simp only [objR] at hr ⊢
    have : es.map (renE ρ') = es.map (renE ρ) := List.map_congr_left fun e he => by
      obtain ⟨h1, h2⟩ := hs e he
      simp only [renE, ren_congr ρ ρ' n h _ h1, ren_congr ρ ρ' n h _ h2]
    rw [this]; exact hr
  | iter s p => cases c <;> exact hr

theorem scO_mono {n m : Nat} {o : AObj} (h : n ≤ m) (hs : scO n o) : scO m o := by
  cases o with
  | cells l e fx => exact fun v hv => sc_mono n m h v (hs v hv)
  | map es k => exact fun e he => ⟨sc_mono n m h _ (hs e he).1, sc_mono n m h _ (hs e he).2⟩
  | iter s p => trivial

/-- WHAT AN ABSTRACT HEAP SAYS OF A WORLD. B: how many blocks the world had at the start. -/
structure HR (E : Env) (B : Nat) (ρ : Ren) (h : Heap) (w : World) : Prop where
  base_le : E.base ≤ h.next
  base_B : E.base ≤ B
  B_le : B ≤ w.heap.size
  fix : ∀ b, b < E.base → ρ b = ⟨b, 0, 0⟩
  ro : ∀ b o, b < E.base → E.ro b = some o → w.heap[b]? = some o
  live : ∀ b o, h.get b = some o → E.base ≤ b ∧ b < h.next ∧ B ≤ (ρ b).r ∧ scO h.next o ∧ ∃ c, w.heap[(ρ b).r]? = some c ∧ objR E.P ρ (ρ b) o c
  inj : ∀ b b' o o', h.get b = some o → h.get b' = some o' → (ρ b).r = (ρ b').r → b = b'

theorem HR.lt {E : Env} {B : Nat} {ρ : Ren} {h : Heap} {w : World} (H : HR E B ρ h w) {b : Nat} {o : AObj} (hb : h.get b = some o) : (ρ b).r < w.heap.size := by
  obtain ⟨_, _, _, _, c, hc, _⟩ := H.live b o hb
  rcases Nat.lt_or_ge (ρ b).r w.heap.size with h' | h'
  · exact h'
  · simp [Array.getElem?_eq_none h'] at hc

/-- ONE WAY ON, OF BOTH. -/
structure Step (E : Env) (B : Nat) (ρ : Ren) (h : Heap) (w : World) (ρ' : Ren) (h' : Heap) (w' : World) : Prop where
  hr : HR E B ρ' h' w'
  ext : ∀ b, b < h.next → ρ' b = ρ b
  le : h.next ≤ h'.next
  frame : ∀ r, r < w.heap.size → (∀ b o, h.get b = some o → (ρ b).r ≠ r) → w'.heap[r]? = w.heap[r]?
  range : ∀ b o, h'.get b = some o → (∃ b0 o0, h.get b0 = some o0 ∧ (ρ b0).r = (ρ' b).r) ∨ w.heap.size ≤ (ρ' b).r
  size : w.heap.size ≤ w'.heap.size
  os : w'.os = w.os
  tape : w'.tape = w.tape
  output : w'.output = w.output

theorem Step.refl {E : Env} {B : Nat} {ρ : Ren} {h : Heap} {w : World} (H : HR E B ρ h w) : Step E B ρ h w ρ h w where
  hr := H
  ext := fun _ _ => rfl
  le := Nat.le_refl _
  frame := fun _ _ _ => rfl
  range := fun b o hb => .inl ⟨b, o, hb, rfl⟩
  size := Nat.le_refl _
  os := rfl
  tape := rfl
  output := rfl

theorem Step.trans {E : Env} {B : Nat} {ρ ρ' ρ'' : Ren} {h h' h'' : Heap} {w w' w'' : World} (s : Step E B ρ h w ρ' h' w') (t : Step E B ρ' h' w' ρ'' h'' w'') : Step E B ρ h w ρ'' h'' w'' where
  hr := t.hr
  ext := fun b hb => (t.ext b (Nat.lt_of_lt_of_le hb s.le)).trans (s.ext b hb)
  le := Nat.le_trans s.le t.le
  frame := fun r hr hn => by
    rw [t.frame r (Nat.lt_of_lt_of_le hr s.size) ?_, s.frame r hr hn]
    intro b o hb e
    rcases s.range b o hb with ⟨b0, o0, h0, e0⟩ | hge
    · exact hn b0 o0 h0 (e0.trans e)
    · omega
  range := fun b o hb => by
    rcases t.range b o hb with ⟨b0, o0, h0, e0⟩ | hge
    · rcases s.range b0 o0 h0 with ⟨b1, o1, h1, e1⟩ | hge
      · exact .inl ⟨b1, o1, h1, e1.trans e0⟩
      · exact .inr (e0 ▸ hge)
    · exact .inr (Nat.le_trans s.size hge)
  size := Nat.le_trans s.size t.size
  os := t.os.trans s.os
  tape := t.tape.trans s.tape
  output := t.output.trans s.output

theorem heap_alloc (w : World) (c : Obj) : (w.alloc c).heap = w.heap.push c := rfl

theorem HR.drew {E : Env} {B : Nat} {ρ : Ren} {h : Heap} {w : World} (H : HR E B ρ h w) : HR E B ρ h w.drew :=
  ⟨H.base_le, H.base_B, H.B_le, H.fix, H.ro, H.live, H.inj⟩

theorem Step.drew {E : Env} {B : Nat} {ρ : Ren} {h : Heap} {w : World} (H : HR E B ρ h w) : Step E B ρ h w ρ h w.drew where
  hr := H.drew
  ext := fun _ _ => rfl
  le := Nat.le_refl _
  frame := fun _ _ _ => rfl
  range := fun b o hb => .inl ⟨b, o, hb, rfl⟩
  size := Nat.le_refl _
  os := rfl
  tape := rfl
  output := rfl

def upd (ρ : Ren) (n : Nat) (x : Loc) : Ren := fun b => if b = n then x else ρ b
@[simp] theorem upd_same (ρ : Ren) (n : Nat) (x : Loc) : upd ρ n x n = x := by simp [upd]
theorem upd_ne (ρ : Ren) (n : Nat) (x : Loc) {b : Nat} (h : b ≠ n) : upd ρ n x b = ρ b := by simp [upd, h]
theorem upd_lt (ρ : Ren) (n : Nat) (x : Loc) {b : Nat} (h : b < n) : upd ρ n x b = ρ b := upd_ne _ _ _ (by omega)

theorem ren_upd {ρ : Ren} {n : Nat} {x : Loc} {v : Value} (h : sc n v = true) : ren (upd ρ n x) v = ren ρ v :=
  ren_congr _ _ n (fun _ hb => upd_lt _ _ _ hb) v h

/-- A NEW BLOCK ON BOTH SIDES. -/
theorem Step.alloc {E : Env} {B : Nat} {ρ : Ren} {h : Heap} {w : World} (H : HR E B ρ h w) {o : AObj} {c : Obj} {ex sh : Nat} (hs : scO h.next o) (hc : objR E.P ρ ⟨w.heap.size, ex, sh⟩ o c) :
    Step E B ρ h w (upd ρ h.next ⟨w.heap.size, ex, sh⟩) (h.push o) (w.alloc c) where
  hr := {
    base_le := by have := H.base_le; simp; omega
    base_B := H.base_B
    B_le := by have := H.B_le; simp; omega
    fix := fun b hb => by have := H.base_le; rw [upd_lt _ _ _ (by omega)]; exact H.fix b hb
    ro := fun b o' hb ho => by
      have h1 := H.ro b o' hb ho
      have h2 := H.base_B; have h3 := H.B_le
      rw [heap_alloc, Array.getElem?_push]
      rw [if_neg (by omega)]; exact h1
    live := fun b o' hb => by
      rw [get_push] at hb
      by_cases e : h.next = b
      · subst e
        simp only [if_true, Option.some.injEq] at hb
        subst hb
        refine ⟨H.base_le, by simp, by simpa using H.B_le, scO_mono (by simp) hs, c, by rw [upd_same, heap_alloc]; simp, ?_⟩
        rw [upd_same]
        exact objR_congr (n := h.next) (fun b hb => upd_lt _ _ _ hb) hs hc
      · rw [if_neg e] at hb
        obtain ⟨h1, h2, h3, h4, c', h5, h6⟩ := H.live b o' hb
        rw [upd_ne _ _ _ (fun x => e x.symm)]
        have := H.lt hb
        refine ⟨h1, by simp; omega, h3, scO_mono (by simp) h4, c', ?_, objR_congr (n := h.next) (fun b hb => upd_lt _ _ _ hb) h4 h6⟩
        rw [heap_alloc, Array.getElem?_push]
        rw [if_neg (by omega)]; exact h5
    inj := fun b b' o1 o2 h1 h2 he => by
      rw [get_push] at h1 h2
      by_cases e1 : h.next = b
      · by_cases e2 : h.next = b'
        · omega
        · rw [if_neg e2] at h2
          rw [← e1, upd_same, upd_ne _ _ _ (fun x => e2 x.symm)] at he
          have := H.lt h2; simp only at he; omega
      · rw [if_neg e1] at h1
        by_cases e2 : h.next = b'
        · rw [← e2, upd_same, upd_ne _ _ _ (fun x => e1 x.symm)] at he
          have := H.lt h1; simp only at he; omega
        · rw [if_neg e2] at h2
          rw [upd_ne _ _ _ (fun x => e1 x.symm), upd_ne _ _ _ (fun x => e2 x.symm)] at he
          exact H.inj b b' o1 o2 h1 h2 he }
  ext := fun b hb => upd_lt _ _ _ hb
  le := by simp
  frame := fun r hr _ => by rw [heap_alloc, Array.getElem?_push]; rw [if_neg (by omega)]
  range := fun b o' hb => by
    rw [get_push] at hb
    by_cases e : h.next = b
    · subst e; right; simp
    · rw [if_neg e] at hb
      rw [upd_ne _ _ _ (fun x => e x.symm)]
      exact .inl ⟨b, o', hb, rfl⟩
  size := by simp
  os := rfl
  tape := rfl
  output := rfl

def setBlk (w : World) (r : Nat) (c : Obj) : World := { w with heap := w.heap.setIfInBounds r c }

theorem heap_setBlk (w : World) (r j : Nat) (c : Obj) (h : r < w.heap.size) : (setBlk w r c).heap[j]? = if r = j then some c else w.heap[j]? := by
  simp only [setBlk, Array.getElem?_setIfInBounds]
  by_cases e : r = j
  · subst e; simp [h]
  · simp [e]

/-- A LIVE BLOCK WRITTEN ON BOTH SIDES. -/
theorem Step.put {E : Env} {B : Nat} {ρ : Ren} {h : Heap} {w : World} (H : HR E B ρ h w) {b : Nat} {o0 o : AObj} {c : Obj} (hb : h.get b = some o0) (hs : scO h.next o) (hc : objR E.P ρ (ρ b) o c) :
    Step E B ρ h w ρ (h.put b o) (setBlk w (ρ b).r c) where
  hr := {
    base_le := H.base_le
    base_B := H.base_B
    B_le := by simpa [setBlk] using H.B_le
    fix := H.fix
    ro := fun j o' hj ho => by
      have h1 := H.ro j o' hj ho
      rw [heap_setBlk _ _ _ _ (H.lt hb)]
      have h2 := H.base_B
      have h3 := (H.live b o0 hb).2.2.1
      rw [if_neg (by omega)]; exact h1
    live := fun j o' hj => by
      rw [get_put] at hj
      by_cases e : b = j
      · subst e
        simp only [if_true, Option.some.injEq] at hj
        subst hj
        obtain ⟨h1, h2, h3, _, _, _, _⟩ := H.live b o0 hb
        exact ⟨h1, h2, h3, hs, c, by rw [heap_setBlk _ _ _ _ (H.lt hb)]; simp, hc⟩
      · rw [if_neg e] at hj
        obtain ⟨h1, h2, h3, h4, c', h5, h6⟩ := H.live j o' hj
        refine ⟨h1, h2, h3, h4, c', ?_, h6⟩
        rw [heap_setBlk _ _ _ _ (H.lt hb), if_neg (fun x => e (H.inj _ _ _ _ hb hj x))]
        exact h5
    inj := fun j j' o1 o2 h1 h2 he => by
      rw [get_put] at h1 h2
      have g1 : ∃ o, h.get j = some o := by
        by_cases e : b = j
        · exact ⟨o0, e ▸ hb⟩
        · rw [if_neg e] at h1; exact ⟨_, h1⟩
      have g2 : ∃ o, h.get j' = some o := by
        by_cases e : b = j'
        · exact ⟨o0, e ▸ hb⟩
        · rw [if_neg e] at h2; exact ⟨_, h2⟩
      obtain ⟨_, g1⟩ := g1
      obtain ⟨_, g2⟩ := g2
      exact H.inj j j' _ _ g1 g2 he }
  ext := fun _ _ => rfl
  le := Nat.le_refl _
  frame := fun r hr hn => by
    rw [heap_setBlk _ _ _ _ (H.lt hb), if_neg (hn b o0 hb)]
  range := fun j o' hj => by
    rw [get_put] at hj
    by_cases e : b = j
    · exact .inl ⟨b, o0, hb, by rw [e]⟩
    · rw [if_neg e] at hj; exact .inl ⟨j, o', hj, rfl⟩
  size := by simp [setBlk]
  os := rfl
  tape := rfl
  output := rfl

/-- A LIVE BLOCK THAT GETS A NEW NAME: the elder name is dead. -/
theorem Step.move {E : Env} {B : Nat} {ρ : Ren} {h : Heap} {w : World} (H : HR E B ρ h w) {b ex sh : Nat} {o0 o : AObj} {c : Obj} (hb : h.get b = some o0) (hs : scO h.next o) (hc : objR E.P ρ ⟨(ρ b).r, ex, sh⟩ o c) :
    Step E B ρ h w (upd ρ h.next ⟨(ρ b).r, ex, sh⟩) ((h.kill b).push o) (setBlk w (ρ b).r c) where
  hr := {
    base_le := by have := H.base_le; simp; omega
    base_B := H.base_B
    B_le := by simpa [setBlk] using H.B_le
    fix := fun j hj => by have := H.base_le; rw [upd_lt _ _ _ (by omega)]; exact H.fix j hj
    ro := fun j o' hj ho => by
      have h1 := H.ro j o' hj ho
      rw [heap_setBlk _ _ _ _ (H.lt hb)]
      have h2 := H.base_B
      have h3 := (H.live b o0 hb).2.2.1
      rw [if_neg (by omega)]; exact h1
    live := fun j o' hj => by
      rw [get_push, next_kill] at hj
      obtain ⟨k1, k2, k3, _, _, _, _⟩ := H.live b o0 hb
      by_cases e : h.next = j
      · subst e
        simp only [if_true, Option.some.injEq] at hj
        subst hj
        refine ⟨by simpa using H.base_le, by simp, by rw [upd_same]; exact k3, scO_mono (by simp) hs, c, by rw [upd_same, heap_setBlk _ _ _ _ (H.lt hb)]; simp, ?_⟩
        rw [upd_same]
        exact objR_congr (n := h.next) (fun b hb => upd_lt _ _ _ hb) hs hc
      · rw [if_neg e, get_kill] at hj
        by_cases e2 : b = j
        · simp [e2] at hj
        rw [if_neg e2] at hj
        obtain ⟨h1, h2, h3, h4, c', h5, h6⟩ := H.live j o' hj
        rw [upd_ne _ _ _ (fun x => e x.symm)]
        refine ⟨h1, by simp; omega, h3, scO_mono (by simp) h4, c', ?_, objR_congr (n := h.next) (fun b hb => upd_lt _ _ _ hb) h4 h6⟩
        rw [heap_setBlk _ _ _ _ (H.lt hb), if_neg (fun x => e2 (H.inj _ _ _ _ hb hj x))]
        exact h5
    inj := fun j j' o1 o2 h1 h2 he => by
      rw [get_push, next_kill] at h1 h2
      by_cases e1 : h.next = j
      · by_cases e2 : h.next = j'
        · omega
        · rw [if_neg e2, get_kill] at h2
          by_cases e3 : b = j'
          · simp [e3] at h2
          rw [if_neg e3] at h2
          rw [← e1, upd_same, upd_ne _ _ _ (fun x => e2 x.symm)] at he
          exact absurd (H.inj _ _ _ _ hb h2 he) e3
      · rw [if_neg e1, get_kill] at h1
        by_cases e3 : b = j
        · simp [e3] at h1
        rw [if_neg e3] at h1
        by_cases e2 : h.next = j'
        · rw [← e2, upd_same, upd_ne _ _ _ (fun x => e1 x.symm)] at he
          exact absurd (H.inj _ _ _ _ hb h1 he.symm) e3
        · rw [if_neg e2, get_kill] at h2
          by_cases e4 : b = j'
          · simp [e4] at h2
          rw [if_neg e4] at h2
          rw [upd_ne _ _ _ (fun x => e1 x.symm), upd_ne _ _ _ (fun x => e2 x.symm)] at he
          exact H.inj _ _ _ _ h1 h2 he }
  ext := fun j hj => upd_lt _ _ _ hj
  le := by simp
  frame := fun r hr hn => by
    rw [heap_setBlk _ _ _ _ (H.lt hb), if_neg (hn b o0 hb)]
  range := fun j o' hj => by
    rw [get_push, next_kill] at hj
    by_cases e : h.next = j
    · subst e; rw [upd_same]; exact .inl ⟨b, o0, hb, rfl⟩
    · rw [if_neg e, get_kill] at hj
      by_cases e2 : b = j
      · simp [e2] at hj
      rw [if_neg e2] at hj
      rw [upd_ne _ _ _ (fun x => e x.symm)]
      exact .inl ⟨j, o', hj, rfl⟩
  size := by simp [setBlk]
  os := rfl
  tape := rfl
  output := rfl

/-- An elder name dies; a new block is made. -/
theorem HR.kill {E : Env} {B : Nat} {ρ : Ren} {h : Heap} {w : World} (H : HR E B ρ h w) (b : Nat) : Step E B ρ h w ρ (h.kill b) w where
  hr := {
    base_le := H.base_le
    base_B := H.base_B
    B_le := H.B_le
    fix := H.fix
    ro := H.ro
    live := fun j o hj => by
      rw [get_kill] at hj
      by_cases e : b = j
      · simp [e] at hj
      · rw [if_neg e] at hj; exact H.live j o hj
    inj := fun j j' o o' h1 h2 he => by
      rw [get_kill] at h1 h2
      by_cases e : b = j
      · simp [e] at h1
      by_cases e' : b = j'
      · simp [e'] at h2
      rw [if_neg e] at h1; rw [if_neg e'] at h2
      exact H.inj _ _ _ _ h1 h2 he }
  ext := fun _ _ => rfl
  le := Nat.le_refl _
  frame := fun _ _ _ => rfl
  range := fun j o hj => by
    rw [get_kill] at hj
    by_cases e : b = j
    · simp [e] at hj
    · rw [if_neg e] at hj; exact .inl ⟨j, o, hj, rfl⟩
  size := Nat.le_refl _
  os := rfl
  tape := rfl
  output := rfl
end Go.Tm
