/- The heap as a list of places: reading. -/
/- Merged by a program of ours: M3 M4 M5 M6. -/
import Derived.Test.YthfopcdammlmfaaGreatDoorM1
import Derived.Test.YthfopcdammlmfaaGreatDoorA9
import Derived.Test.YthfopcdammlmfaaGreatDoorC3
set_option maxRecDepth 10000
set_option linter.all false
set_option linter.unusedSimpArgs false
set_option linter.unusedVariables false
/- THE HEAP AS A LIST OF PLACES, whatever was freed and moved: the plain law. -/
namespace Go.Tm
theorem pair_or {α : Type} {R : α → α → Prop} : ∀ {l : List α}, l.Pairwise R → ∀ {a b : α}, a ∈ l → b ∈ l → a ≠ b → R a b ∨ R b a
 | x :: l, h, a, b, ha, hb, hn => by
   rw [List.pairwise_cons] at h
   rcases List.mem_cons.1 ha with ea | ha'
   ·rcases List.mem_cons.1 hb with eb | hb'
    ·exact absurd (ea.trans eb.symm) hn
    ·rw [ea]; exact .inl (h.1 b hb')
   ·rcases List.mem_cons.1 hb with eb | hb'
    ·rw [eb]; exact .inr (h.1 a ha')
    ·exact pair_or h.2 ha' hb' hn
end Go.Tm
namespace Go.Proofs.YthfopcdammlmfaaGreatDoor
open Go.Tm
structure Cl where
 p : Nat
 s : Nat
 g : Nat
 o : Ob
 m : Bool
def Cl.wd (c : Cl) : Nat := c.o.ws.length + 1
def Cl.hd (c : Cl) : Nat := c.g * 4294967296 + (c.s + 1)
structure Sits (S : HS) (c : Cl) : Prop where
 is : bitB S.bg c.p = true
 head : unpackN (S.w c.p) = ⟨c.o.tag, c.o.refs, c.o.ws.length, c.m, c.s⟩
 refs : c.o.refs ≤ c.o.ws.length
 ws : ∀ k x, c.o.ws[k]? = some x → S.w (c.p + 1 + k) = x
 top : c.p + c.wd ≤ S.top
 lt : c.s < S.nS
 taken : (S.sl c.s).taken = true
 at_ : (S.sl c.s).at_ = c.p
 gen : (S.sl c.s).gen = c.g
theorem Sits.congr {S S' : HS} {c : Cl} (h : Sits S c) (h1 : bitB S'.bg c.p = bitB S.bg c.p) (h2 : ∀ j, c.p ≤ j → j < c.p + c.wd → S'.w j = S.w j) (h3 : c.p + c.wd ≤ S'.top) (h4 : S'.nS = S.nS)
 (h5 : (S'.sl c.s).taken = (S.sl c.s).taken) (h6 : (S'.sl c.s).at_ = (S.sl c.s).at_) (h7 : (S'.sl c.s).gen = (S.sl c.s).gen) : Sits S' c where
 is := h1.trans h.is
 head := by rw [h2 c.p (Nat.le_refl _) (by unfold Cl.wd; omega)]; exact h.head
 refs := h.refs
 ws := fun k x hk => by
  have := (List.getElem?_eq_some_iff.1 hk).1
  rw [h2 _ (by omega) (by unfold Cl.wd; omega)]; exact h.ws k x hk
 top := h3
 lt := by rw [h4]; exact h.lt
 taken := h5.trans h.taken
 at_ := h6.trans h.at_
 gen := h7.trans h.gen
def Chn (S : HS) : Nat → List Nat → Prop
 | n, [] => n = 0
 | n, i :: F => n = i + 1 ∧ i < S.nS ∧ (S.sl i).taken = false ∧ Chn S (S.sl i).next F
theorem Chn.congr {S S' : HS} (hn : S'.nS = S.nS) : ∀ {F : List Nat} {n : Nat}, (∀ i, i ∈ F → S'.sl i = S.sl i) → Chn S n F → Chn S' n F
 | [], n, _, h => h
 | i :: F, n, he, h => by
   obtain ⟨h1, h2, h3, h4⟩ := h
   have := he i (by simp)
   refine ⟨h1, by rw [hn]; exact h2, by rw [this]; exact h3, ?_⟩
   rw [this]
   exact Chn.congr hn (fun j hj => he j (by simp [hj])) h4
theorem Chn.mem {S : HS} : ∀ {F : List Nat} {n : Nat}, Chn S n F → ∀ i, i ∈ F → i < S.nS ∧ (S.sl i).taken = false
 | i :: F, n, h, j, hj => by
   obtain ⟨h1, h2, h3, h4⟩ := h
   rcases List.mem_cons.1 hj with rfl | hj
   ·exact ⟨h2, h3⟩
   ·exact Chn.mem h4 j hj
structure Gw (S : HS) (A : List Cl) : Prop where
 sits : ∀ c, c ∈ A → Sits S c
 ord : A.Pairwise fun a b => a.p + a.wd ≤ b.p
 only : ∀ i, i < S.nS → (S.sl i).taken = true → ∃ c, c ∈ A ∧ c.s = i
 cnt : S.cnt = A.length
 chain : ∃ F : List Nat, Chn S S.freed F ∧ F.Nodup ∧ A.length + F.length = S.fresh ∧ ∀ i, i ∈ F → i < S.fresh
 out : ∀ i, S.fresh ≤ i → (S.sl i).taken = false
section
variable {S : HS} {A : List Cl} (w : Gw S A)
include w
theorem Gw.chain_of {S' : HS} (h1 : S'.nS = S.nS) (h2 : S'.sl = S.sl) (h3 : S'.freed = S.freed) (h4 : S'.fresh = S.fresh) : ∃ F : List Nat, Chn S' S'.freed F ∧ F.Nodup ∧ A.length + F.length = S'.fresh ∧ ∀ i, i ∈ F → i < S'.fresh := by
 obtain ⟨F, a, b, c, d⟩ := w.chain
 rw [h3, h4]
 exact ⟨F, Chn.congr h1 (fun _ _ => by rw [h2]) a, b, c, d⟩
theorem Gw.disj {c d : Cl} (hc : c ∈ A) (hd : d ∈ A) (hn : c ≠ d) : c.p + c.wd ≤ d.p ∨ d.p + d.wd ≤ c.p := pair_or w.ord hc hd hn
theorem Gw.slot_inj {c d : Cl} (hc : c ∈ A) (hd : d ∈ A) (hs : c.s = d.s) : c = d := by
 apply Classical.byContradiction
 intro hn
 have h1 := (w.sits c hc).at_
 have h2 := (w.sits d hd).at_
 rw [hs, h2] at h1
 have := w.disj hc hd hn
 unfold Cl.wd at this
 omega
theorem Gw.nxt (ok : S.Ok) (hc : S.cnt < S.nS) : S.nxt < S.nS ∧ (S.sl S.nxt).taken = false ∧ (S.freed = 0 ∨ (S.sl S.nxt).next ≤ S.nS) := by
 obtain ⟨F, h1, h2, h3, h4⟩ := w.chain
 unfold HS.nxt
 cases F with
 | nil =>
   have h0 : S.freed = 0 := h1
   rw [if_neg (by omega)]
   simp only [List.length_nil, Nat.add_zero] at h3
   rw [← w.cnt] at h3
   exact ⟨by omega, w.out _ (Nat.le_refl _), .inl h0⟩
 | cons i F =>
   obtain ⟨e, a, b, c⟩ := h1
   rw [if_pos (by omega), show S.freed - 1 = i by omega]
   refine ⟨a, b, .inr ?_⟩
   cases F with
   | nil => have : (S.sl i).next = 0 := c; omega
   | cons j F => obtain ⟨e', a', _⟩ := c; omega
theorem Gw.isAt {c : Cl} (ok : S.Ok) (hc : c ∈ A) : isAt S c.p = true := by
 have h := w.sits c hc
 have := h.top
 have := ok.top
 unfold Cl.wd at this
 unfold Go.Proofs.YthfopcdammlmfaaGreatDoor.isAt
 rw [h.is, decide_eq_true (by have := h.top; unfold Cl.wd at this; omega)]; rfl
theorem Gw.headAt {c : Cl} (ok : S.Ok) (hc : c ∈ A) : headAt S c.p = ⟨c.o.tag, c.o.refs, c.o.ws.length, c.m, c.s⟩ := by
 have h1 := w.isAt ok hc
 unfold Go.Proofs.YthfopcdammlmfaaGreatDoor.isAt at h1
 unfold Go.Proofs.YthfopcdammlmfaaGreatDoor.headAt
 rw [if_pos h1]; exact (w.sits c hc).head
theorem Gw.hd_lt {c : Cl} (ok : S.Ok) (hc : c ∈ A) : c.hd < 18446744073709551616 ∧ 0 < c.hd := by
 have h := w.sits c hc
 have := ok.gen c.s
 have := ok.nS
 have := h.lt
 rw [h.gen] at *
 unfold Cl.hd
 omega
theorem Gw.slotOf {c : Cl} (ok : S.Ok) (hc : c ∈ A) : slotOf S c.hd = some c.s := by
 have h := w.sits c hc
 have := ok.gen c.s
 have := ok.nS
 have := h.lt
 have hg := h.gen
 have e1 : c.hd % 4294967296 = c.s + 1 := by unfold Cl.hd; omega
 have e2 : c.hd / 4294967296 = c.g := by unfold Cl.hd; omega
 unfold Go.Proofs.YthfopcdammlmfaaGreatDoor.slotOf
 rw [e1, e2, if_pos ⟨by omega, by simpa using h.lt, by simpa using h.taken, by simpa using hg⟩]
 simp
theorem Gw.slotOf_some {x i : Nat} (h : Go.Proofs.YthfopcdammlmfaaGreatDoor.slotOf S x = some i) : ∃ c, c ∈ A ∧ c.s = i ∧ c.hd = x := by
 obtain ⟨h1, h2, h3, h4, h5⟩ := Go.Proofs.YthfopcdammlmfaaGreatDoor.slotOf_some h
 obtain ⟨c, hc, hs⟩ := w.only i h3 h4
 have := (w.sits c hc).gen
 rw [hs, h5] at this
 refine ⟨c, hc, hs, ?_⟩
 unfold Cl.hd
 omega
theorem Gw.small {c : Cl} (hc : c ∈ A) : c.o.tag < 256 ∧ c.o.refs < 8192 ∧ c.o.ws.length < 8192 ∧ c.s < 1048576 := by
 have := unpack_ok (S.w c.p)
 rw [(w.sits c hc).head] at this
 exact ⟨this.1, this.2.1, this.2.2.1, this.2.2.2⟩
end
def upC (A : List Cl) (s : Nat) (f : Cl → Cl) : List Cl := A.map fun d => if d.s = s then f d else d
theorem upC_mem {A : List Cl} {s : Nat} {f : Cl → Cl} {d : Cl} (h : d ∈ upC A s f) : ∃ c, c ∈ A ∧ ((c.s = s ∧ d = f c) ∨ (c.s ≠ s ∧ d = c)) := by
 obtain ⟨c, hc, rfl⟩ := List.mem_map.1 h
 by_cases e : c.s = s
 ·exact ⟨c, hc, .inl ⟨e, by rw [if_pos e]⟩⟩
 ·exact ⟨c, hc, .inr ⟨e, by rw [if_neg e]⟩⟩
theorem upC_len (A : List Cl) (s : Nat) (f : Cl → Cl) : (upC A s f).length = A.length := by simp [upC]
theorem upC_ord {A : List Cl} {s : Nat} {f : Cl → Cl} (hf : ∀ c, (f c).p = c.p ∧ (f c).wd = c.wd) (h : A.Pairwise fun a b => a.p + a.wd ≤ b.p) : (upC A s f).Pairwise fun a b => a.p + a.wd ≤ b.p := by
 unfold upC
 rw [List.pairwise_map]
 refine h.imp fun {a b} hab => ?_
 have e : ∀ d : Cl, (if d.s = s then f d else d).p = d.p ∧ (if d.s = s then f d else d).wd = d.wd := fun d => by split; exact hf d; exact ⟨rfl, rfl⟩
 rw [(e a).1, (e a).2, (e b).1]; exact hab
section
variable {S : HS} {A : List Cl} (w : Gw S A)
include w
theorem Gw.put {c : Cl} (hc : c ∈ A) {k x : Nat} (hk : k < c.o.ws.length) : Gw { S with w := updN S.w (c.p + 1 + k) x } (upC A c.s fun d => { d with o := { d.o with ws := d.o.ws.set k x } }) := by
 refine ⟨?_, upC_ord (fun d => ⟨rfl, by simp [Cl.wd]⟩) w.ord, ?_, by rw [upC_len]; exact w.cnt, by rw [upC_len]; exact w.chain_of rfl rfl rfl rfl, w.out⟩
 ·intro d hd
  obtain ⟨e, he, h⟩ := upC_mem hd
  rcases h with ⟨h1, rfl⟩ | ⟨h1, rfl⟩
  ·have := w.slot_inj he hc h1
   subst this
   have hs := w.sits e he
   refine ⟨hs.is, ?_, by simpa using hs.refs, ?_, by simpa [Cl.wd] using hs.top, hs.lt, hs.taken, hs.at_, hs.gen⟩
   ·show unpackN (updN S.w (e.p + 1 + k) x e.p) = _
    rw [updN_ne _ _ (by omega), hs.head]; simp
   ·intro j y hj
    show updN S.w (e.p + 1 + k) x (e.p + 1 + j) = y
    by_cases ej : j = k
    ·subst ej
     rw [updN_same]
     simp only [List.getElem?_set_self hk] at hj
     injection hj
    ·rw [updN_ne _ _ (by omega)]
     simp only [List.getElem?_set_ne (Ne.symm ej)] at hj
     exact hs.ws j y hj
  ·have hs := w.sits d he
   have hn : c ≠ d := fun e => h1 (by rw [e])
   refine hs.congr rfl (fun j hj1 hj2 => ?_) hs.top rfl rfl rfl rfl
   have := w.disj hc he hn
   unfold Cl.wd at this hj2
   exact updN_ne _ _ (by omega)
 ·intro i hi ht
  obtain ⟨e, he, hs⟩ := w.only i hi ht
  refine ⟨_, List.mem_map.2 ⟨e, he, rfl⟩, ?_⟩
  split <;> exact hs
theorem Gw.mark {c : Cl} (hc : c ∈ A) (on : Bool) : Gw { S with w := updN S.w c.p (packN { unpackN (S.w c.p) with mark := on }) } (upC A c.s fun d => { d with m := on }) := by
 refine ⟨?_, upC_ord (fun d => ⟨rfl, rfl⟩) w.ord, ?_, by rw [upC_len]; exact w.cnt, by rw [upC_len]; exact w.chain_of rfl rfl rfl rfl, w.out⟩
 ·intro d hd
  obtain ⟨e, he, h⟩ := upC_mem hd
  rcases h with ⟨h1, rfl⟩ | ⟨h1, rfl⟩
  ·have := w.slot_inj he hc h1
   subst this
   have hs := w.sits e he
   refine ⟨hs.is, ?_, hs.refs, ?_, hs.top, hs.lt, hs.taken, hs.at_, hs.gen⟩
   ·show unpackN (updN S.w e.p _ e.p) = _
    rw [updN_same, unpack_pack (by have := unpack_ok (S.w e.p); exact ⟨this.1, this.2.1, this.2.2.1, this.2.2.2⟩), hs.head]
   ·intro j y hj
    show updN S.w e.p _ (e.p + 1 + j) = y
    rw [updN_ne _ _ (by omega)]
    exact hs.ws j y hj
  ·have hs := w.sits d he
   have hn : c ≠ d := fun e => h1 (by rw [e])
   refine hs.congr rfl (fun j hj1 hj2 => ?_) hs.top rfl rfl rfl rfl
   have := w.disj hc he hn
   unfold Cl.wd at this hj2
   exact updN_ne _ _ (by omega)
 ·intro i hi ht
  obtain ⟨e, he, hs⟩ := w.only i hi ht
  refine ⟨_, List.mem_map.2 ⟨e, he, rfl⟩, ?_⟩
  split <;> exact hs
theorem Gw.make (ok : S.Ok) {t r s : Nat} (ht : t < 256) (hs : s ≤ 4096) (hr : r ≤ s) (hc : S.cnt < S.nS) :
 Gw ((S.take S.top).alloc t r s S.nxt) (A ++ [⟨S.top, S.nxt, (S.sl S.nxt).gen, ⟨t, r, List.replicate s 0⟩, false⟩]) := by
 obtain ⟨hn, hnt, hnx⟩ := w.nxt ok hc
 have hnS := ok.nS
 have hw : ∀ a, a < S.top → ((S.take S.top).alloc t r s S.nxt).w a = S.w a := by
  intro a ha
  show clrN (updN S.w S.top _) (S.top + 1) s a = _
  unfold clrN; rw [if_neg (by omega), updN_ne _ _ (by omega)]
 have hok : (⟨t, r, s, false, S.nxt⟩ : Hd).ok := ⟨ht, by show r < 8192; omega, by show s < 8192; omega, by show S.nxt < 1048576; omega⟩
 have hsl : ∀ i, i ≠ S.nxt → ((S.take S.top).alloc t r s S.nxt).sl i = S.sl i := fun i hi => updN_ne _ _ hi
 have hbit : ∀ b, bitB ((S.take S.top).alloc t r s S.nxt).bg b = (decide (b = S.top) || bitB S.bg b) := fun b => bitB_set _ _ _
 have htop : ((S.take S.top).alloc t r s S.nxt).top = S.top + (s + 1) := rfl
 have hne : ∀ c, c ∈ A → c.s ≠ S.nxt := fun c hc e => by
  have := (w.sits c hc).taken
  rw [e, hnt] at this; cases this
 refine ⟨?_, ?_, ?_, ?_, ?_, ?_⟩
 ·intro d hd
  rcases List.mem_append.1 hd with hd | hd
  ·have h := w.sits d hd
   have h2 := h.top
   have h3 := hsl d.s (hne d hd)
   exact h.congr (by rw [hbit, h.is, Bool.or_true]) (fun j _ hj => hw j (by omega)) (by rw [htop]; omega) rfl (by rw [h3]) (by rw [h3]) (by rw [h3])
  ·simp only [List.mem_singleton] at hd
   subst hd
   refine ⟨by rw [hbit]; simp, ?_, by simpa using hr, ?_, by rw [htop]; simp [Cl.wd], hn, ?_, ?_, ?_⟩
   ·show unpackN (clrN (updN S.w S.top (packN ⟨t, r, s, false, S.nxt⟩)) (S.top + 1) s S.top) = _
    unfold clrN; rw [if_neg (by omega), updN_same, unpack_pack hok]; simp
   ·intro k x hk
    obtain ⟨hk2, hk3⟩ := List.getElem?_eq_some_iff.mp hk
    simp at hk2 hk3
    show clrN (updN S.w S.top _) (S.top + 1) s (S.top + 1 + k) = x
    unfold clrN; rw [if_pos (by omega)]; exact hk3
   ·show (updN S.sl S.nxt _ S.nxt).taken = true; rw [updN_same]
   ·show (updN S.sl S.nxt _ S.nxt).at_ = _; rw [updN_same]
   ·show (updN S.sl S.nxt _ S.nxt).gen = _; rw [updN_same]
 ·rw [List.pairwise_append]
  refine ⟨w.ord, List.pairwise_singleton _ _, fun a ha b hb => ?_⟩
  simp only [List.mem_singleton] at hb
  subst hb
  exact (w.sits a ha).top
 ·intro i hi htk
  by_cases e : i = S.nxt
  ·exact ⟨_, List.mem_append_right _ (List.mem_singleton.2 rfl), e.symm⟩
  ·rw [hsl i e] at htk
   obtain ⟨c, h1, h2⟩ := w.only i hi htk
   exact ⟨c, List.mem_append_left _ h1, h2⟩
 ·show S.cnt + 1 = _
  rw [w.cnt]; simp
 ·obtain ⟨F, h1, h2, h3, h4⟩ := w.chain
  cases F with
  | nil =>
    have h0 : S.freed = 0 := h1
    refine ⟨[], ?_, List.nodup_nil, ?_, fun i hi => by cases hi⟩
    ·show (if 0 < S.freed then (S.sl S.nxt).next else 0) = 0
     rw [if_neg (by omega)]
    ·show _ = (if 0 < S.freed then S.fresh else S.fresh + 1)
     rw [if_neg (by omega)]; simp at h3 ⊢; omega
  | cons i F =>
    obtain ⟨e, a, b, c⟩ := h1
    have hni : S.nxt = i := by unfold HS.nxt; rw [if_pos (by omega)]; omega
    rw [List.nodup_cons] at h2
    refine ⟨F, ?_, h2.2, ?_, fun j hj => ?_⟩
    ·show Chn _ (if 0 < S.freed then (S.sl S.nxt).next else 0) F
     rw [if_pos (by omega), show S.sl S.nxt = S.sl i by rw [hni]]
     exact Chn.congr (S := S) (S' := (S.take S.top).alloc t r s S.nxt) rfl (fun j hj => hsl j (fun e' => h2.1 (by rw [← hni, ← e']; exact hj))) c
    ·show _ = (if 0 < S.freed then S.fresh else S.fresh + 1)
     rw [if_pos (by omega)]; simp at h3 ⊢; omega
    ·show j < (if 0 < S.freed then S.fresh else S.fresh + 1)
     rw [if_pos (by omega)]; exact h4 j (by simp [hj])
 ·intro i hi
  have hi' : S.fresh ≤ i ∧ i ≠ S.nxt := by
   have hi2 : (if 0 < S.freed then S.fresh else S.fresh + 1) ≤ i := hi
   by_cases h0 : 0 < S.freed
   ·rw [if_pos h0] at hi2
    obtain ⟨F, h1, h2, h3, h4⟩ := w.chain
    cases F with
    | nil => have : S.freed = 0 := h1; omega
    | cons j F =>
      obtain ⟨e, a, b, c⟩ := h1
      have := h4 j (by simp)
      have hni : S.nxt = j := by unfold HS.nxt; rw [if_pos (by omega)]; omega
      exact ⟨hi2, by omega⟩
   ·rw [if_neg h0] at hi2
    have hni : S.nxt = S.fresh := by unfold HS.nxt; rw [if_neg h0]
    exact ⟨by omega, by omega⟩
  rw [hsl i hi'.2]; exact w.out i hi'.1
end
end Go.Proofs.YthfopcdammlmfaaGreatDoor
/- The gap: objects ahead of it and behind it; one kept, one taken out; opened, closed: the plain law. -/
namespace Go.Proofs.YthfopcdammlmfaaGreatDoor
open Go.Tm
def Cont : Nat → List Cl → Nat → Prop
 | a, [], b => a = b
 | a, c :: l, b => c.p = a ∧ Cont (a + c.wd) l b
theorem Cont.le : ∀ {l : List Cl} {a b : Nat}, Cont a l b → a ≤ b
 | [], a, b, h => Nat.le_of_eq h
 | c :: l, a, b, h => by have := Cont.le h.2; omega
theorem Cont.mem : ∀ {l : List Cl} {a b : Nat}, Cont a l b → ∀ c, c ∈ l → a ≤ c.p ∧ c.p + c.wd ≤ b
 | d :: l, a, b, h, c, hc => by
   obtain ⟨h1, h2⟩ := h
   rcases List.mem_cons.1 hc with rfl | hc
   ·have := Cont.le h2; omega
   ·have := Cont.mem h2 c hc; omega
theorem Cont.nil {a : Nat} : ∀ {l : List Cl}, Cont a l a → l = []
 | [], _ => rfl
 | c :: l, h => by have := Cont.le h.2; have : 0 < c.wd := by unfold Cl.wd; omega
                   omega
theorem Cont.app : ∀ {l : List Cl} {a b : Nat} {c : Cl}, Cont a l b → c.p = b → Cont a (l ++ [c]) (b + c.wd)
 | [], a, b, c, h, hc => by have : a = b := h; subst this; exact ⟨hc, rfl⟩
 | d :: l, a, b, c, h, hc => ⟨h.1, Cont.app h.2 hc⟩
theorem Cont.map {f : Cl → Cl} (hf : ∀ c, (f c).p = c.p ∧ (f c).wd = c.wd) : ∀ {l : List Cl} {a b : Nat}, Cont a l b → Cont a (l.map f) b
 | [], a, b, h => h
 | c :: l, a, b, h => ⟨(hf c).1.trans h.1, by rw [(hf c).2]; exact Cont.map hf h.2⟩
structure Lay (S : HS) (lo hi : List Cl) : Prop where
 lo : Cont 0 lo (if S.open_ = true then S.low else 0)
 hi : Cont (if S.open_ = true then S.high else 0) hi S.top
 le : S.open_ = true → S.low ≤ S.high
theorem Lay.put {S : HS} {lo hi : List Cl} (l : Lay S lo hi) {S' : HS} (h1 : S'.open_ = S.open_) (h2 : S'.low = S.low) (h3 : S'.high = S.high) (h4 : S'.top = S.top) {s : Nat} {f : Cl → Cl} (hf : ∀ c, (f c).p = c.p ∧ (f c).wd = c.wd) :
 Lay S' (upC lo s f) (upC hi s f) := by
 have hg : ∀ c : Cl, (if c.s = s then f c else c).p = c.p ∧ (if c.s = s then f c else c).wd = c.wd := fun c => by split; exact hf c; exact ⟨rfl, rfl⟩
 exact ⟨by rw [h1, h2]; exact l.lo.map hg, by rw [h1, h3, h4]; exact l.hi.map hg, by rw [h1, h2, h3]; exact l.le⟩
theorem upC_app (A B : List Cl) (s : Nat) (f : Cl → Cl) : upC (A ++ B) s f = upC A s f ++ upC B s f := by simp [upC]
section
variable {S : HS} {lo hi : List Cl} {c : Cl} (w : Gw S (lo ++ c :: hi)) (l : Lay S lo (c :: hi)) (ok : S.Ok) (ho : S.open_ = true)
include w l ok ho
omit w ok in
theorem Lay.at_ : c.p = S.high ∧ S.high + c.wd ≤ S.top ∧ (∀ d, d ∈ lo → d.p + d.wd ≤ S.low) ∧ (∀ d, d ∈ hi → S.high + c.wd ≤ d.p) ∧ S.low ≤ S.high := by
 have h1 := l.hi
 have h2 := l.lo
 rw [if_pos ho] at h1 h2
 refine ⟨h1.1, Cont.le h1.2, fun d hd => (Cont.mem h2 d hd).2, fun d hd => (Cont.mem h1.2 d hd).1, l.le ho⟩
theorem Lay.size : (unpackN (S.w S.high)).size = c.o.ws.length ∧ S.high + 1 + c.o.ws.length ≤ S.W ∧ S.high < S.top := by
 obtain ⟨h1, h2, _⟩ := Lay.at_ l ho
 have := ok.top
 have hs := (w.sits c (by simp)).head
 rw [h1] at hs
 unfold Cl.wd at h2
 exact ⟨by rw [hs], by omega, by omega⟩
omit l ok ho in
theorem Gw.other {d : Cl} (hd : d ∈ lo ∨ d ∈ hi) : d ∈ lo ++ c :: hi ∧ d ≠ c ∧ d.s ≠ c.s := by
 have hm : d ∈ lo ++ c :: hi := by rcases hd with h | h <;> simp [h]
 have hc : c ∈ lo ++ c :: hi := by simp
 have hnd : d ≠ c := by
  rintro rfl
  have ho := w.ord
  rw [List.pairwise_append, List.pairwise_cons] at ho
  rcases hd with h | h
  ·have := ho.2.2 d h d (by simp); unfold Cl.wd at this; omega
  ·have := ho.2.1.1 d h; unfold Cl.wd at this; omega
 exact ⟨hm, hnd, fun e => hnd (w.slot_inj hm hc e)⟩
def HS.keep1 (S : HS) (i : Nat) : HS := (({ S.kept with w := updN S.kept.w S.low (packN { unpackN (S.kept.w S.low) with mark := false }) } : HS)).moved i S.low
theorem Gw.keep : Gw (S.keep1 c.s) ((lo ++ [{ c with p := S.low, m := false }]) ++ hi) ∧ Lay (S.keep1 c.s) (lo ++ [{ c with p := S.low, m := false }]) hi := by
 obtain ⟨h1, h2, h3, h4, h5⟩ := Lay.at_ l ho
 obtain ⟨z1, z2, z3⟩ := Lay.size w l ok ho
 have hc := w.sits c (by simp)
 have hwd : c.wd = 1 + c.o.ws.length := by unfold Cl.wd; omega
 have hW : ∀ j, j ≠ S.low → (S.keep1 c.s).w j = movN S.w S.high S.low (1 + c.o.ws.length) j := by
  intro j hj
  show updN S.kept.w S.low _ j = _
  rw [updN_ne _ _ hj]
  show movN S.w S.high S.low (1 + (unpackN (S.w S.high)).size) j = _
  rw [z1]
 have hW0 : (S.keep1 c.s).w S.low = packN { unpackN (S.w S.high) with mark := false } := by
  show updN S.kept.w S.low _ S.low = _
  rw [updN_same]
  have : S.kept.w S.low = S.w S.high := by
   show movN S.w S.high S.low (1 + (unpackN (S.w S.high)).size) S.low = _
   unfold movN
   rw [if_pos (by omega), Nat.sub_self, Nat.zero_add]
  rw [this]
 have hB : ∀ b, bitB (S.keep1 c.s).bg b = (decide (b = S.low) || (!decide (b = S.high) && bitB S.bg b)) := by
  intro b
  show bitB S.kept.bg b = _
  unfold HS.kept
  rw [bitB_set, bitB_clr ok.bg]
 have hS : ∀ i, i ≠ c.s → (S.keep1 c.s).sl i = S.sl i := fun i hi => updN_ne _ _ hi
 have hS0 : (S.keep1 c.s).sl c.s = ⟨(S.sl c.s).gen, (S.sl c.s).taken, S.low, (S.sl c.s).next⟩ := updN_same _ _ _
 have htop : (S.keep1 c.s).top = S.top := rfl
 have hlow : (S.keep1 c.s).low = S.low + c.wd := by
  show S.low + 1 + (unpackN (S.w S.high)).size = _
  rw [z1, hwd]; omega
 have hhigh : (S.keep1 c.s).high = S.high + c.wd := by
  show S.high + 1 + (unpackN (S.w S.high)).size = _
  rw [z1, hwd]; omega
 have hopen : (S.keep1 c.s).open_ = true := ho
 have hl := l.lo
 have hh := l.hi
 rw [if_pos ho] at hl hh
 constructor
 ·refine ⟨?_, ?_, ?_, ?_, ?_, ?_⟩
  ·intro d hd
   have hcase : d ∈ lo ∨ d ∈ hi ∨ d = { c with p := S.low, m := false } := by
    simp only [List.mem_append, List.mem_singleton] at hd
    rcases hd with (h | h) | h
    ·exact .inl h
    ·exact .inr (.inr h)
    ·exact .inr (.inl h)
   rcases hcase with hd | hd | rfl
   ·obtain ⟨a1, a2, a3⟩ := w.other (.inl hd)
    have hs := w.sits d a1
    have hp := h3 d hd
    have hpos : 0 < d.wd := by unfold Cl.wd; omega
    refine hs.congr ?_ (fun j hj1 hj2 => ?_) (by rw [htop]; exact hs.top) rfl (by rw [hS _ a3]) (by rw [hS _ a3]) (by rw [hS _ a3])
    ·rw [hB, decide_eq_false (by omega), decide_eq_false (by omega)]; simp
    ·rw [hW j (by omega)]; unfold movN; rw [if_neg (by omega)]
   ·obtain ⟨a1, a2, a3⟩ := w.other (.inr hd)
    have hs := w.sits d a1
    have hp := h4 d hd
    have hpos : 0 < d.wd := by unfold Cl.wd; omega
    refine hs.congr ?_ (fun j hj1 hj2 => ?_) (by rw [htop]; exact hs.top) rfl (by rw [hS _ a3]) (by rw [hS _ a3]) (by rw [hS _ a3])
    ·rw [hB, decide_eq_false (by omega), decide_eq_false (by omega)]; simp
    ·rw [hW j (by omega)]; unfold movN; rw [if_neg (by omega)]
   ·refine ⟨by rw [hB]; simp, ?_, hc.refs, ?_, ?_, hc.lt, ?_, ?_, ?_⟩
    ·show unpackN ((S.keep1 c.s).w S.low) = _
     rw [hW0, unpack_pack (by have := unpack_ok (S.w S.high); exact ⟨this.1, this.2.1, this.2.2.1, this.2.2.2⟩)]
     have := hc.head
     rw [h1] at this
     rw [this]
    ·intro k x hk
     have hk2 := (List.getElem?_eq_some_iff.1 hk).1
     show (S.keep1 c.s).w (S.low + 1 + k) = x
     rw [hW _ (by omega)]
     unfold movN
     rw [if_pos ⟨by omega, by have : k < c.o.ws.length := hk2; omega⟩, show S.low + 1 + k - S.low + S.high = c.p + 1 + k by omega]
     exact hc.ws k x hk
    ·show S.low + c.wd ≤ _
     rw [htop]; omega
    ·show ((S.keep1 c.s).sl c.s).taken = true
     rw [hS0]; exact hc.taken
    ·show ((S.keep1 c.s).sl c.s).at_ = S.low
     rw [hS0]
    ·show ((S.keep1 c.s).sl c.s).gen = c.g
     rw [hS0]; exact hc.gen
  ·have ho2 := w.ord
   rw [List.pairwise_append, List.pairwise_cons] at ho2
   rw [List.pairwise_append, List.pairwise_append]
   refine ⟨⟨ho2.1, List.pairwise_singleton _ _, fun a ha b hb => ?_⟩, ho2.2.1.2, fun a ha b hb => ?_⟩
   ·simp only [List.mem_singleton] at hb
    subst hb
    exact h3 a ha
   ·rcases List.mem_append.1 ha with ha | ha
    ·exact ho2.2.2 a ha b (by simp [hb])
    ·simp only [List.mem_singleton] at ha
     subst ha
     have := h4 b hb
     show S.low + c.wd ≤ b.p
     omega
  ·intro i hi ht
   by_cases e : i = c.s
   ·exact ⟨{ c with p := S.low, m := false }, by simp, e.symm⟩
   ·rw [hS i e] at ht
    obtain ⟨d, hd, hds⟩ := w.only i hi ht
    simp only [List.mem_append, List.mem_cons] at hd
    rcases hd with hd | hd | hd
    ·exact ⟨d, by simp [hd], hds⟩
    ·rw [hd] at hds; exact absurd hds.symm e
    ·exact ⟨d, by simp [hd], hds⟩
  ·show S.cnt = _
   rw [w.cnt]; simp
  ·obtain ⟨F, f1, f2, f3, f4⟩ := w.chain
   refine ⟨F, Chn.congr (S := S) (S' := S.keep1 c.s) rfl (fun i hi => hS i fun e => ?_) f1, f2, ?_, f4⟩
   ·have := (Chn.mem f1 i hi).2
    rw [e, hc.taken] at this; cases this
   ·show _ = S.fresh
    rw [← f3]; simp
  ·intro i hi
   have h0 := w.out i hi
   by_cases e : i = c.s
   ·rw [e, hc.taken] at h0; cases h0
   ·rw [hS i e]; exact h0
 ·refine ⟨?_, ?_, fun _ => by rw [hlow, hhigh]; omega⟩
  ·rw [if_pos hopen, hlow]
   exact Cont.app hl rfl
  ·rw [if_pos hopen, hhigh, htop]
   exact hh.2
def HS.skip1 (S : HS) (i : Nat) : HS := ({ S with bg := updN S.bg (S.high / 64) (clrB (S.bg (S.high / 64)) (S.high % 64)), high := S.high + 1 + (unpackN (S.w S.high)).size } : HS).free i
theorem Gw.skip : Gw (S.skip1 c.s) (lo ++ hi) ∧ Lay (S.skip1 c.s) lo hi := by
 obtain ⟨h1, h2, h3, h4, h5⟩ := Lay.at_ l ho
 obtain ⟨z1, z2, z3⟩ := Lay.size w l ok ho
 have hc := w.sits c (by simp)
 have hwd : c.wd = 1 + c.o.ws.length := by unfold Cl.wd; omega
 have hB : ∀ b, bitB (S.skip1 c.s).bg b = (!decide (b = S.high) && bitB S.bg b) := fun b => bitB_clr ok.bg _ _
 have hS : ∀ i, i ≠ c.s → (S.skip1 c.s).sl i = S.sl i := fun i hi => updN_ne _ _ hi
 have hS0 : (S.skip1 c.s).sl c.s = ⟨(S.sl c.s).gen + 1, false, 0, S.freed⟩ := updN_same _ _ _
 have hhigh : (S.skip1 c.s).high = S.high + c.wd := by
  show S.high + 1 + (unpackN (S.w S.high)).size = _
  rw [z1, hwd]; omega
 have hopen : (S.skip1 c.s).open_ = true := ho
 have hl := l.lo
 have hh := l.hi
 rw [if_pos ho] at hl hh
 constructor
 ·refine ⟨?_, ?_, ?_, ?_, ?_, ?_⟩
  ·intro d hd
   rw [List.mem_append] at hd
   obtain ⟨a1, a2, a3⟩ := w.other hd
   have hs := w.sits d a1
   have hpos : 0 < d.wd := by unfold Cl.wd; omega
   have hp : d.p ≠ S.high := by
    rcases hd with hd | hd
    ·have := h3 d hd; omega
    ·have := h4 d hd; omega
   exact hs.congr (by rw [hB, decide_eq_false hp]; simp) (fun j _ _ => rfl) hs.top rfl (by rw [hS _ a3]) (by rw [hS _ a3]) (by rw [hS _ a3])
  ·have ho2 := w.ord
   rw [List.pairwise_append, List.pairwise_cons] at ho2
   rw [List.pairwise_append]
   exact ⟨ho2.1, ho2.2.1.2, fun a ha b hb => ho2.2.2 a ha b (by simp [hb])⟩
  ·intro i hi ht
   by_cases e : i = c.s
   ·rw [e, hS0] at ht; cases ht
   ·rw [hS i e] at ht
    obtain ⟨d, hd, hds⟩ := w.only i hi ht
    simp only [List.mem_append, List.mem_cons] at hd
    rcases hd with hd | hd | hd
    ·exact ⟨d, by simp [hd], hds⟩
    ·rw [hd] at hds; exact absurd hds.symm e
    ·exact ⟨d, by simp [hd], hds⟩
  ·show S.cnt - 1 = _
   rw [w.cnt]; simp
  ·obtain ⟨F, f1, f2, f3, f4⟩ := w.chain
   have hnF : c.s ∉ F := fun hm => by
    have := (Chn.mem f1 c.s hm).2
    rw [hc.taken] at this; cases this
   refine ⟨c.s :: F, ⟨rfl, hc.lt, by rw [hS0], ?_⟩, List.nodup_cons.2 ⟨hnF, f2⟩, ?_, fun i hi => ?_⟩
   ·rw [hS0]
    exact Chn.congr (S := S) (S' := S.skip1 c.s) rfl (fun i hi => hS i fun e => hnF (by rw [← e]; exact hi)) f1
   ·show _ = S.fresh
    rw [← f3]; simp; omega
   ·show i < S.fresh
    rcases List.mem_cons.1 hi with rfl | hi
    ·apply Classical.byContradiction
     intro hlt
     have := w.out c.s (by omega)
     rw [hc.taken] at this; cases this
    ·exact f4 i hi
  ·intro i hi
   have h0 := w.out i hi
   by_cases e : i = c.s
   ·rw [e, hS0]
   ·rw [hS i e]; exact h0
 ·refine ⟨by rw [if_pos hopen]; exact hl, by rw [if_pos hopen, hhigh]; exact hh.2, fun _ => by rw [hhigh]; show S.low ≤ _; omega⟩
end
end Go.Proofs.YthfopcdammlmfaaGreatDoor
/- The heap as a list of places: objects found. -/
namespace Go.Proofs.YthfopcdammlmfaaGreatDoor
open Go.Tm
def gobj (A : List Cl) (x : Nat) : Option Ob := (A.find? fun c => c.hd == x).map (·.o)
theorem gobj_some {A : List Cl} {x : Nat} {o : Ob} (h : gobj A x = some o) : ∃ c, c ∈ A ∧ c.hd = x ∧ c.o = o := by
 unfold gobj at h
 rw [Option.map_eq_some_iff] at h
 obtain ⟨c, h1, h2⟩ := h
 exact ⟨c, List.mem_of_find?_eq_some h1, by simpa using List.find?_some h1, h2⟩
theorem gobj_none {A : List Cl} {x : Nat} (h : gobj A x = none) : ∀ c, c ∈ A → c.hd ≠ x := by
 unfold gobj at h
 rw [Option.map_eq_none_iff, List.find?_eq_none] at h
 intro c hc e
 exact h c hc (by simp [e])
theorem ghd_inj {S : HS} {A : List Cl} (w : Gw S A) (ok : S.Ok) {c d : Cl} (hc : c ∈ A) (hd : d ∈ A) (e : c.hd = d.hd) : c = d := by
 have h1 := w.slotOf ok hc
 have h2 := w.slotOf ok hd
 rw [e, h2] at h1
 injection h1 with h1
 exact w.slot_inj hc hd h1.symm
theorem gobj_of {S : HS} {A : List Cl} (w : Gw S A) (ok : S.Ok) {c : Cl} (hc : c ∈ A) : gobj A c.hd = some c.o := by
 cases h : gobj A c.hd with
 | none => exact absurd rfl (gobj_none h c hc)
 | some o =>
   obtain ⟨d, h1, h2, h3⟩ := gobj_some h
   rw [← h3, ghd_inj w ok h1 hc h2]
theorem gslot_none {S : HS} {A : List Cl} (w : Gw S A) {x : Nat} (h : gobj A x = none) : slotOf S x = none := by
 cases hs : slotOf S x with
 | none => rfl
 | some i =>
   obtain ⟨c, h1, h2, h3⟩ := w.slotOf_some hs
   exact absurd h3 (gobj_none h c h1)
variable {E : Env} (hE : EOk E)
include hE
section
variable {h : Heap} {L : HL} {S : HS} {O : List Cl} (H : IsH E h L S) (w : Gw S O) (hW : WF E h)
include H w hW
theorem gfind_none {x : Nat} (hx : x < 18446744073709551616) (ho : gobj O x = none) : CallsTo E 55 [.pointer (some ⟨L.ph, 0, none⟩), .int .u64 x] h fun v h' =>
 v = .tuple #[.int .i64 0, .agg #[.int .i64 0, .int .i64 0, .int .i64 0, .bool false, .int .i64 0], .int .i64 6] ∧ Keep h h' ∧ WF E h' := by
 refine en hE Tryz.func55 rfl rfl Tryz.ntmps55 rfl (by decide +kernel) (rs := [.tmp 4, .cell 5 103, .tmp 6]) rfl ?_
 have k1 := (Keep.refl h).push (o := .cells [.int .i64 0, .int .i64 0, .int .i64 0, .bool false, .int .i64 0] 103 true) hW
 have w1 := hW.push (.cells [.int .i64 0, .int .i64 0, .int .i64 0, .bool false, .int .i64 0] 103 true)
 have H1 := H.keep k1
 simp only [push_cast, seval, hE.P, zz, ↓H1.lT, hW.nb, hW.nb0]
 refine (tat_at hE H1 hx).mono ?_
 rintro v h1 ⟨rfl, rfl⟩
 rw [gslot_none w ho]
 simp only [push_cast, seval, hE.P, zz, errOf, hW.nb, hW.nb0]
 exact ⟨k1, w1⟩
theorem gfind_some {c : Cl} (hc : c ∈ O) : CallsTo E 55 [.pointer (some ⟨L.ph, 0, none⟩), .int .u64 c.hd] h fun v h' =>
 v = .tuple #[.int .i64 c.p, .agg #[.int .i64 c.o.tag, .int .i64 c.o.refs, .int .i64 c.o.ws.length, .bool c.m, .int .i64 c.s], .int .i64 0] ∧ Keep h h' ∧ WF E h' := by
 have hx := (w.hd_lt H.ok hc).1
 refine en hE Tryz.func55 rfl rfl Tryz.ntmps55 rfl (by decide +kernel) (rs := [.tmp 4, .cell 5 103, .tmp 6]) rfl ?_
 have k1 := (Keep.refl h).push (o := .cells [.int .i64 0, .int .i64 0, .int .i64 0, .bool false, .int .i64 0] 103 true) hW
 have w1 := hW.push (.cells [.int .i64 0, .int .i64 0, .int .i64 0, .bool false, .int .i64 0] 103 true)
 have H1 := H.keep k1
 have hat := (w.sits c hc).at_
 have hroom := (w.sits c hc).top
 have htop := H.ok.top
 have hWm := H.ok.W
 have hA := w.isAt H.ok hc
 have hH := w.headAt H.ok hc
 simp only [push_cast, seval, hE.P, zz, ↓H1.lT, hW.nb, hW.nb0]
 refine (tat_at hE H1 hx).mono ?_
 rintro v h1 ⟨rfl, rfl⟩
 rw [w.slotOf H.ok hc]
 simp only [hat]
 simp only [push_cast, seval, hE.P, zz, errOf, ↓H1.lA]
 refine (ahead_at hE H1 w1 (a := c.p) (by omega)).mono ?_
 rintro v h2 ⟨rfl, k2, w2⟩
 rw [hA, hH]
 have g2 := k2.get h.next _ (by simp only [get_push, if_true]; rfl)
 have k2' := (k1.trans k2).push (o := .cells [.int .i64 c.o.tag, .int .i64 c.o.refs, .int .i64 c.o.ws.length, .bool c.m, .int .i64 c.s] 103 true) w2
 have w2' := w2.push (.cells [.int .i64 c.o.tag, .int .i64 c.o.refs, .int .i64 c.o.ws.length, .bool c.m, .int .i64 c.s] 103 true)
 have g3 := (show Keep h2 _ from (Keep.refl h2).push (o := .cells [.int .i64 c.o.tag, .int .i64 c.o.refs, .int .i64 c.o.ws.length, .bool c.m, .int .i64 c.s] 103 true) w2).get h.next _ g2
 have hne : ¬ h2.next = h.next := by have := (w2.live _ _ g2).2; omega
 simp only [push_cast, seval, hE.P, zz, hW.nb, hW.nb0, w2.nb, w2.nb0]
 refine wdraw_pairs [] (by rw [hE.P]; decide +kernel) (by rw [hE.P]; decide +kernel) (by rw [hE.P]; decide +kernel) ?_
 simp only [push_cast, seval, hE.P, zz, hW.nb, hW.nb0, w2.nb, w2.nb0, g2, hne]
 refine ⟨fun p hp => (by cases hp), ?_⟩
 exact ⟨k2'.putNew hW (Nat.le_refl _), w2'.put g3⟩
end
end Go.Proofs.YthfopcdammlmfaaGreatDoor
namespace Go.Proofs.YthfopcdammlmfaaGreatDoor
open Go.Tm
def IsM (E : Env) (h : Heap) (L : HL) (A : List Cl) : Prop := ∃ S, IsH E h L S ∧ Gw S A
theorem IsM.keep {E : Env} {h h' : Heap} {L : HL} {A : List Cl} (H : IsM E h L A) (k : Keep h h') : IsM E h' L A := by
 obtain ⟨S, a, b⟩ := H
 exact ⟨S, a.keep k, b⟩
def posG (A : List Cl) (x : Nat) : Nat := ((A.find? fun c => c.hd == x).map (·.p)).getD 0
theorem posG_of {S : HS} {A : List Cl} (w : Gw S A) (ok : S.Ok) {c : Cl} (hc : c ∈ A) : posG A c.hd = c.p := by
 unfold posG
 cases h : A.find? fun d => d.hd == c.hd with
 | none =>
   rw [List.find?_eq_none] at h
   exact absurd (by simp) (h c hc)
 | some d =>
   have h1 := List.mem_of_find?_eq_some h
   have h2 : d.hd = c.hd := by simpa using List.find?_some h
   rw [ghd_inj w ok h1 hc h2]; rfl
variable {E : Env} (hE : EOk E)
include hE
section
variable {h : Heap} {L : HL} {O : List Cl} (H : IsM E h L O) (hW : WF E h)
include H hW
theorem ghead_at {x : Nat} (hx : x < 18446744073709551616) : CallsTo E 62 [.pointer (some ⟨L.ph, 0, none⟩), .int .u64 x] h fun v h' =>
 v = headO (gobj O x) ∧ Keep h h' ∧ WF E h' := by
 obtain ⟨S, H, w⟩ := H
 refine en hE Tryz.func62 rfl rfl Tryz.ntmps62 rfl (by decide +kernel) (rs := [.tmp 4, .tmp 5, .tmp 6, .tmp 7]) rfl ?_
 simp only [push_cast, seval, hE.P, zz]
 cases ho : gobj O x with
 | none =>
   refine (gfind_none hE H w hW hx ho).mono ?_
   rintro v h1 ⟨rfl, k1, w1⟩
   have k2 := k1.push (o := .cells [.int .i64 0, .int .i64 0, .int .i64 0, .bool false, .int .i64 0] 103 true) w1
   have w2 := w1.push (.cells [.int .i64 0, .int .i64 0, .int .i64 0, .bool false, .int .i64 0] 103 true)
   simp only [push_cast, seval, hE.P, zz, w1.nb, w1.nb0]
   refine wdraw_calm (by rw [hE.P]; decide +kernel) ?_
   simp only [push_cast, seval, hE.P, zz, w1.nb, w1.nb0]
   exact ⟨rfl, k2, w2⟩
 | some o =>
   obtain ⟨c, hc, hcx, rfl⟩ := gobj_some ho
   subst hcx
   refine (gfind_some hE H w hW hc).mono ?_
   rintro v h1 ⟨rfl, k1, w1⟩
   have k2 := k1.push (o := .cells [.int .i64 c.o.tag, .int .i64 c.o.refs, .int .i64 c.o.ws.length, .bool c.m, .int .i64 c.s] 103 true) w1
   have w2 := w1.push (.cells [.int .i64 c.o.tag, .int .i64 c.o.refs, .int .i64 c.o.ws.length, .bool c.m, .int .i64 c.s] 103 true)
   simp only [push_cast, seval, hE.P, zz, w1.nb, w1.nb0]
   refine wdraw_calm (by rw [hE.P]; decide +kernel) ?_
   simp only [push_cast, seval, hE.P, zz, w1.nb, w1.nb0]
   exact ⟨rfl, k2, w2⟩
theorem gref_at {x : Nat} (hx : x < 18446744073709551616) {i : Int} (hi1 : -9223372036854775808 ≤ i) (hi2 : i ≤ 9223372036854775807) : CallsTo E 63 [.pointer (some ⟨L.ph, 0, none⟩), .int .u64 x, .int .i64 i] h fun v h' =>
 v = refO i (gobj O x) ∧ Keep h h' ∧ WF E h' := by
 obtain ⟨S, H, w⟩ := H
 refine en hE Tryz.func63 rfl rfl Tryz.ntmps63 rfl (by decide +kernel) (rs := [.tmp 6, .tmp 7]) rfl ?_
 simp only [push_cast, seval, hE.P, zz]
 cases ho : gobj O x with
 | none =>
   refine (gfind_none hE H w hW hx ho).mono ?_
   rintro v h1 ⟨rfl, k1, w1⟩
   have k2 := k1.push (o := .cells [.int .i64 0, .int .i64 0, .int .i64 0, .bool false, .int .i64 0] 103 true) w1
   have w2 := w1.push (.cells [.int .i64 0, .int .i64 0, .int .i64 0, .bool false, .int .i64 0] 103 true)
   simp only [push_cast, seval, hE.P, zz, w1.nb, w1.nb0]
   exact ⟨rfl, k2, w2⟩
 | some o =>
   obtain ⟨c, hc, hcx, rfl⟩ := gobj_some ho
   subst hcx
   refine (gfind_some hE H w hW hc).mono ?_
   rintro v h1 ⟨rfl, k1, w1⟩
   have k2 := k1.push (o := .cells [.int .i64 c.o.tag, .int .i64 c.o.refs, .int .i64 c.o.ws.length, .bool c.m, .int .i64 c.s] 103 true) w1
   have w2 := w1.push (.cells [.int .i64 c.o.tag, .int .i64 c.o.refs, .int .i64 c.o.ws.length, .bool c.m, .int .i64 c.s] 103 true)
   have H2 := H.keep k2
   have hroom := (w.sits c hc).top
   unfold Cl.wd at hroom
   have htop := H.ok.top
   have hWm := H.ok.W
   have hA := w.isAt H.ok hc
   have hH := w.headAt H.ok hc
   have hr := (w.sits c hc).refs
   have hsm := w.small hc
   simp only [push_cast, seval, hE.P, zz, w1.nb, w1.nb0]
   refine kguard_splitF (fun hb => ?_) (fun hb => ?_)
   ·have h0 : 0 ≤ i := by simpa using hb
    simp only [push_cast, seval, hE.P, zz, hb, w1.nb, w1.nb0]
    refine kif_split (fun hb2 => ?_) (fun hb2 => ?_)
    ·have h2 : ¬ i < c.o.refs := by simpa using hb2
     simp only [push_cast, seval, hE.P, zz]
     exact ⟨by rw [refO_out (by omega)], k2, w2⟩
    ·have h2 : i < c.o.refs := by simpa using hb2
     obtain ⟨n, rfl⟩ : ∃ n : Nat, i = n := ⟨i.toNat, by omega⟩
     simp only [push_cast, seval, hE.P, zz, ↓H2.lA]
     refine (get_at hE H2 w2 (a := c.p) (i := n) (by omega) hA (by rw [hH]; show n < c.o.ws.length; omega) (by omega)).mono ?_
     rintro v h3 ⟨rfl, k3, w3⟩
     have hn : n < c.o.ws.length := by omega
     have h2' : n < c.o.refs := by omega
     have hws := (w.sits c hc).ws n _ (List.getElem?_eq_getElem hn)
     simp only [push_cast, seval, hE.P, zz]
     refine ⟨?_, k2.trans k3, w3⟩
     rw [refO_in h2' hn, hws]
   ·have h0 : ¬ 0 ≤ i := by have : i < 0 := by simpa using hb
                            omega
    simp only [push_cast, seval, hE.P, zz, hb, w1.nb, w1.nb0]
    exact ⟨by rw [refO_out (by omega)], k2, w2⟩
def scalarG (p : Nat) (i : Int) : Option Ob → Value
 | some o => if 0 ≤ i ∧ i < o.ws.length - o.refs then .tuple #[.int .i64 (p : Nat), .int .i64 ((o.refs : Int) + i), .int .i64 0] else .tuple #[.int .i64 0, .int .i64 0, .int .i64 1]
 | none => .tuple #[.int .i64 0, .int .i64 0, .int .i64 6]
omit hE H hW in
theorem scalarG_in {o : Ob} {z : Nat} {i : Int} (h : 0 ≤ i ∧ i < o.ws.length - o.refs) : scalarG z i (some o) = .tuple #[.int .i64 (z : Nat), .int .i64 ((o.refs : Int) + i), .int .i64 0] := by
 unfold scalarG; simp only
 rw [if_pos h]
omit hE H hW in
theorem scalarG_out {o : Ob} {z : Nat} {i : Int} (h : ¬ (0 ≤ i ∧ i < o.ws.length - o.refs)) : scalarG z i (some o) = .tuple #[.int .i64 0, .int .i64 0, .int .i64 1] := by
 unfold scalarG; simp only
 rw [if_neg h]
theorem gscalar_at {x : Nat} (hx : x < 18446744073709551616) {i : Int} (hi1 : -9223372036854775808 ≤ i) (hi2 : i ≤ 9223372036854775807) : CallsTo E 159 [.pointer (some ⟨L.ph, 0, none⟩), .int .u64 x, .int .i64 i] h fun v h' =>
 v = scalarG (posG O x) i (gobj O x) ∧ Keep h h' ∧ WF E h' := by
 obtain ⟨S, H, w⟩ := H
 refine en hE Tryz.func159 rfl rfl Tryz.ntmps159 rfl (by decide +kernel) (rs := [.tmp 6, .tmp 7, .tmp 8]) rfl ?_
 simp only [push_cast, seval, hE.P, zz]
 cases ho : gobj O x with
 | none =>
   refine (gfind_none hE H w hW hx ho).mono ?_
   rintro v h1 ⟨rfl, k1, w1⟩
   have k2 := k1.push (o := .cells [.int .i64 0, .int .i64 0, .int .i64 0, .bool false, .int .i64 0] 103 true) w1
   have w2 := w1.push (.cells [.int .i64 0, .int .i64 0, .int .i64 0, .bool false, .int .i64 0] 103 true)
   simp only [push_cast, seval, hE.P, zz, w1.nb, w1.nb0]
   exact ⟨rfl, k2, w2⟩
 | some o =>
   obtain ⟨c, hc, hcx, rfl⟩ := gobj_some ho
   subst hcx
   have hpos := posG_of w H.ok hc
   refine (gfind_some hE H w hW hc).mono ?_
   rintro v h1 ⟨rfl, k1, w1⟩
   have k2 := k1.push (o := .cells [.int .i64 c.o.tag, .int .i64 c.o.refs, .int .i64 c.o.ws.length, .bool c.m, .int .i64 c.s] 103 true) w1
   have w2 := w1.push (.cells [.int .i64 c.o.tag, .int .i64 c.o.refs, .int .i64 c.o.ws.length, .bool c.m, .int .i64 c.s] 103 true)
   have hr := (w.sits c hc).refs
   have hsm := w.small hc
   have hw1 : IntKind.i64.wrap ((c.o.ws.length : Int) - c.o.refs) = (c.o.ws.length : Int) - c.o.refs := wr64 (by omega) (by omega)
   simp only [push_cast, seval, hE.P, zz, w1.nb, w1.nb0]
   refine kguard_splitF (fun hb => ?_) (fun hb => ?_)
   ·have h0 : 0 ≤ i := by simpa using hb
    simp only [push_cast, seval, hE.P, zz, hb, w1.nb, w1.nb0, hw1]
    refine kif_split (fun hb2 => ?_) (fun hb2 => ?_)
    ·have h2 : ¬ i < c.o.ws.length - c.o.refs := by simpa using hb2
     simp only [push_cast, seval, hE.P, zz]
     exact ⟨by rw [scalarG_out (by omega)], k2, w2⟩
    ·have h2 : i < c.o.ws.length - c.o.refs := by simpa using hb2
     have hw2 : IntKind.i64.wrap ((c.o.refs : Int) + i) = (c.o.refs : Int) + i := wr64 (by omega) (by omega)
     simp only [push_cast, seval, hE.P, zz, w1.nb, w1.nb0, hw2]
     refine wdraw_calm (by rw [hE.P]; decide +kernel) ?_
     simp only [push_cast, seval, hE.P, zz, w1.nb, w1.nb0, hw2]
     exact ⟨by rw [hpos, scalarG_in (by omega)], k2, w2⟩
   ·have h0 : ¬ 0 ≤ i := by have : i < 0 := by simpa using hb
                            omega
    simp only [push_cast, seval, hE.P, zz, hb, w1.nb, w1.nb0]
    exact ⟨by rw [scalarG_out (by omega)], k2, w2⟩
theorem gword_at {x : Nat} (hx : x < 18446744073709551616) {i : Int} (hi1 : -9223372036854775808 ≤ i) (hi2 : i ≤ 9223372036854775807) : CallsTo E 127 [.pointer (some ⟨L.ph, 0, none⟩), .int .u64 x, .int .i64 i] h fun v h' =>
 v = wordO i (gobj O x) ∧ Keep h h' ∧ WF E h' := by
 have Hs := gscalar_at hE H hW hx hi1 hi2
 obtain ⟨S, H, w⟩ := H
 refine en hE Tryz.func127 rfl rfl Tryz.ntmps127 rfl (by decide +kernel) (rs := [.tmp 6, .tmp 7]) rfl ?_
 simp only [push_cast, seval, hE.P, zz]
 refine Hs.mono ?_
 rintro v h1 ⟨rfl, k1, w1⟩
 have H1 := H.keep k1
 cases ho : gobj O x with
 | none =>
   simp only [push_cast, seval, hE.P, zz, scalarG]
   exact ⟨rfl, k1, w1⟩
 | some o =>
   obtain ⟨c, hc, hcx, rfl⟩ := gobj_some ho
   subst hcx
   have hpos := posG_of w H.ok hc
   have hroom := (w.sits c hc).top
   unfold Cl.wd at hroom
   have htop := H.ok.top
   have hWm := H.ok.W
   have hA := w.isAt H.ok hc
   have hH := w.headAt H.ok hc
   have hr := (w.sits c hc).refs
   by_cases hin : 0 ≤ i ∧ i < c.o.ws.length - c.o.refs
   ·obtain ⟨n, rfl⟩ : ∃ n : Nat, i = n := ⟨i.toNat, by omega⟩
    obtain ⟨m, hm⟩ : ∃ m, m = c.o.refs + n := ⟨_, rfl⟩
    have hm2 : (c.o.refs : Int) + n = m := by omega
    rw [hpos, scalarG_in hin, hm2]
    have hn : c.o.refs + n < c.o.ws.length := by omega
    rw [wordO_in hn]
    have hws := (w.sits c hc).ws (c.o.refs + n) _ (List.getElem?_eq_getElem hn)
    simp only [push_cast, seval, hE.P, zz, ↓H1.lA]
    refine (get_at hE H1 w1 (a := c.p) (i := m) (by omega) hA (by rw [hH]; show m < c.o.ws.length; omega) (by omega)).mono ?_
    rintro v h3 ⟨rfl, k3, w3⟩
    simp only [push_cast, seval, hE.P, zz]
    refine ⟨?_, k1.trans k3, w3⟩
    rw [hm, hws]
   ·rw [scalarG_out hin, wordO_out hin]
    simp only [push_cast, seval, hE.P, zz]
    exact ⟨k1, w1⟩
end
end Go.Proofs.YthfopcdammlmfaaGreatDoor
