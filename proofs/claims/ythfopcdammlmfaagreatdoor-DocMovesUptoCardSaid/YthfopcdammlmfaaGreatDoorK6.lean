/- What the law DocMoves counts: the plain law. -/
import Derived.Test.YthfopcdammlmfaaGreatDoorK5
import Derived.Test.YthfopcdammlmfaaGreatDoorJ2
set_option maxRecDepth 10000
set_option linter.all false
set_option linter.unusedSimpArgs false
set_option linter.unusedVariables false
namespace Go.Proofs.YthfopcdammlmfaaGreatDoor
open Go.Tm
theorem cmpV_self : ∀ (n : Nat) (V : Vl), V.sz ≤ n → cmpV V V = 0 := by
 intro n
 induction n with
 | zero => intro V hn; have := sz_eq V; omega
 | succ n ih =>
   intro V hn
   have hL : ∀ l : List Vl, (∀ v, v ∈ l → cmpV v v = 0) → cmpL l l = 0 := by
    intro l
    induction l with
    | nil => intro _; simp [cmpL]
    | cons v l il => intro h; rw [cmpL, h v (by simp), il fun w hw => h w (by simp [hw])]; rfl
   have hF : ∀ l : List (ByteArray × Vl), (∀ v, v ∈ l → cmpV v.2 v.2 = 0) → cmpF l l = 0 := by
    intro l
    induction l with
    | nil => intro _; simp [cmpF]
    | cons v l il =>
      intro h
      obtain ⟨a, v⟩ := v
      rw [cmpF, cmpS_self, h (a, v) (by simp), il fun w hw => h w (by simp [hw])]; rfl
   rw [cmpV_eq, cmpI_self, hL V.l fun v hv => ih v (by have := l_sz hv; omega), hF V.f fun v hv => ih v.2 (by have := f_sz hv; omega), cmpI_self, cmpS_self, cmpI_self, cmpI_self]
   rfl
theorem objs_words : ∀ (n : Nat) (V : Vl), V.sz ≤ n → allV formedV V = true → 2 * objsV V ≤ wordsV V + 1 ∧ 1 ≤ objsV V := by
 intro n
 induction n with
 | zero => intro V hn; have := sz_eq V; omega
 | succ n ih =>
   intro V hn hF
   rw [allV_eq, Bool.and_eq_true, List.all_eq_true] at hF
   obtain ⟨fl, ff, k1, k6⟩ := formed_l hF.1
   rw [wordsV_eq, objsV_eq]
   unfold baseW
   by_cases e5 : V.k = 5
   ·have hp : V.parts = V.l := by simp [Vl.parts, e5]
    have ih' := fun x (hx : x ∈ V.l) => ih x (by have := l_sz hx; omega) (hF.2 x (by rw [hp]; exact hx))
    have a1 : (V.l.map fun x => 2 * objsV x).sum ≤ (V.l.map fun x => 1 + wordsV x).sum := sum_mono fun x hx => by have := ih' x hx; omega
    have a3 : (V.l.map fun x => 2 * objsV x).sum = 2 * (V.l.map fun x => objsV x).sum := by
     generalize V.l = l
     induction l with
     | nil => simp
     | cons x l ih => simp only [List.map_cons, List.sum_cons, ih]; omega
    have a4 : 0 ≤ (V.l.map fun x => objsV x).sum := sum_nn fun x hx => by
     obtain ⟨y, hy, rfl⟩ := List.mem_map.1 hx
     have := (ih' y hy).2; omega
    rw [ff (by omega)]
    simp [e5]
    omega
   ·rw [fl e5]
    by_cases e6 : V.k = 6
    ·have hp : V.parts = V.f.map (·.2) := by simp [Vl.parts, e6]
     have ih' := fun x (hx : x ∈ V.f) => ih x.2 (by have := f_sz hx; omega) (hF.2 x.2 (by rw [hp]; exact List.mem_map.2 ⟨x, hx, rfl⟩))
     have a1 : (V.f.map fun x => 2 * (1 + objsV x.2)).sum ≤ (V.f.map fun x => 3 + textW x.1 + wordsV x.2).sum := sum_mono fun x hx => by
      have := ih' x hx; unfold textW; omega
     have a3 : (V.f.map fun x => 2 * (1 + objsV x.2)).sum = 2 * (V.f.map fun x => 1 + objsV x.2).sum := by
      generalize V.f = l
      induction l with
      | nil => simp
      | cons x l ih => simp only [List.map_cons, List.sum_cons, ih]; omega
     have a4 : 0 ≤ (V.f.map fun x => 1 + objsV x.2).sum := sum_nn fun x hx => by
      obtain ⟨y, hy, rfl⟩ := List.mem_map.1 hx
      have := (ih' y hy).2; omega
     simp [e6]
     omega
    ·rw [ff e6]
     simp [e5, e6]
     by_cases e2 : V.k = 2
     ·simp [e2]
     ·by_cases e3 : V.k = 3
      ·simp [e3]
      ·by_cases e4 : V.k = 4
       ·simp [e4]; unfold textW; omega
       ·simp [e2, e3, e4]
def gwV (V : Vl) : Nat := if goodV V = 0 then (wordsV V).toNat else 0
theorem gwV_le (V : Vl) : gwV V ≤ 8192 := by
 unfold gwV
 split
 ·rename_i h
  obtain ⟨p1, _, _, _, p5⟩ := good_parts h
  have := (room_le V.sz V (Nat.le_refl _) p1).1
  omega
 ·omega
theorem good_w {V : Vl} (h : goodV V = 0) : ((gwV V : Nat) : Int) = wordsV V ∧ 2 * (objsV V).toNat ≤ gwV V + 1 ∧ 0 ≤ objsV V ∧ gwV V = (wordsV V).toNat := by
 obtain ⟨p1, _⟩ := good_parts h
 obtain ⟨a, b⟩ := objs_words V.sz V (Nat.le_refl _) p1
 have e : gwV V = (wordsV V).toNat := by unfold gwV; rw [if_pos h]
 rw [e]
 clear e p1
 generalize wordsV V = w at *
 generalize objsV V = o at *
 exact ⟨by omega, by omega, by omega, rfl⟩
def sumG (l : List Vl) (i : Nat) : Nat := ((l.take i).map gwV).sum
theorem sumG_succ {l : List Vl} {i : Nat} (h : i < l.length) : sumG l (i + 1) = sumG l i + gwV l[i] := by
 unfold sumG
 rw [List.take_succ_eq_append_getElem h, List.map_append, List.sum_append, List.map_cons, List.map_nil, List.sum_cons, List.sum_nil, Nat.add_zero]
theorem sumG_le (l : List Vl) (i : Nat) : sumG l i ≤ i * 8192 := by
 unfold sumG
 have key : ∀ m : List Vl, (m.map gwV).sum ≤ m.length * 8192 := by
  intro m
  induction m with
  | nil => simp
  | cons x m ih => have := gwV_le x; simp only [List.map_cons, List.sum_cons, List.length_cons]; omega
 have h1 := key (l.take i)
 have h2 : (l.take i).length ≤ i := by simp; omega
 exact Nat.le_trans h1 (Nat.mul_le_mul_right _ h2)
theorem sumG_mono (l : List Vl) {i j : Nat} (h : i ≤ j) : sumG l i ≤ sumG l j := by
 unfold sumG
 obtain ⟨k, rfl⟩ : ∃ k, j = i + k := ⟨j - i, by omega⟩
 rw [List.take_add, List.map_append, List.sum_append]; omega
structure Hd1 where
 V : Vl
 x : Nat
 hs : List Nat
def rtOf (H : List Hd1) : List Nat := H.map (·.x) ++ List.replicate (16 - H.length) 0
structure HOk (A : List Cl) (e : Hd1) : Prop where
 tre : Tre (gobj A) e.x e.V e.hs
 good : goodV e.V = 0
 nums : allV G.numsV e.V = true
 lt : e.x < 18446744073709551616
structure Held (A : List Cl) (rt : List Nat) (H : List Hd1) : Prop where
 len : H.length ≤ 16
 rt : rt = rtOf H
 all : ∀ e, e ∈ H → HOk A e
 nd : (H.flatMap (·.hs)).Nodup
theorem mem_rtOf {H : List Hd1} {e : Hd1} (h : e ∈ H) : e.x ∈ rtOf H := by
 unfold rtOf
 exact List.mem_append_left _ (List.mem_map.2 ⟨e, h, rfl⟩)
theorem Held.pres {A B : List Cl} {rt : List Nat} {H : List Hd1} (h : Held A rt H) (p : Pres A B rt) : Held B rt H :=
 ⟨h.len, h.rt, fun e he => let o := h.all e he; ⟨p _ _ _ (by rw [h.rt]; exact mem_rtOf he) o.tre, o.good, o.nums, o.lt⟩, h.nd⟩
theorem Held.r64 {A : List Cl} {rt : List Nat} {H : List Hd1} (h : Held A rt H) : ∀ x, x ∈ rt → x < 18446744073709551616 := by
 intro x hx
 rw [h.rt] at hx
 unfold rtOf at hx
 rcases List.mem_append.1 hx with hx | hx
 ·obtain ⟨e, he, rfl⟩ := List.mem_map.1 hx
  exact (h.all e he).lt
 ·have := (List.mem_replicate.1 hx).2
  omega
theorem rtOf_set {H : List Hd1} {e : Hd1} (h : H.length < 16) : (rtOf H).set H.length e.x = rtOf (H ++ [e]) := by
 unfold rtOf
 have hl : (H.map (·.x)).length = H.length := by simp
 have e1 : 16 - H.length = (16 - (H.length + 1)) + 1 := by omega
 rw [List.set_append_right _ _ (by omega), hl, Nat.sub_self, e1, List.replicate_succ, List.set_cons_zero]
 simp
theorem Held.add {A N : List Cl} {rt : List Nat} {H : List Hd1} {e : Hd1} (h : Held A rt H) (hl : H.length < 16) (ho : HOk N e) (hp : Pres A N rt) (hd : ∀ y, y ∈ e.hs → live A y = false) (hn : e.hs.Nodup) : Held N (rt.set H.length e.x) (H ++ [e]) := by
 refine ⟨by simp; omega, by rw [h.rt, rtOf_set hl], fun d hd => ?_, ?_⟩
 ·rcases List.mem_append.1 hd with hd | hd
  ·exact (h.pres hp).all d hd
  ·simp only [List.mem_singleton] at hd; subst hd; exact ho
 ·rw [List.flatMap_append, List.nodup_append]
  refine ⟨h.nd, by simpa using hn, fun a ha b hb hab => ?_⟩
  simp only [List.flatMap_cons, List.flatMap_nil, List.append_nil] at hb
  subst hab
  obtain ⟨d, hdm, hda⟩ := List.mem_flatMap.1 ha
  obtain ⟨o, ho', _⟩ := (h.all d hdm).tre.live hda
  have := hd a hb
  unfold live at this
  rw [ho'] at this; cases this
theorem Held.xc {A : List Cl} {rt : List Nat} {H : List Hd1} (h : Held A rt H) {S : HS} (w : Gw S A) (ok : S.Ok) : Xc A rt fun y => y ∈ H.flatMap (·.hs) := by
 refine ⟨fun x hx hl => ?_, fun c hc hx r hr hl => ?_⟩
 ·rw [h.rt] at hx
  unfold rtOf at hx
  rcases List.mem_append.1 hx with hx | hx
  ·obtain ⟨e, he, rfl⟩ := List.mem_map.1 hx
   exact List.mem_flatMap.2 ⟨e, he, (h.all e he).tre.self⟩
  ·have h0 := (List.mem_replicate.1 hx).2
   subst h0
   obtain ⟨c, hc, e⟩ := live_iff.1 hl
   have := (w.hd_lt ok hc).2
   omega
 ·obtain ⟨e, he, hce⟩ := List.mem_flatMap.1 hx
  obtain ⟨o, ho, hrs⟩ := (h.all e he).tre.live hce
  rw [gobj_of w ok hc] at ho
  injection ho with ho
  exact List.mem_flatMap.2 ⟨e, he, hrs r (ho ▸ hr)⟩
def wid (O : Nat → Option Ob) (y : Nat) : Nat := match O y with | some o => o.ws.length + 1 | none => 0
theorem Cont.sum : ∀ {A : List Cl} {a b : Nat}, Cont a A b → b = a + (A.map Cl.wd).sum
 | [], a, b, h => by have : a = b := h; simp [this]
 | c :: A, a, b, h => by
   have := Cont.sum h.2
   simp only [List.map_cons, List.sum_cons]; omega
theorem Tre.sum {O : Nat → Option Ob} {x : Nat} {V : Vl} {hs : List Nat} (t : Tre O x V hs) (hf : allV formedV V = true) : (hs.map (wid O)).sum = (wordsV V).toNat := by
 obtain ⟨f, h1, rfl, _⟩ := t
 have e : ((List.range (obg f 0 V).length).map f).map (wid O) = (obg f 0 V).map Ob.width := by
  apply List.ext_getElem?
  intro i
  rw [List.getElem?_map, List.getElem?_map, List.getElem?_map]
  cases hc : (obg f 0 V)[i]? with
  | none => rw [List.getElem?_eq_none (by rw [List.length_range]; exact List.getElem?_eq_none_iff.1 hc)]; rfl
  | some o =>
    rw [List.getElem?_range (List.getElem?_eq_some_iff.1 hc).1]
    simp only [Option.map_some]
    unfold wid
    rw [h1 i o hc]; rfl
 rw [e]
 have := (obg_words (g := f) V.sz V (Nat.le_refl _) hf 0).1
 unfold allO at this
 omega
theorem top_sum {S : HS} {A : List Cl} (w : Gw S A) (ok : S.Ok) (hc : Cont 0 A S.top) {Hs : List Nat} (hn : Hs.Nodup) (h1 : ∀ c, c ∈ A → c.hd ∈ Hs) (h2 : ∀ y, y ∈ Hs → live A y = true) : S.top = (Hs.map (wid (gobj A))).sum := by
 have e := hc.sum
 rw [Nat.zero_add] at e
 have hp : (A.map Cl.hd).Perm Hs := (List.perm_ext_iff_of_nodup (new_nd w ok) hn).2 fun y => by
  constructor
  ·intro hy
   obtain ⟨c, hcA, rfl⟩ := List.mem_map.1 hy
   exact h1 c hcA
  ·intro hy
   obtain ⟨c, hcA, e⟩ := live_iff.1 (h2 y hy)
   exact List.mem_map.2 ⟨c, hcA, e⟩
 have e2 : (A.map Cl.hd).map (wid (gobj A)) = A.map Cl.wd := by
  rw [List.map_map]
  refine List.map_congr_left fun c hcA => ?_
  show wid (gobj A) c.hd = _
  unfold wid
  rw [gobj_of w ok hcA]; rfl
 rw [e, ← e2]
 exact (hp.map _).sum_nat
theorem Held.top {S : HS} {A : List Cl} {rt : List Nat} {H : List Hd1} (h : Held A rt H) (w : Gw S A) (ok : S.Ok) (hc : Cont 0 A S.top) (ho : ∀ c, c ∈ A → c.hd ∈ H.flatMap (·.hs)) : S.top = (H.map fun e => gwV e.V).sum := by
 rw [top_sum w ok hc h.nd ho fun y hy => by
  obtain ⟨e, he, hye⟩ := List.mem_flatMap.1 hy
  obtain ⟨o, ho, _⟩ := (h.all e he).tre.live hye
  unfold live; rw [ho]; rfl]
 have : ∀ H : List Hd1, (∀ e, e ∈ H → HOk A e) → ((H.flatMap (·.hs)).map (wid (gobj A))).sum = (H.map fun e => gwV e.V).sum := by
  intro H
  induction H with
  | nil => intro _; rfl
  | cons e H ih =>
    intro hall
    have o := hall e (by simp)
    rw [List.flatMap_cons, List.map_append, List.sum_append, ih fun d hd => hall d (by simp [hd]), o.tre.sum (good_parts o.good).1, List.map_cons, List.sum_cons, (good_w o.good).2.2.2]
 exact this H h.all
end Go.Proofs.YthfopcdammlmfaaGreatDoor
