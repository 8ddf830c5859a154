/- Making and setting, whoever watches: on what is there and what is new. -/
/- Merged by a program of ours: B1 K0 K1 B2 B3. -/
import Derived.Test.YthfopcdammlmfaaGreatDoorM2
import Derived.Test.YthfopcdammlmfaaGreatDoorA9
import Derived.Test.YthfopcdammlmfaaGreatDoorN1
import Derived.Test.YthfopcdammlmfaaGreatDoorC4
set_option maxRecDepth 10000
set_option linter.all false
set_option linter.unusedSimpArgs false
set_option linter.unusedVariables false
/- BUILDING on a heap whatever was freed, moved, watched: who watches; what is there; the plain law of one object more. -/
namespace Go.Proofs.YthfopcdammlmfaaGreatDoor
open Go.Tm
inductive Wv where
 | no
 | mk (mb : Nat)
 | co (cb mb : Nat)
def Wv.val : Wv → Value
 | .no => .nilIface
 | .mk mb => .iface 116 (.pointer (some ⟨mb, 0, none⟩))
 | .co cb _ => .iface 48 (.pointer (some ⟨cb, 0, none⟩))
def Wv.on : Wv → Bool
 | .no => false
 | _ => true
def Mk1 (h : Heap) (L : HL) (mb : Nat) : Prop := mb ∉ L.blocks ∧ ∃ c, h.get mb = some (.cells (.pointer (some ⟨L.ph, 0, none⟩) :: c) 166 true)
def Wv.mem (h : Heap) (L : HL) : Wv → Prop
 | .no => True
 | .mk mb => Mk1 h L mb
 | .co cb mb => Mk1 h L mb ∧ cb ∉ L.blocks ∧ ∃ c, h.get cb = some (.cells (.pointer (some ⟨L.ph, 0, none⟩) :: .pointer (some ⟨mb, 0, none⟩) :: c) 119 true)
theorem Mk1.b {h h' : Heap} {L : HL} {mb : Nat} (m : Mk1 h L mb) (k : KeepB L h h') : Mk1 h' L mb := by
 obtain ⟨a, c, b⟩ := m
 exact ⟨a, c, k.get _ _ a b⟩
theorem Wv.mem.b {h h' : Heap} {L : HL} {w : Wv} (m : w.mem h L) (k : KeepB L h h') : w.mem h' L := by
 cases w with
 | no => trivial
 | mk mb => exact Mk1.b m k
 | co cb mb =>
   obtain ⟨a, b, c, d⟩ := m
   exact ⟨a.b k, b, c, k.get _ _ b d⟩
def futs (S : HS) : List Nat → Nat → Nat
 | [], i => hnd S (S.fresh + i)
 | j :: _, 0 => hnd S j
 | _ :: F, i + 1 => futs S F i
theorem futs_congr {S S' : HS} (hg : ∀ i, (S'.sl i).gen = (S.sl i).gen) (hf : S'.fresh = S.fresh) : ∀ (F : List Nat) (i : Nat), futs S' F i = futs S F i
 | [], i => by simp [futs, hnd, hg, hf]
 | j :: F, 0 => by simp [futs, hnd, hg]
 | j :: F, i + 1 => by simp only [futs]; exact futs_congr hg hf F i
theorem Chn.w {S : HS} {x : Nat → Nat} {F : List Nat} {n : Nat} (h : Chn S n F) : Chn { S with w := x } n F := Chn.congr (S := S) (S' := { S with w := x }) rfl (fun _ _ => rfl) h
theorem futs_w {S : HS} {x : Nat → Nat} {F : List Nat} {i : Nat} : futs { S with w := x } F i = futs S F i := futs_congr (S := S) (S' := { S with w := x }) (fun _ => rfl) rfl F i
structure Bs where
 lo : List Cl
 hi : List Cl
 f : Nat → Nat
 w : Wv
 rt : List Nat
 op : Bool
 top : Nat
 cnt : Nat
 gen : Nat → Nat
namespace B
def IsO (E : Env) (h : Heap) (L : HL) (W nS : Nat) (R : Bs) (O : List Ob) : Prop :=
 ∃ (S : HS) (N : List Cl) (F : List Nat), IsH E h L S ∧ Gw S (R.lo ++ (R.hi ++ N)) ∧ Lay S R.lo (R.hi ++ N) ∧ N.map (·.o) = O ∧ (∀ i c, N[i]? = some c → c.hd = R.f i ∧ c.m = R.w.on) ∧
  (Chn S S.freed F ∧ F.Nodup ∧ ∀ i, R.f (O.length + i) = futs S F i) ∧ S.top = R.top + allO O ∧ S.W = R.top + W ∧ S.cnt = R.cnt + O.length ∧ S.nS = R.cnt + nS ∧ S.roots = R.rt ∧ S.wt = R.w.val ∧ R.w.mem h L ∧ S.open_ = R.op ∧ ∀ i, (S.sl i).gen = R.gen i
section
variable {E : Env} {h h' : Heap} {L : HL} {W nS : Nat} {R : Bs} {O : List Ob}
theorem IsO.keep (H : IsO E h L W nS R O) (k : Keep h h') : IsO E h' L W nS R O := by
 obtain ⟨S, N, F, a, b, c, d, e, f, g1, g2, g3, g4, g5, g6, g7, g8⟩ := H
 exact ⟨S, N, F, a.keep k, b, c, d, e, f, g1, g2, g3, g4, g5, g6, g7.b (k.b L), g8⟩
theorem IsO.lt (H : IsO E h L W nS R O) (hW : WF E h) : ∀ b, b ∈ L.blocks → E.base ≤ b ∧ b < h.next := by
 obtain ⟨S, N, F, a, _⟩ := H
 exact a.ltB hW
def hasLo (lo : Nat) (L : HL) : Wv → Prop
 | .no => True
 | .mk mb => mb < lo
 | .co cb mb => cb < lo ∧ mb < lo
theorem IsO.wlt (H : IsO E h L W nS R O) (hW : WF E h) : hasLo h.next L R.w := by
 obtain ⟨S, N, F, a, b, c, d, e, f, g1, g2, g3, g4, g5, g6, g7, g8⟩ := H
 cases hw : R.w with
 | no => trivial
 | mk mb => rw [hw] at g7; obtain ⟨_, c, g⟩ := g7; exact (hW.live _ _ g).2
 | co cb mb => rw [hw] at g7; obtain ⟨⟨_, c, g⟩, _, c', g'⟩ := g7; exact ⟨(hW.live _ _ g').2, (hW.live _ _ g).2⟩
theorem IsO.keepLo {lo : Nat} (H : IsO E h L W nS R O) (hL : ∀ b, b ∈ L.blocks → b < lo) (hw : hasLo lo L R.w) (k : KeepLo lo h h') : IsO E h' L W nS R O := by
 obtain ⟨S, N, F, a, b, c, d, e, f, g1, g2, g3, g4, g5, g6, g7, g8⟩ := H
 refine ⟨S, N, F, ⟨a.ok, a.nd, a.base, k.get _ _ (hL _ (by simp [HL.blocks])) a.heap, k.get _ _ (hL _ (by simp [HL.blocks])) a.arena, k.get _ _ (hL _ (by simp [HL.blocks])) a.table, k.get _ _ (hL _ (by simp [HL.blocks])) a.words, k.get _ _ (hL _ (by simp [HL.blocks])) a.begins, k.get _ _ (hL _ (by simp [HL.blocks])) a.slots⟩, b, c, d, e, f, g1, g2, g3, g4, g5, g6, ?_, g8⟩
 cases hR : R.w with
 | no => trivial
 | mk mb => rw [hR] at g7 hw; obtain ⟨x, c, g⟩ := g7; exact ⟨x, c, k.get _ _ hw g⟩
 | co cb mb => rw [hR] at g7 hw; obtain ⟨⟨x, c, g⟩, y, c', g'⟩ := g7; exact ⟨⟨x, c, k.get _ _ hw.2 g⟩, y, c', k.get _ _ hw.1 g'⟩
theorem IsO.room (H : IsO E h L W nS R O) : W ≤ 1048576 ∧ nS ≤ 1048576 ∧ O.length ≤ nS ∧ allO O ≤ W := by
 obtain ⟨S, N, F, a, b, c, d, e, f, g1, g2, g3, g4, g5⟩ := H
 have h1 := a.ok.W; have h2 := a.ok.nS; have h3 := a.ok.cnt; have h4 := a.ok.top
 omega
end
theorem upC_id {P : List Cl} {s : Nat} {f : Cl → Cl} (h : ∀ d, d ∈ P → d.s ≠ s) : upC P s f = P := by
 unfold upC
 conv => rhs; rw [← List.map_id P]
 exact List.map_congr_left fun d hd => by rw [if_neg (h d hd)]; rfl
theorem upC_last {P : List Cl} {c : Cl} {f : Cl → Cl} (h : ∀ d, d ∈ P → d.s ≠ c.s) : upC (P ++ [c]) c.s f = P ++ [f c] := by
 rw [upC_app, upC_id h]
 simp [upC]
theorem last_up {S S' : HS} {lo hi N : List Cl} {c : Cl} {f : Cl → Cl} (hf : ∀ c, (f c).p = c.p ∧ (f c).wd = c.wd) (w : Gw S (lo ++ (hi ++ (N ++ [c])))) (l : Lay S lo (hi ++ (N ++ [c])))
 (w' : Gw S' (upC (lo ++ (hi ++ (N ++ [c]))) c.s f)) (h1 : S'.open_ = S.open_) (h2 : S'.low = S.low) (h3 : S'.high = S.high) (h4 : S'.top = S.top) :
 Gw S' (lo ++ (hi ++ (N ++ [f c]))) ∧ Lay S' lo (hi ++ (N ++ [f c])) := by
 have hmem : ∀ d, d ∈ lo ++ (hi ++ N) → d.s ≠ c.s := by
  intro d hd hs
  have hd2 : d ∈ lo ++ (hi ++ (N ++ [c])) := by
   simp only [List.mem_append] at hd ⊢
   rcases hd with hd | hd | hd
   ·exact .inl hd
   ·exact .inr (.inl hd)
   ·exact .inr (.inr (.inl hd))
  have := w.slot_inj hd2 (by simp) hs
  subst this
  have ho := w.ord
  rw [show lo ++ (hi ++ (N ++ [d])) = (lo ++ (hi ++ N)) ++ [d] by simp, List.pairwise_append] at ho
  have := ho.2.2 d hd d (by simp)
  unfold Cl.wd at this; omega
 have e1 : upC (lo ++ (hi ++ (N ++ [c]))) c.s f = lo ++ (hi ++ (N ++ [f c])) := by
  rw [show lo ++ (hi ++ (N ++ [c])) = (lo ++ (hi ++ N)) ++ [c] by simp, upC_last hmem]; simp
 rw [e1] at w'
 refine ⟨w', ?_⟩
 have e2 : upC lo c.s f = lo := upC_id fun d hd => hmem d (by simp [hd])
 have e3 : upC (hi ++ (N ++ [c])) c.s f = hi ++ (N ++ [f c]) := by
  rw [show hi ++ (N ++ [c]) = (hi ++ N) ++ [c] by simp, upC_last fun d hd => hmem d (by simp only [List.mem_append] at hd ⊢; exact .inr hd)]; simp
 have := l.put h1 h2 h3 h4 (s := c.s) hf
 rw [e2, e3] at this
 exact this
theorem make1 {R : Bs} {O : List Ob} {S : HS} {N : List Cl} {F : List Nat} {t r s : Nat} (ok : S.Ok) (w : Gw S (R.lo ++ (R.hi ++ N))) (l : Lay S R.lo (R.hi ++ N)) (ht : t < 256) (hs : s ≤ 4096) (hr : r ≤ s) (hc : S.cnt < S.nS)
 (F1 : Chn S S.freed F) (F2 : F.Nodup) (F3 : ∀ i, R.f (O.length + i) = futs S F i) :
 ∃ F', Gw ((S.take S.top).alloc t r s S.nxt) (R.lo ++ (R.hi ++ (N ++ [⟨S.top, S.nxt, (S.sl S.nxt).gen, ⟨t, r, List.replicate s 0⟩, false⟩]))) ∧ Lay ((S.take S.top).alloc t r s S.nxt) R.lo (R.hi ++ (N ++ [⟨S.top, S.nxt, (S.sl S.nxt).gen, ⟨t, r, List.replicate s 0⟩, false⟩])) ∧
  (Chn ((S.take S.top).alloc t r s S.nxt) ((S.take S.top).alloc t r s S.nxt).freed F' ∧ F'.Nodup ∧ ∀ i, R.f (O.length + 1 + i) = futs ((S.take S.top).alloc t r s S.nxt) F' i) ∧
  R.f O.length = hnd S S.nxt ∧ ∀ i, (((S.take S.top).alloc t r s S.nxt).sl i).gen = (S.sl i).gen := by
 have wm := w.make ok ht hs hr hc
 have hgen : ∀ i, (((S.take S.top).alloc t r s S.nxt).sl i).gen = (S.sl i).gen := fun i => by
  show (updN S.sl S.nxt _ i).gen = _
  unfold updN; split
  ·rename_i e; subst e; rfl
  ·rfl
 have hsl : ∀ i, i ≠ S.nxt → ((S.take S.top).alloc t r s S.nxt).sl i = S.sl i := fun i hi => updN_ne _ _ hi
 have hf0 := F3 0
 have key : ∃ F', (Chn ((S.take S.top).alloc t r s S.nxt) ((S.take S.top).alloc t r s S.nxt).freed F' ∧ F'.Nodup ∧ ∀ i, R.f (O.length + 1 + i) = futs ((S.take S.top).alloc t r s S.nxt) F' i) ∧ R.f O.length = hnd S S.nxt := by
  cases F with
  | nil =>
    have h0 : S.freed = 0 := F1
    have hn : S.nxt = S.fresh := by unfold HS.nxt; rw [if_neg (by omega)]
    refine ⟨[], ⟨?_, List.nodup_nil, fun i => ?_⟩, ?_⟩
    ·show (if 0 < S.freed then (S.sl S.nxt).next else 0) = 0
     rw [if_neg (by omega)]
    ·have := F3 (1 + i)
     rw [← Nat.add_assoc] at this
     rw [this]
     have hfr : ((S.take S.top).alloc t r s S.nxt).fresh = S.fresh + 1 := by
      show (if 0 < S.freed then S.fresh else S.fresh + 1) = _
      rw [if_neg (by omega)]
     simp only [futs, hnd, hgen, hfr]
     rw [show S.fresh + (1 + i) = S.fresh + 1 + i by omega]
    ·rw [Nat.add_zero] at hf0
     rw [hf0, hn]; simp [futs]
  | cons j F =>
    obtain ⟨e, a, b, c⟩ := F1
    have hn : S.nxt = j := by unfold HS.nxt; rw [if_pos (by omega)]; omega
    rw [List.nodup_cons] at F2
    refine ⟨F, ⟨?_, F2.2, fun i => ?_⟩, ?_⟩
    ·show Chn _ (if 0 < S.freed then (S.sl S.nxt).next else 0) F
     rw [if_pos (by omega), show S.sl S.nxt = S.sl j by rw [hn]]
     exact Chn.congr (S := S) (S' := (S.take S.top).alloc t r s S.nxt) rfl (fun k hk => hsl k (fun e' => F2.1 (by rw [← hn, ← e']; exact hk))) c
    ·have := F3 (i + 1)
     rw [show O.length + (i + 1) = O.length + 1 + i by omega] at this
     rw [this]
     have hfr : ((S.take S.top).alloc t r s S.nxt).fresh = S.fresh := by
      show (if 0 < S.freed then S.fresh else S.fresh + 1) = _
      rw [if_pos (by omega)]
     exact (futs_congr hgen hfr F i).symm
    ·rw [Nat.add_zero] at hf0
     rw [hf0, hn]; simp [futs]
 obtain ⟨F', k1, k2⟩ := key
 refine ⟨F', ?_, ?_, k1, k2, hgen⟩
 ·rw [show ∀ x : Cl, R.lo ++ (R.hi ++ (N ++ [x])) = (R.lo ++ (R.hi ++ N)) ++ [x] from fun x => by simp]
  exact wm
 ·rw [show ∀ x : Cl, R.hi ++ (N ++ [x]) = (R.hi ++ N) ++ [x] from fun x => by simp]
  refine ⟨l.lo, ?_, l.le⟩
  have := Cont.app l.hi (c := ⟨S.top, S.nxt, (S.sl S.nxt).gen, ⟨t, r, List.replicate s 0⟩, false⟩) rfl
  have e : ((S.take S.top).alloc t r s S.nxt).top = S.top + Cl.wd ⟨S.top, S.nxt, (S.sl S.nxt).gen, ⟨t, r, List.replicate s 0⟩, false⟩ := by
   show S.top + (s + 1) = _
   simp [Cl.wd]
  rw [e]
  exact this
theorem isO_snoc {E : Env} {h : Heap} {L : HL} {W nS : Nat} {R : Bs} {O : List Ob} {S : HS} {N : List Cl} {c : Cl} {F : List Nat} (H : IsH E h L S) (w : Gw S (R.lo ++ (R.hi ++ (N ++ [c])))) (l : Lay S R.lo (R.hi ++ (N ++ [c])))
 (hN : N.map (·.o) = O) (hf : ∀ i c, N[i]? = some c → c.hd = R.f i ∧ c.m = R.w.on) (hc : c.hd = R.f O.length ∧ c.m = R.w.on) (hF : Chn S S.freed F ∧ F.Nodup ∧ ∀ i, R.f (O.length + 1 + i) = futs S F i)
 (e1 : S.top = R.top + allO O + c.wd) (e2 : S.W = R.top + W) (e3 : S.cnt = R.cnt + O.length + 1) (e4 : S.nS = R.cnt + nS) (e5 : S.roots = R.rt) (e6 : S.wt = R.w.val) (e7 : R.w.mem h L) (e8 : S.open_ = R.op) (e9 : ∀ i, (S.sl i).gen = R.gen i) : IsO E h L W nS R (O ++ [c.o]) := by
 have hl : N.length = O.length := by rw [← hN, List.length_map]
 refine ⟨S, N ++ [c], F, H, w, l, by simp [hN], ?_, ⟨hF.1, hF.2.1, fun i => ?_⟩, ?_, e2, ?_, e4, e5, e6, e7, e8, e9⟩
 ·intro i d hd
  by_cases hi : i < N.length
  ·rw [List.getElem?_append_left hi] at hd; exact hf i d hd
  ·have := (List.getElem?_eq_some_iff.1 hd).1
   simp at this
   have hi2 : i = N.length := by omega
   subst hi2
   rw [List.getElem?_append_right (Nat.le_refl _)] at hd
   simp at hd; subst hd
   rw [hl]; exact hc
 ·rw [List.length_append]; exact hF.2.2 i
 ·rw [allO_app, allO_cons, allO_nil, e1]; unfold Cl.wd; omega
 ·rw [List.length_append, e3]; simp; omega
end B
end Go.Proofs.YthfopcdammlmfaaGreatDoor
/- Marks as a set of handles: the plain law. -/
namespace Go.Proofs.YthfopcdammlmfaaGreatDoor
open Go.Tm
def setM (M : Nat → Bool) (A : List Cl) : List Cl := A.map fun c => { c with m := M c.hd }
theorem setM_of {M : Nat → Bool} {A : List Cl} {d : Cl} (h : d ∈ setM M A) : ∃ c, c ∈ A ∧ d = { c with m := M c.hd } ∧ d.hd = c.hd := by
 obtain ⟨c, hc, rfl⟩ := List.mem_map.1 h
 exact ⟨c, hc, rfl, rfl⟩
theorem mem_setM {M : Nat → Bool} {A : List Cl} {c : Cl} (h : c ∈ A) : { c with m := M c.hd } ∈ setM M A := List.mem_map.2 ⟨c, h, rfl⟩
theorem setM_app (M : Nat → Bool) (A B : List Cl) : setM M (A ++ B) = setM M A ++ setM M B := by simp [setM]
theorem setM_setM (M M' : Nat → Bool) (A : List Cl) : setM M (setM M' A) = setM M A := by
 simp only [setM, List.map_map]; rfl
theorem setM_congr {M M' : Nat → Bool} {A : List Cl} (h : ∀ c, c ∈ A → M c.hd = M' c.hd) : setM M A = setM M' A :=
 List.map_congr_left fun c hc => by rw [h c hc]
theorem setM_len (M : Nat → Bool) (A : List Cl) : (setM M A).length = A.length := by simp [setM]
theorem Cont.setM {M : Nat → Bool} {A : List Cl} {a b : Nat} (h : Cont a A b) : Cont a (setM M A) b := Cont.map (f := fun c => { c with m := M c.hd }) (fun _ => ⟨rfl, rfl⟩) h
theorem hd_m (c : Cl) (b : Bool) : ({ c with m := b } : Cl).hd = c.hd := by unfold Cl.hd; rfl
theorem find_setM {M : Nat → Bool} (x : Nat) : ∀ (A : List Cl), (setM M A).find? (fun c => c.hd == x) = (A.find? fun c => c.hd == x).map fun c => { c with m := M c.hd }
 | [] => rfl
 | c :: A => by
   have e : setM M (c :: A) = { c with m := M c.hd } :: setM M A := rfl
   have hm := hd_m c (M c.hd)
   rw [e]
   generalize hd' : ({ c with m := M c.hd } : Cl) = c' at *
   by_cases h : c.hd = x
   ·rw [List.find?_cons_of_pos (by simp [h, hm]), List.find?_cons_of_pos (by simp [h]), Option.map_some, hd']
   ·rw [List.find?_cons_of_neg (by simp [h, hm]), List.find?_cons_of_neg (by simp [h])]
    exact find_setM x A
theorem gobj_setM {M : Nat → Bool} {A : List Cl} : gobj (setM M A) = gobj A := by
 funext x
 unfold gobj
 rw [find_setM, Option.map_map]
 have e : ((fun c : Cl => c.o) ∘ fun c : Cl => ({ c with m := M c.hd } : Cl)) = fun c => c.o := by funext c; rfl
 rw [e]
structure Uq (A : List Cl) : Prop where
 slot : ∀ c d, c ∈ A → d ∈ A → c.s = d.s → c = d
 hd : ∀ c d, c ∈ A → d ∈ A → c.hd = d.hd → c = d
theorem Gw.uq {S : HS} {A : List Cl} (w : Gw S A) (ok : S.Ok) : Uq A := ⟨fun c d hc hd h => w.slot_inj hc hd h, fun c d hc hd h => ghd_inj w ok hc hd h⟩
theorem own_marks {A : List Cl} (u : Uq A) : ∃ M, setM M A = A := by
 refine ⟨fun y => match A.find? (fun c => c.hd == y) with | some c => c.m | none => false, ?_⟩
 unfold setM
 conv => rhs; rw [← List.map_id A]
 refine List.map_congr_left fun c hc => ?_
 cases h : A.find? (fun d => d.hd == c.hd) with
 | none =>
   rw [List.find?_eq_none] at h
   exact absurd (by simp) (h c hc)
 | some d =>
   have h1 := List.mem_of_find?_eq_some h
   have h2 : d.hd = c.hd := by simpa using List.find?_some h
   have := u.hd d c h1 hc h2
   subst this
   simp only [h]
   rfl
theorem upC_setM {M : Nat → Bool} {A : List Cl} {c : Cl} (on : Bool) (u : Uq (setM M A)) (hc : c ∈ A) : upC (setM M A) c.s (fun d => { d with m := on }) = setM (fun y => if y = c.hd then on else M y) A := by
 unfold upC setM
 rw [List.map_map]
 refine List.map_congr_left fun d hd => ?_
 simp only [Function.comp]
 by_cases e : d.s = c.s
 ·have := u.slot _ _ (mem_setM (M := M) hd) (mem_setM (M := M) hc) e
  have h1 : d.hd = c.hd := by
   have := congrArg Cl.hd this
   exact this
  rw [if_pos e, if_pos h1]
 ·have h1 : ¬ d.hd = c.hd := fun h => by
   have := u.hd _ _ (mem_setM (M := M) hd) (mem_setM (M := M) hc) h
   have h3 := congrArg Cl.s this
   exact e h3
  rw [if_neg e, if_neg h1]
theorem Gw.setMark {S : HS} {M : Nat → Bool} {A : List Cl} {c : Cl} (w : Gw S (setM M A)) (ok : S.Ok) (hc : c ∈ A) (on : Bool) :
 Gw { S with w := updN S.w c.p (packN { unpackN (S.w c.p) with mark := on }) } (setM (fun y => if y = c.hd then on else M y) A) := by
 have := w.mark (mem_setM hc) on
 rw [← upC_setM on (w.uq ok) hc]
 exact this
theorem Cont.at_ : ∀ {A : List Cl} {a b : Nat}, Cont a A b → ∀ {i : Nat} {c : Cl}, A[i]? = some c → a ≤ c.p ∧ (∀ d, A[i + 1]? = some d → d.p = c.p + c.wd) ∧ (i + 1 = A.length → b = c.p + c.wd) ∧ c.p < b
 | [], a, b, h, i, c, hi => by cases hi
 | x :: A, a, b, h, 0, c, hi => by
   simp only [List.getElem?_cons_zero, Option.some.injEq] at hi
   subst hi
   obtain ⟨h1, h2⟩ := h
   refine ⟨by omega, fun d hd => ?_, fun hl => ?_, ?_⟩
   ·cases A with
    | nil => cases hd
    | cons y A => simp at hd; subst hd; rw [h2.1, h1]
   ·cases A with
    | nil => have : a + x.wd = b := h2; omega
    | cons y A => simp at hl
   ·have := Cont.le h2
    have : 0 < x.wd := by unfold Cl.wd; omega
    omega
 | x :: A, a, b, h, i + 1, c, hi => by
   obtain ⟨h1, h2⟩ := h
   simp only [List.getElem?_cons_succ] at hi
   obtain ⟨q1, q2, q3, q4⟩ := Cont.at_ h2 hi
   refine ⟨by omega, fun d hd => q2 d (by simpa using hd), fun hl => q3 (by simpa using hl), q4⟩
def refsOf (o : Ob) : List Nat := o.ws.take o.refs
end Go.Proofs.YthfopcdammlmfaaGreatDoor
/- The marker's plain law: what linking, a unit, a start make of marks and stack. -/
namespace Go.Proofs.YthfopcdammlmfaaGreatDoor
open Go.Tm
abbrev Ms := (Nat → Bool) × List Nat
def live (A : List Cl) (x : Nat) : Bool := (gobj A x).isSome
def link1 (A : List Cl) (p : Ms) (x : Nat) : Ms := if (live A x && !p.1 x) = true then (fun y => if y = x then true else p.1 y, p.2 ++ [x]) else p
def linkL (A : List Cl) (p : Ms) (l : List Nat) : Ms := l.foldl (link1 A) p
def mu (A : List Cl) (p : Ms) : Nat := p.2.length + (A.filter fun c => !p.1 c.hd).length
theorem live_iff {A : List Cl} {x : Nat} : live A x = true ↔ ∃ c, c ∈ A ∧ c.hd = x := by
 unfold live
 constructor
 ·intro h
  obtain ⟨o, ho⟩ := Option.isSome_iff_exists.1 h
  obtain ⟨c, a, b, _⟩ := gobj_some ho
  exact ⟨c, a, b⟩
 ·rintro ⟨c, a, b⟩
  cases h : gobj A x with
  | none => exact absurd b (gobj_none h c a)
  | some o => rfl
theorem filt_le {f g : Cl → Bool} (h : ∀ c, f c = true → g c = true) : ∀ (A : List Cl), (A.filter f).length ≤ (A.filter g).length
 | [] => Nat.le_refl _
 | c :: A => by
   have ih := filt_le h A
   rw [List.filter_cons, List.filter_cons]
   cases hf : f c with
   | true => rw [h c hf]; simp only [if_true, List.length_cons]; omega
   | false =>
     simp only [Bool.false_eq_true, if_false]
     split
     ·simp only [List.length_cons]; omega
     ·exact ih
theorem filt_lt {f g : Cl → Bool} (h : ∀ c, f c = true → g c = true) : ∀ (A : List Cl) (c : Cl), c ∈ A → f c = false → g c = true → (A.filter f).length < (A.filter g).length
 | [], c, hc, _, _ => by cases hc
 | d :: A, c, hc, h1, h2 => by
   rw [List.filter_cons, List.filter_cons]
   have hle := filt_le h A
   rcases List.mem_cons.1 hc with rfl | hc
   ·rw [h1, h2]; simp only [Bool.false_eq_true, if_false, if_true, List.length_cons]; omega
   ·have ih := filt_lt h A c hc h1 h2
    cases hf : f d with
    | true => rw [h d hf]; simp only [if_true, List.length_cons]; omega
    | false =>
      simp only [Bool.false_eq_true, if_false]
      split
      ·simp only [List.length_cons]; omega
      ·exact ih
section
variable {A : List Cl} {p : Ms}
theorem link1_mu (x : Nat) : mu A (link1 A p x) ≤ mu A p := by
 unfold link1
 split
 ·rename_i h
  rw [Bool.and_eq_true, Bool.not_eq_true'] at h
  obtain ⟨c, hc, e⟩ := live_iff.1 h.1
  have := filt_lt (f := fun d => !(if d.hd = x then true else p.1 d.hd)) (g := fun d => !p.1 d.hd) (fun d hd => by
   simp only [Bool.not_eq_true'] at hd ⊢
   split at hd
   ·cases hd
   ·exact hd) A c hc (by simp [e]) (by simp [e, h.2])
  unfold mu
  simp only [List.length_append, List.length_cons, List.length_nil]
  omega
 ·exact Nat.le_refl _
theorem link1_mono {x y : Nat} (h : p.1 y = true) : (link1 A p x).1 y = true := by
 unfold link1
 split
 ·simp only; split
  ·rfl
  ·exact h
 ·exact h
theorem link1_stk {x y : Nat} (h : y ∈ p.2) : y ∈ (link1 A p x).2 := by
 unfold link1
 split
 ·simp [h]
 ·exact h
theorem link1_new {x y : Nat} (h : (link1 A p x).1 y = true) : p.1 y = true ∨ (y = x ∧ y ∈ (link1 A p x).2 ∧ live A y = true) := by
 unfold link1 at h ⊢
 split at h
 ·rename_i hc
  rw [Bool.and_eq_true] at hc
  by_cases e : y = x
  ·subst e; exact .inr ⟨rfl, by simp [hc.1, hc.2], hc.1⟩
  ·simp only [if_neg e] at h; exact .inl h
 ·exact .inl h
theorem link1_stn {x y : Nat} (h : y ∈ (link1 A p x).2) : y ∈ p.2 ∨ (y = x ∧ live A y = true ∧ (link1 A p x).1 y = true) := by
 unfold link1 at h ⊢
 split at h
 ·rename_i hc
  have hc2 := hc
  rw [Bool.and_eq_true] at hc
  rcases List.mem_append.1 h with h | h
  ·exact .inl h
  ·simp only [List.mem_singleton] at h
   subst h
   rw [if_pos hc2]
   exact .inr ⟨rfl, hc.1, by simp⟩
 ·exact .inl h
theorem link1_done {x : Nat} (h : live A x = true) : (link1 A p x).1 x = true := by
 unfold link1
 split
 ·simp
 ·rename_i hc
  simpa [h] using hc
end
section
variable {A : List Cl}
theorem linkL_mu : ∀ (l : List Nat) (p : Ms), mu A (linkL A p l) ≤ mu A p
 | [], p => Nat.le_refl _
 | x :: l, p => Nat.le_trans (linkL_mu l _) (link1_mu x)
theorem linkL_mono : ∀ (l : List Nat) (p : Ms) {y : Nat}, p.1 y = true → (linkL A p l).1 y = true
 | [], p, y, h => h
 | x :: l, p, y, h => linkL_mono l _ (link1_mono h)
theorem linkL_stk : ∀ (l : List Nat) (p : Ms) {y : Nat}, y ∈ p.2 → y ∈ (linkL A p l).2
 | [], p, y, h => h
 | x :: l, p, y, h => linkL_stk l _ (link1_stk h)
theorem linkL_new : ∀ (l : List Nat) (p : Ms) {y : Nat}, (linkL A p l).1 y = true → p.1 y = true ∨ (y ∈ l ∧ y ∈ (linkL A p l).2 ∧ live A y = true)
 | [], p, y, h => .inl h
 | x :: l, p, y, h => by
   rcases linkL_new l (link1 A p x) h with h1 | ⟨h1, h2, h3⟩
   ·rcases link1_new h1 with h4 | ⟨rfl, h5, h6⟩
    ·exact .inl h4
    ·exact .inr ⟨by simp, linkL_stk l _ h5, h6⟩
   ·exact .inr ⟨by simp [h1], h2, h3⟩
theorem linkL_stn : ∀ (l : List Nat) (p : Ms) {y : Nat}, y ∈ (linkL A p l).2 → y ∈ p.2 ∨ (y ∈ l ∧ live A y = true ∧ (linkL A p l).1 y = true)
 | [], p, y, h => .inl h
 | x :: l, p, y, h => by
   rcases linkL_stn l (link1 A p x) h with h1 | ⟨h1, h2, h3⟩
   ·rcases link1_stn h1 with h4 | ⟨rfl, h5, h6⟩
    ·exact .inl h4
    ·exact .inr ⟨by simp, h5, linkL_mono l _ h6⟩
   ·exact .inr ⟨by simp [h1], h2, h3⟩
theorem linkL_done : ∀ (l : List Nat) (p : Ms) {y : Nat}, y ∈ l → live A y = true → (linkL A p l).1 y = true
 | x :: l, p, y, h, hl => by
   rcases List.mem_cons.1 h with rfl | h
   ·exact linkL_mono l _ (link1_done hl)
   ·exact linkL_done l _ h hl
end
structure Mi (A : List Cl) (rt : List Nat) (X : Nat → Prop) (p : Ms) : Prop where
 root : ∀ x, x ∈ rt → live A x = true → p.1 x = true
 stk : ∀ x, x ∈ p.2 → live A x = true ∧ p.1 x = true
 black : ∀ c, c ∈ A → p.1 c.hd = true → c.hd ∉ p.2 → ∀ r, r ∈ refsOf c.o → live A r = true → p.1 r = true
 only : ∀ c, c ∈ A → p.1 c.hd = true → X c.hd
structure Xc (A : List Cl) (rt : List Nat) (X : Nat → Prop) : Prop where
 root : ∀ x, x ∈ rt → live A x = true → X x
 refs : ∀ c, c ∈ A → X c.hd → ∀ r, r ∈ refsOf c.o → live A r = true → X r
theorem Mi.start {A : List Cl} {rt : List Nat} {X : Nat → Prop} (x : Xc A rt X) : Mi A rt X (linkL A (fun _ => false, []) rt) := by
 refine ⟨fun y hy hl => linkL_done rt _ hy hl, fun y hy => ?_, fun c hc hm hn => ?_, fun c hc hm => ?_⟩
 ·rcases linkL_stn rt _ hy with h | ⟨_, h2, h3⟩
  ·cases h
  ·exact ⟨h2, h3⟩
 ·rcases linkL_new rt _ hm with h | ⟨_, h2, _⟩
  ·cases h
  ·exact absurd h2 hn
 ·rcases linkL_new rt _ hm with h | ⟨h1, _, h3⟩
  ·cases h
  ·exact x.root _ h1 h3
theorem Mi.unit {A : List Cl} {rt : List Nat} {X : Nat → Prop} (x : Xc A rt X) (u : Uq A) {M : Nat → Bool} {s : List Nat} {c : Cl} (hc : c ∈ A) (m : Mi A rt X (M, s ++ [c.hd])) : Mi A rt X (linkL A (M, s) (refsOf c.o)) := by
 have hcm := (m.stk c.hd (by simp)).2
 refine ⟨fun y hy hl => linkL_mono _ _ (m.root y hy hl), fun y hy => ?_, fun d hd hm hn r hr hl => ?_, fun d hd hm => ?_⟩
 ·rcases linkL_stn _ _ hy with h | ⟨_, h2, h3⟩
  ·have := m.stk y (by simp at h ⊢; exact .inl h)
   exact ⟨this.1, linkL_mono _ _ this.2⟩
  ·exact ⟨h2, h3⟩
 ·rcases linkL_new _ _ hm with h | ⟨_, h2, _⟩
  ·by_cases e : d.hd = c.hd
   ·have := u.hd d c hd hc e
    subst this
    exact linkL_done _ _ hr hl
   ·refine linkL_mono _ _ (m.black d hd h ?_ r hr hl)
    intro hs
    rcases List.mem_append.1 hs with hs | hs
    ·exact hn (linkL_stk _ _ hs)
    ·simp only [List.mem_singleton] at hs; exact e hs
  ·exact absurd h2 hn
 ·rcases linkL_new _ _ hm with h | ⟨h1, _, h3⟩
  ·exact m.only d hd h
  ·exact x.refs c hc (m.only c hc hcm) _ h1 h3
theorem mu_unit {A : List Cl} {M : Nat → Bool} {s : List Nat} {x : Nat} (l : List Nat) : mu A (linkL A (M, s) l) < mu A (M, s ++ [x]) := by
 refine Nat.lt_of_le_of_lt (linkL_mu l _) ?_
 unfold mu
 simp only [List.length_append, List.length_cons, List.length_nil]
 omega
end Go.Proofs.YthfopcdammlmfaaGreatDoor
/- The marker told of what is made and linked; making and setting, whoever watches. -/
namespace Go.Proofs.YthfopcdammlmfaaGreatDoor
open Go.Tm
theorem nilwF {t : TypeId} {v : Value} : anil Tryz.prog true 84 (.iface t v) .nilIface = some false := by simp [anil, Tryz.underlying84]
theorem me_made_mk : ameth Tryz.prog 116 "Made" = some 208 := by kernel_rfl
theorem me_made_co : ameth Tryz.prog 48 "Made" = some 207 := by kernel_rfl
theorem me_link_mk : ameth Tryz.prog 116 "Linked" = some 116 := by kernel_rfl
theorem me_link_co : ameth Tryz.prog 48 "Linked" = some 206 := by kernel_rfl
variable {E : Env} (hE : EOk E)
include hE
section
variable {h : Heap} {L : HL} {S : HS} {A : List Cl} (H : IsH E h L S) (w : Gw S A) (hW : WF E h) {mb : Nat} (hm : Mk1 h L mb)
include H hW hm
theorem mset_at (w : Gw S A) {c : Cl} (hc : c ∈ A) {on : Bool} : CallsTo E 150 [.pointer (some ⟨mb, 0, none⟩), .int .u64 c.hd, .bool on] h fun v h' =>
 v = .tuple #[] ∧ IsH E h' L { S with w := updN S.w c.p (packN { unpackN (S.w c.p) with mark := on }) } ∧ KeepB L h h' ∧ WF E h' := by
 obtain ⟨hmb, cs, gm⟩ := hm
 have nbm := hW.nlt gm
 have hx := (w.hd_lt H.ok hc).1
 have hat := (w.sits c hc).at_
 refine en hE Tryz.func150 rfl rfl Tryz.ntmps150 rfl (by decide +kernel) (rs := []) rfl ?_
 simp only [push_cast, seval, hE.P, zz, gm, nbm]
 refine (table_at hE H).mono ?_
 rintro v h1 ⟨rfl, rfl⟩
 simp only [push_cast, seval, hE.P, zz, gm, nbm]
 refine (tat_at hE H hx).mono ?_
 rintro v h1 ⟨rfl, rfl⟩
 rw [w.slotOf H.ok hc]
 simp only [hat]
 simp only [push_cast, seval, hE.P, zz, errOf, gm, nbm]
 refine (arena_at hE H).mono ?_
 rintro v h1 ⟨rfl, rfl⟩
 simp only [push_cast, seval, hE.P, zz, gm, nbm]
 refine (amark_at hE H hW (a := c.p) (w.isAt H.ok hc) (on := on)).mono ?_
 rintro v h2 ⟨rfl, H2, k2, w2⟩
 simp only [push_cast, seval, hE.P, zz]
 exact ⟨H2, k2, w2⟩
theorem mmade_at (w : Gw S A) {c : Cl} (hc : c ∈ A) : CallsTo E 208 [.pointer (some ⟨mb, 0, none⟩), .int .u64 c.hd] h fun v h' =>
 v = .tuple #[] ∧ IsH E h' L { S with w := updN S.w c.p (packN { unpackN (S.w c.p) with mark := true }) } ∧ KeepB L h h' ∧ WF E h' := by
 refine en hE Tryz.func208 rfl rfl Tryz.ntmps208 rfl (by decide +kernel) (rs := []) rfl ?_
 simp only [push_cast, seval, hE.P, zz]
 refine (mset_at hE H hW hm w hc (on := true)).mono ?_
 rintro v h2 ⟨rfl, H2, k2, w2⟩
 simp only [push_cast, seval, hE.P, zz]
 exact ⟨H2, k2, w2⟩
omit hm in
theorem mmarked_at {mb : Nat} (hm : ∃ c, h.get mb = some (.cells (.pointer (some ⟨L.ph, 0, none⟩) :: c) 166 true)) (w : Gw S A) {c : Cl} (hc : c ∈ A) : CallsTo E 149 [.pointer (some ⟨mb, 0, none⟩), .int .u64 c.hd] h fun v h' =>
 v = .tuple #[.bool c.m, .int .i64 0] ∧ Keep h h' ∧ WF E h' := by
 obtain ⟨cs, gm⟩ := hm
 have nbm := hW.nlt gm
 have hx := (w.hd_lt H.ok hc).1
 have hat := (w.sits c hc).at_
 have htop := (w.sits c hc).top
 have h1 := H.ok.top
 have h2 := H.ok.W
 have hA := w.isAt H.ok hc
 have hH := w.headAt H.ok hc
 refine en hE Tryz.func149 rfl rfl Tryz.ntmps149 rfl (by decide +kernel) (rs := [.tmp 4, .tmp 5]) rfl ?_
 simp only [push_cast, seval, hE.P, zz, gm, nbm]
 refine (table_at hE H).mono ?_
 rintro v h1 ⟨rfl, rfl⟩
 simp only [push_cast, seval, hE.P, zz, gm, nbm]
 refine (tat_at hE H hx).mono ?_
 rintro v h1 ⟨rfl, rfl⟩
 rw [w.slotOf H.ok hc]
 simp only [hat]
 simp only [push_cast, seval, hE.P, zz, errOf, gm, nbm]
 refine (arena_at hE H).mono ?_
 rintro v h1 ⟨rfl, rfl⟩
 simp only [push_cast, seval, hE.P, zz, gm, nbm]
 refine (ahead_at hE H hW (a := c.p) (by omega)).mono ?_
 rintro v h2 ⟨rfl, k2, w2⟩
 rw [hA, hH]
 have k3 := k2.push (o := .cells [.int .i64 c.o.tag, .int .i64 c.o.refs, .int .i64 c.o.ws.length, .bool c.m, .int .i64 c.s] 103 true) w2
 have w3 := w2.push (.cells [.int .i64 c.o.tag, .int .i64 c.o.refs, .int .i64 c.o.ws.length, .bool c.m, .int .i64 c.s] 103 true)
 simp only [push_cast, seval, hE.P, zz, w2.nb, w2.nb0]
 exact ⟨k3, w3⟩
theorem mlinkT_at (w : Gw S A) {c : Cl} (hc : c ∈ A) (ht : c.m = true) : CallsTo E 116 [.pointer (some ⟨mb, 0, none⟩), .int .u64 c.hd] h fun v h' =>
 v = .tuple #[] ∧ Keep h h' ∧ WF E h' := by
 refine en hE Tryz.func116 rfl rfl Tryz.ntmps116 rfl (by decide +kernel) (rs := []) rfl ?_
 simp only [push_cast, seval, hE.P, zz]
 refine (mmarked_at hE H hW hm.2 w hc).mono ?_
 rintro v h2 ⟨rfl, k2, w2⟩
 rw [ht]
 simp only [push_cast, seval, hE.P, zz]
 exact ⟨k2, w2⟩
end
theorem cmade_at {h : Heap} {L : HL} {S : HS} {A : List Cl} (H : IsH E h L S) (hW : WF E h) {cb mb : Nat} (hm : Mk1 h L mb) (hc' : ∃ c, h.get cb = some (.cells (.pointer (some ⟨L.ph, 0, none⟩) :: .pointer (some ⟨mb, 0, none⟩) :: c) 119 true)) (w : Gw S A) {c : Cl} (hc : c ∈ A) : CallsTo E 207 [.pointer (some ⟨cb, 0, none⟩), .int .u64 c.hd] h fun v h' =>
 v = .tuple #[] ∧ IsH E h' L { S with w := updN S.w c.p (packN { unpackN (S.w c.p) with mark := true }) } ∧ KeepB L h h' ∧ WF E h' := by
 obtain ⟨cs, gc⟩ := hc'
 have nbc := hW.nlt gc
 refine en hE Tryz.func207 rfl rfl Tryz.ntmps207 rfl (by decide +kernel) (rs := []) rfl ?_
 simp only [push_cast, seval, hE.P, zz, gc, nbc]
 refine (mmade_at hE H hW hm w hc).mono ?_
 rintro v h2 ⟨rfl, H2, k2, w2⟩
 simp only [push_cast, seval, hE.P, zz]
 exact ⟨H2, k2, w2⟩
omit hE in
theorem clink_at {E : Env} (hE : EOk E) {h : Heap} {cb x : Nat} : CallsTo E 206 [.pointer (some ⟨cb, 0, none⟩), .int .u64 x] h fun v h' => v = .tuple #[] ∧ h' = h := by
 refine en hE Tryz.func206 rfl rfl Tryz.ntmps206 rfl (by decide +kernel) (rs := []) rfl ?_
 simp only [push_cast, seval, hE.P, zz]
end Go.Proofs.YthfopcdammlmfaaGreatDoor
namespace Go.Proofs.YthfopcdammlmfaaGreatDoor
open Go.Tm
variable {E : Env} (hE : EOk E)
include hE
section
variable {h : Heap} {L : HL} {S : HS} {A : List Cl} (H : IsH E h L S)
include H
theorem mayT_at (w : Gw S A) {d : Cl} (hd : d ∈ A) : CallsTo E 51 [.pointer (some ⟨L.ph, 0, none⟩), .int .u64 d.hd] h fun v h' => v = .int .i64 0 ∧ h' = h := by
 obtain ⟨hx, hx0⟩ := w.hd_lt H.ok hd
 have hs := w.slotOf H.ok hd
 obtain ⟨x, hxe⟩ : ∃ x, x = d.hd := ⟨_, rfl⟩
 rw [← hxe] at hx hx0 hs ⊢
 have g : ((x : Int) == 0) = false := by simp; omega
 refine en hE Tryz.func51 rfl rfl Tryz.ntmps51 rfl (by decide +kernel) (rs := [.tmp 4]) rfl ?_
 simp only [push_cast, seval, hE.P, zz, g, ↓H.lT]
 refine (tat_at hE H hx).mono ?_
 rintro v h1 ⟨rfl, rfl⟩
 rw [hs]
 simp only [push_cast, seval, hE.P, zz, errOf]
variable (hW : WF E h)
include hW
theorem linkT_at (w : Gw S A) {wv : Wv} (hwt : S.wt = wv.val) (hmem : wv.mem h L) {d : Cl} (hd : d ∈ A) (hm : wv.on = true → d.m = true) : CallsTo E 52 [.pointer (some ⟨L.ph, 0, none⟩), .int .u64 d.hd] h fun v h' => v = .tuple #[] ∧ Keep h h' ∧ WF E h' := by
 obtain ⟨hx, hx0⟩ := w.hd_lt H.ok hd
 have hwl := H.lW
 rw [hwt] at hwl
 obtain ⟨x, hxe⟩ : ∃ x, x = d.hd := ⟨_, rfl⟩
 rw [← hxe] at hx hx0 ⊢
 have g : ((x : Int) != 0) = true := by simp; omega
 refine en hE Tryz.func52 rfl rfl Tryz.ntmps52 rfl (by decide +kernel) (rs := []) rfl ?_
 cases wv with
 | no =>
   have hwl' : acells E h ⟨L.ph, 18, none⟩ 1 = some [.nilIface] := hwl
   simp only [push_cast, seval, hE.P, zz, g, ↓hwl', nilw]
   exact ⟨Keep.refl _, hW⟩
 | mk mb =>
   have hwl' : acells E h ⟨L.ph, 18, none⟩ 1 = some [.iface 116 (.pointer (some ⟨mb, 0, none⟩))] := hwl
   simp only [push_cast, seval, hE.P, zz, g, ↓hwl', nilwF]
   rw [kinv_iface (by rw [hE.P]; exact me_link_mk)]
   rw [hxe]
   refine (mlinkT_at hE H hW hmem w hd (hm rfl)).mono ?_
   rintro v h2 ⟨rfl, k2, w2⟩
   simp only [push_cast, seval, hE.P, zz]
   exact ⟨k2, w2⟩
 | co cb mb =>
   have hwl' : acells E h ⟨L.ph, 18, none⟩ 1 = some [.iface 48 (.pointer (some ⟨cb, 0, none⟩))] := hwl
   simp only [push_cast, seval, hE.P, zz, g, ↓hwl', nilwF]
   rw [kinv_iface (by rw [hE.P]; exact me_link_co)]
   refine (clink_at hE).mono ?_
   rintro v h2 ⟨rfl, rfl⟩
   simp only [push_cast, seval, hE.P, zz]
   exact ⟨Keep.refl _, hW⟩
end
namespace B
section
variable {h : Heap} {L : HL} {W nS : Nat} {R : Bs} {O : List Ob} (H : IsO E h L W nS R O)
include H
theorem ocount_at : CallsTo E 16 [.pointer (some ⟨L.pt, 0, none⟩)] h fun v h' => v = .int .i64 (R.cnt + O.length : Nat) ∧ h' = h := by
 obtain ⟨S, N, F, H, w, l, hN, hf, hF, g1, g2, g3, g4⟩ := H
 rw [← g3]; exact count_at hE H
theorem oslots_at : CallsTo E 99 [.pointer (some ⟨L.pt, 0, none⟩)] h fun v h' => v = .int .i64 (R.cnt + nS : Nat) ∧ h' = h := by
 obtain ⟨S, N, F, H, w, l, hN, hf, hF, g1, g2, g3, g4, g5⟩ := H
 rw [← g4]; exact slots_at hE H
theorem ofree_at : CallsTo E 72 [.pointer (some ⟨L.pa, 0, none⟩)] h fun v h' => v = .int .i64 ((W : Int) - allO O) ∧ h' = h := by
 obtain ⟨S, N, F, H, w, l, hN, hf, hF, g1, g2, g3, g4, g5⟩ := H
 refine (free_at hE H).mono ?_
 rintro v h' ⟨rfl, rfl⟩
 exact ⟨by rw [g1, g2]; congr 1; omega, rfl⟩
theorem oarena_at : CallsTo E 12 [.pointer (some ⟨L.ph, 0, none⟩)] h fun v h' => v = .pointer (some ⟨L.pa, 0, none⟩) ∧ h' = h := by
 obtain ⟨S, N, F, H, _⟩ := H
 exact arena_at hE H
theorem otable_at : CallsTo E 15 [.pointer (some ⟨L.ph, 0, none⟩)] h fun v h' => v = .pointer (some ⟨L.pt, 0, none⟩) ∧ h' = h := by
 obtain ⟨S, N, F, H, _⟩ := H
 exact table_at hE H
variable (hW : WF E h)
include hW
theorem make_at {t r s : Nat} (h1 : 1 ≤ t) (h2 : t ≤ 255) (h3 : s ≤ 4096) (h4 : r ≤ s) (hfit : fitsO W nS O s) : CallsTo E 142 [.pointer (some ⟨L.ph, 0, none⟩), .int .i64 t, .int .i64 r, .int .i64 s] h fun v h' =>
 v = .tuple #[.int .u64 (R.f O.length), .int .i64 0] ∧ IsO E h' L W nS R (O ++ [⟨t, r, List.replicate s 0⟩]) ∧ KeepB L h h' ∧ WF E h' := by
 obtain ⟨S, N, F, H, w, l, hN, hf_, ⟨F1, F2, F3⟩, g1, g2, g3, g4, g5, g6, g7, g8, g9⟩ := H
 have htop := H.ok.top
 have hWm := H.ok.W
 have hn := H.ok.nS
 obtain ⟨hf1, hf2⟩ := hfit
 have hcn : S.cnt < S.nS := by omega
 obtain ⟨hn1, hn2, hn3⟩ := w.nxt H.ok hcn
 obtain ⟨F', W4, L4, FF, hfO, hgen⟩ := make1 (R := R) (O := O) (t := t) (r := r) (s := s) H.ok w l (by omega) h3 h4 hcn F1 F2 F3
 obtain ⟨s1, hs1⟩ : ∃ s1, s1 = s + 1 := ⟨_, rfl⟩
 have hs2 : (s : Int) + 1 = s1 := by omega
 have hs3 : IntKind.i64.wrap (s1 : Int) = s1 := wrN (by omega)
 refine en hE Tryz.func142 rfl rfl Tryz.ntmps142 rfl (by decide +kernel) (rs := [.tmp 8, .tmp 9]) rfl ?_
 simp only [push_cast, seval, hE.P, zz]
 refine (fits_at hE H hW).mono ?_
 rintro v h' ⟨rfl, rfl⟩
 have hf : (if (t : Int) < 1 ∨ (t : Int) > 255 ∨ (s : Int) < 0 ∨ (s : Int) > 4096 ∨ (r : Int) < 0 ∨ (r : Int) > s ∨ (0 : Int) < 0 ∨ (0 : Int) ≥ 1048576 then (1 : Int) else 0) = 0 := if_neg (by omega)
 rw [hf]
 have q3 : ((S.cnt : Int) == (S.nS : Int)) = false := by simp; omega
 have q2 : decide ((S.W : Int) - S.top < s1) = false := by simp; omega
 simp only [push_cast, seval, hE.P, zz]
 refine wdraw_pairs [(17, 13)] (by rw [hE.P]; decide +kernel) (by rw [hE.P]; decide +kernel) (by rw [hE.P]; decide +kernel) ?_
 simp only [push_cast, seval, hE.P, zz, ↓H.lA]
 refine (free_at hE H).mono ?_
 rintro v h' ⟨rfl, rfl⟩
 simp only [push_cast, seval, hE.P, zz, hs2, hs3, q2, ↓H.lT]
 refine (count_at hE H).mono ?_
 rintro v h' ⟨rfl, rfl⟩
 simp only [push_cast, seval, hE.P, zz, ↓H.lT, q2]
 refine (slots_at hE H).mono ?_
 rintro v h' ⟨rfl, rfl⟩
 simp only [push_cast, seval, hE.P, zz, ↓H.lT, ↓H.lA, q2, q3, awanted]
 refine wdraw_pairs [(3, 8)] (by rw [hE.P]; decide +kernel) (by rw [hE.P]; decide +kernel) (by rw [hE.P]; decide +kernel) ?_
 simp only [push_cast, seval, hE.P, zz, ↓H.lA, ↓H.lT]
 refine (top_at hE H).mono ?_
 rintro v h' ⟨rfl, rfl⟩
 simp only [push_cast, seval, hE.P, zz, ↓H.lA, ↓H.lT]
 refine (tmakeG_at hE H hW (a := S.top) (by omega) hn1 hcn hn3).mono ?_
 rintro v h2 ⟨rfl, H2, k2, w2⟩
 have hT : (S.take S.top).sl S.nxt = ⟨(S.sl S.nxt).gen, true, S.top, 0⟩ := updN_same _ _ _
 have hg := H.ok.gen S.nxt
 have hsl : slotOf (S.take S.top) (hnd S S.nxt) = some S.nxt := by
  unfold slotOf hnd
  have e1 : ((S.sl S.nxt).gen * 4294967296 + (S.nxt + 1)) % 4294967296 = S.nxt + 1 := by omega
  have e2 : ((S.sl S.nxt).gen * 4294967296 + (S.nxt + 1)) / 4294967296 = (S.sl S.nxt).gen := by omega
  rw [e1, e2, Nat.add_sub_cancel, hT]
  rw [if_pos ⟨by omega, hn1, rfl, rfl⟩]
 have hlt : hnd S S.nxt < 18446744073709551616 := by unfold hnd; omega
 obtain ⟨y, hy⟩ : ∃ y, y = hnd S S.nxt := ⟨_, rfl⟩
 rw [← hfO] at hy
 rw [← hfO, ← hy] at hsl hlt ⊢
 have t2 := H2.lT
 have a2 := H2.lA
 simp only [push_cast, seval, hE.P, zz, ↓t2, ↓a2, ↓H.lT, ↓H.lA]
 refine (tslot_at hE H2 hlt).mono ?_
 rintro v h' ⟨rfl, rfl⟩
 rw [hsl]
 simp only [push_cast, seval, hE.P, zz, errOf, Option.getD_some, ↓a2]
 refine (alloc_at hE H2 w2 (t := t) (r := r) (s := s) (o := S.nxt) h1 h2 h3 h4 (by omega)).mono ?_
 rintro v h4 hx
 rw [if_pos (by show S.top + (s + 1) ≤ S.W; omega)] at hx
 obtain ⟨rfl, H4, k4, w4⟩ := hx
 have wt4 := H4.lW
 have wt5 : (HS.alloc (S.take S.top) t r s S.nxt).wt = R.w.val := g6
 rw [wt5] at wt4
 have hm4 : R.w.mem h4 L := g7.b (k2.trans k4)
 obtain ⟨c, hc⟩ : ∃ c, c = (⟨S.top, S.nxt, (S.sl S.nxt).gen, ⟨t, r, List.replicate s 0⟩, false⟩ : Cl) := ⟨_, rfl⟩
 have hch : c.hd = y := by rw [hc, hy, hfO]; rfl
 have hco : c.o = ⟨t, r, List.replicate s 0⟩ := by rw [hc]
 have hcw : c.wd = s + 1 := by rw [hc]; simp [Cl.wd]
 have hcs : c.s = S.nxt := by rw [hc]
 rw [← hc] at W4 L4
 have hcm : c ∈ R.lo ++ (R.hi ++ (N ++ [c])) := by simp
 have htp : (HS.alloc (S.take S.top) t r s S.nxt).top = R.top + allO O + c.wd := by
  show S.top + (s + 1) = _
  rw [hcw, g1]
 have hcc : (HS.alloc (S.take S.top) t r s S.nxt).cnt = R.cnt + O.length + 1 := by
  show S.cnt + 1 = _
  rw [g3]
 rw [← hco]
 obtain ⟨S4, hS4⟩ : ∃ S4, S4 = HS.alloc (S.take S.top) t r s S.nxt := ⟨_, rfl⟩
 have hgen4 : ∀ i, (S4.sl i).gen = R.gen i := fun i => by rw [hS4, hgen i]; exact g9 i
 have e24 : S4.W = R.top + W := by rw [hS4]; exact g2
 have e44 : S4.nS = R.cnt + nS := by rw [hS4]; exact g4
 have e54 : S4.roots = R.rt := by rw [hS4]; exact g5
 have e84 : S4.open_ = R.op := by rw [hS4]; exact g8
 rw [← hS4] at H4 W4 L4 FF htp hcc wt5
 have mark : ∀ {h5 : Heap}, R.w.on = true → IsH E h5 L { S4 with w := updN S4.w c.p (packN { unpackN (S4.w c.p) with mark := true }) } → KeepB L h4 h5 → IsO E h5 L W nS R (O ++ [c.o]) := by
  intro h5 hon H5 k5
  obtain ⟨W5, L5⟩ := last_up (f := fun d => { d with m := true }) (fun _ => ⟨rfl, rfl⟩) W4 L4 (W4.mark hcm true) rfl rfl rfl rfl
  have hch' : ({ c with m := true } : Cl).hd = c.hd := rfl
  exact isO_snoc (c := { c with m := true }) (F := F') H5 W5 L5 hN hf_ ⟨by rw [hch', hch]; exact hy, hon.symm⟩ ⟨FF.1.w, FF.2.1, fun i => by rw [FF.2.2 i]; exact futs_w.symm⟩ htp e24 hcc e44 e54 wt5 (hm4.b k5) e84 hgen4
 cases hw : R.w with
 | no =>
   rw [hw] at wt4
   have wt4' : acells E h4 ⟨L.ph, 18, none⟩ 1 = some [.nilIface] := wt4
   simp only [push_cast, seval, hE.P, zz, ↓wt4', nilw]
   exact ⟨isO_snoc (F := F') H4 W4 L4 hN hf_ ⟨by rw [hch]; exact hy, by rw [hc, hw]; rfl⟩ FF htp e24 hcc e44 e54 wt5 hm4 e84 hgen4, k2.trans k4, w4⟩
 | mk mb =>
   rw [hw] at wt4 hm4
   have wt4' : acells E h4 ⟨L.ph, 18, none⟩ 1 = some [.iface 116 (.pointer (some ⟨mb, 0, none⟩))] := wt4
   simp only [push_cast, seval, hE.P, zz, ↓wt4', nilwF]
   rw [kinv_iface (by rw [hE.P]; exact me_made_mk), ← hch]
   refine (mmade_at hE H4 w4 hm4 W4 hcm).mono ?_
   rintro v h5 ⟨rfl, H5, k5, w5⟩
   rw [hch]
   simp only [push_cast, seval, hE.P, zz]
   exact ⟨mark (by rw [hw]; rfl) H5 k5, (k2.trans k4).trans k5, w5⟩
 | co cb mb =>
   rw [hw] at wt4 hm4
   have wt4' : acells E h4 ⟨L.ph, 18, none⟩ 1 = some [.iface 48 (.pointer (some ⟨cb, 0, none⟩))] := wt4
   simp only [push_cast, seval, hE.P, zz, ↓wt4', nilwF]
   rw [kinv_iface (by rw [hE.P]; exact me_made_co), ← hch]
   refine (cmade_at hE H4 w4 hm4.1 hm4.2.2 W4 hcm).mono ?_
   rintro v h5 ⟨rfl, H5, k5, w5⟩
   rw [hch]
   simp only [push_cast, seval, hE.P, zz]
   exact ⟨mark (by rw [hw]; rfl) H5 k5, (k2.trans k4).trans k5, w5⟩
end
end B
end Go.Proofs.YthfopcdammlmfaaGreatDoor
