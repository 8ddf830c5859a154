/- Copying between the collector's calls; the law's first sentence. -/
/- Merged by a program of ours: K11 K12 K13. -/
import Derived.Test.YthfopcdammlmfaaGreatDoorK4
import Derived.Test.YthfopcdammlmfaaGreatDoorU3
import Derived.Test.YthfopcdammlmfaaGreatDoorN4
set_option maxRecDepth 10000
set_option linter.all false
set_option linter.unusedSimpArgs false
set_option linter.unusedVariables false
/- Building, holding, reading between the collector's calls. -/
namespace Go.Proofs.YthfopcdammlmfaaGreatDoor
open Go.Tm
theorem toB {E : Env} {h : Heap} {L : HL} {S : HS} {lo hi : List Cl} {wv : Wv} (H : IsH E h L S) (w : Gw S (lo ++ hi)) (l : Lay S lo hi) (hwt : S.wt = wv.val) (hm : wv.mem h L) :
 ∃ R : Bs, R.lo = lo ∧ R.hi = hi ∧ R.w = wv ∧ R.rt = S.roots ∧ R.op = S.open_ ∧ R.top = S.top ∧ R.cnt = S.cnt ∧ (∀ i, R.gen i = (S.sl i).gen) ∧ B.IsO E h L (S.W - S.top) (S.nS - S.cnt) R [] := by
 obtain ⟨F, f1, f2, f3, f4⟩ := w.chain
 have h1 := H.ok.top
 have h2 := H.ok.cnt
 refine ⟨⟨lo, hi, futs S F, wv, S.roots, S.open_, S.top, S.cnt, fun i => (S.sl i).gen⟩, rfl, rfl, rfl, rfl, rfl, rfl, rfl, fun _ => rfl, S, [], F, H, by simpa using w, by simpa using l, rfl, fun i c h => (by simp at h), ⟨f1, f2, fun i => by simp⟩, by simp [allO_nil], by show S.W = S.top + _; omega, by simp, by show S.nS = S.cnt + _; omega, rfl, hwt, hm, rfl, fun _ => rfl⟩
theorem fresh_S {E : Env} {h : Heap} {L : HL} {W nS : Nat} {R : List Nat} (H : IsO E h L W nS R []) : ∃ S, IsH E h L S ∧ Gw S ([] ++ []) ∧ Lay S [] [] ∧ S.W = W ∧ S.nS = nS ∧ S.top = 0 ∧ S.cnt = 0 ∧ S.wt = Wv.no.val ∧ S.open_ = false ∧ S.roots = R ∧ ∀ i, i < S.nS → (S.sl i).gen = 1 := by
 obtain ⟨S, a, w, e1, e2, e3⟩ := H
 have hcnt : S.cnt = 0 := w.cnt
 have htop : S.top = 0 := w.top
 refine ⟨S, a, ⟨fun c hc => (by cases hc), List.Pairwise.nil, fun i hi ht => ?_, hcnt, ⟨[], w.freed, List.nodup_nil, w.fresh.symm, fun i hi => (by cases hi)⟩, fun i hi => w.out i (Nat.zero_le _)⟩, ⟨?_, ?_, fun h => ?_⟩, e1, e2, htop, hcnt, w.wt, w.opn, e3, w.gen⟩
 ·rw [w.out i (Nat.zero_le _)] at ht; cases ht
 ·rw [w.opn]; rfl
 ·rw [w.opn, htop]; rfl
 ·rw [w.opn] at h; cases h
theorem bIsO_m {E : Env} {h : Heap} {L : HL} {W nS : Nat} {R : Bs} {O : List Ob} (H : B.IsO E h L W nS R O) : ∃ N : List Cl, N.map (·.o) = O ∧ (∀ (i : Nat) (c : Cl), N[i]? = some c → c.hd = R.f i ∧ c.m = R.w.on) ∧ IsM E h L (R.lo ++ (R.hi ++ N)) ∧ ∀ (i : Nat) (c : Cl), N[i]? = some c → gobj (R.lo ++ (R.hi ++ N)) c.hd = some c.o := by
 obtain ⟨S, N, F, a, b, c, d, e, f⟩ := H
 exact ⟨N, d, e, ⟨S, a, b⟩, fun i c hc => gobj_of b a.ok (by have := List.mem_of_getElem? hc; simp [this])⟩
theorem tre_new {O : Nat → Option Ob} {V : Vl} {f : Nat → Nat} {N : List Cl} (hN : N.map (·.o) = obg f 0 V) (hf : ∀ (i : Nat) (c : Cl), N[i]? = some c → c.hd = f i) (hO : ∀ (i : Nat) (c : Cl), N[i]? = some c → O c.hd = some c.o) : Tre O (f ((obg f 0 V).length - 1)) V (N.map Cl.hd) := by
 have hl : N.length = (obg f 0 V).length := by rw [← hN, List.length_map]
 refine ⟨f, fun i o hi => ?_, ?_, rfl⟩
 ·rw [← hN, List.getElem?_map] at hi
  cases hc : N[i]? with
  | none => rw [hc] at hi; cases hi
  | some c =>
    rw [hc] at hi
    injection hi with hi
    rw [← hf i c hc, hO i c hc]
    exact congrArg some hi
 ·apply List.ext_getElem?
  intro i
  rw [List.getElem?_map, List.getElem?_map]
  cases hc : N[i]? with
  | none =>
    rw [List.getElem?_eq_none (by rw [List.length_range, ← hl]; exact List.getElem?_eq_none_iff.1 hc)]; rfl
  | some c =>
    have hi : i < N.length := (List.getElem?_eq_some_iff.1 hc).1
    rw [List.getElem?_range (by omega)]
    simp only [Option.map_some]
    rw [hf i c hc]
theorem Tre.rd {O : Nat → Option Ob} {x : Nat} {V : Vl} {hs : List Nat} (t : Tre O x V hs) (hg : goodV V = 0) (hn : allV G.numsV V = true) : G.Rd O 2048 [] (.obj x) (V, 0) := by
 obtain ⟨f, h1, rfl, rfl⟩ := t
 have := G.built_rd (O := O) (f := f) (V := V) (b := 0) (fun i o hi => by rw [Nat.zero_add]; exact h1 i o hi) hg hn
 rw [Nat.zero_add] at this
 exact this
section
variable {A B : List Cl}
theorem gobj_more {x : Nat} (h : (gobj A x).isSome = true) : gobj (A ++ B) x = gobj A x := by
 rw [gobj_app]
 cases hc : gobj A x with
 | none => rw [hc] at h; cases h
 | some o => rfl
theorem Pres.more {lo hi N : List Cl} {rt : List Nat} : Pres (lo ++ hi) (lo ++ (hi ++ N)) rt := fun x V hs _ t => t.congr fun y _ hy => by rw [← List.append_assoc]; exact gobj_more hy
end
theorem new_hd {S : HS} {A N : List Cl} (w : Gw S (A ++ N)) (ok : S.Ok) {c d : Cl} (hc : c ∈ A) (hd : d ∈ N) : c.hd ≠ d.hd := fun e => by
 have h := ghd_inj w ok (show c ∈ A ++ N by simp [hc]) (show d ∈ A ++ N by simp [hd]) e
 subst h
 have ho := w.ord
 rw [List.pairwise_append] at ho
 have := ho.2.2 c hc c hd
 unfold Cl.wd at this
 omega
theorem new_nd {S : HS} {A : List Cl} (w : Gw S A) (ok : S.Ok) : (A.map Cl.hd).Nodup := by
 have ho := w.ord
 have key : ∀ B : List Cl, (∀ c, c ∈ B → c ∈ A) → (B.Pairwise fun a b => a.p + a.wd ≤ b.p) → (B.map Cl.hd).Nodup := by
  intro B
  induction B with
  | nil => intro _ _; exact List.nodup_nil
  | cons c B ih =>
    intro hm hp
    rw [List.pairwise_cons] at hp
    rw [List.map_cons, List.nodup_cons]
    refine ⟨fun h => ?_, ih (fun d hd => hm d (by simp [hd])) hp.2⟩
    obtain ⟨d, hd, e⟩ := List.mem_map.1 h
    have := ghd_inj w ok (hm d (by simp [hd])) (hm c (by simp)) e
    subst this
    have := hp.1 d hd
    unfold Cl.wd at this
    omega
 exact key A (fun _ h => h) ho
def newP (p : Ms) (N : List Cl) : Ms := (fun y => p.1 y || (N.map Cl.hd).contains y, p.2)
section
variable {E : Env} {h : Heap} {L : HL} {cb mb lo0 ph : Nat} {lo hi N : List Cl} {p : Ms} {rt : List Nat} {T n : Nat} {sv : Value} {S : HS}
theorem wvOf_on (ph cb mb : Nat) : (wvOf ph cb mb).on = !(ph == 0) := by
 unfold wvOf
 by_cases h0 : ph = 0
 ·simp [h0, Wv.on]
 ·by_cases h1 : ph = 1
  ·simp [h1, Wv.on]
  ·simp [h0, h1, Wv.on]
theorem GS.wmem (g : GS E h L cb mb lo0 ph lo hi p rt T n sv S) : (wvOf ph cb mb).mem h L := by
 unfold wvOf
 by_cases h0 : ph = 0
 ·rw [if_pos h0]; trivial
 ·rw [if_neg h0]
  by_cases h1 : ph = 1
  ·rw [if_pos h1]; exact g.m.mk1
  ·rw [if_neg h1]
   obtain ⟨r, v, gc⟩ := g.c.get
   exact ⟨g.m.mk1, g.c.nb, _, gc⟩
theorem CI.new (ci : CI ph lo hi p rt fun _ => True) (w : Gw S (lo ++ (hi ++ N))) (ok : S.Ok) (hl : ph = 1 → lo = []) (hmk : ph = 1 → setM p.1 hi = hi) (hm : ∀ c, c ∈ N → c.m = !(ph == 0)) (hr : ∀ c, c ∈ N → ∀ r, r ∈ refsOf c.o → ∃ d, d ∈ N ∧ d.hd = r) :
 CI ph lo (hi ++ N) (newP p N) rt (fun _ => True) ∧ (ph = 1 → setM (newP p N).1 (hi ++ N) = hi ++ N) := by
 have hnew : ∀ c, c ∈ hi → ((N.map Cl.hd).contains c.hd) = false := fun c hc => by
  rw [Bool.eq_false_iff]
  intro hh
  rw [List.contains_iff_mem] at hh
  obtain ⟨d, hd, e⟩ := List.mem_map.1 hh
  have w' : Gw S ((lo ++ hi) ++ N) := by rw [List.append_assoc]; exact w
  exact new_hd w' ok (show c ∈ lo ++ hi by simp [hc]) hd e.symm
 have hin : ∀ d, d ∈ N → ((N.map Cl.hd).contains d.hd) = true := fun d hd => by
  rw [List.contains_iff_mem]; exact List.mem_map.2 ⟨d, hd, rfl⟩
 have hp : ∀ c, c ∈ hi → (newP p N).1 c.hd = p.1 c.hd := fun c hc => by
  show (p.1 c.hd || _) = _
  rw [hnew c hc, Bool.or_false]
 have hpN : ∀ d, d ∈ N → (newP p N).1 d.hd = true := fun d hd => by
  show (p.1 d.hd || _) = _
  rw [hin d hd, Bool.or_true]
 have hpm : ∀ y, p.1 y = true → (newP p N).1 y = true := fun y hy => by
  show (p.1 y || _) = _
  rw [hy]; rfl
 have hlv : ∀ A : List Cl, ∀ r, live (A ++ N) r = true → live A r = true ∨ ∃ d, d ∈ N ∧ d.hd = r := fun A r h => by
  obtain ⟨d, hd, e⟩ := live_iff.1 h
  rcases List.mem_append.1 hd with hd | hd
  ·exact .inl (live_iff.2 ⟨d, hd, e⟩)
  ·exact .inr ⟨d, hd, e⟩
 refine ⟨⟨fun e => ?_, fun e => ?_⟩, fun e => ?_⟩
 ·obtain ⟨mi, xc, hmu⟩ := ci.mark e
  refine ⟨⟨fun x hx h => ?_, fun x hx => ?_, fun c hc hm' hn r hr' h => ?_, fun _ _ _ => trivial⟩, ⟨fun _ _ _ => trivial, fun _ _ _ _ _ _ => trivial⟩, ?_⟩
  ·rcases hlv hi x h with h | ⟨d, hd, rfl⟩
   ·exact hpm _ (mi.root x hx h)
   ·exact hpN d hd
  ·obtain ⟨a, b⟩ := mi.stk x hx
   obtain ⟨d, hd, e⟩ := live_iff.1 a
   exact ⟨live_iff.2 ⟨d, by simp [hd], e⟩, hpm _ b⟩
  ·rcases List.mem_append.1 hc with hc | hc
   ·rw [hp c hc] at hm'
    rcases hlv hi r h with h | ⟨d, hd, rfl⟩
    ·exact hpm _ (mi.black c hc hm' hn r hr' h)
    ·exact hpN d hd
   ·obtain ⟨d, hd, rfl⟩ := hr c hc r hr'
    exact hpN d hd
  ·refine Nat.le_trans (Nat.le_of_eq ?_) hmu
   unfold mu
   congr 1
   rw [List.filter_append, List.length_append]
   have e1 : (N.filter fun c => !(newP p N).1 c.hd) = [] := List.filter_eq_nil_iff.2 fun d hd => by simp [hpN d hd]
   have e2 : (hi.filter fun c => !(newP p N).1 c.hd) = hi.filter fun c => !p.1 c.hd := List.filter_congr fun c hc => by rw [hp c hc]
   rw [e1, e2]; simp
 ·have ki := ci.slide e
  have hmN : ∀ d, d ∈ N → d.m = true := fun d hd => by rw [hm d hd, e]; rfl
  have hk : ∀ x, kept lo hi x → kept lo (hi ++ N) x := by
   rintro x (⟨d, hd, h⟩ | ⟨d, hd, h, h'⟩)
   ·exact .inl ⟨d, hd, h⟩
   ·exact .inr ⟨d, by simp [hd], h, h'⟩
  have hkN : ∀ d, d ∈ N → kept lo (hi ++ N) d.hd := fun d hd => .inr ⟨d, by simp [hd], rfl, hmN d hd⟩
  have has : lo ++ (hi ++ N) = (lo ++ hi) ++ N := by simp
  refine ⟨fun x hx h => ?_, fun c hc hkc r hr' h => ?_, fun _ _ => trivial⟩
  ·rw [has] at h
   rcases hlv _ x h with h | ⟨d, hd, rfl⟩
   ·exact hk _ (ki.root x hx h)
   ·exact hkN d hd
  ·rw [has] at h hc
   rcases List.mem_append.1 hc with hc | hc
   ·rcases hlv _ r h with h | ⟨d, hd, rfl⟩
    ·refine hk _ (ki.refs c hc ?_ r hr' h)
     rcases hkc with ⟨d, hd, h5⟩ | ⟨d, hd, h5, h6⟩
     ·exact .inl ⟨d, hd, h5⟩
     ·rcases List.mem_append.1 hd with hd | hd
      ·exact .inr ⟨d, hd, h5, h6⟩
      ·have w' : Gw S ((lo ++ hi) ++ N) := by rw [← has]; exact w
       exact absurd h5.symm (new_hd w' ok hc hd)
    ·exact hkN d hd
   ·obtain ⟨d, hd, rfl⟩ := hr c hc r hr'
    exact hkN d hd
 ·have hM := hmk e
  rw [setM_app]
  have e1 : setM (newP p N).1 hi = hi := by rw [← hM]; rw [setM_setM]; exact setM_congr fun c hc => hp c hc
  have e2 : setM (newP p N).1 N = N := by
   unfold setM
   conv => rhs; rw [← List.map_id N]
   refine List.map_congr_left fun d hd => ?_
   rw [hpN d hd]
   have := hm d hd
   rw [e] at this
   have h5 : d.m = true := this
   rw [← h5]; rfl
  rw [e1, e2]
end
end Go.Proofs.YthfopcdammlmfaaGreatDoor
/- Building, holding, reading, copying between the collector's calls: the walks. -/
namespace Go.Proofs.YthfopcdammlmfaaGreatDoor
open Go.Tm
section
variable {E : Env} {h h' : Heap} {L : HL} {cb mb lo0 ph : Nat} {lo hi N : List Cl} {p : Ms} {rt : List Nat} {T n : Nat} {sv : Value} {S : HS}
theorem GS.keep (g : GS E h L cb mb lo0 ph lo hi p rt T n sv S) (k : Keep h h') : GS E h' L cb mb lo0 ph lo hi p rt T n sv S :=
 ⟨g.H.keep k, g.w, g.l, g.rt, g.wt, g.op, g.bd, g.m.keep k, g.c.keep k, g.mks, g.st, g.le⟩
theorem GS.gm (g : GS E h L cb mb lo0 ph lo hi p rt T n sv S) : G.IsO E h L 0 0 [] (gobj (lo ++ hi)) := ⟨_, ⟨S, g.H, g.w⟩, rfl⟩
theorem GS.mark (g : GS E h L cb mb lo0 ph lo hi p rt T n sv S) (h1 : ph = 1) {c : Cl} (hc : c ∈ hi) : c.m = p.1 c.hd := by
 have hM := g.mks h1
 rw [← hM] at hc
 obtain ⟨d, _, rfl, e⟩ := setM_of hc
 show p.1 d.hd = p.1 _
 rw [e]
theorem backB (g : GS E h L cb mb lo0 ph lo hi p rt T n sv S) {R : Bs} (e1 : R.lo = lo) (e2 : R.hi = hi) (e3 : R.w = wvOf ph cb mb) (e4 : R.rt = S.roots) (e5 : R.op = S.open_) (e6 : R.top = S.top) (e7 : R.cnt = S.cnt) (e8 : ∀ i, R.gen i = (S.sl i).gen) {O : List Ob}
 (H : B.IsO E h' L (S.W - S.top) (S.nS - S.cnt) R O) (hn : n + O.length ≤ 1000000) :
 ∃ N S', IsH E h' L S' ∧ Gw S' (lo ++ (hi ++ N)) ∧ Lay S' lo (hi ++ N) ∧ S'.roots = rt ∧ S'.wt = (wvOf ph cb mb).val ∧ S'.open_ = (ph == 2) ∧ Bd S' (T + allO O) (n + O.length) ∧ N.map (·.o) = O ∧ ∀ (i : Nat) (c : Cl), N[i]? = some c → c.hd = R.f i ∧ c.m = !(ph == 0) := by
 obtain ⟨S', N, F, H', w', l', hN, hf, _, g1, g2, g3, g4, g5, g6, g7, g8, g9⟩ := H
 rw [e1, e2] at w' l'
 rw [e3] at g6
 rw [e3, wvOf_on] at hf
 have hW := g.bd.W
 have hnS := g.bd.nS
 have ht := g.H.ok.top
 have hc := g.H.ok.cnt
 have htT := g.bd.top
 refine ⟨N, S', H', w', l', g5.trans (e4.trans g.rt), g6, g8.trans (e5.trans g.op), ⟨hn, by omega, fun i hi => ?_, by omega, by omega⟩, hN, hf⟩
 rw [g9, e8]
 have := g.bd.gen i (by omega)
 omega
end
variable {E : Env} (hE : EOk E)
include hE
section
variable {h : Heap} {L : HL} {cb mb lo0 ph : Nat} {lo hi : List Cl} {p : Ms} {rt : List Nat} {T n : Nat} {sv : Value} {S : HS} (g : GS E h L cb mb lo0 ph lo hi p rt T n sv S) (ci : CI ph lo hi p rt fun _ => True) (hW : WF E h)
include g ci hW
def BuildR (E : Env) (h : Heap) (L : HL) (cb mb lo0 ph : Nat) (lo hi : List Cl) (p : Ms) (rt : List Nat) (T n : Nat) (sv : Value) (V : Vl) (r : Value) (h' : Heap) : Prop :=
 KeepB L h h' ∧ WF E h' ∧ (goodV V ≠ 0 → r = .tuple #[.int .u64 0, .int .i64 (goodV V)] ∧ ∃ S', GS E h' L cb mb lo0 ph lo hi p rt T n sv S') ∧
 (goodV V = 0 → ∃ x N S', r = .tuple #[.int .u64 (x : Nat), .int .i64 0] ∧ GS E h' L cb mb lo0 ph lo (hi ++ N) (newP p N) rt (T + (wordsV V).toNat) (n + (objsV V).toNat) sv S' ∧ CI ph lo (hi ++ N) (newP p N) rt (fun _ => True) ∧
  Tre (gobj (lo ++ (hi ++ N))) x V (N.map Cl.hd) ∧ (∀ c, c ∈ N → c.m = !(ph == 0)) ∧ ∀ d, d ∈ lo ++ hi → ∀ e, e ∈ N → d.hd ≠ e.hd)
theorem gbuild_at {V : Vl} (hz : V.sz ≤ 10000) {G : Mem} (hG : Frz E G h) (hS : Sep L G) {c : List Value} (hV : Rep E G V c) (hT : goodV V = 0 → (T : Int) + wordsV V ≤ 65536 ∧ (n : Int) + 1 + objsV V ≤ 16384) :
 CallsTo E 10 [.pointer (some ⟨L.ph, 0, none⟩), .agg c.toArray] h (BuildR E h L cb mb lo0 ph lo hi p rt T n sv V) := by
 obtain ⟨R, e1, e2, e3, e4, e5, e6, e7, e8, HB⟩ := toB g.H g.w g.l g.wt g.wmem
 have htT := g.bd.top
 have hWn := g.bd.W
 have hnSn := g.bd.nS
 have hnN := g.bd.nN
 have hcn : S.cnt ≤ 1 + n := by have := g.bd.gen 0 (by omega); omega
 refine (B.build_at hE HB hz hW hG hS hV).mono ?_
 rintro r h' ⟨rfl, HB', k, w'⟩
 unfold B.buildO at HB' ⊢
 refine ⟨k, w', fun hg => ?_, fun hg => ?_⟩
 ·rw [if_neg hg] at HB' ⊢
  obtain ⟨N, S', H', W', L', q1, q2, q3, q4, q5, q6⟩ := backB g e1 e2 e3 e4 e5 e6 e7 e8 HB' (by simpa using hnN)
  have hN : N = [] := by cases N with | nil => rfl | cons => simp at q5
  subst hN
  rw [List.append_nil] at W' L'
  simp only [allO_nil, List.length_nil, Nat.add_zero] at q4
  exact ⟨rfl, S', H', W', L', q1, q2, q3, q4, g.m.b k, g.c.b k, g.mks, g.st, g.le⟩
 ·obtain ⟨p1, p2, p3, p4, p5⟩ := good_parts hg
  obtain ⟨ow, oo⟩ := obg_words (g := R.f) V.sz V (Nat.le_refl _) p1 0
  obtain ⟨t1, t2⟩ := hT hg
  have hpos := obg_pos (g := R.f) 0 V
  rw [if_pos hg] at HB' ⊢
  simp only [List.length_nil, List.nil_append, Nat.zero_add, allO_nil] at HB' ⊢
  rw [if_pos ⟨by omega, by omega⟩] at HB' ⊢
  obtain ⟨N, S', H', W', L', q1, q2, q3, q4, q5, q6⟩ := backB (O := obg R.f 0 V) g e1 e2 e3 e4 e5 e6 e7 e8 HB' (by omega)
  have hm : ∀ c, c ∈ N → c.m = !(ph == 0) := fun c hc => by
   obtain ⟨i, hi, rfl⟩ := List.mem_iff_getElem.1 hc
   exact (q6 i _ (List.getElem?_eq_getElem hi)).2
  have hf : ∀ (i : Nat) (c : Cl), N[i]? = some c → c.hd = R.f i := fun i c hc => (q6 i c hc).1
  have hO : ∀ (i : Nat) (c : Cl), N[i]? = some c → gobj (lo ++ (hi ++ N)) c.hd = some c.o := fun i c hc => gobj_of W' H'.ok (by have := List.mem_of_getElem? hc; simp [this])
  have htr := tre_new q5 hf hO
  have hr : ∀ c, c ∈ N → ∀ r, r ∈ refsOf c.o → ∃ d, d ∈ N ∧ d.hd = r := fun c hc r hr => by
   obtain ⟨i, hi, rfl⟩ := List.mem_iff_getElem.1 hc
   obtain ⟨o, ho, hrs⟩ := htr.live (List.mem_map.2 ⟨_, hc, rfl⟩)
   rw [hO i _ (List.getElem?_eq_getElem hi)] at ho
   injection ho with ho
   obtain ⟨d, hd, e⟩ := List.mem_map.1 (hrs r (ho ▸ hr))
   exact ⟨d, hd, e⟩
  obtain ⟨ci', mk'⟩ := CI.new (N := N) ci W' H'.ok (fun e => g.lo0 (by omega)) g.mks hm hr
  have ew : allO (obg R.f 0 V) = (wordsV V).toNat := by omega
  have eo : (obg R.f 0 V).length = (objsV V).toNat := by omega
  rw [ew, eo] at q4
  refine ⟨_, N, S', rfl, ⟨H', W', L', q1, q2, q3, q4, g.m.b k, g.c.b k, mk', g.st, g.le⟩, ci', htr, hm, fun d hd e he => ?_⟩
  have W'2 : Gw S' ((lo ++ hi) ++ N) := by rw [List.append_assoc]; exact W'
  exact new_hd W'2 H'.ok hd he
theorem gsetRoot_at {i : Nat} (hi16 : i < 16) {c : Cl} (hc : c ∈ hi) (hcm : c.m = !(ph == 0)) : CallsTo E 18 [.pointer (some ⟨L.ph, 0, none⟩), .int .i64 i, .int .u64 c.hd] h fun r h' =>
 r = .int .i64 0 ∧ (∃ S', GS E h' L cb mb lo0 ph lo hi p (rt.set i c.hd) T n sv S') ∧ CI ph lo hi p (rt.set i c.hd) (fun _ => True) ∧ KeepB L h h' ∧ WF E h' := by
 have e1 : decide ((i : Int) < 0) = false := by simp
 have e2 : decide ((i : Int) ≥ 16) = false := by simp; omega
 have hcA : c ∈ lo ++ hi := by simp [hc]
 obtain ⟨h4, hw4, H4, k4, w4⟩ := g.H.wRoot hW (i := i) (x := c.hd) hi16
 have hmem := Wv.mem.b g.wmem k4
 have hci : CI ph lo hi p (rt.set i c.hd) (fun _ => True) := by
  refine ⟨fun e => ?_, fun e => ?_⟩
  ·obtain ⟨mi, xc, hmu⟩ := ci.mark e
   refine ⟨⟨fun x hx hl => ?_, mi.stk, mi.black, mi.only⟩, ⟨fun _ _ _ => trivial, fun _ _ _ _ _ _ => trivial⟩, hmu⟩
   rcases List.mem_or_eq_of_mem_set hx with h5 | h5
   ·exact mi.root x h5 hl
   ·rw [h5, ← g.mark e hc, hcm, e]; rfl
  ·have ki := ci.slide e
   refine ⟨fun x hx hl => ?_, ki.refs, ki.only⟩
   rcases List.mem_or_eq_of_mem_set hx with h5 | h5
   ·exact ki.root x h5 hl
   ·rw [h5]; exact .inr ⟨c, hc, rfl, by rw [hcm, e]; rfl⟩
 refine en hE Tryz.func18 rfl rfl Tryz.ntmps18 rfl (by decide +kernel) (rs := [.tmp 6]) rfl ?_
 simp only [push_cast, seval, hE.P, wpc_label, wpc_block, e1, e2]
 refine (mayT_at hE g.H g.w hcA).mono ?_
 rintro v h ⟨rfl, rfl⟩
 obtain ⟨x, hx⟩ : ∃ x, x = c.hd := ⟨_, rfl⟩
 rw [← hx] at hw4
 simp only [push_cast, seval, hE.P, wpc_label, wpc_block]
 rw [ra_at rfl hi16, kpure_some, ← hx]
 simp only [push_cast, seval, hE.P, wpc_label, wpc_block, hw4]
 rw [hx]
 refine (linkT_at hE H4 w4 (g.w.rt _) (wv := wvOf ph cb mb) g.wt hmem hcA (fun ht => by rw [wvOf_on] at ht; rw [hcm]; exact ht)).mono ?_
 rintro v h5 ⟨rfl, k5, w5⟩
 simp only [push_cast, seval, hE.P, wpc_label, wpc_block]
 have kb := k4.trans (k5.b L)
 refine ⟨⟨_, H4.keep k5, g.w.rt _, ⟨g.l.lo, g.l.hi, g.l.le⟩, ?_, g.wt, g.op, g.bd.low (S' := _) (Nat.le_refl _) rfl rfl rfl rfl, g.m.b kb, g.c.b kb, g.mks, g.st, g.le⟩, hci, kb, w5⟩
 show S.roots.set i c.hd = rt.set i c.hd
 rw [g.rt]
end
end Go.Proofs.YthfopcdammlmfaaGreatDoor
namespace Go.Proofs.YthfopcdammlmfaaGreatDoor
open Go.Tm
variable {E : Env} (hE : EOk E)
include hE
theorem gcopy_at {h : Heap} {L : HL} {cb mb lo0 ph : Nat} {lo hi : List Cl} {p : Ms} {rt : List Nat} {T n : Nat} {sv : Value} {S : HS} (g : GS E h L cb mb lo0 ph lo hi p rt T n sv S) (ci : CI ph lo hi p rt fun _ => True) (hW : WF E h)
 {x : Nat} (hx : x < 18446744073709551616) {V : Vl} (hr : G.Rd (gobj (lo ++ hi)) 2048 [] (.obj x) (V, 0)) (hg : goodV V = 0) (hT : (T : Int) + wordsV V ≤ 65536 ∧ (n : Int) + 1 + objsV V ≤ 16384) :
 CallsTo E 25 [.pointer (some ⟨L.ph, 0, none⟩), .int .u64 x] h (BuildR E h L cb mb lo0 ph lo hi p rt T n sv V) := by
 have hlt := g.H.ltB hW
 refine en hE Tryz.func25 rfl rfl Tryz.ntmps25 rfl (by decide +kernel) (rs := [.tmp 4, .tmp 5]) rfl ?_
 simp only [push_cast, seval, hE.P, zz]
 refine (G.read_at hE g.gm hW hx).mono ?_
 rintro v h1 ⟨V', e, c, G, rfl, hro, hsz, hrep, hfr, hnew, k1, w1⟩
 obtain ⟨rfl, rfl⟩ := Go.Proofs.YthfopcdammlmfaaGreatDoor.G.ReadO.of hr hg hro
 have hsep : Sep L G := fun b hb => by
  cases hc : G b with
  | none => rfl
  | some c => have := hnew b c hc; have := (hlt b hb).2; omega
 have hrepC := hrep
 obtain ⟨sl, sf, cl, cf, rfl, hsl, hsf, _⟩ := hrep.cells
 obtain ⟨a2, cap2, rfl, _, _⟩ := hsl.slice
 obtain ⟨a3, cap3, rfl, _, _⟩ := hsf.slice
 simp only [push_cast, seval, hE.P, zz, w1.nb, w1.nb0]
 have k2 := (Keep.refl h1).push (o := .cells [.int .i64 V'.k, .int .i64 V'.n, .string V'.s, .slice a2 V'.l.length cap2, .slice a3 V'.f.length cap3] 25 true) w1
 have w2 := w1.push (.cells [.int .i64 V'.k, .int .i64 V'.n, .string V'.s, .slice a2 V'.l.length cap2, .slice a3 V'.f.length cap3] 25 true)
 refine (gbuild_at hE ((g.keep k1).keep k2) ci w2 (V := V') (by omega) (hfr.keep k2) hsep hrepC (fun _ => hT)).mono ?_
 rintro v h3 ⟨k3, w3, q1, q2⟩
 obtain ⟨y, N, S3, rfl, q3⟩ := q2 hg
 simp only [push_cast, seval, hE.P, zz]
 exact ⟨((k1.trans k2).b L).trans k3, w3, fun hn => absurd hg hn, fun _ => ⟨y, N, S3, rfl, q3⟩⟩
theorem awakeG_at {h : Heap} (hW : WF E h) : CallsTo E 6 [] h fun v h' => v = .bool true ∧ Keep h h' ∧ WF E h' := by
 refine en hE Tryz.func6 rfl rfl Tryz.ntmps6 rfl (by decide +kernel) (rs := [.tmp 0]) rfl ?_
 simp only [push_cast, seval, hE.P, zz, hW.nb, hW.nb0]
 refine (fresh_at hE hW (W := 100) (nS := 50) (by omega) (by omega) (by omega) (by omega)).mono ?_
 rintro v h1 ⟨L, rfl, H1, hL1, k1, w1⟩
 obtain ⟨S, HS', W', L', hSW, hSn, hSt, hSc, hwt, hop, hrt, hgen⟩ := fresh_S H1
 obtain ⟨R, e1, e2, e3, e4, e5, e6, e7, e8, HB⟩ := toB (wv := .no) HS' W' L' hwt trivial
 rw [hSW, hSt, hSn, hSc] at HB
 have nb1 : (h1.next < E.base) = False := by have := w1.base; simp; omega
 simp only [push_cast, seval, hE.P, zz, nilH]
 refine (I_at hE w1).mono ?_
 rintro v h2 ⟨rfl, k2, w2⟩
 simp only [push_cast, seval, hE.P, zz]
 rw [bs22 rfl, kalloc_some]
 simp only [push_cast, seval, hE.P, zz]
 have k3 := (Keep.refl h2).push (o := .cells [.int .i64 3, .int .i64 1, .string .empty, .slice none 0 0, .slice none 0 0] 25 true) w2
 have w3 := w2.push (.cells [.int .i64 3, .int .i64 1, .string .empty, .slice none 0 0, .slice none 0 0] 25 true)
 have g3 : (h2.push (.cells [.int .i64 3, .int .i64 1, .string .empty, .slice none 0 0, .slice none 0 0] 25 true)).get h2.next = some (.cells [.int .i64 3, .int .i64 1, .string .empty, .slice none 0 0, .slice none 0 0] 25 true) := by rw [get_push, if_pos rfl]
 refine (L_at hE w3).mono ?_
 rintro v h4 ⟨rfl, k4, w4⟩
 simp only [push_cast, seval, hE.P, zz]
 refine (D_at hE w4).mono ?_
 rintro v h5 ⟨bl, rfl, hbl, g5, k5, w5⟩
 have g5L := k5.get _ _ (k4.get _ _ g3)
 simp only [push_cast, seval, hE.P, zz]
 have nb5 : (h5.next < E.base) = False := by have := w5.base; simp; omega
 have w6 := w5.push (.cells [.int .i64 6, .int .i64 0, .string .empty, .slice none 0 0, .slice (some ⟨bl, 0, none⟩) 1 1] 25 true)
 have k6 := (Keep.refl h5).push (o := .cells [.int .i64 6, .int .i64 0, .string .empty, .slice none 0 0, .slice (some ⟨bl, 0, none⟩) 1 1] 25 true) w5
 have g6L := k6.get _ _ g5L
 have g6 := k6.get _ _ g5
 have g6v : (h5.push (.cells [.int .i64 6, .int .i64 0, .string .empty, .slice none 0 0, .slice (some ⟨bl, 0, none⟩) 1 1] 25 true)).get h5.next = some (.cells [.int .i64 6, .int .i64 0, .string .empty, .slice none 0 0, .slice (some ⟨bl, 0, none⟩) 1 1] 25 true) := by rw [get_push, if_pos rfl]
 simp only [push_cast, seval, hE.P, zz, nb5]
 have hx3 : ∀ G, Rep E G v3 [.int .i64 3, .int .i64 1, .string .empty, .slice none 0 0, .slice none 0 0] := fun G => by
  unfold v3
  unfold Rep
  refine ⟨_, _, [], [], rfl, ⟨none, 0, rfl, by simp, by omega, ⟨fun _ => rfl, fun _ x => (by cases x)⟩, .inl ⟨rfl, rfl⟩⟩, ⟨none, 0, rfl, by simp, by omega, ⟨fun _ => rfl, fun _ x => (by cases x)⟩, .inl ⟨rfl, rfl⟩⟩, by unfold RepLs; rfl, by unfold RepFs; rfl, by simp, by omega, by omega⟩
 have nL : ¬ h2.next < E.base := by have := w2.base; omega
 have nF : ¬ bl < E.base := by have := w4.base; omega
 have hGr : ∃ G, Rep E G vA [.int .i64 6, .int .i64 0, .string .empty, .slice none 0 0, .slice (some ⟨bl, 0, none⟩) 1 1] ∧ Frz E G (h5.push (.cells [.int .i64 6, .int .i64 0, .string .empty, .slice none 0 0, .slice (some ⟨bl, 0, none⟩) 1 1] 25 true)) ∧ ∀ b c, G b = some c → b = h2.next ∨ b = bl := by
  refine ⟨fun j => if j = bl then some [.string ⟨#[97]⟩, .int .i64 5, .int .i64 0, .string .empty, .slice (some ⟨h2.next, 0, none⟩) 1 1, .slice none 0 0] else if j = h2.next then some [.int .i64 3, .int .i64 1, .string .empty, .slice none 0 0, .slice none 0 0] else none, ?_, ?_, ?_⟩
  ·have hne : ¬ h2.next = bl := by have := k4.next; simp at this; omega
   unfold vA
   unfold Rep
   refine ⟨_, _, [], [.string ⟨#[97]⟩, .int .i64 5, .int .i64 0, .string .empty, .slice (some ⟨h2.next, 0, none⟩) 1 1, .slice none 0 0], rfl, ⟨none, 0, rfl, by simp, by omega, ⟨fun _ => rfl, fun _ x => (by cases x)⟩, .inl ⟨rfl, rfl⟩⟩, Sl.whole nF (by simp) rfl (by simp), by unfold RepLs; rfl, ?_, by simp, by omega, by omega⟩
   unfold RepFs
   refine ⟨[.int .i64 5, .int .i64 0, .string .empty, .slice (some ⟨h2.next, 0, none⟩) 1 1, .slice none 0 0], [], rfl, ?_, by unfold RepFs; rfl, by decide⟩
   unfold v5
   unfold Rep
   refine ⟨_, _, [.int .i64 3, .int .i64 1, .string .empty, .slice none 0 0, .slice none 0 0], [], rfl, Sl.whole nL (by simp [hne]) rfl (by simp), ⟨none, 0, rfl, by simp, by omega, ⟨fun _ => rfl, fun _ x => (by cases x)⟩, .inl ⟨rfl, rfl⟩⟩, RepLs.one (hx3 _), by unfold RepFs; rfl, by simp, by omega, by omega⟩
  ·intro j c hj
   simp only at hj
   split at hj
   ·rename_i e; subst e; injection hj with hj; subst hj; exact ⟨_, _, g6⟩
   ·split at hj
    ·rename_i e; subst e; injection hj with hj; subst hj; exact ⟨_, _, g6L⟩
    ·cases hj
  ·intro j c hj
   simp only at hj
   split at hj
   ·exact .inr (by assumption)
   ·split at hj
    ·exact .inl (by assumption)
    ·cases hj
 obtain ⟨G, hRep, hFz, hGd⟩ := hGr
 have kk5 : Keep h1 h5 := ((k2.trans k3).trans k4).trans k5
 have hlt := H1.lt w1
 have hsep : Sep L G := fun b hb => by
  cases hc : G b with
  | none => rfl
  | some c =>
    have h6 := (hlt b hb).2
    have h7 := k2.next; have h8 := k4.next; simp at h8
    rcases hGd b c hc with h9 | h9 <;> omega
 have hbl : (obg R.f 0 vA).length = 4 ∧ allO (obg R.f 0 vA) = 10 := by
  have z1 : (⟨#[97]⟩ : ByteArray).size = 1 := rfl
  simp [vA, v5, v3, obg, obgL, obgF, allO, Ob.width, packW, z1]
 have hbo : B.buildO (100 - 0) (50 - 0) R [] vA = (.tuple #[.int .u64 (R.f 3 : Nat), .int .i64 0], obg R.f 0 vA) := by
  unfold B.buildO
  rw [if_pos vA_good]
  simp only [List.length_nil, List.nil_append, Nat.zero_add, allO_nil]
  rw [if_pos ⟨by rw [hbl.2]; decide, by rw [hbl.1]; decide⟩, hbl.1]
 refine (B.build_at hE (HB.keep (kk5.trans k6)) (V := vA) (by simp [vA, v5, v3, Vl.sz, szL, szF]) w6 hFz hsep hRep).mono ?_
 rw [hbo]
 rintro v h7 ⟨rfl, H7, k7, w7⟩
 have g7v := k7.get _ _ (fun hm => by have := (hlt _ hm).2; have := kk5.next; omega) g6v
 obtain ⟨N, hN, hf, HM, hO⟩ := bIsO_m H7
 have htr := tre_new hN (fun i c hc => (hf i c hc).1) hO
 rw [hbl.1] at htr
 have hl3 : N.length = 4 := by
  have hN' : N.map (·.o) = obg R.f 0 vA := hN
  rw [← hbl.1, ← hN', List.length_map]
 have hx3 : R.f 3 < 18446744073709551616 ∧ 0 < R.f 3 := by
  obtain ⟨S7, HS7, W7⟩ := HM
  have hg3 : N[3]? = some N[3] := List.getElem?_eq_getElem (by omega)
  rw [← (hf 3 _ hg3).1]
  exact W7.hd_lt HS7.ok (by have := List.mem_of_getElem? hg3; simp [this])
 have h3n : (((R.f 3 : Nat) : Int) != 0) = true := by simp; omega
 simp only [push_cast, seval, hE.P, zz, g7v, nb5, h3n]
 have hrd := htr.rd vA_good (Go.Proofs.YthfopcdammlmfaaGreatDoor.G.Rep.nums vA.sz vA (Nat.le_refl _) hRep)
 refine (Go.Proofs.YthfopcdammlmfaaGreatDoor.G.reads_at hE (W := 0) (nS := 0) (R := []) ⟨_, HM, rfl⟩ w7 hx3.1 hrd vA_good (hsep.frz hFz k7) hRep).mono ?_
 rintro v h8 ⟨rfl, k8, w8⟩
 simp only [push_cast, seval, hE.P, zz]
 refine ⟨⟨fun b o hb => ?_, ?_⟩, w8⟩
 ·have h9 := k1.get _ _ hb
  have h10 := k6.get _ _ (kk5.get _ _ h9)
  refine k8.get _ _ (k7.get _ _ (fun hm => ?_) h10)
  have := hL1 b hm
  have := (hW.live _ _ hb).2
  omega
 ·have := k1.next; have := kk5.next; have := k6.next; have := k7.next; have := k8.next; omega
end Go.Proofs.YthfopcdammlmfaaGreatDoor
