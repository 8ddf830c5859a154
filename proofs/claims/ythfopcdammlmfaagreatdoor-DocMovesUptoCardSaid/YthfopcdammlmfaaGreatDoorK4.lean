/- The collector's walks: new, its phase, begun, brought to an end, a whole collection. -/
/- Merged by a program of ours: K8 K9 K10. -/
import Derived.Test.YthfopcdammlmfaaGreatDoorK3
set_option maxRecDepth 10000
set_option linter.all false
set_option linter.unusedSimpArgs false
set_option linter.unusedVariables false
/- What a collection keeps: the plain law. -/
namespace Go.Proofs.YthfopcdammlmfaaGreatDoor
open Go.Tm
def kept (lo hi : List Cl) (x : Nat) : Prop := (∃ c, c ∈ lo ∧ c.hd = x) ∨ ∃ c, c ∈ hi ∧ c.hd = x ∧ c.m = true
structure Ki (lo hi : List Cl) (rt : List Nat) (X : Nat → Prop) : Prop where
 root : ∀ x, x ∈ rt → live (lo ++ hi) x = true → kept lo hi x
 refs : ∀ c, c ∈ lo ++ hi → kept lo hi c.hd → ∀ r, r ∈ refsOf c.o → live (lo ++ hi) r = true → kept lo hi r
 only : ∀ x, kept lo hi x → X x
def Pres (A A' : List Cl) (rt : List Nat) : Prop := ∀ x V hs, x ∈ rt → Tre (gobj A) x V hs → Tre (gobj A') x V hs
theorem Pres.refl (A : List Cl) (rt : List Nat) : Pres A A rt := fun _ _ _ _ t => t
theorem Pres.trans {A B C : List Cl} {rt : List Nat} (p : Pres A B rt) (q : Pres B C rt) : Pres A C rt := fun x V hs h t => q x V hs h (p x V hs h t)
theorem Pres.of {A B : List Cl} {rt : List Nat} (h : gobj B = gobj A) : Pres A B rt := fun x V hs _ t => by rw [h]; exact t
theorem Ki.of_mi {A : List Cl} {rt : List Nat} {X : Nat → Prop} {p : Ms} (m : Mi A rt X p) (hs : p.2 = []) (hM : setM p.1 A = A) : Ki [] A rt X := by
 have hm : ∀ c, c ∈ A → c.m = p.1 c.hd := fun c hc => by
  have : ∀ (B : List Cl), setM p.1 B = B → ∀ c, c ∈ B → c.m = p.1 c.hd := by
   intro B
   induction B with
   | nil => intro _ c hc; cases hc
   | cons d B ih =>
     intro hB c hc
     unfold setM at hB
     rw [List.map_cons] at hB
     injection hB with h1 h2
     rcases List.mem_cons.1 hc with rfl | hc
     ·have := congrArg Cl.m h1
      exact this.symm
     ·exact ih h2 c hc
  exact this A hM c hc
 have key : ∀ x, p.1 x = true → live A x = true → kept [] A x := fun x hx hl => by
  obtain ⟨c, hc, rfl⟩ := live_iff.1 hl
  exact .inr ⟨c, hc, rfl, by rw [hm c hc]; exact hx⟩
 have back : ∀ x, kept [] A x → ∃ c, c ∈ A ∧ c.hd = x ∧ p.1 x = true := fun x hx => by
  rcases hx with ⟨c, hc, _⟩ | ⟨c, hc, rfl, h⟩
  ·cases hc
  ·exact ⟨c, hc, rfl, by rw [← hm c hc]; exact h⟩
 refine ⟨fun x hx hl => key x (m.root x hx hl) hl, fun c hc hk r hr hl => ?_, fun x hx => ?_⟩
 ·obtain ⟨d, hd, e, h⟩ := back _ hk
  exact key r (m.black c hc h (by rw [hs]; simp) r hr hl) hl
 ·obtain ⟨d, hd, rfl, h⟩ := back _ hx
  exact m.only d hd h
theorem find_app {A B : List Cl} {f : Cl → Bool} : (A ++ B).find? f = (A.find? f).or (B.find? f) := List.find?_append
theorem gobj_app {A B : List Cl} {x : Nat} : gobj (A ++ B) x = (gobj A x).or (gobj B x) := by
 unfold gobj
 rw [find_app]
 cases A.find? (fun c => c.hd == x) <;> simp
theorem gobj_cons {c : Cl} {A : List Cl} {x : Nat} : gobj (c :: A) x = if c.hd = x then some c.o else gobj A x := by
 unfold gobj
 by_cases h : c.hd = x
 ·rw [List.find?_cons_of_pos (by simp [h]), if_pos h]; rfl
 ·rw [List.find?_cons_of_neg (by simp [h]), if_neg h]
theorem gobj_moved {lo hi : List Cl} {c c' : Cl} (h1 : c'.hd = c.hd) (h2 : c'.o = c.o) : gobj ((lo ++ [c']) ++ hi) = gobj (lo ++ c :: hi) := by
 funext x
 have e : (lo ++ [c']) ++ hi = lo ++ c' :: hi := by simp
 rw [e, gobj_app, gobj_app, gobj_cons, gobj_cons, h1, h2]
theorem gobj_out {lo hi : List Cl} {c : Cl} {x : Nat} (h : c.hd ≠ x) : gobj (lo ++ hi) x = gobj (lo ++ c :: hi) x := by
 rw [gobj_app, gobj_app, gobj_cons, if_neg h]
theorem live_gobj {A B : List Cl} {x : Nat} (h : gobj A x = gobj B x) : live A x = live B x := by unfold live; rw [h]
section
variable {lo hi : List Cl} {c : Cl} {rt : List Nat} {X : Nat → Prop}
theorem kept_moved {p : Nat} (hm : c.m = true) {x : Nat} : kept (lo ++ [{ c with p := p, m := false }]) hi x ↔ kept lo (c :: hi) x := by
 have hh : ({ c with p := p, m := false } : Cl).hd = c.hd := by unfold Cl.hd; rfl
 constructor
 ·rintro (⟨d, hd, rfl⟩ | ⟨d, hd, rfl, h⟩)
  ·rcases List.mem_append.1 hd with hd | hd
   ·exact .inl ⟨d, hd, rfl⟩
   ·simp only [List.mem_singleton] at hd
    subst hd
    exact .inr ⟨c, by simp, hh.symm, hm⟩
  ·exact .inr ⟨d, by simp [hd], rfl, h⟩
 ·rintro (⟨d, hd, rfl⟩ | ⟨d, hd, rfl, h⟩)
  ·exact .inl ⟨d, by simp [hd], rfl⟩
  ·rcases List.mem_cons.1 hd with rfl | hd
   ·exact .inl ⟨{ d with p := p, m := false }, by simp, hh⟩
   ·exact .inr ⟨d, hd, rfl, h⟩
theorem kept_out (hm : c.m = false) {x : Nat} : kept lo hi x ↔ kept lo (c :: hi) x := by
 constructor
 ·rintro (⟨d, hd, rfl⟩ | ⟨d, hd, rfl, h⟩)
  ·exact .inl ⟨d, hd, rfl⟩
  ·exact .inr ⟨d, by simp [hd], rfl, h⟩
 ·rintro (⟨d, hd, rfl⟩ | ⟨d, hd, rfl, h⟩)
  ·exact .inl ⟨d, hd, rfl⟩
  ·rcases List.mem_cons.1 hd with rfl | hd
   ·rw [hm] at h; cases h
   ·exact .inr ⟨d, hd, rfl, h⟩
theorem Ki.keep {p : Nat} (k : Ki lo (c :: hi) rt X) (hm : c.m = true) : Ki (lo ++ [{ c with p := p, m := false }]) hi rt X ∧ Pres (lo ++ c :: hi) ((lo ++ [{ c with p := p, m := false }]) ++ hi) rt := by
 have hh : ({ c with p := p, m := false } : Cl).hd = c.hd := by unfold Cl.hd; rfl
 have hg : gobj ((lo ++ [{ c with p := p, m := false }]) ++ hi) = gobj (lo ++ c :: hi) := gobj_moved hh rfl
 have hl : ∀ x, live ((lo ++ [{ c with p := p, m := false }]) ++ hi) x = live (lo ++ c :: hi) x := fun x => live_gobj (by rw [hg])
 refine ⟨⟨fun x hx h => (kept_moved hm).2 (k.root x hx (by rw [← hl]; exact h)), fun d hd hk r hr h => ?_, fun x hx => k.only x ((kept_moved hm).1 hx)⟩, Pres.of hg⟩
 rw [hl] at h
 have hk' := (kept_moved hm).1 hk
 refine (kept_moved hm).2 ?_
 simp only [List.mem_append, List.mem_singleton] at hd
 rcases hd with (hd | rfl) | hd
 ·exact k.refs d (by simp [hd]) hk' r hr h
 ·exact k.refs c (by simp) (hh ▸ hk') r hr h
 ·exact k.refs d (by simp [hd]) hk' r hr h
theorem Ki.skip {S : HS} (w : Gw S (lo ++ c :: hi)) (ok : S.Ok) (k : Ki lo (c :: hi) rt X) (hm : c.m = false) : Ki lo hi rt X ∧ Pres (lo ++ c :: hi) (lo ++ hi) rt := by
 have hne : ∀ x, kept lo hi x → c.hd ≠ x := by
  rintro x hk e
  have : ∃ d, (d ∈ lo ∨ d ∈ hi) ∧ d.hd = x := by
   rcases hk with ⟨d, hd, h⟩ | ⟨d, hd, h, _⟩
   ·exact ⟨d, .inl hd, h⟩
   ·exact ⟨d, .inr hd, h⟩
  obtain ⟨d, hd, h⟩ := this
  obtain ⟨a1, a2, _⟩ := w.other hd
  exact a2 (ghd_inj w ok a1 (by simp) (by rw [h, e]))
 have hlv : ∀ x, live (lo ++ hi) x = true → live (lo ++ c :: hi) x = true := fun x hx => by
  obtain ⟨d, hd, h⟩ := live_iff.1 hx
  refine live_iff.2 ⟨d, ?_, h⟩
  rcases List.mem_append.1 hd with hd | hd <;> simp [hd]
 refine ⟨⟨fun x hx h => (kept_out hm).2 (k.root x hx (hlv x h)), fun d hd hk r hr h => ?_, fun x hx => k.only x ((kept_out hm).1 hx)⟩, fun x V hs hx t => ?_⟩
 ·refine (kept_out hm).2 (k.refs d ?_ ((kept_out hm).1 hk) r hr (hlv r h))
  rcases List.mem_append.1 hd with hd | hd <;> simp [hd]
 ·have hall : ∀ y, y ∈ hs → kept lo (c :: hi) y := by
   refine t.all (P := kept lo (c :: hi)) ?_ ?_
   ·obtain ⟨o, ho, _⟩ := t.live t.self
    exact k.root x hx (by unfold Go.Proofs.YthfopcdammlmfaaGreatDoor.live; rw [ho]; rfl)
   ·intro y o hy ho hp r hr hrs
    obtain ⟨d, hd, hdx, rfl⟩ := gobj_some ho
    subst hdx
    obtain ⟨o', ho', _⟩ := t.live hrs
    exact k.refs d hd hp r hr (by unfold Go.Proofs.YthfopcdammlmfaaGreatDoor.live; rw [ho']; rfl)
  exact t.congr fun y hy _ => gobj_out (hne y ((kept_out hm).2 (hall y hy)))
end
structure CI (ph : Nat) (lo hi : List Cl) (p : Ms) (rt : List Nat) (X : Nat → Prop) : Prop where
 mark : ph = 1 → Mi hi rt X p ∧ Xc hi rt X ∧ mu hi p ≤ 1000000
 slide : ph = 2 → Ki lo hi rt X
def mes (ph : Nat) (hi : List Cl) (p : Ms) : Nat := if ph = 0 then 0 else if ph = 1 then mu hi p + hi.length + 2 else hi.length + 1
theorem Xc.setM {A : List Cl} {rt : List Nat} {X : Nat → Prop} {M : Nat → Bool} (x : Xc A rt X) : Xc (setM M A) rt X := by
 refine ⟨fun y hy h => x.root y hy (by rw [← live_setM]; exact h), fun c hc hX r hr h => ?_⟩
 obtain ⟨d, hd, rfl, hh⟩ := setM_of hc
 rw [hh] at hX
 exact x.refs d hd hX r hr (by rw [← live_setM]; exact h)
theorem Mi.setM {A : List Cl} {rt : List Nat} {X : Nat → Prop} {M : Nat → Bool} {p : Ms} (x : Mi A rt X p) : Mi (setM M A) rt X p := by
 refine ⟨fun y hy h => x.root y hy (by rw [← live_setM]; exact h), fun y hy => by rw [live_setM]; exact x.stk y hy, fun c hc hm hn r hr h => ?_, fun c hc hm => ?_⟩
 ·obtain ⟨d, hd, rfl, hh⟩ := setM_of hc
  rw [hh] at hm hn
  exact x.black d hd hm hn r hr (by rw [← live_setM]; exact h)
 ·obtain ⟨d, hd, rfl, hh⟩ := setM_of hc
  rw [hh] at hm ⊢
  exact x.only d hd hm
theorem mu_setM {A : List Cl} {M : Nat → Bool} {p : Ms} : mu (setM M A) p = mu A p := by
 unfold mu
 congr 1
 induction A with
 | nil => rfl
 | cons c A ih =>
   have e : Go.Proofs.YthfopcdammlmfaaGreatDoor.setM M (c :: A) = { c with m := M c.hd } :: Go.Proofs.YthfopcdammlmfaaGreatDoor.setM M A := rfl
   rw [e, List.filter_cons, List.filter_cons, hd_m]
   split
   ·rw [List.length_cons, List.length_cons, ih]
   ·exact ih
end Go.Proofs.YthfopcdammlmfaaGreatDoor
/- The collector's walks: a step. -/
namespace Go.Proofs.YthfopcdammlmfaaGreatDoor
open Go.Tm
def StepR (E : Env) (h : Heap) (L : HL) (cb mb lo0 ph : Nat) (lo hi : List Cl) (p : Ms) (rt : List Nat) (T N : Nat) (sv : Value) (X : Nat → Prop) (h' : Heap) : Prop :=
 ∃ ph' lo' hi' p' sv' S', GS E h' L cb mb lo0 ph' lo' hi' p' rt T N sv' S' ∧ CI ph' lo' hi' p' rt X ∧ Pres (lo ++ hi) (lo' ++ hi') rt ∧ mes ph' hi' p' < mes ph hi p ∧ (ph' = 0 → lo' = [] ∧ p'.2 = [] ∧ ∀ c, c ∈ hi' → X c.hd) ∧
  KX (XC L cb mb sv) h h' ∧ (∀ j, j ∈ slB sv' → j ∈ slB sv ∨ h.next ≤ j) ∧ WF E h'
theorem GS.lo0 {E : Env} {h : Heap} {L : HL} {cb mb lo0 ph : Nat} {lo hi : List Cl} {p : Ms} {rt : List Nat} {T N : Nat} {sv : Value} {S : HS} (g : GS E h L cb mb lo0 ph lo hi p rt T N sv S) (h2 : ph ≠ 2) : lo = [] := by
 have ho : S.open_ = false := by rw [g.op]; simp [h2]
 have := g.l.lo
 rw [ho] at this
 exact Cont.nil this
def SJ (E : Env) (h : Heap) (L : HL) (cb mb lo0 ph : Nat) (lo hi : List Cl) (p : Ms) (rt : List Nat) (T N : Nat) (sv : Value) (X : Nat → Prop) (lo' hi' : List Cl) (h' : Heap) : Prop :=
 ∃ sv' S', GS E h' L cb mb lo0 2 lo' hi' p rt T N sv' S' ∧ p.2 = [] ∧ Ki lo' hi' rt X ∧ Pres (lo ++ hi) (lo' ++ hi') rt ∧ KX (XC L cb mb sv) h h' ∧ (∀ j, j ∈ slB sv' → j ∈ slB sv ∨ h.next ≤ j) ∧ WF E h'
def StepJ (E : Env) (h : Heap) (L : HL) (cb mb lo0 ph : Nat) (lo hi : List Cl) (p : Ms) (rt : List Nat) (T N : Nat) (sv : Value) (X : Nat → Prop) (n : Int) (l m : Nat) (tm : Tr Value) (h' : Heap) : Prop :=
 (l = 0 ∧ ∃ (k : Int) (lo' hi' : List Cl), m = hi'.length + 1 ∧ 1 ≤ k ∧ k ≤ n ∧ hi'.length ≤ hi.length ∧ fget tm 0 = .pointer (some ⟨cb, 0, none⟩) ∧ fget tm 1 = .int .i64 k ∧ SJ E h L cb mb lo0 ph lo hi p rt T N sv X lo' hi' h') ∨
  (l = 1 ∧ m = 0 ∧ ph = 1 ∧ p.2 ≠ [] ∧ fget tm 0 = .pointer (some ⟨cb, 0, none⟩) ∧ fget tm 1 = .int .i64 n ∧ h' = h)
theorem XC.back {L : HL} {cb mb nx : Nat} {sv sv' : Value} (hs : ∀ j, j ∈ slB sv' → j ∈ slB sv ∨ nx ≤ j) : ∀ b, XC L cb mb sv' b → XC L cb mb sv b ∨ nx ≤ b := by
 intro b hb
 rcases hb with h1 | h1 | h1 | h1
 ·exact .inl (.inl h1)
 ·exact .inl (.inr (.inl h1))
 ·exact .inl (.inr (.inr (.inl h1)))
 ·rcases hs b h1 with h2 | h2
  ·exact .inl (.inr (.inr (.inr h2)))
  ·exact .inr h2
variable {E : Env} (hE : EOk E)
include hE
section
variable {h : Heap} {L : HL} {cb mb lo0 ph : Nat} {lo hi : List Cl} {p : Ms} {rt : List Nat} {T N : Nat} {sv : Value} {S : HS} (g : GS E h L cb mb lo0 ph lo hi p rt T N sv S) {X : Nat → Prop} (ci : CI ph lo hi p rt X) (hW : WF E h) (hlo : lo0 ≤ h.next)
include g ci hW hlo
theorem cstep_at {n : Int} (hn : 1 ≤ n) (hn2 : n ≤ 1048576) (hp0 : ph ≠ 0) : CallsTo E 23 [.pointer (some ⟨cb, 0, none⟩), .int .i64 n] h fun r h' =>
 (∃ b, r = .tuple #[.bool b, .int .i64 0]) ∧ StepR E h L cb mb lo0 ph lo hi p rt T N sv X h' := by
 obtain ⟨r0, v0, gc⟩ := g.c.get
 have nbc := hW.nlt gc
 have gm := g.m.get
 have nbm := hW.nlt gm
 have hle := g.le
 have e1 : decide (n < 1) = false := by simp; omega
 refine en hE Tryz.func23 rfl rfl Tryz.ntmps23 rfl (by decide +kernel) (rs := [.tmp 4, .tmp 5]) rfl ?_
 simp only [push_cast, seval, hE.P, zz]
 refine wpc_scope (StepJ E h L cb mb lo0 ph lo hi p rt T N sv X n) (hi.length + 2) ?_ ?_
 ·have hcase : ph = 1 ∨ ph = 2 := by omega
  rcases hcase with rfl | rfl
  ·simp only [push_cast, seval, hE.P, zz, gc, nbc, e1]
   refine (waiting_at hE hW g.m).mono ?_
   rintro v h ⟨rfl, rfl⟩
   simp only [push_cast, seval, hE.P, zz, gc, nbc]
   refine kif_split (fun hb => ?_) (fun hb => ?_)
   ·have hs : p.2 ≠ [] := fun e => by rw [e] at hb; simp at hb
    simp only [push_cast, seval, hE.P, zz, kgoto_goto]
    exact ⟨0, by omega, .inr ⟨rfl, rfl, rfl, hs, by simp only [push_cast, seval, hE.P, zz], by simp only [push_cast, seval, hE.P, zz], rfl⟩⟩
   ·have hs : p.2 = [] := by
     have : ¬ 0 < p.2.length := by simpa using hb
     exact List.length_eq_zero_iff.1 (by omega)
    simp only [push_cast, seval, hE.P, zz, gc, nbc]
    have hl0 := g.lo0 (by omega)
    subst hl0
    refine (stop_at hE hW g.m g.H rfl).mono ?_
    rintro v h1 ⟨rfl, H1, m1, k1, w1⟩
    have c1 := g.c.x hW k1 (sv' := .slice none 0 0) fun j hj => (by cases hj)
    obtain ⟨r1, v1, gc1⟩ := c1.get
    have hop : S.open_ = false := g.op
    simp only [push_cast, seval, hE.P, zz, gc1, nbc]
    refine (arena_at hE H1).mono ?_
    rintro v h1 ⟨rfl, rfl⟩
    simp only [push_cast, seval, hE.P, zz, gc1, nbc]
    refine (aopen_at hE H1 w1 hop).mono ?_
    rintro v h2 ⟨rfl, H2, k2, w2⟩
    have c2 := c1.b k2
    have gc2 := k2.get _ _ c1.nb gc1
    have hum := Tryz.underlying48
    simp only [push_cast, seval, hE.P, zz, gc2, nbc, hum]
    refine (watch_at hE H2 w2 (v := (Wv.co cb mb).val) rfl).mono ?_
    rintro v h3 ⟨rfl, H3, k3, w3⟩
    have gc3 := k3.get _ _ c1.nb gc2
    simp only [push_cast, seval, hE.P, zz, gc3, nbc]
    have kc : KX (fun j => j = cb) h3 (h3.put cb (.cells [.pointer (some ⟨L.ph, 0, none⟩), .pointer (some ⟨mb, 0, none⟩), .int .i64 2, .int .i64 r1, .int .i64 v1] 119 true)) := put_kx rfl
    have m3 := (m1.b k2).b k3
    have hM := g.mks rfl
    have hki := Ki.of_mi (ci.mark rfl).1 hs hM
    refine ⟨hi.length + 1, by omega, .inl ⟨rfl, n, [], hi, rfl, by omega, by omega, Nat.le_refl _, by simp only [push_cast, seval, hE.P, zz], by simp only [push_cast, seval, hE.P, zz], .slice none 0 0, _, ⟨H3.x kc fun j hj e => g.c.nb (e ▸ hj), ((g.w.wt _).gap _ _ _).wt _, ⟨rfl, ?_, fun _ => Nat.zero_le _⟩, g.rt, rfl, rfl, g.bd.low (S' := _) (Nat.le_refl _) rfl rfl rfl rfl, ?_, ⟨g.c.nb, g.c.ne, fun hj => (by cases hj), _, _, by rw [get_put, if_pos rfl]; rfl⟩, fun hp => (by cases hp), fun _ => hs, by omega⟩, hs, hki, Pres.refl _ _, ?_, fun j hj => (by cases hj), w3.put gc3⟩⟩
    ·have := g.l.hi
     rw [hop] at this; exact this
    ·rw [hs]
     exact m3.x kc g.c.ne.symm fun j hj => (by cases hj)
    ·refine (((k1.mono fun b hb => hb.c).trans (k2.x fun b hb => .inl hb)).trans (k3.x fun b hb => .inl hb)).trans (put_kx (.inr (.inr (.inl rfl))))
  ·simp only [push_cast, seval, hE.P, zz, gc, nbc, e1]
   have hk := ci.slide rfl
   have hs : p.2 = [] := g.st (by decide)
   exact ⟨hi.length + 1, by omega, .inl ⟨rfl, n, lo, hi, rfl, by omega, by omega, Nat.le_refl _, by simp only [push_cast, seval, hE.P, zz], by simp only [push_cast, seval, hE.P, zz], sv, S, g, hs, hk, Pres.refl _ _, KX.refl _ _, fun j hj => .inl hj, hW⟩⟩
 ·intro l m tm h' hJ
  unfold StepJ at hJ
  rcases hJ with ⟨rfl, k, lo', hi', rfl, hk1, hk2, hlen, f0, f1, sv', S', g', hs, ki', hpr, kx, hb', w'⟩ | ⟨rfl, rfl, rfl, hs, f0, f1, rfl⟩
  ·refine ⟨_, rfl, ?_⟩
   simp only [push_cast, seval, hE.P, zz, f0]
   refine (slide_at hE g' w').mono ?_
   intro v h2 hR
   cases hi' with
   | nil =>
     obtain ⟨rfl, ⟨S2, g2⟩, k2, w2⟩ := hR
     simp only [push_cast, seval, hE.P, zz]
     refine ⟨⟨_, rfl⟩, 0, [], lo', p, sv', S2, g2, ⟨fun e => (by cases e), fun e => (by cases e)⟩, ?_, ?_, fun _ => ⟨rfl, hs, fun c hc => ki'.only _ (.inl ⟨c, hc, rfl⟩)⟩, kx.then hW k2 (XC.back hb'), hb', w2⟩
     ·have := hpr
      rw [List.append_nil] at this
      exact this
     ·unfold mes
      rw [if_pos rfl, if_neg hp0]
      split <;> omega
   | cons c hi' =>
     obtain ⟨rfl, q1, q2, k2, w2⟩ := hR
     have e3 : IntKind.i64.wrap (k - 1) = k - 1 := wr64 (by omega) (by omega)
     have key : ∃ lo2 S2, GS E h2 L cb mb lo0 2 lo2 hi' p rt T N sv' S2 ∧ Ki lo2 hi' rt X ∧ Pres (lo' ++ c :: hi') (lo2 ++ hi') rt := by
      cases hm : c.m with
      | true =>
        obtain ⟨S2, g2⟩ := q1 hm
        obtain ⟨a, b⟩ := ki'.keep (p := S'.low) hm
        exact ⟨_, S2, g2, a, b⟩
      | false =>
        obtain ⟨S2, g2⟩ := q2 hm
        obtain ⟨a, b⟩ := ki'.skip g'.w g'.H.ok hm
        exact ⟨_, S2, g2, a, b⟩
     obtain ⟨lo2, S2, g2, a, b⟩ := key
     have kx2 := kx.then hW k2 (XC.back hb')
     have hlen2 : hi'.length + 1 ≤ hi.length := by simpa using hlen
     simp only [push_cast, seval, hE.P, zz, f1, e3]
     refine kif_split (fun hb => ?_) (fun hb => ?_)
     ·have hk : 0 < k - 1 := by simpa using hb
      simp only [push_cast, seval, hE.P, zz, kgoto_goto]
      exact ⟨hi'.length + 1, by simp, .inl ⟨rfl, k - 1, lo2, hi', rfl, by omega, by omega, by omega, by simp only [push_cast, seval, hE.P, zz, f0], by simp only [push_cast, seval, hE.P, zz], sv', S2, g2, hs, a, hpr.trans b, kx2, hb', w2⟩⟩
     ·simp only [push_cast, seval, hE.P, zz]
      refine ⟨⟨_, rfl⟩, 2, lo2, hi', p, sv', S2, g2, ⟨fun e => (by cases e), fun _ => a⟩, hpr.trans b, ?_, fun e => (by cases e), kx2, hb', w2⟩
      unfold mes
      rw [if_neg (by decide), if_neg (by decide), if_neg hp0]
      split <;> omega
  ·refine ⟨_, rfl, ?_⟩
   simp only [push_cast, seval, hE.P, zz, f0, f1, gc, nbc]
   have hl0 := g.lo0 (by omega)
   subst hl0
   obtain ⟨ci1, ci2, ci3⟩ := ci.mark rfl
   have hM := g.mks rfl
   have u : Uq hi := by have := g.w.uq g.H.ok; exact this
   refine (mstep_at hE (M := p.1) (stk := p.2) (A := hi) g.H (by rw [hM]; exact g.w) hW g.m ci3 hlo (Mi hi rt X) ci1 (fun q hq x hx => (hq.stk x hx).1) (fun M s c hc hq => Mi.unit ci2 u hc hq) hn hn2).mono ?_
   rintro v h2 ⟨⟨b, rfl⟩, wf, sv', q, hq, hq1, hq2, H2, W2, m2, k2, hb2, w2⟩
   have c2 := g.c.x hW k2 hb2
   have hop : S.open_ = false := g.op
   have hq1 : mu hi q ≤ mu hi p := hq1
   have hq2 : p.2 ≠ [] → mu hi q < mu hi p := hq2
   simp only [push_cast, seval, hE.P, zz]
   refine ⟨⟨_, rfl⟩, 1, [], setM q.1 hi, q, sv', _, ⟨H2, W2, ⟨g.l.lo, ?_, g.l.le⟩, g.rt, g.wt, g.op, g.bd.low (S' := _) (Nat.le_refl _) rfl rfl rfl rfl, m2, c2, fun _ => setM_setM _ _ _, fun e => absurd rfl e, by omega⟩, ⟨fun _ => ⟨hq.setM, ci2.setM, by rw [mu_setM]; omega⟩, fun e => (by cases e)⟩, Pres.of gobj_setM, ?_, fun e => (by cases e), k2.mono fun b hb => hb.c, hb2, w2⟩
   ·exact g.l.hi.setM
   ·have := hq2 hs
    unfold mes
    rw [if_neg (by decide), if_pos rfl, if_neg (by decide), if_pos rfl, mu_setM, setM_len]
    omega
end
end Go.Proofs.YthfopcdammlmfaaGreatDoor
namespace Go.Proofs.YthfopcdammlmfaaGreatDoor
open Go.Tm
def EndR (E : Env) (h : Heap) (L : HL) (cb mb lo0 : Nat) (A0 : List Cl) (rt : List Nat) (T N : Nat) (sv : Value) (ex : Prop) (X : Nat → Prop) (h' : Heap) : Prop :=
 ∃ A q sv' S', GS E h' L cb mb lo0 0 [] A q rt T N sv' S' ∧ Pres A0 A rt ∧ (ex → ∀ c, c ∈ A → X c.hd) ∧ KX (XC L cb mb sv) h h' ∧ (∀ j, j ∈ slB sv' → j ∈ slB sv ∨ h.next ≤ j) ∧ WF E h'
variable {E : Env} (hE : EOk E)
include hE
theorem cnew_at {h : Heap} (hW : WF E h) {p : Nat} : CallsTo E 20 [.pointer (some ⟨p, 0, none⟩)] h fun r h' =>
 r = .pointer (some ⟨h.next + 1, 0, none⟩) ∧ h'.get h.next = some (.cells [.pointer (some ⟨p, 0, none⟩), .slice none 0 0, .bool false] 166 true) ∧
 h'.get (h.next + 1) = some (.cells [.pointer (some ⟨p, 0, none⟩), .pointer (some ⟨h.next, 0, none⟩), .int .i64 0, .int .i64 0, .int .i64 0] 119 true) ∧ h'.next = h.next + 2 ∧ Keep h h' ∧ WF E h' := by
 refine en hE Tryz.func20 rfl rfl Tryz.ntmps20 rfl (by decide +kernel) (rs := [.tmp 2]) rfl ?_
 simp only [push_cast, seval, hE.P, zz]
 refine (mnew_at hE hW).mono ?_
 rintro v h1 ⟨rfl, g1, hn1, k1, w1⟩
 have k2 := (Keep.refl h1).push (o := .cells [.pointer (some ⟨p, 0, none⟩), .pointer (some ⟨h.next, 0, none⟩), .int .i64 0, .int .i64 0, .int .i64 0] 119 true) w1
 simp only [push_cast, seval, hE.P, zz, w1.nb, w1.nb0]
 exact ⟨by rw [hn1], by rw [if_neg (by omega)]; exact g1, by rw [if_pos hn1], by omega, k1.trans k2, w1.push _⟩
section
variable {h : Heap} {L : HL} {cb mb lo0 ph : Nat} {lo hi : List Cl} {p : Ms} {rt : List Nat} {T N : Nat} {sv : Value} {S : HS}
theorem cphase_at (g : GS E h L cb mb lo0 ph lo hi p rt T N sv S) (hW : WF E h) : CallsTo E 21 [.pointer (some ⟨cb, 0, none⟩)] h fun r h' => r = .int .i64 ph ∧ h' = h := by
 obtain ⟨r0, v0, gc⟩ := g.c.get
 have nbc := hW.nlt gc
 refine en hE Tryz.func21 rfl rfl Tryz.ntmps21 rfl (by decide +kernel) (rs := [.tmp 2]) rfl ?_
 simp only [push_cast, seval, hE.P, zz, gc, nbc]
theorem cstart_at (g : GS E h L cb mb lo0 0 lo hi p rt T N sv S) (hW : WF E h) (hlo : lo0 ≤ h.next) (hr : ∀ x, x ∈ rt → x < 18446744073709551616) {X : Nat → Prop} (hX : Xc hi rt X) : CallsTo E 22 [.pointer (some ⟨cb, 0, none⟩)] h fun r h' =>
 r = .int .i64 0 ∧ ∃ hi' q sv' S', GS E h' L cb mb lo0 1 [] hi' q rt T N sv' S' ∧ CI 1 [] hi' q rt X ∧ Pres (lo ++ hi) hi' rt ∧ KX (XC L cb mb sv) h h' ∧ (∀ j, j ∈ slB sv' → j ∈ slB sv ∨ h.next ≤ j) ∧ WF E h' := by
 obtain ⟨r0, v0, gc⟩ := g.c.get
 have nbc := hW.nlt gc
 have hl0 := g.lo0 (by omega)
 subst hl0
 have hp := g.st (by decide)
 have hrt := g.rt
 subst hrt
 have hop : S.open_ = false := g.op
 have hlen : hi.length ≤ 16384 := by
  have h1 := g.w.cnt
  have h2 := g.H.ok.cnt
  have h3 := g.bd.nS
  rw [List.nil_append] at h1
  omega
 have w0 : Gw S hi := g.w
 refine en hE Tryz.func22 rfl rfl Tryz.ntmps22 rfl (by decide +kernel) (rs := [.tmp 2]) rfl ?_
 simp only [push_cast, seval, hE.P, zz, gc, nbc]
 have kc : KX (fun j => j = cb) h (h.put cb (.cells [.pointer (some ⟨L.ph, 0, none⟩), .pointer (some ⟨mb, 0, none⟩), .int .i64 1, .int .i64 r0, .int .i64 v0] 119 true)) := put_kx rfl
 have w1 : WF E (h.put cb (.cells [.pointer (some ⟨L.ph, 0, none⟩), .pointer (some ⟨mb, 0, none⟩), .int .i64 1, .int .i64 r0, .int .i64 v0] 119 true)) := hW.put gc
 have H1 := g.H.x kc fun j hj e => g.c.nb (e ▸ hj)
 have m1 := g.m.x kc g.c.ne.symm fun j hj e => g.c.sep (e ▸ hj)
 have c1 : CoM E (h.put cb (.cells [.pointer (some ⟨L.ph, 0, none⟩), .pointer (some ⟨mb, 0, none⟩), .int .i64 1, .int .i64 r0, .int .i64 v0] 119 true)) L cb mb sv 1 := ⟨g.c.nb, g.c.ne, g.c.sep, r0, v0, by rw [get_put, if_pos rfl]; rfl⟩
 have hn1 : (h.put cb (.cells [.pointer (some ⟨L.ph, 0, none⟩), .pointer (some ⟨mb, 0, none⟩), .int .i64 1, .int .i64 r0, .int .i64 v0] 119 true)).next = h.next := by simp
 generalize h.put cb (.cells [.pointer (some ⟨L.ph, 0, none⟩), .pointer (some ⟨mb, 0, none⟩), .int .i64 1, .int .i64 r0, .int .i64 v0] 119 true) = h1 at *
 obtain ⟨_, _, gc1⟩ := c1.get
 have m1' : MkM E h1 L mb lo0 sv p.2 false := m1
 refine (mstart_at hE H1 w0 g.l hop w1 m1' hlen hr (by omega)).mono ?_
 rintro v h2 ⟨rfl, wf, sv', H2, W2, m2, k2, hb2, w2⟩
 have c2 := c1.x w1 k2 hb2
 simp only [push_cast, seval, hE.P, zz]
 have hmi := Mi.start hX
 have hmu : mu hi (linkL hi (fun _ => false, []) S.roots) ≤ 1000000 := by
  have h5 := linkL_mu (A := hi) S.roots (fun _ => false, [])
  have h6 : mu hi (fun _ => false, []) ≤ hi.length := by
   unfold mu
   simp only [List.length_nil, Nat.zero_add]
   exact List.length_filter_le _ _
  omega
 refine ⟨setM (linkL hi (fun _ => false, []) S.roots).1 hi, linkL hi (fun _ => false, []) S.roots, sv', _, ⟨H2, W2, ⟨?_, ?_, fun h => ?_⟩, rfl, rfl, hop, g.bd.low (S' := _) (Nat.le_refl _) rfl rfl rfl rfl, m2, c2, fun _ => setM_setM _ _ _, fun e => absurd rfl e, by omega⟩, ⟨fun _ => ⟨hmi.setM, hX.setM, by rw [mu_setM]; exact hmu⟩, fun e => (by cases e)⟩, Pres.of gobj_setM, ?_, fun j hj => ?_, w2⟩
 ·exact g.l.lo
 ·exact g.l.hi.setM
 ·exact g.l.le h
 ·exact (kc.mono fun b hb => .inr (.inr (.inl hb))).trans (k2.mono fun b hb => hb.c)
 ·rcases hb2 j hj with h5 | h5
  ·exact .inl h5
  ·exact .inr (by omega)
theorem cend_at (g : GS E h L cb mb lo0 ph lo hi p rt T N sv S) {X : Nat → Prop} (ci : CI ph lo hi p rt X) (hW : WF E h) (hlo : lo0 ≤ h.next) : CallsTo E 73 [.pointer (some ⟨cb, 0, none⟩)] h fun r h' =>
 r = .tuple #[] ∧ EndR E h L cb mb lo0 (lo ++ hi) rt T N sv (ph ≠ 0) X h' := by
 refine en hE Tryz.func73 rfl rfl Tryz.ntmps73 rfl (by decide +kernel) (rs := []) rfl ?_
 refine wpc_loop (fun n tm h' => fget tm 0 = .pointer (some ⟨cb, 0, none⟩) ∧ ∃ (ph' : Nat) (lo' hi' : List Cl) (p' : Ms) (sv' : Value) (S' : HS), n = mes ph' hi' p' ∧ GS E h' L cb mb lo0 ph' lo' hi' p' rt T N sv' S' ∧ CI ph' lo' hi' p' rt X ∧ Pres (lo ++ hi) (lo' ++ hi') rt ∧ (ph' = 0 → ph ≠ 0 → ∀ c, c ∈ hi' → X c.hd) ∧
  KX (XC L cb mb sv) h h' ∧ (∀ j, j ∈ slB sv' → j ∈ slB sv ∨ h.next ≤ j) ∧ WF E h') (mes ph hi p) ?_ ?_
 ·exact ⟨by simp only [push_cast, seval, hE.P, zz], ph, lo, hi, p, sv, S, rfl, g, ci, Pres.refl _ _, fun e hn => absurd e hn, KX.refl _ _, fun j hj => .inl hj, hW⟩
 ·rintro n tm h' ⟨f0, ph', lo', hi', p', sv', S', rfl, g', ci', hpr, hon, kx, hb, w'⟩
  obtain ⟨r0, v0, gc⟩ := g'.c.get
  have nbc := w'.nlt gc
  simp only [push_cast, seval, hE.P, zz, f0, gc, nbc]
  refine kif_split (fun hb2 => ?_) (fun hb2 => ?_)
  ·have hne : ph' ≠ 0 := by
    have : ¬ (ph' : Int) = 0 := by simpa using hb2
    omega
   simp only [push_cast, seval, hE.P, zz, f0]
   refine (cstep_at hE g' ci' w' (by have := kx.next; omega) (n := 1048576) (by omega) (by omega) hne).mono ?_
   rintro v h2 ⟨⟨b, rfl⟩, ph2, lo2, hi2, p2, sv2, S2, g2, ci2, pr2, ms2, on2, k2, hb3, w2⟩
   simp only [push_cast, seval, hE.P, zz, f0]
   refine ⟨mes ph2 hi2 p2, ms2, ph2, lo2, hi2, p2, sv2, S2, rfl, g2, ci2, hpr.trans pr2, fun e _ => (on2 e).2.2, kx.then hW k2 (XC.back hb), fun j hj => ?_, w2⟩
   rcases hb3 j hj with h5 | h5
   ·exact hb j h5
   ·right; have := kx.next; omega
  ·have hz : ph' = 0 := by
    have : (ph' : Int) = 0 := by simpa using hb2
    omega
   subst hz
   have hl0 := g'.lo0 (by omega)
   subst hl0
   simp only [push_cast, seval, hE.P, zz]
   exact ⟨hi', p', sv', S', g', hpr, fun hn => hon rfl hn, kx, hb, w'⟩
theorem cfull_at (g : GS E h L cb mb lo0 ph lo hi p rt T N sv S) (ci : CI ph lo hi p rt fun _ => True) (hW : WF E h) (hlo : lo0 ≤ h.next) (hr : ∀ x, x ∈ rt → x < 18446744073709551616) {X : Nat → Prop} (hX : ∀ A S', Gw S' A → S'.Ok → Pres (lo ++ hi) A rt → Xc A rt X) : CallsTo E 24 [.pointer (some ⟨cb, 0, none⟩)] h fun r h' =>
 (∃ z : Int, r = .tuple #[.int .i64 z, .int .i64 0]) ∧ EndR E h L cb mb lo0 (lo ++ hi) rt T N sv True X h' := by
 obtain ⟨r0, v0, gc⟩ := g.c.get
 have nbc := hW.nlt gc
 refine en hE Tryz.func24 rfl rfl Tryz.ntmps24 rfl (by decide +kernel) (rs := [.tmp 2, .tmp 3]) rfl ?_
 simp only [push_cast, seval, hE.P, zz, gc, nbc]
 refine (arena_at hE g.H).mono ?_
 rintro v h ⟨rfl, rfl⟩
 simp only [push_cast, seval, hE.P, zz, gc, nbc]
 refine (free_at hE g.H).mono ?_
 rintro v h ⟨rfl, rfl⟩
 simp only [push_cast, seval, hE.P, zz, gc, nbc]
 refine (cend_at hE g ci hW hlo).mono ?_
 rintro v h1 ⟨rfl, A1, q1, sv1, S1, g1, pr1, _, k1, hb1, w1⟩
 simp only [push_cast, seval, hE.P, zz]
 have hx1 := hX A1 S1 g1.w g1.H.ok pr1
 have hn1 := k1.next
 refine (cstart_at hE g1 w1 (by omega) hr hx1).mono ?_
 rintro v h2 ⟨rfl, hi2, q2, sv2, S2, g2, ci2, pr2, k2, hb2, w2⟩
 have hn2 := k2.next
 simp only [push_cast, seval, hE.P, zz]
 refine (cend_at hE g2 ci2 w2 (by omega)).mono ?_
 rintro v h3 ⟨rfl, A3, q3, sv3, S3, g3, pr3, on3, k3, hb3, w3⟩
 obtain ⟨r3, v3, gc3⟩ := g3.c.get
 have nbc3 := w3.nlt gc3
 simp only [push_cast, seval, hE.P, zz, gc3, nbc3]
 refine (arena_at hE g3.H).mono ?_
 rintro v h3 ⟨rfl, rfl⟩
 simp only [push_cast, seval, hE.P, zz, gc3, nbc3]
 refine (free_at hE g3.H).mono ?_
 rintro v h3 ⟨rfl, rfl⟩
 simp only [push_cast, seval, hE.P, zz, gc3, nbc3]
 have hb12 : ∀ j, j ∈ slB sv2 → j ∈ slB sv ∨ h.next ≤ j := fun j hj => by
  rcases hb2 j hj with h5 | h5
  ·exact hb1 j h5
  ·right; omega
 have k12 := k1.then hW k2 (XC.back hb1)
 refine ⟨⟨_, rfl⟩, A3, q3, sv3, S3, g3, (pr1.trans pr2).trans pr3, fun _ => on3 (by decide), k12.then hW k3 (XC.back hb12), fun j hj => ?_, w3⟩
 rcases hb3 j hj with h5 | h5
 ·exact hb12 j h5
 ·right; omega
end
end Go.Proofs.YthfopcdammlmfaaGreatDoor
