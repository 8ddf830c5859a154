/- Values' objects while a collection slides: the plain law. -/
/- Merged by a program of ours: K6 K7. -/
import Derived.Test.YthfopcdammlmfaaGreatDoorK2
set_option maxRecDepth 10000
set_option linter.all false
set_option linter.unusedSimpArgs false
set_option linter.unusedVariables false
/- The collector: what it is in memory; a unit of its second phase. -/
namespace Go.Proofs.YthfopcdammlmfaaGreatDoor
open Go.Tm
structure CoM (E : Env) (h : Heap) (L : HL) (cb mb : Nat) (sv : Value) (ph : Nat) : Prop where
 nb : cb ∉ L.blocks
 ne : cb ≠ mb
 sep : cb ∉ slB sv
 get : ∃ r v : Int, h.get cb = some (.cells [.pointer (some ⟨L.ph, 0, none⟩), .pointer (some ⟨mb, 0, none⟩), .int .i64 ph, .int .i64 r, .int .i64 v] 119 true)
def wvOf (ph cb mb : Nat) : Wv := if ph = 0 then .no else if ph = 1 then .mk mb else .co cb mb
theorem MkM.x {E : Env} {h h' : Heap} {L : HL} {mb lo0 : Nat} {sv : Value} {stk : List Nat} {run : Bool} (m : MkM E h L mb lo0 sv stk run) {X : Nat → Prop} (k : KX X h h') (h1 : ¬ X mb) (h2 : ∀ j, j ∈ slB sv → ¬ X j) : MkM E h' L mb lo0 sv stk run :=
 ⟨m.nb, k.get _ _ h1 m.get, m.own.but fun b o hb hg => k.get b o (h2 b hb) hg, m.sep⟩
structure Bd (S : HS) (T N : Nat) : Prop where
 nN : N ≤ 1000000
 top : S.top ≤ T
 gen : ∀ i, i < S.nS → (S.sl i).gen + S.cnt ≤ 1 + N
 W : S.W = 65536
 nS : S.nS = 16384
structure GS (E : Env) (h : Heap) (L : HL) (cb mb lo0 ph : Nat) (lo hi : List Cl) (p : Ms) (rt : List Nat) (T N : Nat) (sv : Value) (S : HS) : Prop where
 H : IsH E h L S
 w : Gw S (lo ++ hi)
 l : Lay S lo hi
 rt : S.roots = rt
 wt : S.wt = (wvOf ph cb mb).val
 op : S.open_ = (ph == 2)
 bd : Bd S T N
 m : MkM E h L mb lo0 sv p.2 (ph == 1)
 c : CoM E h L cb mb sv ph
 mks : ph = 1 → setM p.1 hi = hi
 st : ph ≠ 1 → p.2 = []
 le : ph ≤ 2
def XC (L : HL) (cb mb : Nat) (sv : Value) (b : Nat) : Prop := b ∈ L.blocks ∨ b = mb ∨ b = cb ∨ b ∈ slB sv
theorem XM.c {L : HL} {cb mb : Nat} {sv : Value} {b : Nat} (h : XM L mb sv b) : XC L cb mb sv b := by
 rcases h with h | h | h
 ·exact .inl h
 ·exact .inr (.inl h)
 ·exact .inr (.inr (.inr h))
theorem CoM.b {E : Env} {h h' : Heap} {L : HL} {cb mb ph : Nat} {sv : Value} (m : CoM E h L cb mb sv ph) (k : KeepB L h h') : CoM E h' L cb mb sv ph := by
 obtain ⟨a, b, c, r, v, g⟩ := m
 exact ⟨a, b, c, r, v, k.get _ _ a g⟩
theorem CoM.x {E : Env} {h h' : Heap} {L : HL} {cb mb ph : Nat} {sv sv' : Value} (hW : WF E h) (m : CoM E h L cb mb sv ph) (k : KX (XM L mb sv) h h') (hs : ∀ j, j ∈ slB sv' → j ∈ slB sv ∨ h.next ≤ j) : CoM E h' L cb mb sv' ph := by
 obtain ⟨a, b, c, r, v, g⟩ := m
 refine ⟨a, b, fun hc => ?_, r, v, k.get _ _ (fun hx => ?_) g⟩
 ·rcases hs _ hc with h1 | h1
  ·exact c h1
  ·have := (hW.live _ _ g).2; omega
 ·rcases hx with h1 | h1 | h1
  ·exact a h1
  ·exact b h1
  ·exact c h1
theorem CoM.keep {E : Env} {h h' : Heap} {L : HL} {cb mb ph : Nat} {sv : Value} (m : CoM E h L cb mb sv ph) (k : Keep h h') : CoM E h' L cb mb sv ph := m.b (k.b L)
theorem Bd.low {S : HS} {T N : Nat} (b : Bd S T N) {S' : HS} (h1 : S'.top ≤ S.top) (h2 : S'.sl = S.sl) (h3 : S'.cnt = S.cnt) (h4 : S'.W = S.W) (h5 : S'.nS = S.nS) : Bd S' T N :=
 ⟨b.nN, Nat.le_trans h1 b.top, fun i hi => by rw [h2, h3]; exact b.gen i (h5 ▸ hi), h4.trans b.W, h5.trans b.nS⟩
theorem Gw.close {S : HS} {lo : List Cl} (w : Gw S (lo ++ [])) (l : Lay S lo []) (ho : S.open_ = true) : S.high = S.top ∧ S.low ≤ S.top ∧ Gw { S with top := S.low, open_ := false, low := 0, high := 0 } ([] ++ lo) ∧ Lay { S with top := S.low, open_ := false, low := 0, high := 0 } [] lo := by
 have h1 := l.hi
 have h2 := l.lo
 have h3 := l.le ho
 rw [if_pos ho] at h1 h2
 have h1' : S.high = S.top := h1
 rw [List.append_nil] at w
 refine ⟨h1', by omega, ⟨fun c hc => ?_, w.ord, w.only, w.cnt, w.chain_of (S' := { S with top := S.low, open_ := false, low := 0, high := 0 }) rfl rfl rfl rfl, w.out⟩, ⟨rfl, h2, fun h => by cases h⟩⟩
 have s := w.sits c hc
 exact ⟨s.is, s.head, s.refs, s.ws, (Cont.mem h2 c hc).2, s.lt, s.taken, s.at_, s.gen⟩
theorem Bd.skip {S : HS} {T N i : Nat} (b : Bd S T N) (hi : i < S.nS) (h0 : 0 < S.cnt) : Bd (S.skip1 i) T N := by
 refine ⟨b.nN, b.top, fun j hj => ?_, b.W, b.nS⟩
 have := b.gen j hj
 have hi := b.gen i hi
 show (updN S.sl i _ j).gen + (S.cnt - 1) ≤ 1 + N
 unfold updN
 split
 ·rename_i e
  show (S.sl i).gen + 1 + (S.cnt - 1) ≤ 1 + N
  omega
 ·omega
theorem Bd.keep {S : HS} {T N i : Nat} (b : Bd S T N) (hi : i < S.nS) : Bd (S.keep1 i) T N := by
 refine ⟨b.nN, b.top, fun j hj => ?_, b.W, b.nS⟩
 have := b.gen j hj
 have hi := b.gen i hi
 show (updN S.sl i _ j).gen + S.cnt ≤ 1 + N
 unfold updN
 split
 ·exact hi
 ·exact this
def SlideR (E : Env) (h : Heap) (L : HL) (cb mb lo0 : Nat) (lo : List Cl) (p : Ms) (rt : List Nat) (T N : Nat) (sv : Value) (S : HS) : List Cl → Value → Heap → Prop
 | [], r, h' => r = .bool true ∧ (∃ S', GS E h' L cb mb lo0 0 [] lo p rt T N sv S') ∧ KX (XC L cb mb sv) h h' ∧ WF E h'
 | c :: hi, r, h' => r = .bool false ∧ (c.m = true → ∃ S', GS E h' L cb mb lo0 2 (lo ++ [{ c with p := S.low, m := false }]) hi p rt T N sv S') ∧ (c.m = false → ∃ S', GS E h' L cb mb lo0 2 lo hi p rt T N sv S') ∧ KX (XC L cb mb sv) h h' ∧ WF E h'
variable {E : Env} (hE : EOk E)
include hE
section
variable {h : Heap} {L : HL} {cb mb lo0 : Nat} {lo hi : List Cl} {p : Ms} {rt : List Nat} {T N : Nat} {sv : Value} {S : HS} (g : GS E h L cb mb lo0 2 lo hi p rt T N sv S) (hW : WF E h)
include g hW
theorem slide_at : CallsTo E 71 [.pointer (some ⟨cb, 0, none⟩)] h (SlideR E h L cb mb lo0 lo p rt T N sv S hi) := by
 obtain ⟨r0, v0, gc⟩ := g.c.get
 have nbc := hW.nlt gc
 have H := g.H
 have w := g.w
 have hop : S.open_ = true := g.op
 have hhi := H.ok.high
 have htop := H.ok.top
 have hWm := H.ok.W
 refine en hE Tryz.func71 rfl rfl Tryz.ntmps71 rfl (by decide +kernel) (rs := [.tmp 2]) rfl ?_
 simp only [push_cast, seval, hE.P, zz, gc, nbc]
 refine (arena_at hE H).mono ?_
 rintro v h ⟨rfl, rfl⟩
 simp only [push_cast, seval, hE.P, zz]
 refine (agap_at hE H).mono ?_
 rintro v h ⟨rfl, rfl⟩
 simp only [push_cast, seval, hE.P, zz]
 refine (ahead_at hE H hW (a := S.high) (by omega)).mono ?_
 rintro v h1 ⟨rfl, k1, w1⟩
 obtain ⟨d, hd⟩ : ∃ d, d = headAt S S.high := ⟨_, rfl⟩
 rw [← hd]
 have k2 := k1.push (o := .cells [.int .i64 d.tag, .int .i64 d.refs, .int .i64 d.size, .bool d.mark, .int .i64 d.owner] 103 true) w1
 have w2 := w1.push (.cells [.int .i64 d.tag, .int .i64 d.refs, .int .i64 d.size, .bool d.mark, .int .i64 d.owner] 103 true)
 have g2 : (h1.push (.cells [.int .i64 d.tag, .int .i64 d.refs, .int .i64 d.size, .bool d.mark, .int .i64 d.owner] 103 true)).get h1.next = some (.cells [.int .i64 d.tag, .int .i64 d.refs, .int .i64 d.size, .bool d.mark, .int .i64 d.owner] 103 true) := by rw [get_push, if_pos rfl]
 have nb1 : (h1.next < E.base) = False := w1.nb0
 simp only [push_cast, seval, hE.P, zz, w1.nb, w1.nb0]
 generalize h1.push (.cells [.int .i64 d.tag, .int .i64 d.refs, .int .i64 d.size, .bool d.mark, .int .i64 d.owner] 103 true) = h2 at *
 have H2 := H.keep k2
 refine (top_at hE H2).mono ?_
 rintro v h2 ⟨rfl, rfl⟩
 have gc2 := k2.get _ _ gc
 have hnxt : ∀ b o, h.get b = some o → b ≠ h1.next := fun b o hb e => by
  have := (hW.live _ _ hb).2
  have := k1.next
  omega
 cases hi with
 | nil =>
   obtain ⟨e1, e2, w', l'⟩ := w.close g.l hop
   have e3 : ((S.high : Int) == S.top) = true := by simp [e1]
   simp only [push_cast, seval, hE.P, zz, e3, awanted]
   refine (aclose_at hE H2 w2 hop e1).mono ?_
   rintro v h3 ⟨rfl, H3, k3, w3⟩
   have gc3 := k3.get _ _ g.c.nb gc2
   simp only [push_cast, seval, hE.P, zz, gc3, nbc]
   refine (watch_at hE H3 w3 (v := .nilIface) rfl).mono ?_
   rintro v h4 ⟨rfl, H4, k4, w4⟩
   have gc4 := k4.get _ _ g.c.nb gc3
   simp only [push_cast, seval, hE.P, zz, gc4, nbc]
   have m4 := ((g.m.keep k2).b k3).b k4
   have c4 := ((g.c.keep k2).b k3).b k4
   have kx : KX (XC L cb mb sv) h (h4.put cb (.cells [.pointer (some ⟨L.ph, 0, none⟩), .pointer (some ⟨mb, 0, none⟩), .int .i64 0, .int .i64 (IntKind.i64.wrap (r0 + 1)), .int .i64 v0] 119 true)) :=
    (((k2.x _).trans (k3.x fun b hb => .inl hb)).trans (k4.x fun b hb => .inl hb)).trans (put_kx (.inr (.inr (.inl rfl))))
   have kc : KX (fun j => j = cb) h4 (h4.put cb (.cells [.pointer (some ⟨L.ph, 0, none⟩), .pointer (some ⟨mb, 0, none⟩), .int .i64 0, .int .i64 (IntKind.i64.wrap (r0 + 1)), .int .i64 v0] 119 true)) := put_kx rfl
   refine ⟨rfl, ⟨_, ⟨H4.x kc fun j hj e => g.c.nb (e ▸ hj), w'.wt _, ⟨l'.lo, l'.hi, l'.le⟩, g.rt, rfl, rfl, g.bd.low (S' := _) e2 rfl rfl rfl rfl, m4.x kc g.c.ne.symm fun j hj e => g.c.sep (e ▸ hj), ⟨g.c.nb, g.c.ne, g.c.sep, _, _, by rw [get_put, if_pos rfl]; rfl⟩, fun hp => (by cases hp), fun _ => g.st (by decide), by omega⟩⟩, kx, w4.put gc4⟩
 | cons c hi =>
   obtain ⟨p1, p2, p3, p4, p5⟩ := Lay.at_ g.l hop
   obtain ⟨z1, z2, z3⟩ := Lay.size w g.l H.ok hop
   have hcm : c ∈ lo ++ c :: hi := by simp
   have hA := w.isAt H.ok hcm
   have hH := w.headAt H.ok hcm
   rw [p1] at hA hH
   have hst := w.sits c hcm
   have hdl := (w.hd_lt H.ok hcm).1
   have hof : hnd S c.s = c.hd := by unfold hnd Cl.hd; rw [hst.gen]
   rw [hH] at hd
   subst hd
   have e3 : ((S.high : Int) == S.top) = false := by simp; omega
   simp only [push_cast, seval, hE.P, zz, e3, hA, if_true]
   refine wdraw_pairsF [(6, 4)] (by rw [hE.P]; decide +kernel) (by rw [hE.P]; decide +kernel) (by rw [hE.P]; decide +kernel) ?_
   intro F hF
   simp only [push_cast, seval, hE.P, zz, wpu_nil, wpu_cons, wpu_guard, gc2, nbc]
   refine (table_at hE H2).mono ?_
   rintro v h2 ⟨rfl, rfl⟩
   simp only [push_cast, seval, hE.P, zz, wpu_nil, wpu_cons, wpu_guard, g2, nb1]
   refine (tofG_at hE H2 hst.lt hst.taken).mono ?_
   rintro v h2 ⟨rfl, rfl⟩
   rw [hof]
   simp only [push_cast, seval, hE.P, zz, wpu_nil, wpu_cons, wpu_guard, g2, nb1]
   refine hF _ (fun pr hpr => ?_) ?_
   ·simp only [List.mem_singleton] at hpr
    subst hpr
    simp only [push_cast, seval, hE.P, zz, pairOk, g2, nb1]
   simp only [push_cast, seval, hE.P, zz, g2, nb1]
   have hsl : slotOf S c.hd = some c.s := w.slotOf H.ok hcm
   have hcnt : 0 < S.cnt := by rw [w.cnt]; simp; omega
   have hgb := g.bd.gen c.s hst.lt
   have hNb := g.bd.nN
   cases hm : c.m with
   | false =>
     obtain ⟨w', l'⟩ := Gw.skip w g.l H.ok hop
     simp only [push_cast, seval, hE.P, zz, hm]
     refine (askip_at hE H2 w2 hop z3 (by rw [z1]; exact z2)).mono ?_
     rintro v h3 ⟨rfl, H3, k3, w3⟩
     have gc3 := k3.get _ _ g.c.nb gc2
     simp only [push_cast, seval, hE.P, zz, gc3, nbc]
     refine (table_at hE H3).mono ?_
     rintro v h3 ⟨rfl, rfl⟩
     simp only [push_cast, seval, hE.P, zz, gc3, nbc]
     refine (tfree_at hE H3 w3 (x := c.hd) (i := c.s) hdl hsl (by show (S.sl c.s).gen + 1 < 4294967296; omega) hcnt).mono ?_
     rintro v h4 ⟨rfl, H4, k4, w4⟩
     simp only [push_cast, seval, hE.P, zz]
     have kb := ((k2.b L).trans k3).trans k4
     exact ⟨rfl, fun h => (by rw [hm] at h; cases h), fun _ => ⟨_, ⟨H4, w', l', g.rt, g.wt, g.op, g.bd.skip hst.lt hcnt, g.m.b kb, g.c.b kb, fun hp => (by cases hp), fun _ => g.st (by decide), g.le⟩⟩, kb.x fun b hb => .inl hb, w4⟩
   | true =>
     obtain ⟨w', l'⟩ := Gw.keep w g.l H.ok hop
     simp only [push_cast, seval, hE.P, zz, hm]
     refine (akeep_at hE H2 w2 hop z3 (by rw [z1]; exact z2) p5).mono ?_
     rintro v h3 ⟨rfl, H3, k3, w3⟩
     have hlowW : S.low < S.W := by omega
     have hia : isAt S.kept S.low = true := by
      have := (w'.sits { c with p := S.low, m := false } (by simp)).is
      have h5 : bitB S.kept.bg S.low = true := this
      unfold isAt
      rw [h5, decide_eq_true (show S.low < S.kept.W from hlowW)]; rfl
     simp only [push_cast, seval, hE.P, zz]
     refine (amark_at hE H3 w3 (a := S.low) hia (on := false)).mono ?_
     rintro v h4 ⟨rfl, H4, k4, w4⟩
     have gc4 := k4.get _ _ g.c.nb (k3.get _ _ g.c.nb gc2)
     simp only [push_cast, seval, hE.P, zz, gc4, nbc]
     refine (table_at hE H4).mono ?_
     rintro v h4 ⟨rfl, rfl⟩
     simp only [push_cast, seval, hE.P, zz, gc4, nbc]
     refine (tmove_at hE H4 w4 (x := c.hd) (i := c.s) (a := S.low) hdl hsl (by omega)).mono ?_
     rintro v h5 ⟨rfl, H5, k5, w5⟩
     have gc5 := k5.get _ _ g.c.nb gc4
     have kb := (((k2.b L).trans k3).trans k4).trans k5
     by_cases hne : S.high = S.low
     ·have e5 : ((S.high : Int) != S.low) = false := by simp [hne]
      simp only [push_cast, seval, hE.P, zz, e5]
      exact ⟨rfl, fun _ => ⟨_, ⟨H5, w', l', g.rt, g.wt, g.op, g.bd.keep hst.lt, g.m.b kb, g.c.b kb, fun hp => (by cases hp), fun _ => g.st (by decide), g.le⟩⟩, fun h => (by rw [hm] at h; cases h), kb.x fun b hb => .inl hb, w5⟩
     ·have e5 : ((S.high : Int) != S.low) = true := by simp; omega
      simp only [push_cast, seval, hE.P, zz, e5, gc5, nbc]
      have kc : KX (fun j => j = cb) h5 (h5.put cb (.cells [.pointer (some ⟨L.ph, 0, none⟩), .pointer (some ⟨mb, 0, none⟩), .int .i64 2, .int .i64 r0, .int .i64 (IntKind.i64.wrap (v0 + 1))] 119 true)) := put_kx rfl
      exact ⟨rfl, fun _ => ⟨_, ⟨H5.x kc fun j hj e => g.c.nb (e ▸ hj), w', l', g.rt, g.wt, g.op, g.bd.keep hst.lt, (g.m.b kb).x kc g.c.ne.symm fun j hj e => g.c.sep (e ▸ hj), ⟨g.c.nb, g.c.ne, g.c.sep, _, _, by rw [get_put, if_pos rfl]; rfl⟩, fun hp => (by cases hp), fun _ => g.st (by decide), g.le⟩⟩, fun h => (by rw [hm] at h; cases h), (kb.x fun b hb => .inl hb).trans (put_kx (.inr (.inr (.inl rfl)))), w5.put gc5⟩
end
end Go.Proofs.YthfopcdammlmfaaGreatDoor
namespace Go.Proofs.YthfopcdammlmfaaGreatDoor
open Go.Tm
section
variable {g : Nat → Nat}
theorem obgL_refs : ∀ (l : List Vl), (∀ v, v ∈ l → ∀ (b i : Nat) (o : Ob), (obg g b v)[i]? = some o → ∀ r, r ∈ refsOf o → ∃ j, b ≤ j ∧ j < b + (obg g b v).length ∧ r = g j) →
 ∀ (b i : Nat) (o : Ob), (obgL g b l).1[i]? = some o → ∀ r, r ∈ refsOf o → ∃ j, b ≤ j ∧ j < b + (obgL g b l).1.length ∧ r = g j
 | [], _, b, i, o, h, r, hr => by simp [obgL] at h
 | v :: l, hv, b, i, o, h, r, hr => by
   simp only [obgL] at h ⊢
   rw [List.length_append]
   by_cases hi : i < (obg g b v).length
   ·rw [List.getElem?_append_left hi] at h
    obtain ⟨j, h1, h2, h3⟩ := hv v (by simp) b i o h r hr
    exact ⟨j, h1, by omega, h3⟩
   ·rw [List.getElem?_append_right (by omega)] at h
    obtain ⟨j, h1, h2, h3⟩ := obgL_refs l (fun x hx => hv x (by simp [hx])) _ _ o h r hr
    exact ⟨j, by omega, by omega, h3⟩
theorem obgF_refs : ∀ (l : List (ByteArray × Vl)), (∀ v, v ∈ l → ∀ (b i : Nat) (o : Ob), (obg g b v.2)[i]? = some o → ∀ r, r ∈ refsOf o → ∃ j, b ≤ j ∧ j < b + (obg g b v.2).length ∧ r = g j) →
 ∀ (b i : Nat) (o : Ob), (obgF g b l).1[i]? = some o → ∀ r, r ∈ refsOf o → ∃ j, b ≤ j ∧ j < b + (obgF g b l).1.length ∧ r = g j
 | [], _, b, i, o, h, r, hr => by simp [obgF] at h
 | (nm, v) :: l, hv, b, i, o, h, r, hr => by
   simp only [obgF] at h ⊢
   rw [List.length_cons, List.length_append]
   cases i with
   | zero =>
     simp only [List.getElem?_cons_zero, Option.some.injEq] at h
     subst h
     simp [refsOf] at hr
   | succ i =>
     simp only [List.getElem?_cons_succ] at h
     by_cases hi : i < (obg g (b + 1) v).length
     ·rw [List.getElem?_append_left hi] at h
      obtain ⟨j, h1, h2, h3⟩ := hv (nm, v) (by simp) (b + 1) i o h r hr
      simp only at h2
      exact ⟨j, by omega, by omega, h3⟩
     ·rw [List.getElem?_append_right (by omega)] at h
      obtain ⟨j, h1, h2, h3⟩ := obgF_refs l (fun x hx => hv x (by simp [hx])) _ _ o h r hr
      exact ⟨j, by omega, by omega, h3⟩
theorem last_get {α : Type} {A : List α} {x o : α} {i : Nat} (h : (A ++ [x])[i]? = some o) : (i < A.length ∧ A[i]? = some o) ∨ (i = A.length ∧ o = x) := by
 by_cases hi : i < A.length
 ·rw [List.getElem?_append_left hi] at h; exact .inl ⟨hi, h⟩
 ·have h1 := (List.getElem?_eq_some_iff.1 h).1
  simp at h1
  have e : i = A.length := by omega
  subst e
  rw [List.getElem?_append_right (Nat.le_refl _)] at h
  simp at h
  exact .inr ⟨rfl, h.symm⟩
theorem obg_refs : ∀ (n : Nat) (V : Vl), V.sz ≤ n → ∀ (b i : Nat) (o : Ob), (obg g b V)[i]? = some o → ∀ r, r ∈ refsOf o → ∃ j, b ≤ j ∧ j < b + (obg g b V).length ∧ r = g j := by
 intro n
 induction n with
 | zero => intro V hV; have := sz_eq V; omega
 | succ n ih =>
   intro V hV b i o h r hr
   have leaf : ∀ t ws, obg g b V = [⟨t, 0, ws⟩] → ∃ j, b ≤ j ∧ j < b + (obg g b V).length ∧ r = g j := by
    intro t ws e
    rw [e] at h
    have := (last_get (A := []) h)
    rcases this with ⟨h1, _⟩ | ⟨_, rfl⟩
    ·simp at h1
    ·simp [refsOf] at hr
   by_cases h2 : V.k = 2
   ·exact leaf 2 _ (by rw [obg_eq, if_pos h2])
   by_cases h3 : V.k = 3
   ·exact leaf 3 _ (by rw [obg_eq, if_neg h2, if_pos h3])
   by_cases h4 : V.k = 4
   ·exact leaf 4 _ (by rw [obg_eq, if_neg h2, if_neg h3, if_pos h4])
   by_cases h5 : V.k = 5
   ·have e : obg g b V = (obgL g b V.l).1 ++ [⟨5, (obgL g b V.l).2.length, (obgL g b V.l).2⟩] := by rw [obg_eq, if_neg h2, if_neg h3, if_neg h4, if_pos h5]
    rw [e] at h ⊢
    rw [List.length_append]
    rcases last_get h with ⟨h6, h7⟩ | ⟨h6, rfl⟩
    ·obtain ⟨j, a1, a2, a3⟩ := obgL_refs V.l (fun v hv => ih v (by have := l_sz hv; omega)) b i o h7 r hr
     exact ⟨j, a1, by omega, a3⟩
    ·have : r ∈ (obgL g b V.l).2 := List.mem_of_mem_take hr
     obtain ⟨j, a1, a2, a3⟩ := obgL_h V.l b r this
     exact ⟨j, a2, by omega, a1⟩
   by_cases h6 : V.k = 6
   ·have e : obg g b V = (obgF g b V.f).1 ++ [⟨6, (obgF g b V.f).2.length, (obgF g b V.f).2⟩] := by rw [obg_eq, if_neg h2, if_neg h3, if_neg h4, if_neg h5, if_pos h6]
    rw [e] at h ⊢
    rw [List.length_append]
    rcases last_get h with ⟨h6, h7⟩ | ⟨h6, rfl⟩
    ·obtain ⟨j, a1, a2, a3⟩ := obgF_refs V.f (fun v hv => ih v.2 (by have := f_sz hv; omega)) b i o h7 r hr
     exact ⟨j, a1, by omega, a3⟩
    ·have : r ∈ (obgF g b V.f).2 := List.mem_of_mem_take hr
     obtain ⟨j, a1, a2, a3⟩ := obgF_h V.f b r this
     exact ⟨j, a2, by omega, a1⟩
   exact leaf 1 _ (by rw [obg_eq, if_neg h2, if_neg h3, if_neg h4, if_neg h5, if_neg h6])
def Reach (P : Nat → Prop) (b : Nat) (B : List Ob) : Prop := ∀ (i : Nat) (o : Ob), B[i]? = some o → P (g (b + i)) → ∀ r, r ∈ refsOf o → P r
theorem obgL_reach {P : Nat → Prop} : ∀ (l : List Vl), (∀ v, v ∈ l → ∀ b, Reach (g := g) P b (obg g b v) → P (g (b + (obg g b v).length - 1)) → ∀ i, i < (obg g b v).length → P (g (b + i))) →
 ∀ b, Reach (g := g) P b (obgL g b l).1 → (∀ r, r ∈ (obgL g b l).2 → P r) → ∀ i, i < (obgL g b l).1.length → P (g (b + i))
 | [], _, b, _, _, i, hi => by simp [obgL] at hi
 | v :: l, hv, b, hR, hr, i, hi => by
   simp only [obgL] at hR hr hi
   rw [List.length_append] at hi
   by_cases h1 : i < (obg g b v).length
   ·refine hv v (by simp) b (fun j o hj => hR j o ?_) (hr _ (by simp)) i h1
    rw [List.getElem?_append_left (List.getElem?_eq_some_iff.1 hj).1]; exact hj
   ·have := obgL_reach l (fun x hx => hv x (by simp [hx])) (b + (obg g b v).length) (fun j o hj hp r hr2 => ?_) (fun r hr2 => hr r (by simp [hr2])) (i - (obg g b v).length) (by omega)
    ·rw [show b + (obg g b v).length + (i - (obg g b v).length) = b + i by omega] at this; exact this
    ·refine hR ((obg g b v).length + j) o ?_ (by rw [← Nat.add_assoc]; exact hp) r hr2
     rw [List.getElem?_append_right (by omega)]; simpa using hj
theorem obgF_reach {P : Nat → Prop} : ∀ (l : List (ByteArray × Vl)), (∀ v, v ∈ l → ∀ b, Reach (g := g) P b (obg g b v.2) → P (g (b + (obg g b v.2).length - 1)) → ∀ i, i < (obg g b v.2).length → P (g (b + i))) →
 ∀ b, Reach (g := g) P b (obgF g b l).1 → (∀ r, r ∈ (obgF g b l).2 → P r) → ∀ i, i < (obgF g b l).1.length → P (g (b + i))
 | [], _, b, _, _, i, hi => by simp [obgF] at hi
 | (nm, v) :: l, hv, b, hR, hr, i, hi => by
   simp only [obgF] at hR hr hi
   rw [List.length_cons, List.length_append] at hi
   cases i with
   | zero => exact hr _ (by simp)
   | succ i =>
     rw [show b + (i + 1) = b + 1 + i by omega]
     by_cases h1 : i < (obg g (b + 1) v).length
     ·refine hv (nm, v) (by simp) (b + 1) (fun j o hj hp => hR (j + 1) o ?_ (by rw [show b + (j + 1) = b + 1 + j by omega]; exact hp)) (hr _ (by simp)) i h1
      rw [List.getElem?_cons_succ, List.getElem?_append_left (List.getElem?_eq_some_iff.1 hj).1]; exact hj
     ·have := obgF_reach l (fun x hx => hv x (by simp [hx])) (b + 1 + (obg g (b + 1) v).length) (fun j o hj hp r hr2 => ?_) (fun r hr2 => hr r (by simp [hr2])) (i - (obg g (b + 1) v).length) (by omega)
      ·rw [show b + 1 + (obg g (b + 1) v).length + (i - (obg g (b + 1) v).length) = b + 1 + i by omega] at this; exact this
      ·refine hR ((obg g (b + 1) v).length + j + 1) o ?_ (by rw [show b + ((obg g (b + 1) v).length + j + 1) = b + 1 + (obg g (b + 1) v).length + j by omega]; exact hp) r hr2
       rw [List.getElem?_cons_succ, List.getElem?_append_right (by omega)]; simpa using hj
theorem obg_reach {P : Nat → Prop} : ∀ (n : Nat) (V : Vl), V.sz ≤ n → ∀ b, Reach (g := g) P b (obg g b V) → P (g (b + (obg g b V).length - 1)) → ∀ i, i < (obg g b V).length → P (g (b + i)) := by
 intro n
 induction n with
 | zero => intro V hV; have := sz_eq V; omega
 | succ n ih =>
   intro V hV b hR hp i hi
   have leaf : ∀ o, obg g b V = [o] → P (g (b + i)) := by
    intro o e
    rw [e] at hp hi
    simp only [List.length_cons, List.length_nil] at hp hi
    have : i = 0 := by omega
    subst this
    exact hp
   by_cases h2 : V.k = 2
   ·exact leaf _ (by rw [obg_eq, if_pos h2])
   by_cases h3 : V.k = 3
   ·exact leaf _ (by rw [obg_eq, if_neg h2, if_pos h3])
   by_cases h4 : V.k = 4
   ·exact leaf _ (by rw [obg_eq, if_neg h2, if_neg h3, if_pos h4])
   by_cases h5 : V.k = 5
   ·have e : obg g b V = (obgL g b V.l).1 ++ [⟨5, (obgL g b V.l).2.length, (obgL g b V.l).2⟩] := by rw [obg_eq, if_neg h2, if_neg h3, if_neg h4, if_pos h5]
    rw [e] at hR hp hi
    rw [List.length_append] at hp hi
    simp only [List.length_cons, List.length_nil] at hp hi
    by_cases hl : i < (obgL g b V.l).1.length
    ·refine obgL_reach V.l (fun v hv => ih v (by have := l_sz hv; omega)) b (fun j o hj => hR j o (by rw [List.getElem?_append_left (List.getElem?_eq_some_iff.1 hj).1]; exact hj)) (fun r hr => ?_) i hl
     refine hR (obgL g b V.l).1.length ⟨5, (obgL g b V.l).2.length, (obgL g b V.l).2⟩ (by simp) hp r ?_
     unfold refsOf; rw [List.take_length]; exact hr
    ·have : i = (obgL g b V.l).1.length := by omega
     subst this
     exact hp
   by_cases h6 : V.k = 6
   ·have e : obg g b V = (obgF g b V.f).1 ++ [⟨6, (obgF g b V.f).2.length, (obgF g b V.f).2⟩] := by rw [obg_eq, if_neg h2, if_neg h3, if_neg h4, if_neg h5, if_pos h6]
    rw [e] at hR hp hi
    rw [List.length_append] at hp hi
    simp only [List.length_cons, List.length_nil] at hp hi
    by_cases hl : i < (obgF g b V.f).1.length
    ·refine obgF_reach V.f (fun v hv => ih v.2 (by have := f_sz hv; omega)) b (fun j o hj => hR j o (by rw [List.getElem?_append_left (List.getElem?_eq_some_iff.1 hj).1]; exact hj)) (fun r hr => ?_) i hl
     refine hR (obgF g b V.f).1.length ⟨6, (obgF g b V.f).2.length, (obgF g b V.f).2⟩ (by simp) hp r ?_
     unfold refsOf; rw [List.take_length]; exact hr
    ·have : i = (obgF g b V.f).1.length := by omega
     subst this
     exact hp
   exact leaf _ (by rw [obg_eq, if_neg h2, if_neg h3, if_neg h4, if_neg h5, if_neg h6])
end
def Tre (O : Nat → Option Ob) (x : Nat) (V : Vl) (hs : List Nat) : Prop :=
 ∃ f : Nat → Nat, (∀ (i : Nat) (o : Ob), (obg f 0 V)[i]? = some o → O (f i) = some o) ∧ hs = (List.range (obg f 0 V).length).map f ∧ x = f ((obg f 0 V).length - 1)
theorem Tre.congr {O O' : Nat → Option Ob} {x : Nat} {V : Vl} {hs : List Nat} (t : Tre O x V hs) (h : ∀ y, y ∈ hs → (O y).isSome = true → O' y = O y) : Tre O' x V hs := by
 obtain ⟨f, h1, rfl, h3⟩ := t
 refine ⟨f, fun i o hi => ?_, rfl, h3⟩
 have ho := h1 i o hi
 rw [h (f i) (List.mem_map.2 ⟨i, List.mem_range.2 (List.getElem?_eq_some_iff.1 hi).1, rfl⟩) (by rw [ho]; rfl)]
 exact ho
theorem Tre.live {O : Nat → Option Ob} {x : Nat} {V : Vl} {hs : List Nat} (t : Tre O x V hs) {y : Nat} (hy : y ∈ hs) : ∃ o, O y = some o ∧ ∀ r, r ∈ refsOf o → r ∈ hs := by
 obtain ⟨f, h1, rfl, h3⟩ := t
 obtain ⟨i, hi, rfl⟩ := List.mem_map.1 hy
 have hi := List.mem_range.1 hi
 refine ⟨_, h1 i _ (List.getElem?_eq_getElem hi), fun r hr => ?_⟩
 obtain ⟨j, _, h4, rfl⟩ := obg_refs V.sz V (Nat.le_refl _) 0 i _ (List.getElem?_eq_getElem hi) r hr
 exact List.mem_map.2 ⟨j, List.mem_range.2 (by omega), rfl⟩
theorem Tre.self {O : Nat → Option Ob} {x : Nat} {V : Vl} {hs : List Nat} (t : Tre O x V hs) : x ∈ hs := by
 obtain ⟨f, h1, rfl, rfl⟩ := t
 have := obg_pos (g := f) 0 V
 exact List.mem_map.2 ⟨_, List.mem_range.2 (by omega), rfl⟩
theorem Tre.all {O : Nat → Option Ob} {x : Nat} {V : Vl} {hs : List Nat} (t : Tre O x V hs) {P : Nat → Prop} (hx : P x) (hP : ∀ y o, y ∈ hs → O y = some o → P y → ∀ r, r ∈ refsOf o → r ∈ hs → P r) : ∀ y, y ∈ hs → P y := by
 have t0 := t
 obtain ⟨f, h1, rfl, rfl⟩ := t
 intro y hy
 obtain ⟨i, hi, rfl⟩ := List.mem_map.1 hy
 have hi := List.mem_range.1 hi
 have := obg_reach (g := f) (P := P) V.sz V (Nat.le_refl _) 0 (fun i o hi hp r hr => by
  rw [Nat.zero_add] at hp
  have hm : f i ∈ (List.range (obg f 0 V).length).map f := List.mem_map.2 ⟨i, List.mem_range.2 (List.getElem?_eq_some_iff.1 hi).1, rfl⟩
  obtain ⟨o', ho', hr'⟩ := t0.live hm
  have ho := h1 i o hi
  rw [ho] at ho'; injection ho' with ho'; subst ho'
  exact hP _ o hm ho hp r hr (hr' r hr)) (by rw [Nat.zero_add]; exact hx) i hi
 rw [Nat.zero_add] at this; exact this
end Go.Proofs.YthfopcdammlmfaaGreatDoor
