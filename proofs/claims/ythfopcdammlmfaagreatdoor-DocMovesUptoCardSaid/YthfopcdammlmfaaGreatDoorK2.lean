/- The marker's walks: a marking begun. -/
/- Merged by a program of ours: K4 K5. -/
import Derived.Test.YthfopcdammlmfaaGreatDoorK1
set_option maxRecDepth 10000
set_option linter.all false
set_option linter.unusedSimpArgs false
set_option linter.unusedVariables false
/- The marker's walks: steps, what waits, stopped, new; who watches set; a root read. -/
namespace Go.Proofs.YthfopcdammlmfaaGreatDoor
open Go.Tm
theorem splice_watch {A B w v : Value} {R : List Value} (hl : R.length = 16) : splice (A :: B :: (R ++ [w])) 18 [v] = A :: B :: (R ++ [v]) := by
 unfold splice
 have e1 : (A :: B :: (R ++ [w])).take 18 = A :: B :: R := by
  rw [List.take_succ_cons, List.take_succ_cons, ← hl, List.take_left]
 have e2 : (A :: B :: (R ++ [w])).drop (18 + [v].length) = [] := List.drop_eq_nil_of_le (by simp [hl])
 rw [e1, e2]; simp
section
variable {E : Env} {h : Heap} {L : HL} {S : HS} (H : IsH E h L S) (hW : WF E h)
include H hW
theorem IsH.wWatch {v : Value} (hv : v.oneCell' = true) : Wrote E h L { S with wt := v } (awrite h ⟨L.ph, 18, none⟩ [v]) := by
 have hl := H.ok.roots
 have hn := H.ne
 refine ⟨_, awrite_of H.heap (by simp [hl]) (by simp [hv]), ?_⟩
 rw [splice_watch (by simp [hl])]
 refine ⟨⟨{ H.ok with }, H.nd, H.base, ?_, ?_, ?_, ?_, ?_, ?_⟩, put_keepB (by simp [HL.blocks]), hW.put H.heap⟩ <;> rw [get_put]
 ·rw [if_pos rfl]
 ·rw [if_neg (by omega)]; exact H.arena
 ·rw [if_neg (by omega)]; exact H.table
 ·rw [if_neg (by omega)]; exact H.words
 ·rw [if_neg (by omega)]; exact H.begins
 ·rw [if_neg (by omega)]; exact H.slots
omit hW in
theorem IsH.lRoot {i : Nat} (hi : i < 16) : acells E h ⟨L.ph, 2 + i, none⟩ 1 = some [.int .u64 (S.roots.getD i 0 : Nat)] := by
 have hl := H.ok.roots
 have e : 2 + i = i + 1 + 1 := by omega
 have h1 : i < (S.roots.map (fun r : Nat => Value.int .u64 (r : Int)) ++ [S.wt]).length := by simp [hl]; omega
 simp only [acells, H.n_ph, H.heap, if_false, e, List.drop_succ_cons]
 rw [if_pos (by simp [hl]; omega), List.drop_eq_getElem_cons h1, List.take_succ_cons, List.take_zero, List.getElem_append_left (by simp [hl]; omega), List.getElem_map, List.getD_eq_getElem?_getD, List.getElem?_eq_getElem (by omega)]
 rfl
end
theorem Gw.wt {S : HS} {A : List Cl} (w : Gw S A) (v : Value) : Gw { S with wt := v } A :=
 ⟨fun c hc => let s := w.sits c hc; ⟨s.is, s.head, s.refs, s.ws, s.top, s.lt, s.taken, s.at_, s.gen⟩, w.ord, w.only, w.cnt, w.chain_of (S' := { S with wt := v }) rfl rfl rfl rfl, w.out⟩
theorem Gw.rt {S : HS} {A : List Cl} (w : Gw S A) (v : List Nat) : Gw { S with roots := v } A :=
 ⟨fun c hc => let s := w.sits c hc; ⟨s.is, s.head, s.refs, s.ws, s.top, s.lt, s.taken, s.at_, s.gen⟩, w.ord, w.only, w.cnt, w.chain_of (S' := { S with roots := v }) rfl rfl rfl rfl, w.out⟩
theorem Gw.gap {S : HS} {A : List Cl} (w : Gw S A) (o : Bool) (l g : Nat) : Gw { S with open_ := o, low := l, high := g } A :=
 ⟨fun c hc => let s := w.sits c hc; ⟨s.is, s.head, s.refs, s.ws, s.top, s.lt, s.taken, s.at_, s.gen⟩, w.ord, w.only, w.cnt, w.chain_of (S' := { S with open_ := o, low := l, high := g }) rfl rfl rfl rfl, w.out⟩
variable {E : Env} (hE : EOk E)
include hE
section
variable {h : Heap} {L : HL} {S : HS} (H : IsH E h L S) (hW : WF E h)
include H hW
theorem watch_at {v : Value} (hv : v.oneCell' = true) : CallsTo E 69 [.pointer (some ⟨L.ph, 0, none⟩), v] h fun r h' => r = .tuple #[] ∧ IsH E h' L { S with wt := v } ∧ KeepB L h h' ∧ WF E h' := by
 obtain ⟨h1, e1, H1, k1, w1⟩ := H.wWatch hW hv
 refine en hE Tryz.func69 rfl rfl Tryz.ntmps69 rfl (by decide +kernel) (rs := []) rfl ?_
 cases v <;> first | (cases hv; done) | skip
 all_goals (simp only [push_cast, seval, hE.P, wpc_label, wpc_block, e1]; exact ⟨H1, k1, w1⟩)
omit hW in
theorem root_at {i : Nat} (hi : i < 16) : CallsTo E 115 [.pointer (some ⟨L.ph, 0, none⟩), .int .i64 i] h fun r h' => r = .tuple #[.int .u64 (S.roots.getD i 0 : Nat), .int .i64 0] ∧ h' = h := by
 have e1 : decide ((i : Int) < 0) = false := by simp
 have e2 : decide ((i : Int) ≥ 16) = false := by simp; omega
 have hl := H.lRoot hi
 generalize S.roots.getD i 0 = r at *
 refine en hE Tryz.func115 rfl rfl Tryz.ntmps115 rfl (by decide +kernel) (rs := [.tmp 4, .tmp 5]) rfl ?_
 simp only [push_cast, seval, hE.P, wpc_label, wpc_block, e1, e2]
 rw [ra_at rfl hi, kpure_some]
 simp only [push_cast, seval, hE.P, wpc_label, wpc_block, ↓hl]
end
section
variable {h : Heap} {L : HL} {mb lo0 : Nat} {sv : Value} {stk : List Nat} {run : Bool} (hW : WF E h) (m : MkM E h L mb lo0 sv stk run)
include hW m
theorem waiting_at : CallsTo E 66 [.pointer (some ⟨mb, 0, none⟩)] h fun r h' => r = .int .i64 stk.length ∧ h' = h := by
 have gm := m.get
 have nbm := hW.nlt gm
 obtain ⟨va, vc, rfl⟩ := Own.isS m.own
 refine en hE Tryz.func66 rfl rfl Tryz.ntmps66 rfl (by decide +kernel) (rs := [.tmp 2]) rfl ?_
 simp only [push_cast, seval, hE.P, zz, gm, nbm]
theorem stop_at {S : HS} (H : IsH E h L S) (hr : run = true) : CallsTo E 67 [.pointer (some ⟨mb, 0, none⟩)] h fun r h' =>
 r = .int .i64 0 ∧ IsH E h' L { S with wt := .nilIface } ∧ MkM E h' L mb lo0 (.slice none 0 0) [] false ∧ KX (XM L mb sv) h h' ∧ WF E h' := by
 subst hr
 have gm := m.get
 have nbm := hW.nlt gm
 refine en hE Tryz.func67 rfl rfl Tryz.ntmps67 rfl (by decide +kernel) (rs := [.tmp 2]) rfl ?_
 simp only [push_cast, seval, hE.P, zz, gm, nbm]
 have w1 : WF E (h.put mb (.cells [.pointer (some ⟨L.ph, 0, none⟩), .slice none 0 0, .bool false] 166 true)) := hW.put gm
 have H1 : IsH E (h.put mb (.cells [.pointer (some ⟨L.ph, 0, none⟩), .slice none 0 0, .bool false] 166 true)) L S := H.x (X := fun j => j = mb) (put_kx rfl) fun j hj e => m.nb (e ▸ hj)
 have k1 : KX (XM L mb sv) h (h.put mb (.cells [.pointer (some ⟨L.ph, 0, none⟩), .slice none 0 0, .bool false] 166 true)) := put_kx (.inr (.inl rfl))
 have m1 : MkM E (h.put mb (.cells [.pointer (some ⟨L.ph, 0, none⟩), .slice none 0 0, .bool false] 166 true)) L mb lo0 (.slice none 0 0) [] false := ⟨m.nb, by rw [get_put, if_pos rfl], .inl ⟨rfl, rfl, rfl⟩, fun b hb => by cases hb⟩
 generalize h.put mb (.cells [.pointer (some ⟨L.ph, 0, none⟩), .slice none 0 0, .bool false] 166 true) = h1 at *
 refine (watch_at hE H1 w1 (v := .nilIface) rfl).mono ?_
 rintro v h2 ⟨rfl, H2, k2, w2⟩
 simp only [push_cast, seval, hE.P, zz]
 exact ⟨H2, m1.b k2, k1.trans (k2.x fun b hb => .inl hb), w2⟩
end
theorem mnew_at {h : Heap} (hW : WF E h) {p : Nat} : CallsTo E 64 [.pointer (some ⟨p, 0, none⟩)] h fun r h' =>
 r = .pointer (some ⟨h.next, 0, none⟩) ∧ h'.get h.next = some (.cells [.pointer (some ⟨p, 0, none⟩), .slice none 0 0, .bool false] 166 true) ∧ h'.next = h.next + 1 ∧ Keep h h' ∧ WF E h' := by
 refine en hE Tryz.func64 rfl rfl Tryz.ntmps64 rfl (by decide +kernel) (rs := [.tmp 2]) rfl ?_
 simp only [push_cast, seval, hE.P, zz, hW.nb, hW.nb0]
 exact ⟨(Keep.refl h).push hW, hW.push _⟩
section
variable {h : Heap} {L : HL} {S : HS} {A : List Cl} {M : Nat → Bool} (H : IsH E h L S) (w : Gw S (setM M A)) (hW : WF E h) {mb lo0 : Nat} {sv : Value} {stk : List Nat} (m : MkM E h L mb lo0 sv stk true) (hmu : mu A (M, stk) ≤ 1000000) (hlo : lo0 ≤ h.next)
 (J : Ms → Prop) (hJ0 : J (M, stk)) (hJl : ∀ p, J p → ∀ x, x ∈ p.2 → live A x = true) (hJ : ∀ M s c, c ∈ A → J (M, s ++ [c.hd]) → J (linkL A (M, s) (refsOf c.o)))
include H w hW m hmu hlo hJ0 hJl hJ
theorem mstep_at {n : Int} (hn : 1 ≤ n) (hn2 : n ≤ 1048576) : CallsTo E 70 [.pointer (some ⟨mb, 0, none⟩), .int .i64 n] h fun r h' =>
 (∃ b, r = .tuple #[.bool b, .int .i64 0]) ∧ ∃ wf sv' p, J p ∧ mu A p ≤ mu A (M, stk) ∧ (stk ≠ [] → mu A p < mu A (M, stk)) ∧ IsH E h' L { S with w := wf } ∧ Gw { S with w := wf } (setM p.1 A) ∧ MkM E h' L mb lo0 sv' p.2 true ∧ KX (XM L mb sv) h h' ∧ (∀ j, j ∈ slB sv' → j ∈ slB sv ∨ h.next ≤ j) ∧ WF E h' := by
 have gm := m.get
 have nbm := hW.nlt gm
 have e1 : decide (n < 1) = false := by simp; omega
 refine en hE Tryz.func70 rfl rfl Tryz.ntmps70 rfl (by decide +kernel) (rs := [.tmp 4, .tmp 5]) rfl ?_
 simp only [push_cast, seval, hE.P, zz, gm, nbm, e1]
 refine wpc_loop (fun z tm h' => ∃ (k : Int) (wf : Nat → Nat) (sv' : Value) (p : Ms), z = mu A p ∧ J p ∧ 0 ≤ k ∧ k ≤ n ∧ mu A p ≤ mu A (M, stk) ∧ ((k = n ∧ p = (M, stk)) ∨ mu A p < mu A (M, stk)) ∧ fget tm 1 = .int .i64 k ∧ fget tm 0 = .pointer (some ⟨mb, 0, none⟩) ∧
  IsH E h' L { S with w := wf } ∧ Gw { S with w := wf } (setM p.1 A) ∧ MkM E h' L mb lo0 sv' p.2 true ∧ KX (XM L mb sv) h h' ∧ (∀ j, j ∈ slB sv' → j ∈ slB sv ∨ h.next ≤ j) ∧ WF E h') (mu A (M, stk)) ?_ ?_
 ·exact ⟨n, S.w, sv, (M, stk), rfl, hJ0, by omega, by omega, by omega, .inl ⟨rfl, rfl⟩, by simp only [push_cast, seval, hE.P, zz], by simp only [push_cast, seval, hE.P, zz], H, w, m, KX.refl _ _, fun j hj => .inl hj, hW⟩
 ·rintro z tm h' ⟨k, wf, sv', p, rfl, hJp, hk0, hk1, hmle, hor, f1, f0, H', W', m', k', hb', w'⟩
  have gm' := m'.get
  have nbm' := w'.nlt gm'
  have W'2 := W'
  obtain ⟨M', s'⟩ := p
  have hend : ∀ b, J (M', s') → (k = 0 ∨ s' = []) → (∃ b', (Value.tuple #[.bool b, .int .i64 0]) = .tuple #[.bool b', .int .i64 0]) ∧ ∃ wf sv' p, J p ∧ mu A p ≤ mu A (M, stk) ∧ (stk ≠ [] → mu A p < mu A (M, stk)) ∧ IsH E h' L { S with w := wf } ∧ Gw { S with w := wf } (setM p.1 A) ∧ MkM E h' L mb lo0 sv' p.2 true ∧ KX (XM L mb sv) h h' ∧ (∀ j, j ∈ slB sv' → j ∈ slB sv ∨ h.next ≤ j) ∧ WF E h' := by
   intro b hj hz
   refine ⟨⟨b, rfl⟩, wf, sv', (M', s'), hj, hmle, fun hne => ?_, H', W', m', k', hb', w'⟩
   rcases hor with ⟨rfl, e⟩ | h1
   ·injection e with e1 e2
    rcases hz with hz | hz
    ·omega
    ·rw [← e2] at hne; exact absurd hz hne
   ·exact h1
  obtain ⟨va, vc, rfl⟩ := Own.isS m'.own
  simp only [push_cast, seval, hE.P, zz, f1, f0]
  refine kguard_splitT (fun hb => ?_) (fun hb => ?_)
  ·have hk : 0 < k := by simpa using hb
   simp only [push_cast, seval, hE.P, zz, hb, f0, f1, gm', nbm']
   refine kif_split (fun hb2 => ?_) (fun hb2 => ?_)
   ·have hs : 0 < s'.length := by simpa using hb2
    obtain ⟨s0, x, rfl⟩ : ∃ s0 x, s' = s0 ++ [x] := by
     rcases List.eq_nil_or_concat s' with h | ⟨s0, x, h⟩
     ·rw [h] at hs; simp at hs
     ·exact ⟨s0, x, by simpa using h⟩
    obtain ⟨c, hc, rfl⟩ := live_iff.1 (hJl _ hJp x (by simp))
    simp only [push_cast, seval, hE.P, zz, f0]
    refine (munit_at hE H' W' w' m' hc (by show mu A (M', s0 ++ [c.hd]) ≤ 1000000; omega) (by have := k'.next; omega)).mono ?_
    rintro v h2 ⟨rfl, wf2, sv2, H2, W2, m2, k2, hb2', w2⟩
    have e3 : IntKind.i64.wrap (k - 1) = k - 1 := wr64 (by omega) (by omega)
    have hmu2 := mu_unit (A := A) (M := M') (s := s0) (x := c.hd) (refsOf c.o)
    simp only [push_cast, seval, hE.P, zz, f0, f1, e3]
    refine ⟨_, hmu2, k - 1, wf2, sv2, _, rfl, hJ _ _ _ hc hJp, by omega, by omega, by omega, .inr (by omega), rfl, H2, W2, m2, k'.then hW k2 fun j hj => ?_, fun j hj => ?_, w2⟩
    ·rcases hj with h5 | h5 | h5
     ·exact .inl (.inl h5)
     ·exact .inl (.inr (.inl h5))
     ·rcases hb' j h5 with h6 | h6
      ·exact .inl (.inr (.inr h6))
      ·exact .inr h6
    ·rcases hb2' j hj with h5 | h5
     ·exact hb' j h5
     ·right; have := k'.next; omega
   ·have hs : s' = [] := by
     have : ¬ 0 < s'.length := by simpa using hb2
     exact List.length_eq_zero_iff.1 (by omega)
    simp only [push_cast, seval, hE.P, zz, f0, gm', nbm']
    exact hend _ hJp (.inr hs)
  ·have hk : k = 0 := by have : ¬ 0 < k := by simpa using hb
                         omega
   simp only [push_cast, seval, hE.P, zz, hb, f0, gm', nbm']
   exact hend _ hJp (.inl hk)
end
end Go.Proofs.YthfopcdammlmfaaGreatDoor
namespace Go.Proofs.YthfopcdammlmfaaGreatDoor
open Go.Tm
def posA (A : List Cl) (top i : Nat) : Nat := match A[i]? with | some c => c.p | none => top
variable {E : Env} (hE : EOk E)
include hE
section
variable {h : Heap} {L : HL} {S : HS} (H : IsH E h L S) (ho : S.open_ = false)
include H ho
theorem afrom0_at {a : Nat} : CallsTo E 109 [.pointer (some ⟨L.pa, 0, none⟩), .int .i64 a] h fun v h' => v = .int .i64 a ∧ h' = h := by
 refine (afromG_at hE H (a := a)).mono ?_
 rintro v h' ⟨rfl, rfl⟩
 rw [ho]
 exact ⟨rfl, rfl⟩
theorem afirst0_at : CallsTo E 56 [.pointer (some ⟨L.pa, 0, none⟩)] h fun v h' => v = .int .i64 0 ∧ h' = h := by
 refine en hE Tryz.func56 rfl rfl Tryz.ntmps56 rfl (by decide +kernel) (rs := [.tmp 2]) rfl ?_
 simp only [push_cast, seval, hE.P, zz]
 refine (afrom0_at hE H ho (a := 0)).mono ?_
 rintro v h1 ⟨rfl, rfl⟩
 simp only [push_cast, seval, hE.P, zz]
theorem anext0_at (hW : WF E h) {A : List Cl} (w : Gw S A) {c : Cl} (hc : c ∈ A) : CallsTo E 60 [.pointer (some ⟨L.pa, 0, none⟩), .int .i64 c.p] h fun v h' => v = .tuple #[.int .i64 (c.p + c.wd : Nat), .int .i64 0] ∧ Keep h h' ∧ WF E h' := by
 have hroom := (w.sits c hc).top
 have htop := H.ok.top
 have hWm := H.ok.W
 have hA := w.isAt H.ok hc
 have hH := w.headAt H.ok hc
 obtain ⟨z, hz⟩ : ∃ z, z = c.p + c.wd := ⟨_, rfl⟩
 rw [← hz] at hroom ⊢
 unfold Cl.wd at hz
 refine en hE Tryz.func60 rfl rfl Tryz.ntmps60 rfl (by decide +kernel) (rs := [.tmp 4, .tmp 5]) rfl ?_
 simp only [push_cast, seval, hE.P, zz]
 refine (ahead_at hE H hW (a := c.p) (by omega)).mono ?_
 rintro v h1 ⟨rfl, k1, w1⟩
 rw [hH]
 have k2 := k1.push (o := .cells [.int .i64 c.o.tag, .int .i64 c.o.refs, .int .i64 c.o.ws.length, .bool c.m, .int .i64 c.s] 103 true) w1
 have w2 := w1.push (.cells [.int .i64 c.o.tag, .int .i64 c.o.refs, .int .i64 c.o.ws.length, .bool c.m, .int .i64 c.s] 103 true)
 simp only [push_cast, seval, hE.P, zz, hA, if_true, w1.nb, w1.nb0]
 obtain ⟨q, hq⟩ : ∃ q, q = c.p + 1 := ⟨_, rfl⟩
 have e1 : (c.p : Int) + 1 = q := by omega
 have e2 : IntKind.i64.wrap (q : Int) = q := wrN (by omega)
 have e3 : (q : Int) + c.o.ws.length = z := by omega
 have e4 : IntKind.i64.wrap (z : Int) = z := wrN (by omega)
 simp only [push_cast, seval, hE.P, zz, e1, e2, e3, e4]
 refine (afrom0_at hE (H.keep k2) ho (a := z)).mono ?_
 rintro v h3 ⟨rfl, rfl⟩
 simp only [push_cast, seval, hE.P, zz]
 exact ⟨k2, w2⟩
end
theorem mstart_at {h : Heap} {L : HL} {S : HS} {A : List Cl} (H : IsH E h L S) (w : Gw S A) (l : Lay S [] A) (ho : S.open_ = false) (hW : WF E h) {mb lo0 : Nat} {sv : Value} {stk : List Nat} (m : MkM E h L mb lo0 sv stk false) (hlen : A.length ≤ 16384) (hr64 : ∀ x, x ∈ S.roots → x < 18446744073709551616) (hlo : lo0 ≤ h.next) :
 CallsTo E 65 [.pointer (some ⟨mb, 0, none⟩)] h fun r h' =>
 r = .int .i64 0 ∧ ∃ wf sv', IsH E h' L { S with w := wf, wt := (Wv.mk mb).val } ∧ Gw { S with w := wf, wt := (Wv.mk mb).val } (setM (linkL A (fun _ => false, []) S.roots).1 A) ∧ MkM E h' L mb lo0 sv' (linkL A (fun _ => false, []) S.roots).2 true ∧ KX (XM L mb sv) h h' ∧ (∀ j, j ∈ slB sv' → j ∈ slB sv ∨ h.next ≤ j) ∧ WF E h' := by
 have gm := m.get
 have nbm := hW.nlt gm
 have hcont : Cont 0 A S.top := by
  have := l.hi
  rw [ho] at this; exact this
 have htop := H.ok.top
 have hWm := H.ok.W
 have hrl := H.ok.roots
 obtain ⟨M0, hM0⟩ := own_marks (w.uq H.ok)
 refine en hE Tryz.func65 rfl rfl Tryz.ntmps65 rfl (by decide +kernel) (rs := [.tmp 2]) rfl ?_
 simp only [push_cast, seval, hE.P, zz, gm, nbm]
 have w1 : WF E (h.put mb (.cells [.pointer (some ⟨L.ph, 0, none⟩), .slice none 0 0, .bool true] 166 true)) := hW.put gm
 have H1 : IsH E (h.put mb (.cells [.pointer (some ⟨L.ph, 0, none⟩), .slice none 0 0, .bool true] 166 true)) L S := H.x (X := fun j => j = mb) (put_kx rfl) fun j hj e => m.nb (e ▸ hj)
 have k1 : KX (XM L mb sv) h (h.put mb (.cells [.pointer (some ⟨L.ph, 0, none⟩), .slice none 0 0, .bool true] 166 true)) := put_kx (.inr (.inl rfl))
 have m1 : MkM E (h.put mb (.cells [.pointer (some ⟨L.ph, 0, none⟩), .slice none 0 0, .bool true] 166 true)) L mb lo0 (.slice none 0 0) [] true := ⟨m.nb, by rw [get_put, if_pos rfl], .inl ⟨rfl, rfl, rfl⟩, fun b hb => by cases hb⟩
 have hn1 : (h.put mb (.cells [.pointer (some ⟨L.ph, 0, none⟩), .slice none 0 0, .bool true] 166 true)).next = h.next := by simp
 generalize h.put mb (.cells [.pointer (some ⟨L.ph, 0, none⟩), .slice none 0 0, .bool true] 166 true) = h1 at *
 refine (arena_at hE H1).mono ?_
 rintro v h1 ⟨rfl, rfl⟩
 simp only [push_cast, seval, hE.P, zz]
 refine (afirst0_at hE H1 ho).mono ?_
 rintro v h1 ⟨rfl, rfl⟩
 simp only [push_cast, seval, hE.P, zz]
 refine wpc_loop (fun z tm h' => ∃ (i : Nat) (wf : Nat → Nat) (M : Nat → Bool), z = A.length - i ∧ i ≤ A.length ∧ fget tm 4 = .int .i64 (posA A S.top i) ∧ fget tm 3 = .pointer (some ⟨L.pa, 0, none⟩) ∧ fget tm 0 = .pointer (some ⟨mb, 0, none⟩) ∧
  IsH E h' L { S with w := wf } ∧ Gw { S with w := wf } (setM M A) ∧ (∀ j c, j < i → A[j]? = some c → M c.hd = false) ∧ KeepB L h1 h' ∧ WF E h') A.length ?_ ?_
 ·refine ⟨0, S.w, M0, by omega, by omega, ?_, by simp only [push_cast, seval, hE.P, zz], by simp only [push_cast, seval, hE.P, zz], H1, by rw [hM0]; exact w, fun j c hj => by omega, KeepB.refl _ _, w1⟩
  have e : posA A S.top 0 = 0 := by
   unfold posA
   cases A with
   | nil => have : 0 = S.top := hcont; simp [← this]
   | cons c A => simp [hcont.1]
  rw [e]
  simp only [push_cast, seval, hE.P, zz]
 ·rintro z tm h' ⟨i, wf, M, rfl, hi, f4, f3, f0, H', W', hoff, k', w'⟩
  simp only [push_cast, seval, hE.P, zz, f4, f3]
  refine (top_at hE H').mono ?_
  rintro v h2 ⟨rfl, rfl⟩
  by_cases hlt : i < A.length
  ·obtain ⟨c, hci⟩ : ∃ c, A[i]? = some c := ⟨_, List.getElem?_eq_getElem hlt⟩
   have hc : c ∈ A := List.mem_of_getElem? hci
   obtain ⟨q1, q2, q3, q4⟩ := Cont.at_ hcont hci
   have ep : posA A S.top i = c.p := by unfold posA; rw [hci]
   have en : posA A S.top (i + 1) = c.p + c.wd := by
    unfold posA
    cases hn : A[i + 1]? with
    | some d => exact q2 d hn
    | none =>
      have : A.length ≤ i + 1 := List.getElem?_eq_none_iff.1 hn
      exact q3 (by omega)
   rw [ep]
   have e1 : ((c.p : Int) != S.top) = true := by simp; omega
   have hc' := mem_setM (M := M) hc
   have hia : isAt { S with w := wf } c.p = true := W'.isAt (c := { c with m := M c.hd }) H'.ok hc'
   simp only [push_cast, seval, hE.P, zz, f4, f3, e1, ep]
   refine (amark_at hE H' w' (a := c.p) hia (on := false)).mono ?_
   rintro v h3 ⟨rfl, H3, k3, w3⟩
   have W3 := W'.setMark H'.ok hc false
   have hc3 := mem_setM (M := fun y => if y = c.hd then false else M y) hc
   simp only [push_cast, seval, hE.P, zz, f4, f3, ep]
   refine (anext0_at hE H3 ho w3 W3 hc3).mono ?_
   rintro v h4 ⟨rfl, k4, w4⟩
   simp only [push_cast, seval, hE.P, zz, f4, f3, f0]
   obtain ⟨i1, hi1⟩ : ∃ i1, i1 = i + 1 := ⟨_, rfl⟩
   rw [← hi1] at en
   refine ⟨A.length - i1, by omega, i1, _, _, rfl, by omega, ?_, H3.keep k4, W3, fun j d hj hd => ?_, (k'.trans k3).trans (k4.b L), w4⟩
   ·rw [en]
    rfl
   ·by_cases e : d.hd = c.hd
    ·simp only [if_pos e]
    ·simp only [if_neg e]
     refine hoff j d ?_ hd
     by_cases e2 : j = i
     ·subst e2; rw [hci] at hd; injection hd with hd; subst hd; exact absurd rfl e
     ·omega
  ·have hge : i = A.length := by omega
   subst hge
   have ep : posA A S.top A.length = S.top := by
    unfold posA; rw [List.getElem?_eq_none (Nat.le_refl _)]
   rw [ep]
   have e1 : ((S.top : Int) != S.top) = false := by simp
   have W'' : Gw { S with w := wf } (setM (fun _ => false) A) := by
    have e : setM M A = setM (fun _ => false) A := setM_congr fun c hc => by
     obtain ⟨j, hj, rfl⟩ := List.mem_iff_getElem.1 hc
     exact hoff j _ hj (List.getElem?_eq_getElem hj)
    rw [← e]; exact W'
   simp only [push_cast, seval, hE.P, zz, f4, f3, e1, f0]
   have hmu0 : mu A (fun _ => false, []) ≤ 16384 := by
    refine Nat.le_trans (?_ : _ ≤ A.length) hlen
    unfold mu
    simp only [List.length_nil, Nat.zero_add]
    exact List.length_filter_le _ _
   have m' := m1.b k'
   refine wpc_loop (fun z tm h3 => ∃ (i : Nat) (wf : Nat → Nat) (sv' : Value), z = 16 - i ∧ i ≤ 16 ∧ fget tm 43 = .int .i64 i ∧ fget tm 0 = .pointer (some ⟨mb, 0, none⟩) ∧
    IsH E h3 L { S with w := wf } ∧ Gw { S with w := wf } (setM (linkL A (fun _ => false, []) (S.roots.take i)).1 A) ∧ MkM E h3 L mb lo0 sv' (linkL A (fun _ => false, []) (S.roots.take i)).2 true ∧ KX (XM L mb sv) h h3 ∧ (∀ j, j ∈ slB sv' → j ∈ slB sv ∨ h.next ≤ j) ∧ WF E h3) 16 ?_ ?_
   ·exact ⟨0, wf, _, by omega, by omega, by simp only [push_cast, seval, hE.P, zz], by simp only [push_cast, seval, hE.P, zz, f0], H', W'', m', k1.trans (k'.x fun b hb => .inl hb), fun j hj => (by cases hj), w'⟩
   ·clear f4 f3 f0 hoff W'
    rintro z tm h3 ⟨i, wf, sv', rfl, hi, f43, f0, H3, W3, m3, k3, hb3, w3⟩
    have gm3 := m3.get
    have nbm3 := w3.nlt gm3
    simp only [push_cast, seval, hE.P, zz, f43, f0]
    refine kif_split (fun hb => ?_) (fun hb => ?_)
    ·have hlt : i < 16 := by
      have : (i : Int) < 16 := by simpa using hb
      omega
     simp only [push_cast, seval, hE.P, zz, f43, f0, gm3, nbm3]
     refine (root_at hE H3 hlt).mono ?_
     rintro v h4 ⟨rfl, rfl⟩
     simp only [push_cast, seval, hE.P, zz, f43, f0]
     have hri : S.roots.getD i 0 = S.roots[i]'(by omega) := by rw [List.getD_eq_getElem?_getD, List.getElem?_eq_getElem (by omega)]; rfl
     have hx64 : S.roots.getD i 0 < 18446744073709551616 := by rw [hri]; exact hr64 _ (List.getElem_mem _)
     have hml : (linkL A (fun _ => false, []) (S.roots.take i)).2.length ≤ 1000000 := by
      have h5 := linkL_mu (A := A) (S.roots.take i) (fun _ => false, [])
      unfold mu at h5 hmu0
      omega
     refine (mlink_at hE H3 W3 w3 m3 (x := S.roots.getD i 0) hx64 hml (by have := k3.next; omega)).mono ?_
     rintro v h5 ⟨rfl, wf5, sv5, H5, W5, m5, k5, hb5, w5⟩
     obtain ⟨i1, hi1⟩ : ∃ i1, i1 = i + 1 := ⟨_, rfl⟩
     have hi2 : (i : Int) + 1 = i1 := by omega
     have hi3 : IntKind.i64.wrap (i1 : Int) = i1 := wrN (by omega)
     have htk : S.roots.take i1 = S.roots.take i ++ [S.roots.getD i 0] := by
      rw [hi1, List.take_succ_eq_append_getElem (by omega), hri]
     rw [← linkL_snoc, ← htk] at W5 m5
     simp only [push_cast, seval, hE.P, zz, f43, f0, hi2, hi3]
     refine ⟨16 - i1, by omega, i1, wf5, sv5, rfl, by omega, rfl, H5, W5, m5, k3.then hW k5 fun j hj => ?_, fun j hj => ?_, w5⟩
     ·rcases hj with h6 | h6 | h6
      ·exact .inl (.inl h6)
      ·exact .inl (.inr (.inl h6))
      ·rcases hb3 j h6 with h7 | h7
       ·exact .inl (.inr (.inr h7))
       ·exact .inr h7
     ·rcases hb5 j hj with h6 | h6
      ·exact hb3 j h6
      ·right; have := k3.next; omega
    ·have hge : i = 16 := by
      have : ¬ (i : Int) < 16 := by simpa using hb
      omega
     subst hge
     have e : S.roots.take 16 = S.roots := List.take_of_length_le (by omega)
     rw [e] at W3 m3
     have hum := Tryz.underlying116
     simp only [push_cast, seval, hE.P, zz, f43, f0, gm3, nbm3, hum]
     refine (watch_at hE H3 w3 (v := (Wv.mk mb).val) rfl).mono ?_
     rintro v h4 ⟨rfl, H4, k4, w4⟩
     simp only [push_cast, seval, hE.P, zz]
     exact ⟨wf, sv', H4, W3.wt _, m3.b k4, k3.trans (k4.x fun b hb => .inl hb), hb3, w4⟩
end Go.Proofs.YthfopcdammlmfaaGreatDoor
