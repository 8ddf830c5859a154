/- Chapter 25, plain: a group without faults, message by message. -/
/- Merged by a program of ours: U30 VC1. -/
import Derived.Test.YthdgobcpefcolaaGreatDoorG30
import Derived.Test.YthdgobcpefcolaaGreatDoorG29
import Derived.Test.YthdgobcpefcolaaGreatDoorG16
set_option maxRecDepth 10000
set_option linter.all false
set_option linter.unusedSimpArgs false
set_option linter.unusedVariables false
/- Chapter 25: a new group. -/
namespace Go.Tm
open Vr
def nobody : Nat → Prop := fun _ => False
theorem SO.nobody {E : Env} {G : Mem} {h : Heap} (w : WF E h) (f : Frz E G h) : SO E G h nobody := ⟨w, f, fun _ _ _ x => x, fun _ x => x.elim⟩
theorem PX.any {E : Env} {G G' : Mem} {h h' : Heap} {X X' : Nat → Prop} (p : PX E G h nobody G' h' X') (s : SO E G h X) : PX E G h X G' h' (fun b => X b ∨ X' b) := by
  refine ⟨p.sub, p.new, ⟨fun b o hn hb => p.kx.get b o (fun x => x) hb, p.kx.next⟩, fun b hb => ?_, p.so.wf, p.so.frz, fun b c hb hx => ?_, fun b hb => ?_⟩
  · rcases hb with hb | hb
    · exact .inl hb
    · rcases p.xs b hb with h1 | h1
      · exact h1.elim
      · exact .inr h1
  · rcases hx with hx | hx
    · rcases p.new b c hb with h1 | h1
      · exact s.dis b c h1 hx
      · have := s.lt b hx; omega
    · exact p.so.dis b c hb hx
  · rcases hb with hb | hb
    · exact Nat.lt_of_lt_of_le (s.lt b hb) p.kx.next
    · exact p.so.lt b hb
def Bx (L : List Rr) (Y : Nat → Prop) (G : Mem) (l : List Nat) : Prop := ∀ b, b ∈ l → ¬ un L Y b ∧ G b = none
theorem un_nil : un [] nobody = nobody := by
  funext b
  simp [un, nobody]
theorem GS.nil {E : Env} {G : Mem} {h : Heap} (w : WF E h) (f : Frz E G h) : GS E G h [] nobody [] (.slice none 0 0) (.slice none 0 0) :=
  ⟨⟨w, f, fun a ha => by simp at ha, fun a ha => by simp at ha, fun a ha => by simp at ha, fun i j a b ha => by simp at ha⟩, SO.nobody w f, fun a ha => by simp at ha, Own.nil _ _ _ _, fun b hb => by simp [slB] at hb, ⟨[], OwnQ.nil _ _ _, rfl⟩, fun b hb => by simp [slB] at hb⟩
section
variable {E : Env} {G G1 : Mem} {h h1 h2 h3 : Heap} {L : List Rr} {Y : Nat → Prop} {vL : Value}
/-- A replica more. -/
theorem GS.snoc (g : GS E G h L Y [] vL (.slice none 0 0)) {b : Rr} (p : PX E G h nobody G1 h1 b.X) (q : QR E G1 h1 b.X b.P [] b.r b.t) (hp : PRR E G1 b.P b.cs) (k : KW E h1 h2) {vL' : Value} (a : Apd E h2 h3 50 20 0 (L.length + 1) (L.flatMap Rr.c ++ b.c) vL vL') :
    GS E G1 h3 (L ++ [b]) (fun x => Y x ∨ x ∈ slB vL') [] vL' (.slice none 0 0) ∧ PX E G h (un L Y) G1 h3 (un (L ++ [b]) (fun x => Y x ∨ x ∈ slB vL')) := by
  have g1 : GS E G1 h1 L Y [] vL (.slice none 0 0) := g.other p fun x hx hf => hf
  have rs1 := g.rs.snoc p q hp
  have x2 := k.ext p.so.frz
  have rs2 := rs1.ext x2
  have g2 := g1.ext x2
  have hbl : ∀ x, b.X x → h.next ≤ x := fun x hx => by
    rcases p.xs x hx with h4 | h4
    · exact h4.elim
    · exact h4
  have pY := PX.app g2.sy a g2.yl
  have hdj : ∀ c, c ∈ L ++ [b] → ∀ x, c.X x → ¬ Y x := by
    intro c hc x hx hy
    rcases List.mem_append.1 hc with hc | hc
    · exact g.dj c hc x hx hy
    · simp at hc; subst hc
      have := g.sy.lt x hy; have := hbl x hx; omega
  have hdj' : ∀ c, c ∈ L ++ [b] → ∀ x, c.X x → ¬ (Y x ∨ x ∈ slB vL') := by
    rintro c hc x hx (h4 | h4)
    · exact hdj c hc x hx h4
    · rcases a.blk x h4 with h5 | h5
      · exact hdj c hc x hx (g2.yl x h5)
      · have := (rs2.so c hc).lt x hx; omega
  have gs : GS E G1 h3 (L ++ [b]) (fun x => Y x ∨ x ∈ slB vL') [] vL' (.slice none 0 0) := by
    refine ⟨rs2.other pY hdj, pY.so, hdj', ?_, fun x hx => .inr hx, ⟨[], OwnQ.nil _ _ _, rfl⟩, fun x hx => by simp [slB] at hx⟩
    have := a.own
    rw [List.length_append, List.flatMap_append]
    simpa using this
  refine ⟨gs, g1.so.frz |> fun _ => ?_⟩
  have p01 : PX E G h (un L Y) G1 h1 (fun x => un L Y x ∨ b.X x) := p.any g.so
  have p12 : PX E G1 h1 (fun x => un L Y x ∨ b.X x) G1 h2 (fun x => un L Y x ∨ b.X x) := PX.kw p01.so k
  have p02 := p01.trans g.rs.wf p12
  have p23 : PX E G1 h2 (fun x => un L Y x ∨ b.X x) G1 h3 (un (L ++ [b]) (fun x => Y x ∨ x ∈ slB vL')) := by
    refine pY.wide (fun x hx => .inl (.inl hx)) gs.so fun x hx => ?_
    rcases hx with (hx | hx) | ⟨c, hc, hx⟩
    · exact .inl (.inl (.inl hx))
    · rcases a.blk x hx with h5 | h5
      · exact .inl (.inl (.inl (g2.yl x h5)))
      · exact .inr h5
    · rcases List.mem_append.1 hc with hc | hc
      · exact .inl (.inl (.inr ⟨c, hc, hx⟩))
      · simp at hc; subst hc; exact .inl (.inr hx)
  exact p02.trans g.rs.wf p23
end
end Go.Tm
namespace Go.Proofs.YthdgobcpefcolaaGreatDoor
open Go.Tm Vr
set_option linter.unusedSectionVars false
variable {E : Env} (hE : EOk E)
include hE
/-- A group's value in memory: its replicas, who is down, what waits, what was sent, the time. -/
structure GV (E : Env) (G : Mem) (h : Heap) (L : List Rr) (Y : Nat → Prop) (net : List Mg) (down : List Bool) (sent : List Nat) (bD bS : Nat) (cs : List Value) (tv : Nat) : Prop where
  e : ∃ vL vN, cs = [vL, .slice (some ⟨bD, 0, none⟩) down.length down.length, vN, .slice (some ⟨bS, 0, none⟩) sent.length sent.length, iv tv] ∧ GS E G h L Y net vL vN
  gD : h.get bD = some (.cells (boolsC down) 4 true)
  gS : h.get bS = some (.cells (intsC sent) 3 true)
  nD : ¬ un L Y bD
  nS : ¬ un L Y bS
  yD : G bD = none
  yS : G bS = none
  ne : bD ≠ bS
section
variable {G : Mem} {h : Heap} (hW : WF E h) (hG : Frz E G h)
include hW hG
set_option maxHeartbeats 4000000 in
theorem group_at {f n : Nat} (hn : n = 3 ∨ n = 5 ∨ n = 7) (hf : n = 2 * f + 1) : CallsTo E 6 [iv f] h fun v h' => ∃ G' L Y bD bS cs, PX E G h nobody G' h' (fun x => un L Y x ∨ x = bD ∨ x = bS) ∧ GV E G' h' L Y [] (List.replicate n false) (List.replicate 9 0) bD bS cs 0 ∧ L.length = n ∧ (∀ i a, L[i]? = some a → a.P = PR.new i n) ∧ v = .tuple #[.agg cs.toArray, .bool true] := by
  have w0 := hW.b0
  have w1 := hW.b1
  have w2 := hW.b2
  have w3 := hW.b3
  have e1 : IntKind.i64.wrap (IntKind.i64.wrap (2 * (f : Int)) + 1) = (n : Int) := by
    have e0 : IntKind.i64.wrap (2 * (f : Int)) = 2 * (f : Int) := wr64 (by omega) (by omega)
    rw [e0, wr64 (by omega) (by omega)]; omega
  refine calls_of_runs (fn := Tryz.f6) (by rw [hE.P]; exact Tryz.func6) rfl (by rw [hE.known]; rfl) (by rw [Tryz.ntmps6]; exact Nat.le_of_ble_eq_true rfl) (by decide +kernel) (rs := [.cell 2 29, .tmp 3]) rfl (wpc_runs _ _ _ _ ?_)
  simp only [push_cast, seval, hE.P, awrite, wpc_label, wpc_block, w0, w1, w2, w3, e1]
  refine gtm (motive := wdraw E _ _) [2, 4] fun t1 hf => ?_
  simp only [push_cast, seval, hE.P, awrite, wpc_label, wpc_block, List.mem_cons, List.not_mem_nil, or_false, forall_eq_or_imp, forall_eq] at hf
  obtain ⟨f2, f4⟩ := hf
  refine gheap (motive := fun H => wdraw E _ _ _ H) (fun H => KW E h H ∧ H.get h.next = some (.cells [.slice none 0 0, .slice none 0 0, .slice none 0 0, .slice none 0 0, .int .i64 0] 29 true)) ⟨(KW.refl hW).push, by rw [get_push, if_pos rfl]⟩ ?_
  rintro H ⟨kH, gZ⟩
  have nZ := kH.w.nlt gZ
  have lZ := (kH.w.live _ _ gZ).2
  have v0 := kH.w.b0
  have v1 := kH.w.b1
  have v2 := kH.w.b2
  have x0 : (H.next = h.next) = False := by simp; omega
  have x1 : (H.next + 1 = h.next) = False := by simp; omega
  have x2 : (H.next + 1 + 1 = h.next) = False := by simp; omega
  refine wdraw_two [] [1, 2, 4, 5] [(1, [0]), (2, []), (4, [])] [(0, (12, [0])), (1, (13, [1, 0])), (2, (14, [2])), (3, (15, [3, 0, 1, 2])), (4, (5, [4]))] [0, 1, 2, 3, 4, 5] (by rw [hE.P]; decide +kernel) (by rw [hE.P]; decide +kernel) (by rw [hE.P]; decide +kernel) (by rw [hE.P]; decide +kernel) (by rw [hE.P]; decide +kernel) (by decide +kernel) rfl ?_
  simp only [push_cast, seval, hE.P, awrite, wpc_label, wpc_block, f2, f4, gZ, nZ, v0, v1, v2]
  rw [mk25 (by omega) (by omega) (by omega) (by omega), kalloc_some]
  simp only [push_cast, seval, hE.P, awrite, wpc_label, wpc_block, f2, f4, gZ, nZ, v0, v1, v2]
  rw [mk27 (by omega) (by omega) (by omega) (by omega), kalloc_some]
  simp only [push_cast, seval, hE.P, awrite, wpc_label, wpc_block, f2, f4, gZ, nZ, v0, v1, v2, x0, x1, x2]
  refine ⟨⟨?_, ?_, ?_, ?_, ?_⟩, ?_⟩
  · simp
  · simp only [push_cast, seval, hE.P, awrite, wpc_label, wpc_block, f2, f4, gZ, nZ, rdOk]
    try simp
  · simp only [push_cast, seval, hE.P, awrite, wpc_label, wpc_block, f2, f4, gZ, nZ, faOk, Op.operands, Go.Tm.sc, scA, scL]
    simp
    omega
  · simp only [push_cast, seval, hE.P, awrite, wpc_label, wpc_block, f2, f4, gZ, nZ, aOk, aalloc_mk]
    have zb : ∀ q : Nat → Bool, scOQb q (.cells (arep n [.bool false]) 4 true) = true := fun q => scO_repL rfl
    exact ⟨⟨_, mk25 (by omega) (by omega) (by omega) (by omega), zb _⟩, ⟨_, mk27 (by omega) (by omega) (by omega) (by omega), scO_rep⟩, rfl⟩
  · simp only [push_cast, seval, hE.P, awrite, wpc_label, wpc_block, f2, f4, gZ, nZ, dOk]
    refine ⟨rfl, scQ_sl1 (K := 1) (by decide) (Nat.le_refl _) (Nat.lt_succ_self _), scQ_sl1 (K := 2) (by decide) (Nat.le_refl _) (Nat.lt_succ_self _), ?_, live_one (k := 4) (by decide) (Nat.le_refl _) (Nat.lt_succ_self _)⟩
    simp only [scQ, scQA, scQL, Bool.and_true, Bool.true_and, Bool.and_eq_true]
    exact ⟨live_one (k := 1) (by decide) (Nat.le_refl _) (Nat.lt_succ_self _), live_one (k := 2) (by decide) (Nat.le_refl _) (Nat.lt_succ_self _)⟩
  · have e9 : arep 9 [Value.int .i64 0] = intsC (List.replicate 9 0) := arep_ints 9
    have k4 := (((kH.push (o := .cells (arep n [.bool false]) 4 true)).push (o := .cells (arep 9 [.int .i64 0]) 3 true)).push (o := .cells [.slice none 0 0, .slice none 0 0, .slice none 0 0, .slice none 0 0, .int .i64 0] 29 true)).put (o := .cells [.slice none 0 0, .slice (some ⟨H.next, 0, none⟩) n n, .slice none 0 0, .slice (some ⟨H.next + 1, 0, none⟩) 9 9, .int .i64 0] 29 true) (b := H.next + 1 + 1) (by have := kH.k.next; omega) (by simp) hW
    have hnn := kH.k.next
    refine gtm (motive := wpc E _ _) [2, 4, 5, 6] fun t2 hf => ?_
    simp only [push_cast, seval, hE.P, awrite, wpc_label, wpc_block, List.mem_cons, List.not_mem_nil, or_false, forall_eq_or_imp, forall_eq, f2, f4] at hf
    obtain ⟨p2, p4, p5, p6⟩ := hf
    refine gheap (motive := fun H => wpc E _ _ _ H) (fun H4 => KW E h H4 ∧ H4.get h.next = some (.cells [.slice none 0 0, .slice none 0 0, .slice none 0 0, .slice none 0 0, .int .i64 0] 29 true) ∧ H4.get H.next = some (.cells (boolsC (List.replicate n false)) 4 true) ∧ H4.get (H.next + 1) = some (.cells (intsC (List.replicate 9 0)) 3 true) ∧ H4.get (H.next + 1 + 1) = some (.cells [.slice none 0 0, .slice (some ⟨H.next, 0, none⟩) n n, .slice none 0 0, .slice (some ⟨H.next + 1, 0, none⟩) 9 9, .int .i64 0] 29 true))
      ⟨k4, by rw [get_put, if_neg (by omega), get_push, if_neg (by simp; omega), get_push, if_neg (by simp; omega), get_push, if_neg (by omega)]; exact gZ, by rw [get_put, if_neg (by omega), get_push, if_neg (by simp; omega), get_push, if_neg (by simp), get_push, if_pos rfl, arep_bools], by rw [get_put, if_neg (by omega), get_push, if_neg (by simp), get_push, if_pos (by simp), e9], by rw [get_put, if_pos rfl]⟩ ?_
    clear k4
    rintro H4 ⟨k4, gZ4, gD4, gS4, gB4⟩
    have s0 : SO E G h nobody := SO.nobody hW hG
    have yy : ∀ b, h.next ≤ b → G b = none := fun b hb => s0.gnone hb
    refine wpc_loop (fun k tm H5 => ∃ i G' L Y vL, k = n - i ∧ i ≤ n ∧ fget tm 2 = ptr h.next ∧ fget tm 4 = iv n ∧ fget tm 5 = ptr (H.next + 1 + 1) ∧ fget tm 6 = iv i ∧ PX E G h nobody G' H5 (un L Y) ∧ GS E G' H5 L Y [] vL (.slice none 0 0) ∧ L.length = i ∧ (∀ j a, L[j]? = some a → a.P = PR.new j n) ∧
      H5.get h.next = some (.cells [.slice none 0 0, .slice none 0 0, .slice none 0 0, .slice none 0 0, .int .i64 0] 29 true) ∧ H5.get H.next = some (.cells (boolsC (List.replicate n false)) 4 true) ∧ H5.get (H.next + 1) = some (.cells (intsC (List.replicate 9 0)) 3 true) ∧ H5.get (H.next + 1 + 1) = some (.cells [vL, .slice (some ⟨H.next, 0, none⟩) n n, .slice none 0 0, .slice (some ⟨H.next + 1, 0, none⟩) 9 9, .int .i64 0] 29 true) ∧
      Bx L Y G' [h.next, H.next, H.next + 1, H.next + 1 + 1]) n ?_ ?_
    · simp only [push_cast, seval, hE.P, awrite, wpc_label, wpc_block, p2, p4, p5, p6]
      refine ⟨0, G, [], nobody, .slice none 0 0, by omega, by omega, rfl, ?_⟩
      rw [un_nil]
      exact ⟨PX.kw s0 k4, GS.nil k4.w (hG.keep k4.k), rfl, fun j a h1 => (by simp at h1), gZ4, gD4, gS4, gB4, fun b hb => ⟨by rw [un_nil]; exact fun x => x, yy b (by simp at hb; omega)⟩⟩
    · rintro k tm H5 ⟨i, G', L, Y, vL, rfl, hi, p2, p4, p5, p6, px, gs, hL, hP, gZ5, gD5, gS5, gB5, hbx⟩
      by_cases hlt : i < n
      · have hd : decide ((i : Int) < (n : Int)) = true := by simp; omega
        simp only [push_cast, seval, hE.P, awrite, wpc_label, wpc_block, p2, p4, p5, p6, hd]
        have nZ5 := gs.rs.wf.nlt gZ5
        have nB5 := gs.rs.wf.nlt gB5
        refine (fresh_at hE (SO.nobody gs.rs.wf gs.rs.frz) (me := i) hn hlt).mono ?_
        rintro v1 H6 ⟨G1, X1, r, t, rc, p1, q1, hrc, rfl⟩
        have kx1 : ∀ b o, H5.get b = some o → H6.get b = some o := fun b o hb => p1.kx.get b o (fun x => x) hb
        have gZ6 := kx1 _ _ gZ5
        have gD6 := kx1 _ _ gD5
        have gS6 := kx1 _ _ gS5
        have gB6 := kx1 _ _ gB5
        obtain ⟨a1, c1, a2, c2, a3, c3, a4, c4, a5, c5, a6, c6, a7, c7, ct, cc, ca, hrc1, _⟩ := hrc.e
        have u0 := p1.so.wf.b0
        have u1 := p1.so.wf.b1
        have u2 := p1.so.wf.ne gB6
        have u3 := p1.so.wf.ne gZ6
        rw [hrc1]
        simp only [push_cast, seval, hE.P, awrite, wpc_label, wpc_block, p2, p4, p5, p6, u0, u1, u2, u3, gB6, nB5]
        rw [bs24 rfl, kalloc_some]
        simp only [push_cast, seval, hE.P, awrite, wpc_label, wpc_block, p2, p4, p5, p6, u0, u1, u2, u3, gB6, nB5]
        have k1 := (KW.refl p1.so.wf).push (o := .cells [ptr r, ptr t, iv (PR.new i n).me, iv (PR.new i n).n, iv (PR.new i n).vw, iv (PR.new i n).st, iv (PR.new i n).nm, iv (PR.new i n).bs, iv (PR.new i n).cm, iv (PR.new i n).nc, .slice a1 (PR.new i n).log.length c1, .bool false, .slice a2 (PR.new i n).sv.l.length c2, .slice none 0 0, .slice a3 (PR.new i n).sv.tab.length c3, .slice a4 (PR.new i n).told.length c4, .slice a5 (PR.new i n).voted.length c5, .bool (PR.new i n).sent, .slice a6 (PR.new i n).came.length c6, .slice a7 (PR.new i n).ans.length c7] 50 true)
        refine kwv_G1 (el24 hE.P) k1.w (lo := 0) (Nat.zero_le _) (gs.ol.at fun b o hb hg => k1.k.get _ _ (kx1 _ _ hg)) rfl rfl (by omega) (by omega) ?_
        intro v' H7 a _
        rw [hrc1] at hrc
        obtain ⟨gs7, px7⟩ := gs.snoc (b := ⟨PR.new i n, r, t, [iv (PR.new i n).me, iv (PR.new i n).n, iv (PR.new i n).vw, iv (PR.new i n).st, iv (PR.new i n).nm, iv (PR.new i n).bs, iv (PR.new i n).cm, iv (PR.new i n).nc, .slice a1 (PR.new i n).log.length c1, .bool false, .slice a2 (PR.new i n).sv.l.length c2, .slice none 0 0, .slice a3 (PR.new i n).sv.tab.length c3, .slice a4 (PR.new i n).told.length c4, .slice a5 (PR.new i n).voted.length c5, .bool (PR.new i n).sent, .slice a6 (PR.new i n).came.length c6, .slice a7 (PR.new i n).ans.length c7], X1⟩) p1 q1 hrc k1 a
        have hlz := (gs.rs.wf.live _ _ gZ5).2
        have hld := (gs.rs.wf.live _ _ gD5).2
        have hls := (gs.rs.wf.live _ _ gS5).2
        have hlb := (gs.rs.wf.live _ _ gB5).2
        have hb7 : Bx (L ++ [⟨PR.new i n, r, t, [iv (PR.new i n).me, iv (PR.new i n).n, iv (PR.new i n).vw, iv (PR.new i n).st, iv (PR.new i n).nm, iv (PR.new i n).bs, iv (PR.new i n).cm, iv (PR.new i n).nc, .slice a1 (PR.new i n).log.length c1, .bool false, .slice a2 (PR.new i n).sv.l.length c2, .slice none 0 0, .slice a3 (PR.new i n).sv.tab.length c3, .slice a4 (PR.new i n).told.length c4, .slice a5 (PR.new i n).voted.length c5, .bool (PR.new i n).sent, .slice a6 (PR.new i n).came.length c6, .slice a7 (PR.new i n).ans.length c7], X1⟩]) (fun x => Y x ∨ x ∈ slB v') G1 [h.next, H.next, H.next + 1, H.next + 1 + 1] := by
          intro b hb
          obtain ⟨h8, h9⟩ := hbx b hb
          have hlt5 : b < H5.next := by
            simp only [List.mem_cons, List.not_mem_nil, or_false] at hb
            rcases hb with rfl | rfl | rfl | rfl <;> assumption
          refine ⟨fun hx => ?_, px7.nn hlt5 h9⟩
          rcases px7.xs b hx with h10 | h10
          · exact h8 h10
          · omega
        have gg7 : ∀ b o, b ∈ [h.next, H.next, H.next + 1, H.next + 1 + 1] → H5.get b = some o → H7.get b = some o := fun b o hb hg => px7.kx.get b o (hbx b hb).1 hg
        have gZ7 := gg7 _ _ (by simp) gZ5
        have gD7 := gg7 _ _ (by simp) gD5
        have gS7 := gg7 _ _ (by simp) gS5
        have gB7 := gg7 _ _ (by simp) gB5
        obtain ⟨av, cv, rfl⟩ := a.sl
        simp only [push_cast, seval, hE.P, awrite, wpc_label, wpc_block, p2, p4, p5, p6, gB7, nB5]
        have hB := hb7 (H.next + 1 + 1) (by simp)
        refine ⟨n - (i + 1), by omega, i + 1, G1, _, _, .slice av (L.length + 1) cv, rfl, by omega, iv_succ (by omega), PX.fresh hW (px.trans hW px7) (by omega) hB.2 gB7, gs7.put gB7 hB.2 hB.1, by simp [hL], ?_, ?_, ?_, ?_, ?_, hb7⟩
        · intro j a hj
          by_cases hjl : j < L.length
          · rw [List.getElem?_append_left hjl] at hj; exact hP j a hj
          · rw [List.getElem?_append_right (by omega)] at hj
            have : j = i := by
              by_cases h0 : j - L.length = 0
              · omega
              · rw [List.getElem?_eq_none (by simp; omega)] at hj; cases hj
            subst this
            rw [hL, Nat.sub_self] at hj
            simp at hj
            rw [← hj]
        · rw [if_neg (by omega)]; exact gZ7
        · exact gD7
        · exact gS7
        · rfl
      · have hd : decide ((i : Int) < (n : Int)) = false := by simp; omega
        have nZ5 := gs.rs.wf.nlt gZ5
        have nB5 := gs.rs.wf.nlt gB5
        obtain ⟨aL, cL, hvL, _⟩ := gs.ol.isSl
        subst hvL
        simp only [push_cast, seval, hE.P, awrite, wpc_label, wpc_block, p2, p4, p5, p6, hd, gB5, nB5, gZ5, nZ5]
        have hni : i = n := by omega
        have hZ := hbx h.next (by simp)
        have hD := hbx H.next (by simp)
        have hS := hbx (H.next + 1) (by simp)
        have gs' := gs.put (o := .cells [.slice aL L.length cL, .slice (some ⟨H.next, 0, none⟩) n n, .slice none 0 0, .slice (some ⟨H.next + 1, 0, none⟩) 9 9, .int .i64 0] 29 true) gZ5 hZ.2 hZ.1
        have px' := PX.fresh (o := .cells [.slice aL L.length cL, .slice (some ⟨H.next, 0, none⟩) n n, .slice none 0 0, .slice (some ⟨H.next + 1, 0, none⟩) 9 9, .int .i64 0] 29 true) hW px (Nat.le_refl _) hZ.2 gZ5
        have lD := (gs.rs.wf.live _ _ gD5).2
        have lS := (gs.rs.wf.live _ _ gS5).2
        have so' : SO E G' (H5.put h.next (.cells [.slice aL L.length cL, .slice (some ⟨H.next, 0, none⟩) n n, .slice none 0 0, .slice (some ⟨H.next + 1, 0, none⟩) 9 9, .int .i64 0] 29 true)) (fun x => un L Y x ∨ x = H.next ∨ x = H.next + 1) := by
          refine ⟨px'.so.wf, px'.so.frz, fun b c hb hx => ?_, fun b hx => ?_⟩
          · rcases hx with hx | rfl | rfl
            · exact px'.so.dis b c hb hx
            · rw [hD.2] at hb; cases hb
            · rw [hS.2] at hb; cases hb
          · rcases hx with hx | rfl | rfl
            · exact px'.so.lt b hx
            · simpa using lD
            · simpa using lS
        refine ⟨G', L, Y, H.next, H.next + 1, [.slice aL L.length cL, .slice (some ⟨H.next, 0, none⟩) n n, .slice none 0 0, .slice (some ⟨H.next + 1, 0, none⟩) 9 9, .int .i64 0], px'.wide (fun _ x => x) so' fun b hx => ?_, ⟨⟨_, _, by rw [List.length_replicate]; rfl, gs'⟩, ?_, ?_, hD.1, hS.1, hD.2, hS.2, by omega⟩, by omega, hP, rfl⟩
        · rcases hx with hx | rfl | rfl
          · exact px'.xs b hx
          · right; omega
          · right; omega
        · rw [get_put, if_neg (by omega)]; exact gD5
        · rw [get_put, if_neg (by omega)]; exact gS5
end
end Go.Proofs.YthdgobcpefcolaaGreatDoor
namespace Vr
/-- Each client's numbers rise. -/
def Inc (W : List Ent) : Prop := W.Pairwise fun a b => a.c = b.c → a.n < b.n
theorem applyS_new {s : Sv} {e : Ent} (h : ∀ x, x ∈ s.tab → x.c = e.c → x.n < e.n) : (applyS s e).1.l = s.l ++ [e] ∧ ∀ x, x ∈ (applyS s e).1.tab → x ∈ s.tab ∨ (x.c = e.c ∧ x.n = e.n) := by
  have go : ∀ (a k : Nat) (r : Rpl), ∀ x, x ∈ s.tab.take a ++ [⟨e.c, e.n, r⟩] ++ s.tab.drop (a + k) → x ∈ s.tab ∨ (x.c = e.c ∧ x.n = e.n) := by
    intro a k r x hx
    simp only [List.mem_append, List.mem_singleton] at hx
    rcases hx with (h1 | h1) | h1
    · exact .inl (List.mem_of_mem_take h1)
    · subst h1; exact .inr ⟨rfl, rfl⟩
    · exact .inl (List.mem_of_mem_drop h1)
  unfold applyS
  simp only
  cases hl : lastOf s.tab e.c with
  | none => exact ⟨rfl, go _ _ _⟩
  | some x =>
    obtain ⟨h1, h2⟩ := lastOf_mem hl
    have h3 := h x h1 h2
    simp only
    rw [if_neg (by omega), if_neg (by omega)]
    exact ⟨rfl, go _ _ _⟩
theorem exec_ok {W : List Ent} (h : Inc W) : (execS W).l = W ∧ ∀ x, x ∈ (execS W).tab → ∃ e, e ∈ W ∧ e.c = x.c ∧ e.n = x.n := by
  generalize hn : W.length = n
  induction n generalizing W with
  | zero =>
    have := List.eq_nil_of_length_eq_zero hn
    subst this
    exact ⟨rfl, fun x hx => by simp [execS] at hx⟩
  | succ n ih =>
    rcases List.eq_nil_or_concat W with rfl | ⟨V, e, rfl⟩
    · simp at hn
    · simp only [List.concat_eq_append] at hn h ⊢
      obtain ⟨h1, h2, h3⟩ := List.pairwise_append.1 h
      obtain ⟨i1, i2⟩ := ih h1 (by simpa using hn)
      have key : ∀ x, x ∈ (execS V).tab → x.c = e.c → x.n < e.n := by
        intro x hx hc
        obtain ⟨a, ha, hac, han⟩ := i2 x hx
        have := h3 a ha e (by simp) (by omega)
        omega
      obtain ⟨a1, a2⟩ := applyS_new key
      rw [execS_snoc]
      refine ⟨by rw [a1, i1], fun x hx => ?_⟩
      rcases a2 x hx with h4 | ⟨h4, h5⟩
      · obtain ⟨a, ha, hh⟩ := i2 x h4
        exact ⟨a, by simp [ha], hh⟩
      · exact ⟨e, by simp, h4.symm, h5.symm⟩
theorem Inc.take {W : List Ent} (h : Inc W) (k : Nat) : Inc (W.take k) := List.Pairwise.sublist (List.take_sublist k W) h
theorem exec_len (W : List Ent) : (execS W).tab.length ≤ W.length ∧ (execS W).l.length ≤ W.length ∧ srt (execS W).tab := by
  generalize hn : W.length = n
  induction n generalizing W with
  | zero =>
    have := List.eq_nil_of_length_eq_zero hn
    subst this
    exact ⟨by simp [execS], by simp [execS], by simp [execS, srt]⟩
  | succ n ih =>
    rcases List.eq_nil_or_concat W with rfl | ⟨V, e, rfl⟩
    · simp at hn
    · simp only [List.concat_eq_append] at hn ⊢
      obtain ⟨i1, i2, i3⟩ := ih V (by simpa using hn)
      have := applyS_len (s := execS V) (e := e)
      rw [execS_snoc]
      exact ⟨by omega, by omega, applyS_srt i3⟩
/-- What the walks ask of a deed with a message. -/
def stepOk (P : PR) (m : Mg) : Prop :=
  P.Sz ∧ P.op < 1000000 ∧ m.to = P.me ∧ (m.k = 1 ∨ m.fr < P.n ∧ m.fr ≠ P.me) ∧ m.op ≤ 1000000000 ∧ (m.en.c ≤ 1000000 ∧ m.en.n ≤ 1000000) ∧ (stepP P m).1.Sz ∧ (stepP P m).2.length ≤ 1000000 ∧ (∀ m', m' ∈ (stepP P m).2 → m'.log = [] ∧ m'.img = []) ∧
  ((m.k = 1 ∧ ∀ x, lastOf P.sv.tab m.en.c = some x → m.en.n ≠ x.n) ∨
   (P.st = 0 ∧ m.vw = P.vw ∧ ((m.k = 2 ∧ P.prim = false ∧ m.op ≤ P.op + 1) ∨ (m.k = 3 ∧ P.prim = true ∧ m.op ≤ P.op) ∨ (m.k = 4 ∧ P.prim = false ∧ m.cm ≤ P.op))))
/-- All that waits is delivered, in k rounds. -/
inductive Dlv (n : Nat) : (Nat → PR) → List Mg → Nat → (Nat → PR) → Prop
  | nil (g) : Dlv n g [] 0 g
  | step {g m net k g'} : m.to < n → stepOk (g m.to) m → Dlv n (actF (g, net) m.to (stepP (g m.to) m)).1 (actF (g, net) m.to (stepP (g m.to) m)).2 k g' → Dlv n g (m :: net) (k + 1) g'
def tl (n : Nat) (f : Nat → Nat) : List Nat := (List.range n).map f
theorem tl_len (n : Nat) (f : Nat → Nat) : (tl n f).length = n := by simp [tl]
theorem tl_get {n i : Nat} {f : Nat → Nat} (h : i < n) : (tl n f).getD i 0 = f i := by simp [tl, List.getD_eq_getElem?_getD, h]
theorem tl_set {n i x : Nat} {f : Nat → Nat} : (tl n f).set i x = tl n fun j => if j = i then x else f j := by
  apply List.ext_getElem
  · simp [tl]
  · intro j h1 h2
    simp only [tl, List.length_set, List.length_map, List.length_range] at h1
    rw [List.getElem_set]
    simp only [tl, List.getElem_map, List.getElem_range]
    by_cases h : i = j
    · rw [if_pos h, if_pos h.symm]
    · rw [if_neg h, if_neg (fun e => h e.symm)]
theorem tl_zero (n : Nat) : List.replicate n 0 = tl n fun _ => 0 := by
  apply List.ext_getElem
  · simp [tl]
  · intro j h1 h2; simp [tl]
theorem tl_congr {n : Nat} {f g : Nat → Nat} (h : ∀ i, i < n → f i = g i) : tl n f = tl n g := by
  apply List.map_congr_left
  intro i hi
  exact h i (by simpa using hi)
theorem cst_new (n j : Nat) : PR.new j n = cst n j [] 0 (tl n fun _ => 0) := by
  unfold cst
  rw [← tl_zero]
  rfl
theorem cst_prim {n j c : Nat} {W : List Ent} {t : List Nat} : (cst n j W c t).prim = (j == 0) := by
  simp only [cst, PR.prim, PR.new, Nat.zero_mod]
  cases j <;> rfl
/-- What is in bounds. -/
structure CB (n : Nat) (W : List Ent) : Prop where
  n : n = 3 ∨ n = 5 ∨ n = 7
  len : W.length < 1000
  inc : Inc W
  ent : ∀ e, e ∈ W → e.c ≤ 1000 ∧ e.n ≤ 1000
theorem CB.sz {n : Nat} {W : List Ent} (b : CB n W) {j c : Nat} {t : List Nat} (hj : j < n) (hc : c ≤ W.length) (ht : t.length = n) : (cst n j W c t).Sz := by
  obtain ⟨e1, e2, e3⟩ := exec_len (W.take c)
  have hl : (W.take c).length = c := by simp; omega
  have := b.n; have := b.len
  refine ⟨?_, ?_, hj, ?_, ?_, ?_, ?_, ht, ?_, ?_, ?_, ?_, ?_, e3, ?_⟩
  · show 3 ≤ n ∧ n ≤ 7; omega
  · show n % 2 = 1; omega
  · show 0 ≤ 1000000; omega
  · show 0 ≤ c; omega
  · rw [cst_op]; exact hc
  · rw [cst_op]; omega
  · simp [cst, PR.new]
  · simp [cst, PR.new]
  · simp [cst, PR.new]
  · show (execS (W.take c)).tab.length ≤ c; omega
  · show (execS (W.take c)).l.length ≤ c; omega
  · intro e he; have := b.ent e he; omega
theorem commitK_plain : ∀ (l : List Ent) (P : PR), ∀ m, m ∈ (commitK l P).2 → m.log = [] ∧ m.img = []
  | [], P, m, h => by simp [commitK] at h
  | e :: l, P, m, h => by
    rw [commitK] at h
    simp only [List.mem_append] at h
    rcases h with h | h
    · unfold commit1 at h
      simp only at h
      split at h
      · simp only [List.mem_singleton] at h
        subst h
        exact ⟨rfl, rfl⟩
      · simp at h
    · exact commitK_plain l _ m h
section
variable {n : Nat} {W : List Ent} {e : Ent}
def prepM (W : List Ent) (e : Ent) (j : Nat) : Mg := { k := 2, to := j, op := W.length + 1, cm := W.length, en := e }
def okM' (k j : Nat) : Mg := { k := 3, fr := j, op := k }
def cmM (k j : Nat) : Mg := { k := 4, to := j, cm := k }
theorem CB.pre (b : CB n (W ++ [e])) : CB n W :=
  ⟨b.n, by have := b.len; simp at this; omega, (List.pairwise_append.1 b.inc).1, fun x hx => b.ent x (by simp [hx])⟩
theorem cst_lt (b : CB n (W ++ [e])) {c : Nat} {j : Nat} {t : List Nat} : ∀ x, lastOf (cst n j W c t).sv.tab e.c = some x → x.n < e.n := by
  intro x hx
  obtain ⟨h1, h2⟩ := lastOf_mem hx
  have hb := List.pairwise_append.1 b.inc
  obtain ⟨a, ha, h3, h4⟩ := (exec_ok (hb.1.sublist (List.take_sublist c W) : Inc (W.take c))).2 x h1
  have := hb.2.2 a (List.mem_of_mem_take ha) e (by simp) (by omega)
  omega
/-- A request at the primary. -/
theorem cst_req (b : CB n (W ++ [e])) {m : Mg} (hm : m.en = e) {t : List Nat} :
    request (cst n 0 W W.length t) m = (cst n 0 (W ++ [e]) W.length t, (cst n 0 (W ++ [e]) W.length t).allM { k := 2, op := W.length + 1, cm := W.length, en := e }) := by
  have hlt := cst_lt b (c := W.length) (j := 0) (t := t)
  have hd : (cst n 0 W W.length t).log.drop ((cst n 0 W W.length t).cm - (cst n 0 W W.length t).bs) = [] := by
    show W.drop (W.length - 0) = []
    simp
  have hQ : ({ cst n 0 W W.length t with log := (cst n 0 W W.length t).log ++ [e] } : PR) = cst n 0 (W ++ [e]) W.length t := by
    unfold cst
    simp [PR.new]
  have hp : (cst n 0 W W.length t).prim = true := cst_prim
  have ho : ((cst n 0 (W ++ [e]) W.length t)).op = W.length + 1 := by rw [cst_op]; simp
  unfold request
  rw [hp, hm]
  rw [if_neg (by simp [cst, PR.new])]
  simp only [hd, hQ, ho, List.any_nil, Bool.false_eq_true, if_false]
  cases hl : lastOf (cst n 0 W W.length t).sv.tab e.c with
  | none => rfl
  | some x =>
    have := hlt x hl
    simp only
    rw [if_neg (by omega), if_neg (by omega)]
    rfl
theorem cst_req' {j c : Nat} {t : List Nat} {m : Mg} (hj : j ≠ 0) : request (cst n j W c t) m = (cst n j W c t, []) := by
  have hp : (cst n j W c t).prim = false := by rw [cst_prim]; simp [hj]
  unfold request
  rw [hp]
  simp
theorem good14 {P : PR} {m : Mg} (hto : m.to = P.me) (h1 : 1 ≤ m.k) (h4 : m.k ≤ 4) (hfr : m.k = 1 ∨ m.fr < P.n ∧ m.fr ≠ P.me) : goodM P m = true := by
  unfold goodM
  have : ¬ (m.k = 6 ∨ m.k = 7 ∨ m.k = 9) := by omega
  rw [if_neg this, if_neg (by omega)]
  rcases hfr with h | ⟨h, h'⟩
  · simp [hto, h]
  · simp [hto, h1, h, h']; omega
theorem step14 {P : PR} {m : Mg} (hto : m.to = P.me) (h1 : 1 ≤ m.k) (h4 : m.k ≤ 4) (hfr : m.k = 1 ∨ m.fr < P.n ∧ m.fr ≠ P.me) : stepP P m = if m.k = 1 then request P m else normalM P m := by
  unfold stepP
  rw [good14 hto h1 h4 hfr]
  simp [h4]
/-- A Prepare at a backup. -/
theorem cst_prep (b : CB n (W ++ [e])) {j : Nat} (hj : j ≠ 0) {t : List Nat} :
    normalM (cst n j W (W.length - 1) t) (prepM W e j) = (cst n j (W ++ [e]) W.length t, [okM' (W.length + 1) j]) := by
  have hp : (cst n j W (W.length - 1) t).prim = false := by rw [cst_prim]; simp [hj]
  have ho : (cst n j W (W.length - 1) t).op = W.length := cst_op
  have hQ : ({ cst n j W (W.length - 1) t with log := (cst n j W (W.length - 1) t).log ++ [e] } : PR) = cst n j (W ++ [e]) (W.length - 1) t := by
    unfold cst
    simp only [PR.new]
    rw [List.take_append_of_le_length (by omega)]
  have hc : (commit (cst n j (W ++ [e]) (W.length - 1) t) W.length).1 = cst n j (W ++ [e]) W.length t := cst_commit (by omega) (by simp)
  have hc2 : (commit (cst n j (W ++ [e]) (W.length - 1) t) W.length).2 = [] := commit_nonprim _ _ (by rw [cst_prim]; simp [hj])
  unfold normalM
  rw [hp, ho]
  simp only [prepM]
  rw [if_neg (by simp [cst, PR.new]), if_neg (by omega), if_neg (by simp [cst, PR.new]), if_neg (by simp [cst, PR.new])]
  simp only [Bool.false_eq_true, if_false]
  rw [if_neg (by omega), if_neg (by omega), if_pos trivial, hQ, hc, hc2]
  simp only [List.nil_append, cst_op, List.length_append, List.length_singleton]
  rfl
theorem normal3 {P Q : PR} {m : Mg} (hst : P.st = 0) (hk : m.k = 3) (hp : P.prim = true) (hv : m.vw = P.vw) (hQ : Q = { P with told := P.told.set m.fr (max (P.told.getD m.fr 0) m.op) }) : normalM P m = commit Q (bestK Q (P.op - P.cm) (P.cm + 1) 0) := by
  subst hQ
  unfold normalM
  simp [hst, hk, hp, hv]
theorem normal4 {P : PR} {m : Mg} (hst : P.st = 0) (hk : m.k = 4) (hp : P.prim = false) (hv : m.vw = P.vw) (hc : m.cm ≤ P.op) : normalM P m = commit P m.cm := by
  unfold normalM
  have : ¬ P.op < m.cm := by omega
  simp [hst, hk, hp, hv, this]
/-- A PrepareOk at the primary. -/
theorem cst_ok {c j : Nat} {f : Nat → Nat} (hj : 0 < j ∧ j < n) (hf : f j ≤ W.length) (hc : c = W.length ∨ c + 1 = W.length) :
    ∃ c', (c' = W.length ∨ (c' = c ∧ toldN (cst n 0 W c (tl n fun i => if i = j then W.length else f i)) W.length < (n - 1) / 2)) ∧
      normalM (cst n 0 W c (tl n f)) (okM' W.length j) = (cst n 0 W c' (tl n fun i => if i = j then W.length else f i), (commit (cst n 0 W c (tl n fun i => if i = j then W.length else f i)) c').2) ∧ (c' = W.length ∨ c + 1 = W.length) := by
  have hp : (cst n 0 W c (tl n f)).prim = true := cst_prim
  have ho : (cst n 0 W c (tl n f)).op = W.length := cst_op
  have hQ : ({ cst n 0 W c (tl n f) with told := (cst n 0 W c (tl n f)).told.set j (max ((cst n 0 W c (tl n f)).told.getD j 0) W.length) } : PR) = cst n 0 W c (tl n fun i => if i = j then W.length else f i) := by
    have : (cst n 0 W c (tl n f)).told = tl n f := rfl
    rw [this, tl_get hj.2, Nat.max_eq_right hf, tl_set]
    rfl
  have hn : normalM (cst n 0 W c (tl n f)) (okM' W.length j) = commit (cst n 0 W c (tl n fun i => if i = j then W.length else f i)) (bestK (cst n 0 W c (tl n fun i => if i = j then W.length else f i)) (W.length - c) (c + 1) 0) := by
    rw [normal3 (m := okM' W.length j) rfl rfl hp rfl hQ.symm, ho]
    rfl
  rw [hn]
  have same : ∀ (P : PR) (k : Nat), k ≤ P.cm ∨ P.log.length ≤ P.cm - P.bs → commit P k = (P, []) := by
    intro P k h
    unfold commit PR.todo
    rcases h with h | h
    · rw [show k - P.cm = 0 by omega, List.take_zero]; rfl
    · rw [List.drop_eq_nil_of_le h, List.take_nil]; rfl
  have same' : ∀ (t : List Nat) (k : Nat), k ≤ c ∨ W.length ≤ c → commit (cst n 0 W c t) k = (cst n 0 W c t, []) := fun t k h => same _ _ (by simpa [cst, PR.new] using h)
  rcases hc with rfl | hc
  · refine ⟨W.length, .inl rfl, ?_, .inl rfl⟩
    rw [same' _ _ (.inr (Nat.le_refl _)), same' _ _ (.inr (Nat.le_refl _))]
  · have h1 : W.length - c = 1 := by omega
    rw [h1]
    simp only [bestK]
    have hF : (cst n 0 W c (tl n fun i => if i = j then W.length else f i)).F = (n - 1) / 2 := rfl
    rw [hF, hc]
    split
    · rename_i hle
      refine ⟨W.length, .inl rfl, ?_, .inl rfl⟩
      have := cst_commit (n := n) (j := 0) (c := c) (k := W.length) (W := W) (t := tl n fun i => if i = j then W.length else f i) (by omega) (by omega)
      rw [← this]
    · rename_i hle
      refine ⟨c, .inr ⟨rfl, by omega⟩, ?_, .inr rfl⟩
      rw [same' _ _ (.inl (Nat.zero_le _)), same' _ _ (.inl (Nat.le_refl _))]
/-- A Commit at a backup. -/
theorem cst_cm {j c : Nat} (hj : j ≠ 0) (hc : c ≤ W.length) {t : List Nat} : normalM (cst n j W c t) (cmM W.length j) = (cst n j W W.length t, []) := by
  have hp : (cst n j W c t).prim = false := by rw [cst_prim]; simp [hj]
  have ho : (cst n j W c t).op = W.length := cst_op
  have h1 : (commit (cst n j W c t) W.length).1 = cst n j W W.length t := cst_commit hc (Nat.le_refl _)
  have h2 : (commit (cst n j W c t) W.length).2 = [] := commit_nonprim _ _ (by rw [cst_prim]; simp [hj])
  rw [normal4 (m := cmM W.length j) rfl rfl hp rfl (by rw [ho]; exact Nat.le_refl _), show (cmM W.length j).cm = W.length from rfl, ← h1, ← h2]
end
end Vr
