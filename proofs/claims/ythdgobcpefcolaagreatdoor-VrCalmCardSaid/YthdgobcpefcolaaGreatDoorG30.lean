/- Chapter 25: a deed in a group. -/
import Derived.Test.YthdgobcpefcolaaGreatDoorG29
set_option maxRecDepth 10000
set_option linter.all false
set_option linter.unusedSimpArgs false
set_option linter.unusedVariables false
namespace Go.Tm
theorem scQ_big {c : Nat → St} {D : List Nat} {v : Value} (K : Nat) (hD : ∀ k, k < K → k ∈ D) (h : sc (c K).h.next v = true) : scQ (live c D) v = true := scQ_imp (fun b => decide (b < (c K).h.next)) _ (fun b hb => live_all K hD (of_decide_eq_true hb)) v (by rw [sc_scQ]; exact h)
theorem andi_mask (n : Int) (k : Nat) (hk : k ≤ 62) : bits .and .i64 n ((2 ^ k - 1 : Nat) : Int) = n % ((2 ^ k : Nat) : Int) := by
  have h2 : (2 : Nat) ^ k ≤ 2 ^ 62 := Nat.pow_le_pow_right (by omega) hk
  have h127 : (BitVec.ofInt 64 ((2 ^ k - 1 : Nat) : Int)).toNat = 2 ^ k - 1 := by
    rw [BitVec.toNat_ofInt]
    have : (2 : Nat) ^ 62 < 2 ^ 64 := by decide
    have hp : 0 < (2 : Nat) ^ k := Nat.two_pow_pos k
    omega
  have key : (BitVec.ofInt 64 n &&& BitVec.ofInt 64 ((2 ^ k - 1 : Nat) : Int)).toNat = (n % ((2 ^ 64 : Nat) : Int)).toNat % 2 ^ k := by
    rw [BitVec.toNat_and, BitVec.toNat_ofInt, h127, Nat.and_two_pow_sub_one_eq_mod]
  show IntKind.i64.wrap ((BitVec.ofInt 64 n &&& BitVec.ofInt 64 ((2 ^ k - 1 : Nat) : Int)).toNat : Nat) = _
  have hd : ((2 ^ k : Nat) : Int) ∣ ((2 ^ 64 : Nat) : Int) := Int.natCast_dvd_natCast.2 (Nat.pow_dvd_pow 2 (by omega))
  have hm : 0 ≤ n % ((2 ^ 64 : Nat) : Int) := Int.emod_nonneg _ (by decide)
  have e1 : (((n % ((2 ^ 64 : Nat) : Int)).toNat % 2 ^ k : Nat) : Int) = n % ((2 ^ k : Nat) : Int) := by
    rw [Int.natCast_emod, Int.toNat_of_nonneg hm, Int.emod_emod_of_dvd _ hd]
  rw [key, e1, wr64]
  · exact Int.le_trans (by decide) (Int.emod_nonneg _ (by have := Nat.two_pow_pos k; omega))
  · have := Int.emod_lt_of_pos n (b := ((2 ^ k : Nat) : Int)) (by have := Nat.two_pow_pos k; omega)
    have : (2 : Nat) ^ 62 = 4611686018427387904 := by decide
    omega
theorem andi3 (n : Int) : bits .and .i64 n 3 = n % 4 := andi_mask n 2 (by omega)
theorem andi7 (n : Int) : bits .and .i64 n 7 = n % 8 := andi_mask n 3 (by omega)
theorem andi16 (n : Int) : bits .and .i64 n 65535 = n % 65536 := andi_mask n 16 (by omega)
end Go.Tm
namespace Go.Proofs.YthdgobcpefcolaaGreatDoor
open Go.Tm Vr
set_option linter.unusedSectionVars false
/-- What the model's own function, called once more, must come to. -/
def outC (E : Env) (G1 : Mem) (H : Heap) (P : PR) (cs ms : List Value) (dk nk : Nat) (out : List Mg) : Prop :=
  if dk = 0 then CallsTo E 24 [.agg cs.toArray, .agg ms.toArray] H fun v h' => ∃ G' x co v2, Ext E G1 H G' h' ∧ Fz E G' 17 out.length co v2 ∧ MgsR E G' out co ∧ v = .tuple #[x, v2]
  else if dk = 10 then CallsTo E 21 [.agg cs.toArray] H fun v h' => ∃ G' x co v2, Ext E G1 H G' h' ∧ Fz E G' 17 out.length co v2 ∧ MgsR E G' out co ∧ v = .tuple #[x, v2]
  else if dk = 11 then CallsTo E 22 [.agg cs.toArray] H fun v h' => ∃ G' co, Ext E G1 H G' h' ∧ Fz E G' 17 out.length co v ∧ MgsR E G' out co
  else if dk = 12 then out = []
  else CallsTo E 23 [iv P.me, iv P.n, iv P.vw, iv nk, .agg #[.bool false, .slice none 0 0, .slice none 0 0, .slice none 0 0]] H fun v h' => ∃ G' x co v2, Ext E G1 H G' h' ∧ Fz E G' 17 out.length co v2 ∧ MgsR E G' out co ∧ v = .tuple #[x, v2]
variable {E : Env} (hE : EOk E)
include hE
section
variable {G : Mem} {h : Heap} {L : List Rr} {Y : Nat → Prop} {net : List Mg} {vL vN : Value} (g : GS E G h L Y net vL vN)
include g
set_option maxHeartbeats 4000000 in
theorem act_at {i : Nat} {a : Rr} (hi : L[i]? = some a) {aD aS : Option Addr} {mD cD mS cS tv : Nat} {m : Mg} {ms : List Value} {dk nk : Nat} (hdk : dk = 0 ∨ dk = 10 ∨ dk = 11 ∨ dk = 12 ∨ dk = 13) (hnk : nk < 65536) (hm : MgR E G m ms) {P' : PR} {out : List Mg} (hol : out.length ≤ 1000000)
    (hA : ∀ {G1 : Mem} {H : Heap}, SO E G1 H a.X → QR E G1 H a.X a.P [] a.r a.t → PRR E G1 a.P a.cs → MgR E G1 m ms → CallsTo E 20 [.agg a.c.toArray, .agg (iv dk :: iv nk :: ms).toArray] H fun v h' => ∃ G' X' rc', PX E G1 H a.X G' h' X' ∧ QR E G' h' X' P' [] a.r a.t ∧ PRR E G' P' rc' ∧ v = .tuple #[.agg (ptr a.r :: ptr a.t :: rc').toArray, .bool true])
    (hB : ∀ {G1 : Mem} {H : Heap}, WF E H → Frz E G1 H → PRR E G1 a.P a.cs → MgR E G1 m ms → outC E G1 H a.P a.cs ms dk nk out) :
    CallsTo E 12 [.agg #[vL, (.slice aD mD cD), vN, (.slice aS mS cS), iv tv], iv i, .agg (iv dk :: iv nk :: ms).toArray] h fun v h' => ∃ G' b Y' vN', PX E G h (un L Y) G' h' (un (L.set i b) Y') ∧ GS E G' h' (L.set i b) Y' (addNet net out) vL vN' ∧ b.P = P' ∧ b.r = a.r ∧ b.t = a.t ∧ v = .tuple #[.agg #[vL, (.slice aD mD cD), vN', (.slice aS mS cS), iv tv], .bool true] := by
  have w0 := g.rs.wf.b0
  have w1 := g.rs.wf.b1
  have w2 := g.rs.wf.b2
  have hm0 := hm
  have haL := List.mem_of_getElem? hi
  have hP := g.rs.pr a haL
  have hlt : i < L.length := (List.getElem?_eq_some_iff.1 hi).1
  obtain ⟨bL, cap, rfl, hnode⟩ := g.node hi
  obtain ⟨b1, d1, b2, d2, b3, d3, hms, m1, m2, m3⟩ := hm.e
  obtain ⟨a1, c1, a2, c2, a3, c3, a4, c4, a5, c5, a6, c6, a7, c7, ct, cc, ca, hcs, u1, ⟨u2, u3, _⟩, u4, u5, u6, u7⟩ := hP.e
  have hac : a.c = ptr a.r :: ptr a.t :: (rC a.P (.slice a1 a.P.log.length c1) (.slice a2 a.P.sv.l.length c2) (.slice a3 a.P.sv.tab.length c3) (.slice a4 a.P.told.length c4) (.slice a5 a.P.voted.length c5) (.slice a6 a.P.came.length c6) (.slice a7 a.P.ans.length c7)) := by unfold Rr.c; rw [hcs]
  rw [hac] at hnode
  subst hms
  refine calls_of_runs (fn := Tryz.f12) (by rw [hE.P]; exact Tryz.func12) rfl (by rw [hE.known]; rfl) (by rw [Tryz.ntmps12]; exact Nat.le_of_ble_eq_true rfl) (by decide +kernel) (rs := [.cell 6 29, .tmp 7]) rfl (wpc_runs _ _ _ _ ?_)
  simp only [push_cast, seval, hE.P, awrite, wpc_label, wpc_block, w0, w1, w2]
  have kk1 := ((KW.refl g.rs.wf).push (o := .cells [.slice (some ⟨bL, 0, none⟩) L.length cap, (.slice aD mD cD), vN, (.slice aS mS cS), iv tv] 29 true)).push (o := .cells (iv dk :: iv nk :: (mgC m (.slice b1 m.log.length d1) (.slice b2 m.img.length d2) (.slice b3 0 d3))) 66 true)
  have kk2 := kk1.push (o := .cells [.slice none 0 0, .slice none 0 0, .slice none 0 0, .slice none 0 0, .int .i64 0] 29 true)
  have g2 := g.ext (kk2.ext g.rs.frz)
  obtain ⟨_, _, e9, hn2⟩ := g2.node hi
  injection e9 with e9 _ _
  injection e9 with e9
  injection e9 with e9
  subst e9
  rw [hac] at hn2
  have p2 := acells_part hn2 2 18 (by omega)
  simp only [List.drop_succ_cons, List.drop_zero, List.take_succ_cons, List.take_zero] at p2
  rw [ia24 rfl (by omega) (by omega), kpure_some]
  simp only [push_cast, seval, hE.P, awrite, wpc_label, wpc_block, w0, w1, w2, ↓p2, Int.toNat_natCast, Nat.zero_add]
  have kk3 := (kk2.push (o := .cells [.int .i64 0, .int .i64 0, .int .i64 0, .int .i64 0, .int .i64 0, .int .i64 0, .int .i64 0, .int .i64 0, .slice none 0 0, .bool false, .slice none 0 0, .slice none 0 0, .slice none 0 0, .slice none 0 0, .slice none 0 0, .bool false, .slice none 0 0, .slice none 0 0] 48 true)).put (o := (.cells (rC a.P (.slice a1 a.P.log.length c1) (.slice a2 a.P.sv.l.length c2) (.slice a3 a.P.sv.tab.length c3) (.slice a4 a.P.told.length c4) (.slice a5 a.P.voted.length c5) (.slice a6 a.P.came.length c6) (.slice a7 a.P.ans.length c7)) 48 true)) (b := h.next + 1 + 1 + 1) (by omega) (by simp) g.rs.wf
  refine gtm (motive := wdraw E _ _) [1, 3, 5, 6, 8, 9] fun t1 hf => ?_
  simp only [push_cast, seval, hE.P, awrite, wpc_label, wpc_block, List.mem_cons, List.not_mem_nil, or_false, forall_eq_or_imp, forall_eq] at hf
  obtain ⟨f1, f3, f5, f6, f8, f9⟩ := hf
  refine gheap (motive := fun H => wdraw E _ _ _ H) (fun H => KW E h H ∧ H.get h.next = some (.cells [.slice (some ⟨bL, 0, none⟩) L.length cap, (.slice aD mD cD), vN, (.slice aS mS cS), iv tv] 29 true) ∧ H.get (h.next + 1) = some (.cells (iv dk :: iv nk :: (mgC m (.slice b1 m.log.length d1) (.slice b2 m.img.length d2) (.slice b3 0 d3))) 66 true) ∧ H.get (h.next + 1 + 1) = some (.cells [.slice none 0 0, .slice none 0 0, .slice none 0 0, .slice none 0 0, .int .i64 0] 29 true) ∧ H.get (h.next + 1 + 1 + 1) = some (.cells (rC a.P (.slice a1 a.P.log.length c1) (.slice a2 a.P.sv.l.length c2) (.slice a3 a.P.sv.tab.length c3) (.slice a4 a.P.told.length c4) (.slice a5 a.P.voted.length c5) (.slice a6 a.P.came.length c6) (.slice a7 a.P.ans.length c7)) 48 true)) ⟨kk3, by rw [get_put, if_neg (by omega), get_push, if_neg (by simp; omega), get_push, if_neg (by simp; omega), get_push, if_neg (by simp), get_push, if_pos rfl], by rw [get_put, if_neg (by omega), get_push, if_neg (by simp; omega), get_push, if_neg (by simp), get_push, if_pos (by simp)], by rw [get_put, if_neg (by omega), get_push, if_neg (by simp), get_push, if_pos (by simp)], by rw [get_put, if_pos rfl]⟩ ?_
  clear kk1 kk2 kk3 g2 p2 hn2
  rintro H ⟨k0, gG, gD, gZ, gR⟩
  have nG := k0.w.nlt gG
  have nD := k0.w.nlt gD
  have nZ := k0.w.nlt gZ
  have nR := k0.w.nlt gR
  have g3 := g.ext (k0.ext g.rs.frz)
  obtain ⟨_, _, e9, hn3⟩ := g3.node hi
  injection e9 with e9 _ _
  injection e9 with e9
  injection e9 with e9
  subst e9
  rw [hac] at hn3
  refine wdraw_two [(1, [0]), (4, [0]), (5, [0])] [6, 10, 11] [(10, [])] [(0, (20, [0])), (1, (21, [1, 0])), (2, (22, [2])), (3, (23, [3, 0, 1, 2])), (4, (24, [4, 0, 1, 2, 3])), (5, (25, [5])), (6, (26, [6, 0, 1, 2, 3, 4, 5])), (7, (19, [7, 0, 1, 2, 3, 4, 5, 6])), (8, (27, [8, 0, 1, 2, 3, 4, 5, 6, 7])), (9, (28, [9, 0, 1, 2, 3, 4, 5, 6, 7])), (10, (10, [10])), (12, (11, [12, 0, 1, 2, 3, 4, 5, 6, 7, 8, 9, 10, 11]))] [0, 1, 2, 3, 4, 5, 6, 7, 8, 9, 10, 11, 12] (by rw [hE.P]; decide +kernel) (by rw [hE.P]; decide +kernel) (by rw [hE.P]; decide +kernel) (by rw [hE.P]; decide +kernel) (by rw [hE.P]; decide +kernel) (by decide +kernel) rfl ?_
  simp only [push_cast, seval, hE.P, awrite, wpc_label, wpc_block, f1, f3, f5, f6, f8, f9, gG, gD, nG, nD]
  rw [ia24 rfl (by omega) (by omega), kpure_some]
  simp only [push_cast, seval, hE.P, awrite, wpc_label, wpc_block, f1, f3, f5, f6, f8, f9, gG, gD, nG, nD, ↓hn3, Int.toNat_natCast, Nat.zero_add]
  have hA3 := hA (g3.rs.so a haL) (g3.rs.qr a haL) (g3.rs.pr a haL) hm0
  rw [hac] at hA3
  refine hA3.mono ?_
  rintro v1 H1 ⟨G1, X1, rc1, p1, q1, hp1, rfl⟩
  have hp10 := hp1
  obtain ⟨A1, C1, A2, C2, A3, C3, A4, C4, A5, C5, A6, C6, A7, C7, CT, CC, CA, hrc, v1, ⟨v2, v3, _⟩, v4, v5, v6, v7⟩ := hp1.e
  subst hrc
  have xfr : ∀ b, h.next ≤ b → ¬ a.X b := fun b hb hx => by have := (g.rs.so a haL).lt b hx; omega
  have gG1 := p1.box (xfr _ (Nat.le_refl _)) gG
  have gD1 := p1.box (xfr _ (by omega)) gD
  have gZ1 := p1.box (xfr _ (by omega)) gZ
  have gR1 := p1.box (xfr _ (by omega)) gR
  have w3 := p1.so.wf.b0
  have e1 := p1.so.wf.ne gG1
  have e2 := p1.so.wf.ne gD1
  have hnx := p1.kx.next
  obtain ⟨_, _, e9, hn4⟩ := (g3.ol.other g3.yl (g3.dj a haL) p1.kx).elem p1.so.wf hlt
  injection e9 with e9 _ _
  injection e9 with e9
  injection e9 with e9
  subst e9
  rw [flat_take g3.rs.len hi, hac] at hn4
  simp only [push_cast, seval, hE.P, awrite, wpc_label, wpc_block, f1, f3, f5, f6, f8, f9, gG1, gD1, nG, nD, w3, e1, e2, ↓hn3, ↓hn4]
  refine ⟨⟨⟨hnx, by omega⟩, ?_, ?_, ?_, ?_⟩, ?_⟩
  · simp only [push_cast, seval, hE.P, awrite, wpc_label, wpc_block, f1, f3, f5, f6, f8, f9, gG, gD, gG1, gD1, nG, nD, w3, e1, e2, rdOk, veq_int, veq_slice, ↓hn3, ↓hn4]
    exact ⟨_, congrArg (Option.map fun l : List Value => Value.agg l.toArray) hn3, rfl, by simp [veq_agg, veqL_cons, veqL_nil, veq_int, veq_slice, veq_bool, veq_ptr]⟩
  · simp only [push_cast, seval, hE.P, awrite, wpc_label, wpc_block, f1, f3, f5, f6, f8, f9, gG, gD, gG1, gD1, nG, nD, w3, e1, e2, faOk, Op.operands, ops_func, Go.Tm.sc, scA, scL]
    have zz : ∀ {z n : Nat} {cs : List Value} {v : Value}, Sl E G z n cs v → Go.Tm.sc H.next v = true := fun s => Sl.sc g3.rs.wf g3.rs.frz s
    have z1 : ∀ {z n : Nat} {cs : List Value} {v : Value}, Sl E G1 z n cs v → Go.Tm.sc (H1.next + 1) v = true := fun s => Sl.sc (p1.so.wf.push (.cells [] 0 true)) (p1.so.frz.keep ((Keep.refl H1).push (o := .cells [] 0 true) p1.so.wf)) s
    obtain ⟨DD, qq⟩ := g3.rs.qr a haL
    have lr := (g3.rs.wf.live _ _ qq.hr).2
    obtain ⟨_, gtt, _⟩ := qq.ht
    have lt := (g3.rs.wf.live _ _ gtt).2
    simp only [zz u1.1, zz u2.1, zz u3.1, zz u4.1, zz u5.1, zz u6.1.1, zz u7.1.1, zz m1.1, zz m2.1, zz m3.1, z1 v1.1, z1 v2.1, z1 v3.1, z1 v4.1, z1 v5.1, z1 v6.1.1, z1 v7.1.1]
    have lr1 : a.r < H1.next + 1 := by omega
    have lt1 : a.t < H1.next + 1 := by omega
    exact ⟨⟨by simp [lr, lt], by simp⟩, fun _ x => x.elim, by simp, by simp [lr1, lt1]⟩
  · simp only [push_cast, seval, hE.P, awrite, wpc_label, wpc_block, f1, f3, f5, f6, f8, f9, gG, gD, gG1, gD1, nG, nD, w3, e1, e2, aOk]
    rfl
  · simp only [push_cast, seval, hE.P, awrite, wpc_label, wpc_block, f1, f3, f5, f6, f8, f9, gG, gD, gG1, gD1, nG, nD, w3, e1, e2, dOk]
    have zz : ∀ {z n : Nat} {cs : List Value} {v : Value}, Sl E G z n cs v → Go.Tm.sc H.next v = true := fun s => Sl.sc g3.rs.wf g3.rs.frz s
    have z1 : ∀ {z n : Nat} {cs : List Value} {v : Value}, Sl E G1 z n cs v → Go.Tm.sc H1.next v = true := fun s => Sl.sc p1.so.wf p1.so.frz s
    obtain ⟨DD, qq⟩ := g3.rs.qr a haL
    have lr := (g3.rs.wf.live _ _ qq.hr).2
    obtain ⟨_, gtt, _⟩ := qq.ht
    have lt := (g3.rs.wf.live _ _ gtt).2
    have lr1 : a.r < H1.next := by omega
    have lt1 : a.t < H1.next := by omega
    have lG := (g3.rs.wf.live _ _ gG).2
    have lD := (g3.rs.wf.live _ _ gD).2
    have lB : bL < H.next := g3.sy.lt bL (g.yl bL (by simp [slB]))
    have b0 : ∀ {v : Value}, Go.Tm.sc H.next v = true → ∀ {D : List Nat} {c : Nat → St}, (c 0).h = H → scQ (live c D) v = true := fun hv D c hc => scQ_big 0 (fun k hk => absurd hk (Nat.not_lt_zero k)) (by rw [hc]; exact hv)
    have b7 : ∀ {v : Value}, Go.Tm.sc H1.next v = true → ∀ {D : List Nat} {c : Nat → St}, (∀ k, k < 7 → k ∈ D) → (c 7).h = H1 → scQ (live c D) v = true := fun hv D c hD hc => scQ_big 7 hD (by rw [hc]; exact hv)
    have aA : Go.Tm.sc H.next (.agg #[ptr a.r, ptr a.t, iv a.P.me, iv a.P.n, iv a.P.vw, iv a.P.st, iv a.P.nm, iv a.P.bs, iv a.P.cm, iv a.P.nc, .slice a1 a.P.log.length c1, .bool false, .slice a2 a.P.sv.l.length c2, .slice none 0 0, .slice a3 a.P.sv.tab.length c3, .slice a4 a.P.told.length c4, .slice a5 a.P.voted.length c5, .bool a.P.sent, .slice a6 a.P.came.length c6, .slice a7 a.P.ans.length c7]) = true := by
      simp only [push_cast, seval, hE.P, awrite, wpc_label, wpc_block, Go.Tm.sc, scA, scL]
      simp only [zz u1.1, zz u2.1, zz u3.1, zz u4.1, zz u5.1, zz u6.1.1, zz u7.1.1]
      simp [lr, lt]
    have aD : Go.Tm.sc H.next (.agg #[iv dk, iv nk, iv m.k, iv m.fr, iv m.to, iv m.vw, iv m.op, iv m.cm, iv m.bs, iv m.nm, iv m.nc, .slice b1 m.log.length d1, .slice b2 m.img.length d2, iv m.en.c, iv m.en.n, .string m.en.t, iv m.rp.e, iv m.rp.n, .slice b3 0 d3]) = true := by
      simp only [push_cast, seval, hE.P, awrite, wpc_label, wpc_block, Go.Tm.sc, scA, scL]
      simp only [zz m1.1, zz m2.1, zz m3.1]
      simp
    have aP : Go.Tm.sc H1.next (.agg #[ptr a.r, ptr a.t, iv P'.me, iv P'.n, iv P'.vw, iv P'.st, iv P'.nm, iv P'.bs, iv P'.cm, iv P'.nc, .slice A1 P'.log.length C1, .bool false, .slice A2 P'.sv.l.length C2, .slice none 0 0, .slice A3 P'.sv.tab.length C3, .slice A4 P'.told.length C4, .slice A5 P'.voted.length C5, .bool P'.sent, .slice A6 P'.came.length C6, .slice A7 P'.ans.length C7]) = true := by
      simp only [push_cast, seval, hE.P, awrite, wpc_label, wpc_block, Go.Tm.sc, scA, scL]
      simp only [z1 v1.1, z1 v2.1, z1 v3.1, z1 v4.1, z1 v5.1, z1 v6.1.1, z1 v7.1.1]
      simp [lr1, lt1]
    have aT : Go.Tm.sc H1.next (.tuple #[.agg #[ptr a.r, ptr a.t, iv P'.me, iv P'.n, iv P'.vw, iv P'.st, iv P'.nm, iv P'.bs, iv P'.cm, iv P'.nc, .slice A1 P'.log.length C1, .bool false, .slice A2 P'.sv.l.length C2, .slice none 0 0, .slice A3 P'.sv.tab.length C3, .slice A4 P'.told.length C4, .slice A5 P'.voted.length C5, .bool P'.sent, .slice A6 P'.came.length C6, .slice A7 P'.ans.length C7], .bool true]) = true := by
      have := aP
      simp only [Go.Tm.sc, scA, scL] at this ⊢
      simp only [this, Bool.and_self]
    repeat' apply And.intro
    all_goals try rfl
    · exact b0 (by simpa [Go.Tm.sc] using lG) rfl
    · exact b0 (by simpa [Go.Tm.sc] using lB) rfl
    · exact b0 (by simpa [Go.Tm.sc] using lB) rfl
    · exact b0 aA rfl
    · exact b0 aD rfl
    · exact b7 aT (by decide) rfl
    · exact b7 aT (by decide) rfl
    · exact b7 aP (by decide) rfl
    · exact live_one (k := 10) (by decide) (Nat.le_refl _) (by show H1.next < (H1.push _).next; simp)
  · have hnode := node1 (a := ⟨P', a.r, a.t, _, X1⟩) hp10
    have kb := (KW.refl p1.so.wf).push (o := .cells (ptr a.r :: ptr a.t :: (rC P' (.slice A1 P'.log.length C1) (.slice A2 P'.sv.l.length C2) (.slice A3 P'.sv.tab.length C3) (.slice A4 P'.told.length C4) (.slice A5 P'.voted.length C5) (.slice A6 P'.came.length C6) (.slice A7 P'.ans.length C7))) 50 true)
    obtain ⟨bL', cap', oL, e9, hwr, hyb, gs, px⟩ := g.store (b := ⟨P', a.r, a.t, _, X1⟩) hi ((PX.kw (g.rs.so a haL) k0).trans g.rs.wf (p1.trans g3.rs.wf (PX.kw p1.so kb))) (q1.ext (kb.ext p1.so.frz)) hp10
    injection e9 with e9 _ e10
    injection e9 with e9
    injection e9 with e9
    subst e9; subst e10
    rw [ia24 rfl (by omega) (by omega), kpure_some]
    have gGb := kb.k.get _ _ gG1
    have gDb := kb.k.get _ _ gD1
    have gZb := kb.k.get _ _ gZ1
    have gRb := kb.k.get _ _ gR1
    have nbx : ∀ b, h.next ≤ b → b ≠ bL := fun b hb e => by have := g.sy.lt bL hyb; omega
    refine gtm (motive := wpo E _ _ _) [3, 5, 6, 8, 9, 35, 36] fun t2 hf => ?_
    simp only [push_cast, seval, hE.P, awrite, wpc_label, wpc_block, List.mem_cons, List.not_mem_nil, or_false, forall_eq_or_imp, forall_eq, f3, f5, f6, f8, f9, Int.toNat_natCast, Nat.zero_add] at hf
    obtain ⟨f3', f5', f6', f8', f9', f35', f36'⟩ := hf
    refine gheap (motive := fun H => wpo E _ _ _ _ H) (fun H2 => ∃ H3, awrite H2 ⟨bL, i * 20, none⟩ (ptr a.r :: ptr a.t :: (rC P' (.slice A1 P'.log.length C1) (.slice A2 P'.sv.l.length C2) (.slice A3 P'.sv.tab.length C3) (.slice A4 P'.told.length C4) (.slice A5 P'.voted.length C5) (.slice A6 P'.came.length C6) (.slice A7 P'.ans.length C7))) = some H3 ∧
      GS E G1 H3 (L.set i ⟨P', a.r, a.t, _, X1⟩) Y net (.slice (some ⟨bL, 0, none⟩) L.length cap) vN ∧ PX E G h (un L Y) G1 H3 (un (L.set i ⟨P', a.r, a.t, _, X1⟩) Y) ∧
      H3.get h.next = some (.cells [.slice (some ⟨bL, 0, none⟩) L.length cap, (.slice aD mD cD), vN, (.slice aS mS cS), iv tv] 29 true) ∧ H3.get (h.next + 1) = some (.cells (iv dk :: iv nk :: (mgC m (.slice b1 m.log.length d1) (.slice b2 m.img.length d2) (.slice b3 0 d3))) 66 true) ∧
      H3.get (h.next + 1 + 1) = some (.cells [.slice none 0 0, .slice none 0 0, .slice none 0 0, .slice none 0 0, .int .i64 0] 29 true) ∧
      H3.get (h.next + 1 + 1 + 1) = some (.cells (rC a.P (.slice a1 a.P.log.length c1) (.slice a2 a.P.sv.l.length c2) (.slice a3 a.P.sv.tab.length c3) (.slice a4 a.P.told.length c4) (.slice a5 a.P.voted.length c5) (.slice a6 a.P.came.length c6) (.slice a7 a.P.ans.length c7)) 48 true))
      ⟨_, hwr, gs, px, by rw [get_put, if_neg (fun e => nbx _ (Nat.le_refl _) e.symm)]; exact gGb, by rw [get_put, if_neg (fun e => nbx _ (by omega) e.symm)]; exact gDb, by rw [get_put, if_neg (fun e => nbx _ (by omega) e.symm)]; exact gZb, by rw [get_put, if_neg (fun e => nbx _ (by omega) e.symm)]; exact gRb⟩ ?_
    have yG1 := p1.nn (g3.rs.wf.live _ _ gG).2 (g.sy.gnone (Nat.le_refl _))
    have yZ1 := p1.nn (g3.rs.wf.live _ _ gZ).2 (g.sy.gnone (b := h.next + 1 + 1) (by omega))
    have nuB : ∀ b, h.next ≤ b → b < H.next → ¬ un (L.set i ⟨P', a.r, a.t, (rC P' (.slice A1 P'.log.length C1) (.slice A2 P'.sv.l.length C2) (.slice A3 P'.sv.tab.length C3) (.slice A4 P'.told.length C4) (.slice A5 P'.voted.length C5) (.slice A6 P'.came.length C6) (.slice A7 P'.ans.length C7)), X1⟩) Y b := by
      rintro b hb hb2 (hy | ⟨c, hc, hx⟩)
      · have := g.sy.lt b hy; omega
      · obtain ⟨j, hj⟩ := List.mem_iff_getElem?.1 hc
        rcases set_get hi hj with ⟨_, h2⟩ | ⟨_, h2⟩
        · subst h2
          exact p1.nx (xfr b hb) hb2 hx
        · have := (g.rs.so c (List.mem_of_getElem? h2)).lt b hx; omega
    have nuG := nuB _ (Nat.le_refl _) (g3.rs.wf.live _ _ gG).2
    have nuZ := nuB (h.next + 1 + 1) (by omega) (g3.rs.wf.live _ _ gZ).2
    clear gs px hwr gGb gDb gZb gRb
    rintro H2 ⟨H3, hwr, gs, px, gG2, gD2, gZ2, gR2⟩
    simp only [push_cast, seval, hE.P, wpc_label, wpc_block, f3', f5', f6', f8', f9', f35', f36', hwr, gG2, gD2, gZ2, gR2, nG, nD, nZ, nR]
    refine kif_cutN (fun t4 H4 => ∃ G4 co v2, fget t4 3 = ptr h.next ∧ fget t4 6 = ptr (h.next + 1 + 1) ∧ fget t4 8 = v2 ∧ PX E G h (un L Y) G4 H4 (un (L.set i ⟨P', a.r, a.t, (rC P' (.slice A1 P'.log.length C1) (.slice A2 P'.sv.l.length C2) (.slice A3 P'.sv.tab.length C3) (.slice A4 P'.told.length C4) (.slice A5 P'.voted.length C5) (.slice A6 P'.came.length C6) (.slice A7 P'.ans.length C7)), X1⟩) Y) ∧ GS E G4 H4 (L.set i ⟨P', a.r, a.t, (rC P' (.slice A1 P'.log.length C1) (.slice A2 P'.sv.l.length C2) (.slice A3 P'.sv.tab.length C3) (.slice A4 P'.told.length C4) (.slice A5 P'.voted.length C5) (.slice A6 P'.came.length C6) (.slice A7 P'.ans.length C7)), X1⟩) Y net (.slice (some ⟨bL, 0, none⟩) L.length cap) vN ∧ Fz E G4 17 out.length co v2 ∧ MgsR E G4 out co ∧ G4 h.next = none ∧ G4 (h.next + 1 + 1) = none ∧
      H4.get h.next = some (.cells [.slice (some ⟨bL, 0, none⟩) L.length cap, (.slice aD mD cD), vN, (.slice aS mS cS), iv tv] 29 true) ∧ H4.get (h.next + 1 + 1) = some (.cells [.slice none 0 0, .slice none 0 0, .slice none 0 0, .slice none 0 0, .int .i64 0] 29 true)) (fun t4 H4 hh => ?_) ?_
    rotate_left
    · have hb := hB gs.rs.wf gs.rs.frz (hP.sub px.sub) (hm0.sub px.sub)
      rw [hcs] at hb
      unfold outC at hb
      rcases hdk with rfl | rfl | rfl | rfl | rfl
      · rw [if_pos rfl] at hb
        simp only [push_cast, seval, hE.P, awrite, wpc_label, wpc_block, f3', f5', f6', f8', f9', gG2, gD2, gZ2, gR2, nG, nD, nZ, nR]
        refine hb.mono ?_
        rintro v H4 ⟨G4, x, co, v2, x4, z4, r4, rfl⟩
        simp only [push_cast, seval, hE.P, awrite, wpc_label, wpc_block, f3', f5', f6', f8', f9', gG2, gD2, gZ2, gR2, nG, nD, nZ, nR]
        have l2 := (gs.rs.wf.live _ _ gG2).2
        have l3 := (gs.rs.wf.live _ _ gZ2).2
        exact ⟨G4, co, px.trans g.rs.wf (PX.ext gs.so x4), gs.ext x4, z4, r4, x4.nn l2 yG1, x4.nn l3 yZ1, x4.keep.get _ _ gG2, x4.keep.get _ _ gZ2⟩
      · rw [if_neg (by omega), if_pos rfl] at hb
        simp only [push_cast, seval, hE.P, awrite, wpc_label, wpc_block, f3', f5', f6', f8', f9', gG2, gD2, gZ2, gR2, nG, nD, nZ, nR]
        refine hb.mono ?_
        rintro v H4 ⟨G4, x, co, v2, x4, z4, r4, rfl⟩
        simp only [push_cast, seval, hE.P, awrite, wpc_label, wpc_block, f3', f5', f6', f8', f9', gG2, gD2, gZ2, gR2, nG, nD, nZ, nR]
        have l2 := (gs.rs.wf.live _ _ gG2).2
        have l3 := (gs.rs.wf.live _ _ gZ2).2
        exact ⟨G4, co, px.trans g.rs.wf (PX.ext gs.so x4), gs.ext x4, z4, r4, x4.nn l2 yG1, x4.nn l3 yZ1, x4.keep.get _ _ gG2, x4.keep.get _ _ gZ2⟩
      · rw [if_neg (by omega), if_neg (by omega), if_pos rfl] at hb
        simp only [push_cast, seval, hE.P, awrite, wpc_label, wpc_block, f3', f5', f6', f8', f9', gG2, gD2, gZ2, gR2, nG, nD, nZ, nR]
        refine hb.mono ?_
        rintro v H4 ⟨G4, co, x4, z4, r4⟩
        simp only [push_cast, seval, hE.P, awrite, wpc_label, wpc_block, f3', f5', f6', f8', f9', gG2, gD2, gZ2, gR2, nG, nD, nZ, nR]
        have l2 := (gs.rs.wf.live _ _ gG2).2
        have l3 := (gs.rs.wf.live _ _ gZ2).2
        exact ⟨G4, co, px.trans g.rs.wf (PX.ext gs.so x4), gs.ext x4, z4, r4, x4.nn l2 yG1, x4.nn l3 yZ1, x4.keep.get _ _ gG2, x4.keep.get _ _ gZ2⟩
      · rw [if_neg (by omega), if_neg (by omega), if_neg (by omega), if_pos rfl] at hb
        simp only [push_cast, seval, hE.P, awrite, wpc_label, wpc_block, f3', f5', f6', f8', f9', gG2, gD2, gZ2, gR2, nG, nD, nZ, nR]
        subst hb
        exact ⟨G1, [], px, gs, Fz.nil, rfl, yG1, yZ1⟩
      · rw [if_neg (by omega), if_neg (by omega), if_neg (by omega), if_neg (by omega)] at hb
        have en : (nk : Int) % 65536 = (nk : Int) := by omega
        simp only [push_cast, seval, hE.P, awrite, wpc_label, wpc_block, f3', f5', f6', f8', f9', gG2, gD2, gZ2, gR2, nG, nD, nZ, nR, andi16, en]
        refine hb.mono ?_
        rintro v H4 ⟨G4, x, co, v2, x4, z4, r4, rfl⟩
        simp only [push_cast, seval, hE.P, awrite, wpc_label, wpc_block, f3', f5', f6', f8', f9', gG2, gD2, gZ2, gR2, nG, nD, nZ, nR]
        have l2 := (gs.rs.wf.live _ _ gG2).2
        have l3 := (gs.rs.wf.live _ _ gZ2).2
        exact ⟨G4, co, px.trans g.rs.wf (PX.ext gs.so x4), gs.ext x4, z4, r4, x4.nn l2 yG1, x4.nn l3 yZ1, x4.keep.get _ _ gG2, x4.keep.get _ _ gZ2⟩
    · obtain ⟨G4, co, v2, f43, f46, f48, px4, gs4, z4, r4, yG4, yZ4, gG4, gZ4⟩ := hh
      obtain ⟨ao, ac, rfl, _⟩ := z4.slice
      simp only [push_cast, seval, hE.P, awrite, wpc_label, wpc_block, f43, f46, f48]
      refine wpc_loop (fun k tm H5 => ∃ i0 Y' vN', k = out.length - i0 ∧ i0 ≤ out.length ∧ fget tm 3 = ptr h.next ∧ fget tm 6 = ptr (h.next + 1 + 1) ∧ fget tm 8 = .slice ao out.length ac ∧ fget tm 12 = iv i0 ∧
        PX E G h (un L Y) G4 H5 (un (L.set i ⟨P', a.r, a.t, (rC P' (.slice A1 P'.log.length C1) (.slice A2 P'.sv.l.length C2) (.slice A3 P'.sv.tab.length C3) (.slice A4 P'.told.length C4) (.slice A5 P'.voted.length C5) (.slice A6 P'.came.length C6) (.slice A7 P'.ans.length C7)), X1⟩) Y') ∧ GS E G4 H5 (L.set i ⟨P', a.r, a.t, (rC P' (.slice A1 P'.log.length C1) (.slice A2 P'.sv.l.length C2) (.slice A3 P'.sv.tab.length C3) (.slice A4 P'.told.length C4) (.slice A5 P'.voted.length C5) (.slice A6 P'.came.length C6) (.slice A7 P'.ans.length C7)), X1⟩) Y' (addNet net (out.take i0)) (.slice (some ⟨bL, 0, none⟩) L.length cap) vN' ∧ ¬ un (L.set i ⟨P', a.r, a.t, (rC P' (.slice A1 P'.log.length C1) (.slice A2 P'.sv.l.length C2) (.slice A3 P'.sv.tab.length C3) (.slice A4 P'.told.length C4) (.slice A5 P'.voted.length C5) (.slice A6 P'.came.length C6) (.slice A7 P'.ans.length C7)), X1⟩) Y' h.next ∧ ¬ un (L.set i ⟨P', a.r, a.t, (rC P' (.slice A1 P'.log.length C1) (.slice A2 P'.sv.l.length C2) (.slice A3 P'.sv.tab.length C3) (.slice A4 P'.told.length C4) (.slice A5 P'.voted.length C5) (.slice A6 P'.came.length C6) (.slice A7 P'.ans.length C7)), X1⟩) Y' (h.next + 1 + 1) ∧
        H5.get h.next = some (.cells [.slice (some ⟨bL, 0, none⟩) L.length cap, (.slice aD mD cD), vN', (.slice aS mS cS), iv tv] 29 true) ∧ H5.get (h.next + 1 + 1) = some (.cells [.slice none 0 0, .slice none 0 0, .slice none 0 0, .slice none 0 0, .int .i64 0] 29 true)) out.length ?_ ?_
      · simp only [push_cast, seval, hE.P, awrite, wpc_label, wpc_block, f43, f46, f48]
        exact ⟨0, Y, vN, by omega, by omega, rfl, px4, by rw [List.take_zero, addNet_nil]; exact gs4, nuG, nuZ, gG4, gZ4⟩
      · rintro k tm H5 ⟨i0, Y', vN', rfl, hi0, e3, e6, e8, e12, px5, gs5, nu1, nu2, gG5, gZ5⟩
        have nG5 := gs5.rs.wf.nlt gG5
        have nZ5 := gs5.rs.wf.nlt gZ5
        have hgs5 := gs5.on
        obtain ⟨cN, hoN, hmN⟩ := hgs5
        obtain ⟨aN, kN, rfl, _⟩ := hoN.isSl
        by_cases hlt : i0 < out.length
        · have hd : decide ((i0 : Int) < (out.length : Int)) = true := by simp; omega
          by_cases hfull : (addNet net (out.take i0)).length < 400
          · have hd2 : decide (((addNet net (out.take i0)).length : Int) < 400) = true := by simp; omega
            obtain ⟨b9, d9, e9, hsp9, hac9⟩ := z4.1.elem gs5.rs.frz hlt
            injection e9 with e9 _ e9'
            subst e9; subst e9'
            have q9 := r4.at i0 _ (List.getElem?_eq_getElem hlt)
            have eN := addNet_step (net := net) hlt hfull
            generalize out[i0] = m9 at *
            have q90 := q9
            obtain ⟨B1, D1, B2, D2, B3, D3, hms9, _⟩ := q9.e
            rw [hms9] at hac9 q90
            have p29 := acells_part hac9 2 1 (by omega)
            simp only [List.take_succ_cons, List.take_zero, List.drop_succ_cons, List.drop_zero] at p29
            simp only [push_cast, seval, hE.P, awrite, wpc_label, wpc_block, e3, e6, e8, e12, hd, hd2, gG5, gZ5, nG5, nZ5]
            rw [ia26 hsp9 (by omega) (by omega), kpure_some]
            simp only [push_cast, seval, hE.P, awrite, wpc_label, wpc_block, e3, e6, e8, e12, gG5, gZ5, nG5, nZ5, ↓p29, Int.toNat_natCast]
            by_cases h100 : m9.to < 100
            · have hd3 : decide ((m9.to : Int) < 100) = true := by simp; omega
              rw [if_pos h100] at eN
              simp only [push_cast, seval, hE.P, awrite, wpc_label, wpc_block, e3, e6, e8, e12, gG5, gZ5, nG5, nZ5, hd3]
              refine gtm (motive := wdraw E _ _) [3, 6, 8, 12] fun t7 hf => ?_
              simp only [push_cast, seval, hE.P, awrite, wpc_label, wpc_block, List.mem_cons, List.not_mem_nil, or_false, forall_eq_or_imp, forall_eq, e3, e6, e8, e12] at hf
              obtain ⟨y3, y6, y8, y12⟩ := hf
              refine wdraw_pairs [(1, 6)] (by rw [hE.P]; decide +kernel) (by rw [hE.P]; decide +kernel) (by rw [hE.P]; decide +kernel) ?_
              have p09 := acells_part hac9 0 17 (by omega)
              simp only [List.take_succ_cons, List.take_zero, List.drop_zero] at p09
              simp only [push_cast, seval, hE.P, awrite, wpc_label, wpc_block, y3, y6, y8, y12, gG5, nG5]
              rw [ia26 hsp9 (by omega) (by omega), kpure_some]
              simp only [push_cast, seval, hE.P, awrite, wpc_label, wpc_block, y3, y6, y8, y12, gG5, nG5, ↓hac9, Int.toNat_natCast]
              rw [bs26 rfl, kalloc_some]
              simp only [push_cast, seval, hE.P, awrite, wpc_label, wpc_block, y3, y6, y8, y12, gG5, nG5]
              refine kwv_Q1 (el26 hE.P) gs5.rs.wf hoN rfl rfl (by omega) (by omega) ?_
              intro v' H6 a6
              have hnY : h.next ∉ slB (.slice aN (addNet net (out.take i0)).length kN) := fun hb => nu1 (.inl (gs5.yn _ hb))
              have hnZ : h.next + 1 + 1 ∉ slB (.slice aN (addNet net (out.take i0)).length kN) := fun hb => nu2 (.inl (gs5.yn _ hb))
              have gG6 := a6.get _ _ gG5 hnY
              have gZ6 := a6.get _ _ gZ5 hnZ
              have nG6 := a6.wf.nlt gG6
              obtain ⟨gs6, px6⟩ := gs5.push hmN q90 a6
              obtain ⟨aN', kN', rfl, _⟩ := a6.own.isSl
              have lG5 := (gs5.rs.wf.live _ _ gG5).2
              have lZ5 := (gs5.rs.wf.live _ _ gZ5).2
              have nu16 : ¬ un (L.set i ⟨P', a.r, a.t, (rC P' (.slice A1 P'.log.length C1) (.slice A2 P'.sv.l.length C2) (.slice A3 P'.sv.tab.length C3) (.slice A4 P'.told.length C4) (.slice A5 P'.voted.length C5) (.slice A6 P'.came.length C6) (.slice A7 P'.ans.length C7)), X1⟩) (fun b => Y' b ∨ b ∈ slB (.slice aN' ((addNet net (out.take i0)).length + 1) kN')) h.next := fun hu => by
                rcases px6.xs _ hu with h5 | h5
                · exact nu1 h5
                · omega
              have nu26 : ¬ un (L.set i ⟨P', a.r, a.t, (rC P' (.slice A1 P'.log.length C1) (.slice A2 P'.sv.l.length C2) (.slice A3 P'.sv.tab.length C3) (.slice A4 P'.told.length C4) (.slice A5 P'.voted.length C5) (.slice A6 P'.came.length C6) (.slice A7 P'.ans.length C7)), X1⟩) (fun b => Y' b ∨ b ∈ slB (.slice aN' ((addNet net (out.take i0)).length + 1) kN')) (h.next + 1 + 1) := fun hu => by
                rcases px6.xs _ hu with h5 | h5
                · exact nu2 h5
                · omega
              simp only [push_cast, seval, hE.P, awrite, wpc_label, wpc_block, y3, y6, y8, y12, gG6, nG6]
              have c1 : ((match H5.get h.next with | some (AObj.cells c e fx) => if 3 ≤ c.length then some (List.take 1 (List.drop 2 c)) else none | x => none).bind fun l => l[0]?) = some (.slice aN (addNet net (out.take i0)).length kN) := by rw [gG5]; rfl
              refine ⟨⟨.slice aN (addNet net (out.take i0)).length kN, c1, c1, by rw [if_neg (by omega)]; exact c1, veq_slice⟩, out.length - (i0 + 1), by omega, i0 + 1, _, .slice aN' ((addNet net (out.take i0)).length + 1) kN', rfl, by omega, iv_succ (by omega), PX.fresh g.rs.wf (px5.trans g.rs.wf px6) (Nat.le_refl _) yG4 gG6, ?_, nu16, nu26, rfl, gZ6⟩
              rw [eN]; exact gs6.put gG6 yG4 nu16
            · have hd3 : decide ((m9.to : Int) < 100) = false := by simp; omega
              rw [if_neg h100, List.append_nil] at eN
              simp only [push_cast, seval, hE.P, awrite, wpc_label, wpc_block, e3, e6, e8, e12, gG5, gZ5, nG5, nZ5, hd3]
              exact ⟨out.length - (i0 + 1), by omega, i0 + 1, Y', _, rfl, by omega, iv_succ (by omega), px5, by rw [eN]; exact gs5, nu1, nu2, rfl⟩
          · have hd2 : decide (((addNet net (out.take i0)).length : Int) < 400) = false := by simp; omega
            simp only [push_cast, seval, hE.P, awrite, wpc_label, wpc_block, e3, e6, e8, e12, hd, hd2, gG5, gZ5, nG5, nZ5]
            have hne : addNet net out = addNet net (out.take i0) := addNet_full (by omega)
            rw [hne]
            exact ⟨G4, ⟨P', a.r, a.t, (rC P' (.slice A1 P'.log.length C1) (.slice A2 P'.sv.l.length C2) (.slice A3 P'.sv.tab.length C3) (.slice A4 P'.told.length C4) (.slice A5 P'.voted.length C5) (.slice A6 P'.came.length C6) (.slice A7 P'.ans.length C7)), X1⟩, Y', _, PX.fresh g.rs.wf px5 (by omega) yZ4 gZ5, gs5.put gZ5 yZ4 nu2, rfl, rfl, rfl, rfl⟩
        · have hd : decide ((i0 : Int) < (out.length : Int)) = false := by simp; omega
          simp only [push_cast, seval, hE.P, awrite, wpc_label, wpc_block, e3, e6, e8, e12, hd, gG5, gZ5, nG5, nZ5]
          have hne : addNet net out = addNet net (out.take i0) := by rw [List.take_of_length_le (by omega)]
          rw [hne]
          exact ⟨G4, ⟨P', a.r, a.t, (rC P' (.slice A1 P'.log.length C1) (.slice A2 P'.sv.l.length C2) (.slice A3 P'.sv.tab.length C3) (.slice A4 P'.told.length C4) (.slice A5 P'.voted.length C5) (.slice A6 P'.came.length C6) (.slice A7 P'.ans.length C7)), X1⟩, Y', _, PX.fresh g.rs.wf px5 (by omega) yZ4 gZ5, gs5.put gZ5 yZ4 nu2, rfl, rfl, rfl, rfl⟩
end
end Go.Proofs.YthdgobcpefcolaaGreatDoor
