/- Chapter 25: the program's replica: what was sent. -/
/- Merged by a program of ours: U11 U12. -/
import Derived.Test.YthdgobcpefcolaaGreatDoorG20
set_option maxRecDepth 10000
set_option linter.all false
set_option linter.unusedSimpArgs false
set_option linter.unusedVariables false
/- Chapter 25: the program's replica: what others told. -/
namespace Go.Tm
open Vr
theorem buildSlice_zero {E : Env} {t e z by_ : Nat} (T : Elem E t e z by_) : abs1 E.P t 0 [] = some (fun b => .slice (some ⟨b, 0, none⟩) 0 0, .cells [] e true) := by
  obtain ⟨i, hi, hiz⟩ : ∃ i, E.P.info? e = some i ∧ (i.size, i.bytes) = (z, by_) := by
    have := T.info
    rw [Option.map_eq_some_iff] at this
    exact this
  injection hiz with hz1 hz2
  subst hz1; subst hz2
  obtain ⟨zv, hzv, hzl⟩ := T.zero
  obtain ⟨z', hz'⟩ : ∃ z', i.size = z' + 1 := ⟨i.size - 1, by have := T.pos; omega⟩
  have hs : asz E.P e = some (z' + 1) := by simp [asz, hi, hz']
  simp only [abs1, T.und, hs, hzv]
  rw [if_pos ⟨by omega, by rw [hzl, hz']⟩]
  simp [afill, arep]
theorem Own.empty {E : Env} {h : Heap} {e z lo : Nat} (hl : lo ≤ h.next) : Own (h.push (.cells [] e true)) e z lo 0 [] (.slice (some ⟨h.next, 0, none⟩) 0 0) :=
  .inr ⟨h.next, 0, [], true, rfl, by simp [get_push], by simp, by simp, by omega, hl, by omega⟩
theorem bytesC_one : ∀ (L : List UInt8), (bytesC L).all Value.oneCell' = true
  | [] => rfl
  | x :: L => by
    have := bytesC_one L
    unfold bytesC at this ⊢
    rw [List.map_cons, List.all_cons, this]; rfl
/-- What is a replica's is as it was. -/
theorem QR'.keepX {E : Env} {G G' : Mem} {h h' : Heap} {X : Nat → Prop} {P : PR} {out : List Mg} {r t : Nat} {D : QD} (q : QR' E G h X P out r t D) (sub : Sub G G') (k : ∀ b o, X b → h.get b = some o → h'.get b = some o) : QR' E G' h' X P out r t D := by
  obtain ⟨co, o1, o2⟩ := q.ho
  obtain ⟨ss, t1, t2⟩ := q.ht
  obtain ⟨es, ck, c1, c2⟩ := q.hc
  have kx : ∀ b, b ∈ r :: t :: D.c :: (slB D.vl ++ slB D.vt ++ slB D.vv ++ slB D.vo) → ∀ o, h.get b = some o → h'.get b = some o := fun b hb o hg => k b o (q.hx b hb) hg
  exact ⟨kx _ (by simp) _ q.hr, ⟨ss, kx _ (by simp) _ t1, t2.sub sub⟩, q.hl.at fun b o hb => kx b (by simp [hb]) o, q.htl.at fun b o hb => kx b (by simp [hb]) o, q.hv.at fun b o hb => kx b (by simp [hb]) o, ⟨co, o1.at fun b o hb => kx b (by simp [hb]) o, o2.sub sub⟩, ⟨es, ck, kx _ (by simp) _ c1, c2.sub sub⟩, q.hx⟩
/-- What others told is another list in the same place. -/
theorem QR'.tl {E : Env} {G : Mem} {h h' : Heap} {X : Nat → Prop} {P : PR} {out : List Mg} {r t : Nat} {D : QD} {T : List Nat} (q : QR' E G h X P out r t D) (k : ∀ b o, b ∉ slB D.vt → h.get b = some o → h'.get b = some o) (ho : Own h' 3 1 0 T.length (intsC T) D.vt) : QR' E G h' X { P with told := T } out r t D := by
  obtain ⟨co, o1, o2⟩ := q.ho
  obtain ⟨ss, t1, t2⟩ := q.ht
  obtain ⟨es, ck, c1, c2⟩ := q.hc
  have key : ∀ b o, h.get b = some o → (∀ c fx, o ≠ .cells c 3 fx) → h'.get b = some o := fun b o hb h1 => k b o (q.htl.tag hb h1) hb
  have own : ∀ {e n : Nat} {cs : List Value} {v : Value} {z : Nat}, e ≠ 3 → Own h e z 0 n cs v → Own h' e z 0 n cs v := fun {e n cs v z} h1 H => by
    rcases H with H | ⟨b, cap, rest, fx, rfl, hg, h3⟩
    · exact .inl H
    · exact .inr ⟨b, cap, rest, fx, rfl, key b _ hg (fun c fx e => by injection e with _ e; exact h1 e), h3⟩
  exact ⟨key _ _ q.hr (fun c fx e => by injection e with _ e; cases e), ⟨ss, key _ _ t1 (fun c fx e => by injection e with _ e; cases e), t2⟩, own (by decide) q.hl, ho, own (by decide) q.hv, ⟨co, own (by decide) o1, o2⟩,
    ⟨es, ck, key _ _ c1 (fun c fx e => by cases e), c2⟩, q.hx⟩
theorem PX.pb {E : Env} {G : Mem} {h h1 h2 : Heap} {X : Nat → Prop} (hS : SO E G h X) (p : PX E G h X G h1 X) {b : Nat} {o : AObj} (hb : h.next ≤ b) (a : PB E h1 h2 b o) : PX E G h X G h2 X :=
  ⟨p.sub, p.new, ⟨fun x q hx hg => a.oth x q (fun e => by have := (hS.wf.live _ _ hg).2; omega) (p.kx.get x q hx hg), by rw [a.next]; exact p.kx.next⟩, p.xs,
    ⟨a.wf, fun x c hc => by
      obtain ⟨e, fx, hg⟩ := p.so.frz x c hc
      exact ⟨e, fx, a.oth _ _ (fun e => by subst e; rw [hS.gnone hb] at hc; cases hc) hg⟩, p.so.dis, fun x hx => by rw [a.next]; exact p.so.lt x hx⟩⟩
end Go.Tm
/-- Behind a call: the temporaries forgotten, but for some. -/
theorem Go.Tm.kcall_gen {E : Env} {f : FuncId} {a : List Value} {H : Heap} {tm : Tr Value} {d : Option Nat} {R : Cont} (ks : List Nat) (K : ∀ t, (∀ i, i ∈ ks → fget t i = fget tm i) → CallsTo E f a H (kput t d R)) : CallsTo E f a H (kput tm d R) := K tm fun _ _ => rfl
namespace Go.Proofs.YthdgobcpefcolaaGreatDoor
open Go.Tm Vr
variable {E : Env} (hE : EOk E)
include hE
theorem cloneI_at {G : Mem} {h : Heap} (hW : WF E h) (hG : Frz E G h) {n : Nat} {cs : List Value} {v : Value} (hv : Sl E G 1 n cs v) (ho : cs.all Value.oneCell' = true) (hl : cs.length = n) (hn : 0 < n ∧ n ≤ 1000000) : CallsTo E 89 [v] h fun v' h' => Own h' 3 1 h.next n cs v' ∧ KW E h h' := by
  obtain ⟨a, c, rfl, hc1, hc2⟩ := hv.slice
  have hv' := hv
  obtain ⟨a', c', e1, _, _, ⟨h3, _⟩, h4⟩ := hv'
  injection e1 with e1 _ e2
  subst e1; subst e2
  rcases a with _ | a
  · rcases h4 with ⟨h5, _⟩ | ⟨b, h5, _⟩
    · omega
    · cases h5
  · refine calls_of_runs (fn := Tryz.f89) (by rw [hE.P]; exact Tryz.func89) rfl (by rw [hE.known]; rfl) (by rw [Tryz.ntmps89]; exact Nat.le_of_ble_eq_true rfl) (by decide +kernel) (rs := [.tmp 2]) rfl (wpc_runs _ _ _ _ ?_)
    simp only [push_cast, seval, hE.P, wpc_label, wpc_block]
    have hnil : anil Tryz.prog true 27 (.slice (some a) n c) (.slice none 0 0) = some false := by simp [anil, Tryz.underlying27]
    have hz : abs1 Tryz.prog 27 0 [] = some (fun b => .slice (some ⟨b, 0, none⟩) 0 0, .cells [] 3 true) := by have := buildSlice_zero (el27 hE.P); rwa [hE.P] at this
    rw [hnil]
    simp only [push_cast, seval, hE.P, wpc_label, wpc_block, kpure_some, Option.map_some]
    rw [hz, kalloc_some]
    simp only [push_cast, seval, hE.P, wpc_label, wpc_block]
    have k0 := (KW.refl hW).push (o := .cells [] 3 true)
    refine kwv_GS (el27 hE.P) (hW.push _) (hG.keep k0.k) (lo := h.next) (by simp) (Own.empty (E := E) (Nat.le_refl _)) hv (by omega) ho (by omega) (by omega) ?_
    intro v' h' a'
    simp only [push_cast, seval, hE.P, wpc_label, wpc_block]
    have o' := a'.own
    rw [Nat.zero_add, List.nil_append] at o'
    exact ⟨o', k0.app hW (Own.empty (E := E) (Nat.le_refl _)) a'⟩
section
variable {G : Mem} {h : Heap} {X : Nat → Prop} (hS : SO E G h X) {P : PR} {out : List Mg} {r t : Nat} (hQ : QR E G h X P out r t)
include hS hQ
set_option maxHeartbeats 2000000 in
theorem prepareOk_at (z : P.Sz) (ho : out.length ≤ 100) {m : Mg} {ms : List Value} (hm : MgR E G m ms) (hk : m.k = 3) (hmo : m.op ≤ P.op) (hfr : m.fr < P.n) : CallsTo E 55 [ptr r, .agg ms.toArray] h fun v h' => v = .tuple #[] ∧ ∃ G' X', PX E G h X G' h' X' ∧ QR E G' h' X' (normalM P m).1 (out ++ (normalM P m).2) r t := by
  have hm0 := hm
  obtain ⟨b1, d1, b2, d2, b3, d3, rfl, m1, m2, m3⟩ := hm.e
  have nb := hS.wf.nb0
  refine calls_of_runs (fn := Tryz.f55) (by rw [hE.P]; exact Tryz.func55) rfl (by rw [hE.known]; rfl) (by rw [Tryz.ntmps55]; exact Nat.le_of_ble_eq_true rfl) (by decide +kernel) (rs := []) rfl (wpc_runs _ _ _ _ ?_)
  simp only [push_cast, seval, hE.P, wpc_label, wpc_block, nb]
  have k0 := (KW.refl hS.wf).push (o := .cells (mgC m (.slice b1 m.log.length d1) (.slice b2 m.img.length d2) (.slice b3 0 d3)) 62 true)
  have p0 := PX.kw hS k0
  have q0 := hQ.ext (k0.ext hS.frz)
  have ge : (h.push (.cells (mgC m (.slice b1 m.log.length d1) (.slice b2 m.img.length d2) (.slice b3 0 d3)) 62 true)).get h.next = some (.cells (mgC m (.slice b1 m.log.length d1) (.slice b2 m.img.length d2) (.slice b3 0 d3)) 62 true) := by rw [get_push, if_pos rfl]
  refine gtm (motive := wdraw E _ _) [0, 3] fun t1 hf => ?_
  simp only [push_cast, seval, hE.P, wpc_label, wpc_block, List.mem_cons, List.not_mem_nil, or_false, forall_eq_or_imp, forall_eq] at hf
  obtain ⟨f0, f3⟩ := hf
  refine gheap (motive := fun H => wdraw E _ _ _ H) (fun H => PX E G h X G H X ∧ QR E G H X P out r t ∧ H.get h.next = some (.cells (mgC m (.slice b1 m.log.length d1) (.slice b2 m.img.length d2) (.slice b3 0 d3)) 62 true)) ⟨p0, q0, ge⟩ ?_
  clear p0 q0 ge k0
  rintro H ⟨p0, q0, ge⟩
  have q0' := q0
  obtain ⟨⟨dc, vl, vt, vv, vo⟩, q⟩ := q0'
  have hr := q.hr
  have nr := p0.so.wf.nlt hr
  have ne := p0.so.wf.nlt ge
  have zn := z.n
  have zt := z.told
  have zo := z.op
  have zm := z.me
  have hn : 1 ≤ P.n ∧ P.n ≤ 1000 := ⟨by omega, by omega⟩
  have hvw : P.vw ≤ 1099511627776 := by have := z.vw; omega
  generalize hR : normalM P m = R
  unfold normalM at hR
  refine wdraw_calm (by rw [hE.P]; decide +kernel) ?_
  simp only [push_cast, seval, hE.P, wpc_label, wpc_block, f0, f3]
  refine (leads_at hE p0.so q0 hn hvw).mono ?_
  intro v h5 hvh
  rw [hvh.1, hvh.2]
  clear hvh
  by_cases hst : P.st = 0
  · rw [if_neg (by omega), if_pos hk] at hR
    cases hp : P.prim
    · have hb : (P.st == 0 && false) = false := by simp
      rw [hp, if_pos (.inl rfl)] at hR
      subst hR
      simp only [push_cast, seval, hE.P, wpc_label, wpc_block, f0, f3, hb, kguard_undef]
      exact ⟨G, X, p0, by simpa using q0⟩
    · have hb : (P.st == 0 && true) = true := by simp [hst]
      by_cases hv : m.vw = P.vw
      · have hb2 : ((m.vw : Int) != (P.vw : Int)) = false := by simp [hv]
        rw [hp, if_neg (by simp [hv])] at hR
        simp only [push_cast, seval, hE.P, wpc_label, wpc_block, f0, f3, hb, hr, nr, ge, ne, hb2]
        refine wdraw_calm (by rw [hE.P]; decide +kernel) ?_
        obtain ⟨tb, tc, hvt, htr⟩ := q.htl.elem p0.so.wf (show m.fr < P.told.length by omega)
        simp only at hvt
        subst hvt
        have hbf := q.htl
        rcases hbf with ⟨hx, _⟩ | ⟨tb', cap, rest, fx, hx, hg, hg1, hg2, hg3, hg4, hg5⟩
        · cases hx
        · injection hx with hx _ hx2
          injection hx with hx
          injection hx with hx
          subst hx; subst hx2
          have ntr : (tb = r) = False := by simp; intro e; rw [e, hr] at hg; injection hg with hg; injection hg with _ hg; cases hg
          have r1 := int_read p0.so.wf hg (i := m.fr) (by omega)
          obtain ⟨mx, hmx⟩ : ∃ mx, mx = max (P.told.getD m.fr 0) m.op := ⟨_, rfl⟩
          rw [← hmx] at hR
          have w1 := int_write hg (i := m.fr) (x := mx) (by omega)
          have hmv : max ((P.told.getD m.fr 0 : Nat) : Int) (min (m.op : Int) (P.op : Int)) = (mx : Int) := by omega
          simp only [push_cast, seval, hE.P, wpc_label, wpc_block, f0, f3, hr, nr, ge, ne]
          rw [ia27 rfl (by omega) (by omega), kpure_some]
          simp only [push_cast, seval, hE.P, wpc_label, wpc_block, f0, f3, hr, nr, ge, ne, Nat.zero_add, ↓r1, Int.toNat_natCast]
          rw [hmv, ia27 rfl (by omega) (by omega), kpure_some]
          simp only [push_cast, seval, hE.P, wpc_label, wpc_block, f0, f3, hr, nr, ge, ne, Nat.zero_add, ↓w1, kwr_some, Int.toNat_natCast, ntr]
          have p1 := p0.trans hS.wf (PX.put (o := .cells (intsC (P.told.set m.fr mx) ++ rest) 3 fx) p0.so (q.hx tb (by simp [slB])) hg)
          have hlt : (P.told.set m.fr mx).length = P.told.length := by simp
          have q1 : QR' E G (H.put tb (.cells (intsC (P.told.set m.fr mx) ++ rest) 3 fx)) X { P with told := P.told.set m.fr mx } out r t ⟨dc, vl, .slice (some ⟨tb, 0, none⟩) P.told.length tc, vv, vo⟩ := by
            refine q.tl (T := P.told.set m.fr mx) (fun b o hb hg' => by rw [get_put, if_neg (fun e => hb (by simp [slB]; exact e.symm))]; exact hg') ?_
            exact .inr ⟨tb, tc, rest, fx, by rw [hlt], by rw [get_put, if_pos rfl], by simp [intsC], by rw [hlt]; exact hg2, by rw [hlt]; exact hg3, Nat.zero_le _, hg5⟩
          have hs1 : (H.put tb (.cells (intsC (P.told.set m.fr mx) ++ rest) 3 fx)).get tb = some (.cells (intsC (P.told.set m.fr mx) ++ rest) 3 fx) := by rw [get_put, if_pos rfl]
          have hw3 : (Value.int .i64 (IntKind.i64.wrap ((P.n : Int) - (P.n : Int) / 2))) = .int .i64 ((P.n - P.n / 2 : Nat) : Int) := by rw [wr64 (by omega) (by omega)]; congr 1; omega
          refine gheap (motive := fun H => CallsTo E 89 _ H _) (fun H2 => PX E G h X G H2 X ∧ QR' E G H2 X { P with told := P.told.set m.fr mx } out r t ⟨dc, vl, .slice (some ⟨tb, 0, none⟩) P.told.length tc, vv, vo⟩) ⟨p1, q1⟩ ?_
          clear p1 q1 hs1
          rintro H2 ⟨p2, q2⟩
          refine kcall_gen [0, 3] ?_
          intro t2 hf
          simp only [push_cast, seval, hE.P, wpc_label, wpc_block, List.mem_cons, List.not_mem_nil, or_false, forall_eq_or_imp, forall_eq, f0, f3] at hf
          obtain ⟨f0, f3⟩ := hf
          have htl2 := q2.htl
          simp only [hlt] at htl2
          obtain ⟨G1, hs1, hsub1, hf1, hn1⟩ := htl2.addF p2.so.wf p2.so.frz
          refine (cloneI_at hE p2.so.wf hf1 hs1 (intsC_one _) (by simp [intsC]) (by omega)).mono ?_
          rintro v3 H3 ⟨o3, kw3⟩
          rcases o3 with ⟨_, hx, _⟩ | ⟨cb, cc, crest, cfx, rfl, hcg, hc1, hc2, hc3, hc4, hc5⟩
          · omega
          have p3 := p2.trans hS.wf (PX.kw p2.so kw3)
          have q3 := q2.keep (Sub.refl _) kw3.k
          have hr3 := q3.hr
          have nr3 := p3.so.wf.nlt hr3
          have w3 : awrite H3 ⟨cb, P.me, none⟩ [.int .i64 0] = some (H3.put cb (.cells (intsC ((P.told.set m.fr mx).set P.me 0) ++ crest) 3 cfx)) := int_write hcg (i := P.me) (x := 0) (by simp; omega)
          have pb1 := (PB.refl kw3.w hcg).put (o' := .cells (intsC ((P.told.set m.fr mx).set P.me 0) ++ crest) 3 cfx)
          simp only [push_cast, seval, hE.P, wpc_label, wpc_block, f0, f3, hr3, nr3]
          rw [ia27 rfl (by omega) (by omega), kpure_some]
          simp only [push_cast, seval, hE.P, wpc_label, wpc_block, f0, f3, hr3, nr3, Nat.zero_add, ↓w3, kwr_some, Int.toNat_natCast]
          refine (sort_at hE pb1.wf pb1.get (L := (P.told.set m.fr mx).set P.me 0) (n := P.told.length) (by simp) (by have := z.odd; omega) hc3).mono ?_
          rintro v4 H4 ⟨rfl, L', hperm, hsrt, pb2⟩
          have hL' : L'.length = P.n := by rw [hperm.length_eq]; simp [zt]
          have hcbX : ¬ X cb := fun hx => by have := p2.so.lt _ hx; omega
          have p4 := PX.pb hS (PX.pb hS p3 (by have := p2.kx.next; omega) pb1) (by have := p2.kx.next; omega) pb2
          have q4 := q3.keepX (h' := H4) (Sub.refl _) (fun b o hb hg => pb2.oth _ _ (fun e => hcbX (by rw [← e]; exact hb)) (pb1.oth _ _ (fun e => hcbX (by rw [← e]; exact hb)) hg))
          have hr4 := q4.hr
          have nr4 := p4.so.wf.nlt hr4
          have hz4 : PR.Sz { P with told := P.told.set m.fr mx } := ⟨z.n, z.odd, z.me, z.vw, z.bs, z.cm, z.op, by simp [zt], z.voted, z.came, z.ans, z.tab, z.svl, z.srt, z.ent⟩
          refine wdraw_pairs [(5, 7)] (by rw [hE.P]; decide +kernel) (by rw [hE.P]; decide +kernel) (by rw [hE.P]; decide +kernel) ?_
          simp only [push_cast, seval, hE.P, wpc_label, wpc_block, f0, f3, hr4, nr4]
          refine (f_at hE p4.so ⟨_, q4⟩ (by show 1 ≤ P.n ∧ P.n ≤ 1000; exact hn)).mono ?_
          intro v5 h5 hvh
          rw [hvh.1, hvh.2]
          clear hvh
          have hr5 := int_read p4.so.wf pb2.get (i := P.n - P.n / 2) (by omega)
          simp only [push_cast, seval, hE.P, wpc_label, wpc_block, f0, f3]
          rw [hw3, ia27 rfl (by omega) (by omega), kpure_some]
          simp only [push_cast, seval, hE.P, wpc_label, wpc_block, f0, f3, Nat.zero_add, ↓hr5, Int.toNat_natCast]
          have hcb : commit { P with told := P.told.set m.fr mx } (bestK { P with told := P.told.set m.fr mx } (P.op - P.cm) (P.cm + 1) 0) = commit { P with told := P.told.set m.fr mx } (L'.getD (P.n - P.n / 2) 0) := by
            refine commit_best (P := { P with told := P.told.set m.fr mx }) z.bs z.cm fun k hk1 => ?_
            have hF : PR.F { P with told := P.told.set m.fr mx } = P.n / 2 := by have := z.odd; show (P.n - 1) / 2 = P.n / 2; omega
            rw [hF, toldN_cnt hk1 (by simp [zt]) (by show P.me < P.n; exact zm)]
            show P.n / 2 ≤ cntGe ((P.told.set m.fr mx).set P.me 0) k ↔ _
            rw [← cntGe_perm hperm, cntGe_srt hsrt (by omega) (by omega), hL']
          refine (upTo_at hE p4.so ⟨_, q4⟩ hz4 (by omega) _).mono ?_
          rintro v6 h6 ⟨rfl, G6, X6, px6, q6⟩
          simp only [push_cast, seval, hE.P, wpc_label, wpc_block, f0, f3, hr4, nr4, veq_int]
          subst hR
          rw [hcb]
          exact ⟨G6, X6, p4.trans hS.wf px6, q6⟩
      · have hb2 : ((m.vw : Int) != (P.vw : Int)) = true := by simp; omega
        rw [hp, if_pos (.inr hv)] at hR
        subst hR
        simp only [push_cast, seval, hE.P, wpc_label, wpc_block, f0, f3, hb, hr, nr, ge, ne, hb2]
        exact ⟨G, X, p0, by simpa using q0⟩
  · have hb : ∀ b, (P.st == 0 && b) = false := by simp [hst]
    rw [if_pos hst] at hR
    subst hR
    simp only [push_cast, seval, hE.P, wpc_label, wpc_block, f0, f3, hb, kguard_undef]
    exact ⟨G, X, p0, by simpa using q0⟩
end
end Go.Proofs.YthdgobcpefcolaaGreatDoor
namespace Go.Tm
theorem Ext.kw {E : Env} {G G' : Mem} {h h1 h2 : Heap} (x : Ext E G h G' h1) (k : KW E h1 h2) : Ext E G h G' h2 := ⟨x.sub, x.frz.keep k.k, x.new, x.keep.trans k.k, k.w⟩
theorem Ext.put {E : Env} {G G' : Mem} {h h1 : Heap} (x : Ext E G h G' h1) (hW : WF E h) {b : Nat} {o o' : AObj} (hn : h.next ≤ b) (hG : G' b = none) (hb : h1.get b = some o') : Ext E G h G' (h1.put b o) :=
  ⟨x.sub, fun j c hj => by
    obtain ⟨e, fx, hg⟩ := x.frz j c hj
    exact ⟨e, fx, by rw [get_put, if_neg (fun e => by subst e; rw [hG] at hj; cases hj)]; exact hg⟩, x.new, ⟨fun j p hj => by
    rw [get_put, if_neg (by have := (hW.live _ _ hj).2; omega)]; exact x.keep.get j p hj, by simpa using x.keep.next⟩, x.wf.put hb⟩
theorem Ext.app {E : Env} {G G' : Mem} {h h1 h2 : Heap} (x : Ext E G h G' h1) (hW : WF E h) {e z lo n : Nat} {cs : List Value} {v v' : Value} (a : Apd E h1 h2 e z lo n cs v v') (hv : ∀ b, b ∈ slB v → h.next ≤ b ∧ G' b = none) : Ext E G h G' h2 :=
  ⟨x.sub, fun j c hj => by
    obtain ⟨e, fx, hg⟩ := x.frz j c hj
    exact ⟨e, fx, a.get _ _ hg fun hs => by rw [(hv _ hs).2] at hj; cases hj⟩, x.new, ⟨fun j p hj => a.get _ _ (x.keep.get j p hj) fun hs => by
    have := (hv _ hs).1
    have := (hW.live _ _ hj).2; omega, Nat.le_trans x.keep.next a.next⟩, a.wf⟩
theorem Ext.gnone {E : Env} {G G' : Mem} {h h1 : Heap} (x : Ext E G h G' h1) {b : Nat} (hb : h1.next ≤ b) : G' b = none := by
  cases hg : G' b with
  | none => rfl
  | some c =>
    obtain ⟨e, fx, hh⟩ := x.frz b c hg
    have := (x.wf.live _ _ hh).2; omega
end Go.Tm
theorem Go.Tm.wpc_once {E : Env} {b : Code} {Q : XCont} {tm : Tr Value} {h : Heap} (H : wpc E b (kloop (fun _ _ _ => False) 0 Q) tm h) : wpc E (.loop b) Q tm h := by
  refine ⟨fun n tm' h' => tm' = tm ∧ h' = h, 0, ⟨rfl, rfl⟩, ?_⟩
  rintro n _ _ ⟨rfl, rfl⟩
  refine wpc_mono b (fun e tm h he => ?_) _ _ H
  cases e with
  | normal => obtain ⟨_, _, x⟩ := he; exact x.elim
  | ret => exact he
  | exit i => exact he
  | goto l => exact he
namespace Go.Proofs.YthdgobcpefcolaaGreatDoor
open Go.Tm Vr
variable {E : Env} (hE : EOk E)
include hE
theorem copied_at {h : Heap} (hW : WF E h) {e n : Nat} {a : Option Addr} {c : Nat} : CallsTo E 64 [.agg #[iv e, iv n, .slice a 0 c]] h fun v h' => KW E h h' ∧ ∃ b, Own h' 141 5 h.next 0 [] (.slice (some ⟨b, 0, none⟩) 0 0) ∧ v = .agg #[iv e, iv n, .slice (some ⟨b, 0, none⟩) 0 0] := by
  have w0 := hW.b0
  have w1 := hW.b1
  have w2 := hW.b2
  have w3 := hW.b3
  refine calls_of_runs (fn := Tryz.f64) (by rw [hE.P]; exact Tryz.func64) rfl (by rw [hE.known]; rfl) (by rw [Tryz.ntmps64]; exact Nat.le_of_ble_eq_true rfl) (by decide +kernel) (rs := [.cell 2 60]) rfl (wpc_runs _ _ _ _ ?_)
  simp only [push_cast, seval, hE.P, awrite, wpc_label, wpc_block, w0, w1, w2, w3]
  rw [mk58 (by omega) (by omega) (by omega) (by omega), kalloc_some]
  simp only [push_cast, seval, hE.P, awrite, wpc_label, wpc_block, w0, w1, w2, w3]
  refine wpc_once ?_
  have n1 : (h.next + 1 + 1 + 1 = h.next + 1 + 1) = False := by simp
  simp only [push_cast, seval, hE.P, awrite, wpc_label, wpc_block, w0, w1, w2, w3]
  refine ⟨(by repeat (first | assumption | exact KW.refl hW | apply KW.push | refine KW.put ?_ (by first | omega | (simp <;> omega)) (by first | omega | (simp <;> omega)) hW)), h.next + 1 + 1 + 1, .inr ⟨_, 0, [], true, rfl, ?_, rfl, rfl, by omega, by omega, by omega⟩, rfl⟩
  simp [get_put, get_push, arep]
  omega
section
variable {G : Mem} {h : Heap} {X : Nat → Prop} (hS : SO E G h X) {P : PR} {out : List Mg} {r t : Nat} (hQ : QR E G h X P out r t)
include hS hQ
theorem sent_at (ho : out.length ≤ 10000000) (hol : ∀ m, m ∈ out → m.log.length ≤ 1000000 ∧ m.img.length ≤ 100000000) : CallsTo E 30 [ptr r] h fun v h' => ∃ G' co, PX E G h X G' h' X ∧ QR E G' h' X P [] r t ∧ Fz E G' 17 out.length co v ∧ MgsR E G' out co := by
  obtain ⟨⟨dc, vl, vt, vv, vo⟩, q⟩ := hQ
  obtain ⟨co, o1, o2⟩ := q.ho
  obtain ⟨ao, ac, hvo, _⟩ := o1.isSl
  simp only at hvo
  subst hvo
  have hr := q.hr
  have nr := hS.wf.nlt hr
  have e1 := hS.wf.ne hr
  have w0 := hS.wf.b0
  refine calls_of_runs (fn := Tryz.f30) (by rw [hE.P]; exact Tryz.func30) rfl (by rw [hE.known]; rfl) (by rw [Tryz.ntmps30]; exact Nat.le_of_ble_eq_true rfl) (by decide +kernel) (rs := [.tmp 2]) rfl (wpc_runs _ _ _ _ ?_)
  simp only [push_cast, seval, hE.P, awrite, wpc_label, wpc_block, hr, nr, e1, w0]
  rw [mk26 (by omega) (by omega) (by omega) (by omega), kalloc_some]
  simp only [push_cast, seval, hE.P, awrite, wpc_label, wpc_block, hr, nr, e1, w0]
  have kA := (KW.refl hS.wf).push (o := .cells (arep out.length [.int .i64 0, .int .i64 0, .int .i64 0, .int .i64 0, .int .i64 0, .int .i64 0, .int .i64 0, .int .i64 0, .int .i64 0, .slice none 0 0, .slice none 0 0, .int .i64 0, .int .i64 0, .string ByteArray.empty, .int .i64 0, .int .i64 0, .slice none 0 0]) 62 true)
  refine wpc_loop (fun k tm h2 => ∃ i G2 co2 v3, k = out.length - i ∧ i ≤ out.length ∧ fget tm 0 = ptr r ∧ fget tm 3 = v3 ∧ fget tm 15 = .slice ao out.length ac ∧ fget tm 16 = iv out.length ∧ fget tm 17 = iv i ∧
    Ext E G h G2 h2 ∧ Own h2 62 17 h.next i co2 v3 ∧ MgsR E G2 (out.take i) co2 ∧ (∀ b, b ∈ slB v3 → G2 b = none) ∧ h.next < h2.next) out.length ?_ ?_
  · simp only [push_cast, seval, hE.P, awrite, wpc_label, wpc_block]
    exact ⟨0, G, [], _, by omega, by omega, rfl, rfl, kA.ext hS.frz, Own.made rfl (Nat.le_refl _) (by omega), rfl, fun b hb => by simp only [slB, List.mem_singleton] at hb; subst hb; exact hS.gnone (Nat.le_refl _), by simp⟩
  · rintro k tm h2 ⟨i, G2, co2, v3, rfl, hi, f0, f3, f15, f16, f17, x2, ov, om, hng, hlt0⟩
    simp only [push_cast, seval, hE.P, awrite, wpc_label, wpc_block, f0, f3, f15, f16, f17]
    by_cases hlt : i < out.length
    · have hb : decide ((i : Int) < (out.length : Int)) = true := by simp; omega
      obtain ⟨ob, oc, hov, hel⟩ := (o1.keep x2.keep).elem x2.wf hlt
      injection hov with hov _ hov2
      subst hov; subst hov2
      have hmi := (o2.at i _ (List.getElem?_eq_getElem hlt)).sub x2.sub
      obtain ⟨b1, d1, b2, d2, b3, d3, hcc, m1, m2, m3⟩ := hmi.e
      rw [hcc] at hel
      have hsz := hol _ (List.getElem_mem hlt)
      have htk : out.take (i + 1) = out.take i ++ [out[i]] := by rw [List.take_succ_eq_append_getElem hlt]
      generalize out[i] = m at *
      have nb := x2.wf.nb0
      simp only [push_cast, seval, hE.P, awrite, wpc_label, wpc_block, f0, f3, f15, f16, f17, hb]
      rw [ia26 rfl (by omega) (by omega), kpure_some]
      simp only [push_cast, seval, hE.P, awrite, wpc_label, wpc_block, f0, f3, f15, f16, f17, Nat.zero_add, ↓hel, Int.toNat_natCast, nb]
      have hhn : h.next ≤ h2.next := x2.keep.next
      have kB := (KW.refl x2.wf).push (o := .cells [iv m.k, iv m.fr, iv m.to, iv m.vw, iv m.op, iv m.cm, iv m.bs, iv m.nm, iv m.nc, .slice b1 m.log.length d1, .slice b2 m.img.length d2, iv m.en.c, iv m.en.n, .string m.en.t, iv m.rp.e, iv m.rp.n, .slice b3 0 d3] 62 true)
      have xB := x2.kw kB
      have oB := ov.keep kB.k
      have gB : (h2.push (.cells [iv m.k, iv m.fr, iv m.to, iv m.vw, iv m.op, iv m.cm, iv m.bs, iv m.nm, iv m.nc, .slice b1 m.log.length d1, .slice b2 m.img.length d2, iv m.en.c, iv m.en.n, .string m.en.t, iv m.rp.e, iv m.rp.n, .slice b3 0 d3] 62 true)).get h2.next = some (.cells [iv m.k, iv m.fr, iv m.to, iv m.vw, iv m.op, iv m.cm, iv m.bs, iv m.nm, iv m.nc, .slice b1 m.log.length d1, .slice b2 m.img.length d2, iv m.en.c, iv m.en.n, .string m.en.t, iv m.rp.e, iv m.rp.n, .slice b3 0 d3] 62 true) := by rw [get_push, if_pos rfl]
      have hgB := x2.gnone (Nat.le_refl _)
      refine gtm (motive := wdraw E _ _) [0, 3, 5, 15, 16, 17] fun t1 hf => ?_
      simp only [push_cast, seval, hE.P, awrite, wpc_label, wpc_block, List.mem_cons, List.not_mem_nil, or_false, forall_eq_or_imp, forall_eq, f0, f3, f15, f16, f17] at hf
      obtain ⟨f0, f3, f5, f15, f16, f17⟩ := hf
      refine gheap (motive := fun H => wdraw E _ _ _ H) (fun H => Ext E G h G2 H ∧ Own H 62 17 h.next i co2 v3 ∧ H.get h2.next = some (.cells [iv m.k, iv m.fr, iv m.to, iv m.vw, iv m.op, iv m.cm, iv m.bs, iv m.nm, iv m.nc, .slice b1 m.log.length d1, .slice b2 m.img.length d2, iv m.en.c, iv m.en.n, .string m.en.t, iv m.rp.e, iv m.rp.n, .slice b3 0 d3] 62 true)) ⟨xB, oB, gB⟩ ?_
      clear xB oB gB kB
      rintro H1 ⟨xB, oB, gB⟩
      have nB := xB.wf.nlt gB
      have eB := xB.wf.ne gB
      refine wdraw_pairs [(5, 3)] (by rw [hE.P]; decide +kernel) (by rw [hE.P]; decide +kernel) (by rw [hE.P]; decide +kernel) ?_
      simp only [push_cast, seval, hE.P, awrite, wpc_label, wpc_block, f0, f3, f5, f15, f16, f17, gB, nB]
      rw [mk36 (by omega) (by omega) (by omega) (by omega), kalloc_some]
      simp only [push_cast, seval, hE.P, awrite, wpc_label, wpc_block, f0, f3, f5, f15, f16, f17, gB, nB, eB]
      have kC0 := (KW.refl xB.wf).push (o := .cells (arep m.log.length [.int .i64 0, .int .i64 0, .string ByteArray.empty]) 56 true)
      refine kwv_GS (el36 hE.P) (xB.wf.push _) (xB.frz.keep kC0.k) (lo := H1.next) (by simp) (Own.made rfl (Nat.le_refl _) (by omega)) (m1.sub (Sub.refl _)).1 (entsC_len _) (entsC_one _) (by omega) (by omega) ?_
      intro v4 Hc aC
      obtain ⟨va, vc, hv4⟩ := aC.sl
      have kC := kC0.app xB.wf (Own.made rfl (Nat.le_refl _) (by omega)) aC
      have oC := aC.own
      rw [Nat.zero_add, List.nil_append] at oC
      rw [Nat.zero_add] at hv4
      subst hv4
      have hn1 : h2.next < H1.next := (xB.wf.live _ _ gB).2
      have gC := kC.k.get _ _ gB
      have nC := kC.w.nlt gC
      simp only [push_cast, seval, hE.P, awrite, wpc_label, wpc_block, f0, f3, f5, f15, f16, f17, gB, nB, eB, gC, nC, veq_slice]
      obtain ⟨G3, z3, x3, s3, g3⟩ := (xB.kw kC).frz2 (oC.low (lo' := h.next) (by omega))
      have hg3 : G3 h2.next = none := by
        cases hg : G3 h2.next with
        | none => rfl
        | some c =>
          rcases g3 _ _ hg with h5 | h5
          · rw [hgB] at h5; cases h5
          · have := (oC.lt kC.w _ h5).1; omega
      have hng3 : ∀ b, b ∈ slB v3 → G3 b = none := fun b hb => by
        cases hg : G3 b with
        | none => rfl
        | some c =>
          rcases g3 _ _ hg with h5 | h5
          · rw [hng b hb] at h5; cases h5
          · have h6 := (oC.lt kC.w _ h5).1
            have h7 := (oB.lt xB.wf b hb).2
            omega
      have xD := x3.put hS.wf (o := .cells [iv m.k, iv m.fr, iv m.to, iv m.vw, iv m.op, iv m.cm, iv m.bs, iv m.nm, iv m.nc, .slice va m.log.length vc, .slice b2 m.img.length d2, iv m.en.c, iv m.en.n, .string m.en.t, iv m.rp.e, iv m.rp.n, .slice b3 0 d3] 62 true) (by omega) hg3 gC
      have oD : Own (Hc.put h2.next (.cells [iv m.k, iv m.fr, iv m.to, iv m.vw, iv m.op, iv m.cm, iv m.bs, iv m.nm, iv m.nc, .slice va m.log.length vc, .slice b2 m.img.length d2, iv m.en.c, iv m.en.n, .string m.en.t, iv m.rp.e, iv m.rp.n, .slice b3 0 d3] 62 true)) 62 17 h.next i co2 v3 := (oB.keep kC.k).at fun b o hb hg => by
        rw [get_put, if_neg (fun e => by have := (ov.lt x2.wf b hb).2; omega)]; exact hg
      have gD : (Hc.put h2.next (.cells [iv m.k, iv m.fr, iv m.to, iv m.vw, iv m.op, iv m.cm, iv m.bs, iv m.nm, iv m.nc, .slice va m.log.length vc, .slice b2 m.img.length d2, iv m.en.c, iv m.en.n, .string m.en.t, iv m.rp.e, iv m.rp.n, .slice b3 0 d3] 62 true)).get h2.next = some (.cells [iv m.k, iv m.fr, iv m.to, iv m.vw, iv m.op, iv m.cm, iv m.bs, iv m.nm, iv m.nc, .slice va m.log.length vc, .slice b2 m.img.length d2, iv m.en.c, iv m.en.n, .string m.en.t, iv m.rp.e, iv m.rp.n, .slice b3 0 d3] 62 true) := by rw [get_put, if_pos rfl]
      refine gtm (motive := wdraw E _ _) [0, 3, 5, 15, 16, 17] fun t1 hf => ?_
      simp only [push_cast, seval, hE.P, awrite, wpc_label, wpc_block, List.mem_cons, List.not_mem_nil, or_false, forall_eq_or_imp, forall_eq, f0, f3, f5, f15, f16, f17] at hf
      obtain ⟨f0, f3, f5, f15, f16, f17⟩ := hf
      refine gheap (motive := fun H => wdraw E _ _ _ H) (fun H => Ext E G h G3 H ∧ Own H 62 17 h.next i co2 v3 ∧ H.get h2.next = some (.cells [iv m.k, iv m.fr, iv m.to, iv m.vw, iv m.op, iv m.cm, iv m.bs, iv m.nm, iv m.nc, .slice va m.log.length vc, .slice b2 m.img.length d2, iv m.en.c, iv m.en.n, .string m.en.t, iv m.rp.e, iv m.rp.n, .slice b3 0 d3] 62 true)) ⟨xD, oD, gD⟩ ?_
      clear xD oD gD
      rintro H3 ⟨xD, oD, gD⟩
      have nD := xD.wf.nlt gD
      have eD := xD.wf.ne gD
      refine wdraw_pairs [(5, 3)] (by rw [hE.P]; decide +kernel) (by rw [hE.P]; decide +kernel) (by rw [hE.P]; decide +kernel) ?_
      simp only [push_cast, seval, hE.P, awrite, wpc_label, wpc_block, f0, f3, f5, f15, f16, f17, gD, nD]
      rw [mk53 (by omega) (by omega) (by omega) (by omega), kalloc_some]
      simp only [push_cast, seval, hE.P, awrite, wpc_label, wpc_block, f0, f3, f5, f15, f16, f17, gD, nD, eD]
      have kE0 := (KW.refl xD.wf).push (o := .cells (arep m.img.length [.int .u8 0]) 5 true)
      refine kwv_GS (el53 hE.P) (xD.wf.push _) (xD.frz.keep kE0.k) (lo := H3.next) (by simp) (Own.made rfl (Nat.le_refl _) (by omega)) (m2.sub s3).1 (by simp [bytesC]) (bytesC_one _) (by omega) (by omega) ?_
      intro v5 He aE
      obtain ⟨wa, wc, hv5⟩ := aE.sl
      have kE := kE0.app xD.wf (Own.made rfl (Nat.le_refl _) (by omega)) aE
      have oE := aE.own
      rw [Nat.zero_add, List.nil_append] at oE
      rw [Nat.zero_add] at hv5
      subst hv5
      have hn3 : h2.next < H3.next := (xD.wf.live _ _ gD).2
      have gE := kE.k.get _ _ gD
      have nE := kE.w.nlt gE
      simp only [push_cast, seval, hE.P, awrite, wpc_label, wpc_block, f0, f3, f5, f15, f16, f17, gD, nD, eD, gE, nE, veq_slice]
      obtain ⟨G4, z4, x4, s4, g4⟩ := (xD.kw kE).frz2 (oE.low (lo' := h.next) (by have := xD.keep.next; omega))
      have hg4 : G4 h2.next = none := by
        cases hg : G4 h2.next with
        | none => rfl
        | some c =>
          rcases g4 _ _ hg with h5 | h5
          · rw [hg3] at h5; cases h5
          · have := (oE.lt kE.w _ h5).1; omega
      have hng4 : ∀ b, b ∈ slB v3 → G4 b = none := fun b hb => by
        cases hg : G4 b with
        | none => rfl
        | some c =>
          rcases g4 _ _ hg with h5 | h5
          · rw [hng3 b hb] at h5; cases h5
          · have h6 := (oE.lt kE.w _ h5).1
            have h7 := (oD.lt xD.wf b hb).2
            omega
      have xF := x4.put hS.wf (o := .cells [iv m.k, iv m.fr, iv m.to, iv m.vw, iv m.op, iv m.cm, iv m.bs, iv m.nm, iv m.nc, .slice va m.log.length vc, .slice wa m.img.length wc, iv m.en.c, iv m.en.n, .string m.en.t, iv m.rp.e, iv m.rp.n, .slice b3 0 d3] 62 true) (by omega) hg4 gE
      have oF : Own (He.put h2.next (.cells [iv m.k, iv m.fr, iv m.to, iv m.vw, iv m.op, iv m.cm, iv m.bs, iv m.nm, iv m.nc, .slice va m.log.length vc, .slice wa m.img.length wc, iv m.en.c, iv m.en.n, .string m.en.t, iv m.rp.e, iv m.rp.n, .slice b3 0 d3] 62 true)) 62 17 h.next i co2 v3 := (oD.keep kE.k).at fun b o hb hg => by
        rw [get_put, if_neg (fun e => by have := (ov.lt x2.wf b hb).2; omega)]; exact hg
      have gF : (He.put h2.next (.cells [iv m.k, iv m.fr, iv m.to, iv m.vw, iv m.op, iv m.cm, iv m.bs, iv m.nm, iv m.nc, .slice va m.log.length vc, .slice wa m.img.length wc, iv m.en.c, iv m.en.n, .string m.en.t, iv m.rp.e, iv m.rp.n, .slice b3 0 d3] 62 true)).get h2.next = some (.cells [iv m.k, iv m.fr, iv m.to, iv m.vw, iv m.op, iv m.cm, iv m.bs, iv m.nm, iv m.nc, .slice va m.log.length vc, .slice wa m.img.length wc, iv m.en.c, iv m.en.n, .string m.en.t, iv m.rp.e, iv m.rp.n, .slice b3 0 d3] 62 true) := by rw [get_put, if_pos rfl]
      refine gheap (motive := fun H => CallsTo E 64 _ H _) (fun H => Ext E G h G4 H ∧ Own H 62 17 h.next i co2 v3 ∧ H.get h2.next = some (.cells [iv m.k, iv m.fr, iv m.to, iv m.vw, iv m.op, iv m.cm, iv m.bs, iv m.nm, iv m.nc, .slice va m.log.length vc, .slice wa m.img.length wc, iv m.en.c, iv m.en.n, .string m.en.t, iv m.rp.e, iv m.rp.n, .slice b3 0 d3] 62 true)) ⟨xF, oF, gF⟩ ?_
      clear xF oF gF
      rintro H5 ⟨xF, oF, gF⟩
      refine Go.Tm.kcall_gen [0, 3, 5, 15, 16, 17] ?_
      intro t2 hf
      simp only [push_cast, seval, hE.P, awrite, wpc_label, wpc_block, List.mem_cons, List.not_mem_nil, or_false, forall_eq_or_imp, forall_eq, f0, f3, f5, f15, f16, f17] at hf
      obtain ⟨f0, f3, f5, f15, f16, f17⟩ := hf
      refine (copied_at hE xF.wf).mono ?_
      rintro v6 H6 ⟨kG, db, oG, rfl⟩
      have gG := kG.k.get _ _ gF
      have nG := kG.w.nlt gG
      simp only [push_cast, seval, hE.P, awrite, wpc_label, wpc_block, f0, f3, f5, f15, f16, f17, gG, nG]
      have hn5 : h2.next < H5.next := (xF.wf.live _ _ gF).2
      obtain ⟨G5, z5, x5, s5, g5⟩ := (xF.kw kG).frz2 (oG.low (lo' := h.next) (by have := xF.keep.next; omega))
      have hg5 : G5 h2.next = none := by
        cases hg : G5 h2.next with
        | none => rfl
        | some c =>
          rcases g5 _ _ hg with h5 | h5
          · rw [hg4] at h5; cases h5
          · have := (oG.lt kG.w _ h5).1; omega
      have hng5 : ∀ b, b ∈ slB v3 → G5 b = none := fun b hb => by
        cases hg : G5 b with
        | none => rfl
        | some c =>
          rcases g5 _ _ hg with h5 | h5
          · rw [hng4 b hb] at h5; cases h5
          · have h6 := (oG.lt kG.w _ h5).1
            have h7 := (oF.lt xF.wf b hb).2
            omega
      have xH := x5.put hS.wf (o := .cells [iv m.k, iv m.fr, iv m.to, iv m.vw, iv m.op, iv m.cm, iv m.bs, iv m.nm, iv m.nc, .slice va m.log.length vc, .slice wa m.img.length wc, iv m.en.c, iv m.en.n, .string m.en.t, iv m.rp.e, iv m.rp.n, .slice (some ⟨db, 0, none⟩) 0 0] 62 true) (by omega) hg5 gG
      have oH : Own (H6.put h2.next (.cells [iv m.k, iv m.fr, iv m.to, iv m.vw, iv m.op, iv m.cm, iv m.bs, iv m.nm, iv m.nc, .slice va m.log.length vc, .slice wa m.img.length wc, iv m.en.c, iv m.en.n, .string m.en.t, iv m.rp.e, iv m.rp.n, .slice (some ⟨db, 0, none⟩) 0 0] 62 true)) 62 17 h.next i co2 v3 := (oF.keep kG.k).at fun b o hb hg => by
        rw [get_put, if_neg (fun e => by have := (ov.lt x2.wf b hb).2; omega)]; exact hg
      rw [bs26 rfl, kalloc_some]
      simp only [push_cast, seval, hE.P, awrite, wpc_label, wpc_block, f0, f3, f5, f15, f16, f17]
      refine kwv_G1 (el26 hE.P) xH.wf (lo := h.next) xH.keep.next oH rfl rfl (by omega) (by omega) ?_
      intro v7 H7 aI hnx
      have xI := xH.app hS.wf aI fun b hb => ⟨(oH.lt xH.wf b hb).1, hng5 b hb⟩
      simp only [push_cast, seval, hE.P, awrite, wpc_label, wpc_block, f0, f3, f5, f15, f16, f17]
      have hmc : MgR E G5 m [iv m.k, iv m.fr, iv m.to, iv m.vw, iv m.op, iv m.cm, iv m.bs, iv m.nm, iv m.nc, .slice va m.log.length vc, .slice wa m.img.length wc, iv m.en.c, iv m.en.n, .string m.en.t, iv m.rp.e, iv m.rp.n, .slice (some ⟨db, 0, none⟩) 0 0] := ⟨_, _, _, rfl, (z3.sub s4).sub s5, z4.sub s5, z5⟩
      refine ⟨out.length - (i + 1), by omega, i + 1, G5, _, v7, rfl, by omega, rfl, iv_succ (by omega), xI, aI.own, ?_, fun b hb => ?_, ?_⟩
      · rw [htk]
        exact ((om.sub s3).sub s4 |>.sub s5).app (MgsR.one hmc)
      · rcases aI.blk b hb with h6 | h6
        · exact hng5 b h6
        · exact xH.gnone h6
      · have := xH.keep.next; have := aI.next; omega
    · have hb : decide ((i : Int) < (out.length : Int)) = false := by simp; omega
      have he : i = out.length := by omega
      subst he
      have hr2 := x2.keep.get _ _ hr
      have nr2 := x2.wf.nlt hr2
      simp only [push_cast, seval, hE.P, awrite, wpc_label, wpc_block, f0, f3, f15, f16, f17, hb, hr2, nr2]
      rw [List.take_length] at om
      obtain ⟨G3, z3, x3, s3, g3⟩ := x2.frz2 ov
      have px := (PX.ext hS x3).trans hS.wf (PX.put (o := .cells (qC P t dc vl vt vv (.slice none 0 0)) 78 true) (hS.ext x3) (q.hx r (by simp)) hr2)
      have q3 := q.keep x3.sub x3.keep
      exact ⟨G3, _, px, ⟨_, q3.out (vo' := .slice none 0 0) (out' := []) (P' := P) (Sub.refl _) (by rw [get_put, if_pos rfl]) (fun b o hb _ hg => by rw [get_put, if_neg (fun e => hb e.symm)]; exact hg) rfl rfl rfl rfl rfl ⟨[], Own.nil _ _ _ _, rfl⟩ (fun _ hx => hx) (fun b hb => by simp [slB] at hb)⟩, z3, om.sub s3⟩
end
end Go.Proofs.YthdgobcpefcolaaGreatDoor
