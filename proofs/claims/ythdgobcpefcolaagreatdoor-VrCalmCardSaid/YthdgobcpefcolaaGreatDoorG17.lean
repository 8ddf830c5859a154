/- Chapter 25: the program's replica: its service, answering, executing. -/
/- Merged by a program of ours: U4 U5 U6. -/
import Derived.Test.YthdgobcpefcolaaGreatDoorG16
set_option maxRecDepth 10000
set_option linter.all false
set_option linter.unusedSimpArgs false
set_option linter.unusedVariables false
/- Chapter 25: the program's replica in memory; what its calls leave alone. -/
namespace Go.Tm
open Vr
theorem ops_invoke {r : Operand} {name : String} {l : Array Operand} {ts : Array TypeId} : (Call.operands ⟨.invoke r name, l, ts⟩).toList = r :: l.toList := by simp [Call.operands]
theorem scQ_agg3 {q : Nat → Bool} {a b : Int} {v : Value} (h : scQ q v = true) : scQ q (.agg #[.int .i64 a, .int .i64 b, v]) = true := by simp [scQ, scQA, scQL, h]
theorem scQ_agg5 {q : Nat → Bool} {a b c d : Int} {v : Value} (h : scQ q v = true) : scQ q (.agg #[.int .i64 a, .int .i64 b, .int .i64 c, .int .i64 d, v]) = true := by simp [scQ, scQA, scQL, h]
theorem scQ_tup5 {q : Nat → Bool} {a b c d : Int} {v : Value} {f : Bool} (h : scQ q v = true) : scQ q (.tuple #[.agg #[.int .i64 a, .int .i64 b, .int .i64 c, .int .i64 d, v], .bool f]) = true := by simp [scQ, scQA, scQL, h]
/-- Of the memory keep in mind this alone. -/
theorem gheap {motive : Heap → Prop} {h : Heap} (p : Heap → Prop) (hp : p h) (K : ∀ H, p H → motive H) : motive h := K h hp
def awb (v : Value) (b : Bool) : Bool := match v with | .bool c => c == b | _ => false
theorem awanted_guard {O : List Oper} {tm : Tr Value} {d : Option Nat} {op : Op} {ty : TypeId} {pos : String} {aft : Array Edge} {j : Nat} {b : Bool} : awanted O tm ⟨d, op, ty, pos, aft, some (j, b)⟩ = awb (gval O j tm) b := by
  simp only [awanted, gval, awb]
  cases hj : (O[j]?).bind (·.dst) with
  | none => simp [undef]
  | some d' => simp only; cases fget tm d' <;> simp
theorem awb_bool {c b : Bool} : awb (.bool c) b = (c == b) := rfl
attribute [push_cast] awanted_guard awb_bool implies_true
def _root_.Vr.PR.pA (P : PR) : Bool := P.st == 1 && P.sent
def _root_.Vr.PR.pV (P : PR) : List Bool := if P.st = 1 then P.voted else List.replicate P.n false
def _root_.Vr.PR.pC (P : PR) : List Mg := if P.st = 1 then P.came else if P.st = 2 then P.ans else []
/-- A message's cells. -/
abbrev mgC (m : Mg) (s1 s2 s3 : Value) : List Value := [iv m.k, iv m.fr, iv m.to, iv m.vw, iv m.op, iv m.cm, iv m.bs, iv m.nm, iv m.nc, s1, s2, iv m.en.c, iv m.en.n, .string m.en.t, iv m.rp.e, iv m.rp.n, s3]
attribute [push_cast] mgC
abbrev ptr (b : Nat) : Value := .pointer (some ⟨b, 0, none⟩)
/-- The map of what came. -/
def CmR (E : Env) (G : Mem) (es : List MapEntry) (L : List Mg) : Prop :=
  ∃ ks : List Nat, ks.Nodup ∧ es.length = ks.length ∧ (∀ i, i ∈ ks ↔ ∃ m, L[i]? = some m ∧ m.k ≠ 0) ∧
    ∀ (j k : Nat), ks[j]? = some k → ∃ e m cs, es[j]? = some e ∧ e.key = iv k ∧ e.val = .agg cs.toArray ∧ L[k]? = some m ∧ MgR E G m cs
theorem CmR.sub {E : Env} {G G' : Mem} (s : Sub G G') {es : List MapEntry} {L : List Mg} (h : CmR E G es L) : CmR E G' es L := by
  obtain ⟨ks, h1, h2, h3, h4⟩ := h
  refine ⟨ks, h1, h2, h3, fun j k hj => ?_⟩
  obtain ⟨e, m, cs, a1, a2, a3, a4, a5⟩ := h4 j k hj
  exact ⟨e, m, cs, a1, a2, a3, a4, a5.sub s⟩
theorem CmR.nil {E : Env} {G : Mem} : CmR E G [] [] := ⟨[], List.nodup_nil, rfl, fun i => by simp, fun j k h => by simp at h⟩
/-- A replica's cells. -/
abbrev qC (P : PR) (t c : Nat) (vl vt vv vo : Value) : List Value :=
  [iv P.me, iv P.n, .iface 46 (ptr t), iv P.vw, iv P.st, iv P.nm, iv P.op, iv P.cm, iv P.bs, iv P.nc, vl, vt, vv, .bool P.pA, .map (some c), vo]
attribute [push_cast] qC
/-- What memory is in order: what stays is no replica's. -/
structure SO (E : Env) (G : Mem) (h : Heap) (X : Nat → Prop) : Prop where
  wf : WF E h
  frz : Frz E G h
  dis : ∀ b c, G b = some c → ¬ X b
  lt : ∀ b, X b → b < h.next
/-- What a call of a replica does to memory. -/
structure PX (E : Env) (G : Mem) (h : Heap) (X : Nat → Prop) (G' : Mem) (h' : Heap) (X' : Nat → Prop) : Prop where
  sub : Sub G G'
  new : ∀ b c, G' b = some c → G b = some c ∨ h.next ≤ b
  kx : KX X h h'
  xs : ∀ b, X' b → X b ∨ h.next ≤ b
  so : SO E G' h' X'
theorem PX.refl {E : Env} {G : Mem} {h : Heap} {X : Nat → Prop} (s : SO E G h X) : PX E G h X G h X := ⟨Sub.refl _, fun b c x => .inl x, KX.refl _ _, fun b x => .inl x, s⟩
theorem PX.trans {E : Env} {G G1 G2 : Mem} {h h1 h2 : Heap} {X X1 X2 : Nat → Prop} (hW : WF E h) (a : PX E G h X G1 h1 X1) (b : PX E G1 h1 X1 G2 h2 X2) : PX E G h X G2 h2 X2 :=
  ⟨a.sub.trans b.sub, fun x c hx => by
    rcases b.new x c hx with h3 | h3
    · exact a.new x c h3
    · right; have := a.kx.next; omega, a.kx.then hW b.kx a.xs, fun x hx => by
    rcases b.xs x hx with h3 | h3
    · exact a.xs x h3
    · right; have := a.kx.next; omega, b.so⟩
/-- New memory beside. -/
theorem SO.ext {E : Env} {G G' : Mem} {h h' : Heap} {X : Nat → Prop} (s : SO E G h X) (x : Ext E G h G' h') : SO E G' h' X := ⟨x.wf, x.frz, fun b c hb hx => by
  rcases x.new b c hb with h3 | h3
  · exact s.dis b c h3 hx
  · have := s.lt b hx; omega, fun b hx => Nat.lt_of_lt_of_le (s.lt b hx) x.keep.next⟩
theorem PX.ext {E : Env} {G G' : Mem} {h h' : Heap} {X : Nat → Prop} (s : SO E G h X) (x : Ext E G h G' h') : PX E G h X G' h' X := ⟨x.sub, x.new, x.keep.x X, fun b x => .inl x, s.ext x⟩
theorem SO.kw {E : Env} {G : Mem} {h h' : Heap} {X : Nat → Prop} (s : SO E G h X) (k : KW E h h') : SO E G h' X := s.ext (k.ext s.frz)
theorem PX.kw {E : Env} {G : Mem} {h h' : Heap} {X : Nat → Prop} (s : SO E G h X) (k : KW E h h') : PX E G h X G h' X := PX.ext s (k.ext s.frz)
/-- One thing is changed that is a replica's. -/
theorem PX.put {E : Env} {G : Mem} {h : Heap} {X : Nat → Prop} (s : SO E G h X) {b : Nat} {o o' : AObj} (hx : X b) (hb : h.get b = some o') : PX E G h X G (h.put b o) X := by
  have hfr : ∀ x p, ¬ X x → h.get x = some p → (h.put b o).get x = some p := fun x p hn hg => by
    rw [get_put, if_neg (fun e => hn (by rw [← e]; exact hx))]; exact hg
  refine ⟨Sub.refl _, fun b c x => .inl x, ⟨hfr, by simp⟩, fun b x => .inl x, s.wf.put hb, fun x c hc => ?_, s.dis, fun b hx => by simpa using s.lt b hx⟩
  obtain ⟨e, fx, hg⟩ := s.frz x c hc
  exact ⟨e, fx, hfr _ _ (s.dis x c hc) hg⟩
/-- A put at a box of one's own. -/
theorem PX.fresh {E : Env} {G G' : Mem} {h h1 : Heap} {X X' : Nat → Prop} (hW : WF E h) (p : PX E G h X G' h1 X') {b : Nat} {o o' : AObj} (hn : h.next ≤ b) (hG : G' b = none) (hb : h1.get b = some o') : PX E G h X G' (h1.put b o) X' := by
  refine ⟨p.sub, p.new, ⟨fun x q hx hg => ?_, by simpa using p.kx.next⟩, p.xs, p.so.wf.put hb, fun x c hc => ?_, p.so.dis, fun x hx => by simpa using p.so.lt x hx⟩
  · rw [get_put, if_neg (by have := (hW.live _ _ hg).2; omega)]
    exact p.kx.get x q hx hg
  · obtain ⟨e, fx, hg⟩ := p.so.frz x c hc
    exact ⟨e, fx, by rw [get_put, if_neg (fun e => by subst e; rw [hG] at hc; cases hc)]; exact hg⟩
theorem SO.gnone {E : Env} {G : Mem} {h : Heap} {X : Nat → Prop} (s : SO E G h X) {b : Nat} (hb : h.next ≤ b) : G b = none := by
  cases hg : G b with
  | none => rfl
  | some c =>
    obtain ⟨e, fx, hh⟩ := s.frz b c hg
    have := (s.wf.live _ _ hh).2; omega
/-- An append at a list of a replica's. -/
theorem PX.app {E : Env} {G : Mem} {h h' : Heap} {X : Nat → Prop} (s : SO E G h X) {e z lo m : Nat} {cs' : List Value} {v v' : Value} (a : Apd E h h' e z lo m cs' v v') (hx : ∀ b, b ∈ slB v → X b) : PX E G h X G h' (fun b => X b ∨ b ∈ slB v') := by
  refine ⟨Sub.refl _, fun b c x => .inl x, ⟨fun b o hn hb => a.get b o hb fun hs => hn (hx b hs), a.next⟩, fun b hb => ?_, a.wf, fun b c hb => ?_, fun b c hb => ?_, fun b hb => ?_⟩
  · rcases hb with hb | hb
    · exact .inl hb
    · rcases a.blk b hb with h1 | h1
      · exact .inl (hx b h1)
      · exact .inr h1
  · obtain ⟨e, fx, hg⟩ := s.frz b c hb
    exact ⟨e, fx, a.get _ _ hg fun hs => s.dis b c hb (hx b hs)⟩
  · rintro (h1 | h1)
    · exact s.dis b c hb h1
    · rcases a.blk b h1 with h2 | h2
      · exact s.dis b c hb (hx b h2)
      · obtain ⟨e, fx, hg⟩ := s.frz b c hb
        have := (s.wf.live _ _ hg).2; omega
  · rcases hb with h1 | h1
    · exact Nat.lt_of_lt_of_le (s.lt b h1) a.next
    · exact (a.own.lt a.wf b h1).2
theorem Own.tag {h : Heap} {e z lo n : Nat} {cs : List Value} {v : Value} (H : Own h e z lo n cs v) {b : Nat} {o : AObj} (hb : h.get b = some o) (ho : ∀ c fx, o ≠ .cells c e fx) : b ∉ slB v := by
  rcases H with ⟨rfl, _⟩ | ⟨j, cap, rest, fx, rfl, hg, _⟩
  · simp [slB]
  · simp only [slB, List.mem_singleton]
    intro e1
    subst e1
    rw [hb] at hg
    injection hg with hg
    exact ho _ _ hg
/-- The program's replica: r, its service t; what it is about to send. -/
structure QD where
  c : Nat
  vl : Value
  vt : Value
  vv : Value
  vo : Value
structure QR' (E : Env) (G : Mem) (h : Heap) (X : Nat → Prop) (P : PR) (out : List Mg) (r t : Nat) (D : QD) : Prop where
  hr : h.get r = some (.cells (qC P t D.c D.vl D.vt D.vv D.vo) 78 true)
  ht : ∃ ss, h.get t = some (.cells ss 44 true) ∧ SvR E G P.sv ss
  hl : Own h 56 3 0 P.log.length (entsC P.log) D.vl
  htl : Own h 3 1 0 P.told.length (intsC P.told) D.vt
  hv : Own h 4 1 0 P.pV.length (boolsC P.pV) D.vv
  ho : ∃ co, Own h 62 17 0 out.length co D.vo ∧ MgsR E G out co
  hc : ∃ es ck, h.get D.c = some (.map es ck) ∧ CmR E G es P.pC
  hx : ∀ b, b ∈ r :: t :: D.c :: (slB D.vl ++ slB D.vt ++ slB D.vv ++ slB D.vo) → X b
def QR (E : Env) (G : Mem) (h : Heap) (X : Nat → Prop) (P : PR) (out : List Mg) (r t : Nat) : Prop := ∃ D, QR' E G h X P out r t D
/-- Memory changed at r and at the list of what is to be sent alone. -/
theorem QR'.out {E : Env} {G G' : Mem} {h h' : Heap} {X X' : Nat → Prop} {P P' : PR} {out out' : List Mg} {r t : Nat} {D : QD} {vo' : Value} (q : QR' E G h X P out r t D) (sub : Sub G G')
    (hr : h'.get r = some (.cells (qC P' t D.c D.vl D.vt D.vv vo') 78 true)) (k : ∀ b o, b ≠ r → b ∉ slB D.vo → h.get b = some o → h'.get b = some o)
    (hl : P'.log = P.log) (hs : P'.sv = P.sv) (ht : P'.told = P.told) (hv : P'.pV = P.pV) (hc : P'.pC = P.pC)
    (ho : ∃ co, Own h' 62 17 0 out'.length co vo' ∧ MgsR E G' out' co) (hx : ∀ b, X b → X' b) (hx' : ∀ b, b ∈ slB vo' → X' b) : QR' E G' h' X' P' out' r t { D with vo := vo' } := by
  obtain ⟨co, o1, o2⟩ := q.ho
  obtain ⟨ss, t1, t2⟩ := q.ht
  obtain ⟨es, ck, c1, c2⟩ := q.hc
  have key : ∀ b o, h.get b = some o → (∀ c fx, o ≠ .cells c 62 fx) → (∀ c fx, o ≠ .cells c 78 fx) → h'.get b = some o := fun b o hb h1 h2 => k b o (fun e => by
    subst e
    rw [q.hr] at hb
    injection hb with hb
    exact h2 _ _ hb.symm) (o1.tag hb h1) hb
  have own : ∀ {e n : Nat} {cs : List Value} {v : Value} {z : Nat}, e ≠ 62 → e ≠ 78 → Own h e z 0 n cs v → Own h' e z 0 n cs v := fun {e n cs v z} h1 h2 H => by
    rcases H with H | ⟨b, cap, rest, fx, rfl, hg, h3⟩
    · exact .inl H
    · exact .inr ⟨b, cap, rest, fx, rfl, key b _ hg (fun c fx e => by injection e with _ e; exact h1 e) (fun c fx e => by injection e with _ e; exact h2 e), h3⟩
  refine ⟨hr, ⟨ss, key _ _ t1 (fun c fx e => by injection e with _ e; cases e) (fun c fx e => by injection e with _ e; cases e), by rw [hs]; exact t2.sub sub⟩, by rw [hl]; exact own (by decide) (by decide) q.hl, by rw [ht]; exact own (by decide) (by decide) q.htl, by rw [hv]; exact own (by decide) (by decide) q.hv, ho,
    ⟨es, ck, key _ _ c1 (fun c fx e => by cases e) (fun c fx e => by cases e), by rw [hc]; exact c2.sub sub⟩, fun b hb => ?_⟩
  simp only [List.mem_cons, List.mem_append] at hb
  rcases hb with h1 | h1 | h1 | ((h1 | h1) | h1) | h1
  · exact hx b (q.hx b (by simp [h1]))
  · exact hx b (q.hx b (by simp [h1]))
  · exact hx b (q.hx b (by simp [h1]))
  · exact hx b (q.hx b (by simp [h1]))
  · exact hx b (q.hx b (by simp [h1]))
  · exact hx b (q.hx b (by simp [h1]))
  · exact hx' b h1
/-- Memory changed at one block of a replica's, whose kind tells it from the lists. -/
theorem QR'.own1 {h h' : Heap} {b0 : Nat} {o0 : AObj} (h0 : h.get b0 = some o0) (k : ∀ b o, b ≠ b0 → h.get b = some o → h'.get b = some o) {e z n : Nat} {cs : List Value} {v : Value} (ht : ∀ c fx, o0 ≠ .cells c e fx) (H : Own h e z 0 n cs v) : Own h' e z 0 n cs v := by
  refine H.at fun b o hb hg => k b o (fun e1 => ?_) hg
  subst e1
  exact H.tag h0 ht hb
theorem QR'.hdr {E : Env} {G G' : Mem} {h h' : Heap} {X X' : Nat → Prop} {P P' : PR} {out : List Mg} {r t : Nat} {D : QD} (q : QR' E G h X P out r t D) (sub : Sub G G')
    (hr : h'.get r = some (.cells (qC P' t D.c D.vl D.vt D.vv D.vo) 78 true)) (k : ∀ b o, b ≠ r → h.get b = some o → h'.get b = some o)
    (hl : P'.log = P.log) (hs : P'.sv = P.sv) (ht : P'.told = P.told) (hv : P'.pV = P.pV) (hc : P'.pC = P.pC) (hx : ∀ b, X b → X' b) : QR' E G' h' X' P' out r t D := by
  obtain ⟨co, o1, o2⟩ := q.ho
  have hxo : ∀ b, b ∈ slB D.vo → X' b := fun b hb => hx b (q.hx b (by simp [hb]))
  have := q.out (vo' := D.vo) sub hr (fun b o hb _ hg => k b o hb hg) hl hs ht hv hc ⟨co, QR'.own1 q.hr k (fun c fx e => by injection e with _ e; cases e) o1, o2.sub sub⟩ hx hxo
  exact this
/-- Memory changed at r and at the log. -/
theorem QR'.lg {E : Env} {G G' : Mem} {h h' : Heap} {X X' : Nat → Prop} {P P' : PR} {out : List Mg} {r t : Nat} {D : QD} {vl' : Value} (q : QR' E G h X P out r t D) (sub : Sub G G')
    (hr : h'.get r = some (.cells (qC P' t D.c vl' D.vt D.vv D.vo) 78 true)) (k : ∀ b o, b ≠ r → b ∉ slB D.vl → h.get b = some o → h'.get b = some o)
    (hl : Own h' 56 3 0 P'.log.length (entsC P'.log) vl') (hs : P'.sv = P.sv) (ht : P'.told = P.told) (hv : P'.pV = P.pV) (hc : P'.pC = P.pC)
    (hx : ∀ b, X b → X' b) (hx' : ∀ b, b ∈ slB vl' → X' b) : QR' E G' h' X' P' out r t { D with vl := vl' } := by
  obtain ⟨co, o1, o2⟩ := q.ho
  obtain ⟨ss, t1, t2⟩ := q.ht
  obtain ⟨es, ck, c1, c2⟩ := q.hc
  have key : ∀ b o, h.get b = some o → (∀ c fx, o ≠ .cells c 56 fx) → (∀ c fx, o ≠ .cells c 78 fx) → h'.get b = some o := fun b o hb h1 h2 => k b o (fun e => by
    subst e
    rw [q.hr] at hb
    injection hb with hb
    exact h2 _ _ hb.symm) (q.hl.tag hb h1) hb
  have own : ∀ {e n : Nat} {cs : List Value} {v : Value} {z : Nat}, e ≠ 56 → e ≠ 78 → Own h e z 0 n cs v → Own h' e z 0 n cs v := fun {e n cs v z} h1 h2 H => by
    rcases H with H | ⟨b, cap, rest, fx, rfl, hg, h3⟩
    · exact .inl H
    · exact .inr ⟨b, cap, rest, fx, rfl, key b _ hg (fun c fx e => by injection e with _ e; exact h1 e) (fun c fx e => by injection e with _ e; exact h2 e), h3⟩
  refine ⟨hr, ⟨ss, key _ _ t1 (fun c fx e => by injection e with _ e; cases e) (fun c fx e => by injection e with _ e; cases e), by rw [hs]; exact t2.sub sub⟩, hl, by rw [ht]; exact own (by decide) (by decide) q.htl, by rw [hv]; exact own (by decide) (by decide) q.hv, ⟨co, own (by decide) (by decide) o1, o2.sub sub⟩,
    ⟨es, ck, key _ _ c1 (fun c fx e => by cases e) (fun c fx e => by cases e), by rw [hc]; exact c2.sub sub⟩, fun b hb => ?_⟩
  simp only [List.mem_cons, List.mem_append] at hb
  rcases hb with h1 | h1 | h1 | ((h1 | h1) | h1) | h1
  · exact hx b (q.hx b (by simp [h1]))
  · exact hx b (q.hx b (by simp [h1]))
  · exact hx b (q.hx b (by simp [h1]))
  · exact hx' b h1
  · exact hx b (q.hx b (by simp [h1]))
  · exact hx b (q.hx b (by simp [h1]))
  · exact hx b (q.hx b (by simp [h1]))
/-- The service changed. -/
theorem QR'.toy {E : Env} {G G' : Mem} {h h' : Heap} {X X' : Nat → Prop} {P : PR} {s' : Sv} {out : List Mg} {r t : Nat} {D : QD} {scv : List Value} (q : QR' E G h X P out r t D) (sub : Sub G G')
    (ht : h'.get t = some (.cells scv 44 true)) (hs : SvR E G' s' scv) (k : ∀ b o, b ≠ t → h.get b = some o → h'.get b = some o) (hx : ∀ b, X b → X' b) : QR' E G' h' X' { P with sv := s' } out r t D := by
  obtain ⟨co, o1, o2⟩ := q.ho
  obtain ⟨ss, t1, t2⟩ := q.ht
  obtain ⟨es, ck, c1, c2⟩ := q.hc
  refine ⟨k _ _ (fun e => ?_) q.hr, ⟨scv, ht, hs⟩, QR'.own1 t1 k (fun c fx e => by injection e with _ e; cases e) q.hl, QR'.own1 t1 k (fun c fx e => by injection e with _ e; cases e) q.htl, QR'.own1 t1 k (fun c fx e => by injection e with _ e; cases e) q.hv, ⟨co, QR'.own1 t1 k (fun c fx e => by injection e with _ e; cases e) o1, o2.sub sub⟩, ⟨es, ck, k _ _ (fun e => ?_) c1, c2.sub sub⟩, fun b hb => hx b (q.hx b hb)⟩
  · have h1 := q.hr
    rw [e, t1] at h1
    injection h1 with h1
    injection h1 with _ h1; cases h1
  · rw [e, t1] at c1
    injection c1 with c1; cases c1
/-- Other memory grew. -/
theorem QR'.keep {E : Env} {G G' : Mem} {h h' : Heap} {X : Nat → Prop} {P : PR} {out : List Mg} {r t : Nat} {D : QD} (q : QR' E G h X P out r t D) (sub : Sub G G') (k : Keep h h') : QR' E G' h' X P out r t D := by
  obtain ⟨co, o1, o2⟩ := q.ho
  obtain ⟨ss, t1, t2⟩ := q.ht
  obtain ⟨es, ck, c1, c2⟩ := q.hc
  exact ⟨k.get _ _ q.hr, ⟨ss, k.get _ _ t1, t2.sub sub⟩, q.hl.keep k, q.htl.keep k, q.hv.keep k, ⟨co, o1.keep k, o2.sub sub⟩, ⟨es, ck, k.get _ _ c1, c2.sub sub⟩, q.hx⟩
theorem QR.ext {E : Env} {G G' : Mem} {h h' : Heap} {X : Nat → Prop} {P : PR} {out : List Mg} {r t : Nat} (q : QR E G h X P out r t) (x : Ext E G h G' h') : QR E G' h' X P out r t := by
  obtain ⟨D, q⟩ := q
  exact ⟨D, q.keep x.sub x.keep⟩
end Go.Tm
/- Chapter 25: the program's replica: who leads, sending. -/
namespace Go.Proofs.YthdgobcpefcolaaGreatDoor
open Go.Tm Vr
variable {E : Env} (hE : EOk E)
include hE
section
variable {G : Mem} {h : Heap} {X : Nat → Prop} (hS : SO E G h X) {P : PR} {out : List Mg} {r t : Nat} (hQ : QR E G h X P out r t)
include hS hQ
theorem primary_at (hn : 1 ≤ P.n ∧ P.n ≤ 1000) (hv : P.vw ≤ 1099511627776) : CallsTo E 93 [ptr r] h fun v h' => v = iv (P.vw % P.n) ∧ h' = h := by
  obtain ⟨D, q⟩ := hQ
  have hr := q.hr
  have nr := hS.wf.nlt hr
  refine calls_of_runs (fn := Tryz.f93) (by rw [hE.P]; exact Tryz.func93) rfl (by rw [hE.known]; rfl) (by rw [Tryz.ntmps93]; exact Nat.le_of_ble_eq_true rfl) (by decide +kernel) (rs := [.tmp 2]) rfl (wpc_runs _ _ _ _ ?_)
  simp only [push_cast, seval, hE.P, awrite, wpc_label, wpc_block, hr, nr]
  refine wdraw_calm (by rw [hE.P]; decide +kernel) ?_
  have hz : ((P.n : Int) = 0) = False := by simp; omega
  simp only [push_cast, seval, hE.P, awrite, wpc_label, wpc_block, hr, nr, hz]
  rw [← Int.ofNat_tmod]
theorem f_at (hn : 1 ≤ P.n ∧ P.n ≤ 1000) : CallsTo E 91 [ptr r] h fun v h' => v = iv (P.n / 2) ∧ h' = h := by
  obtain ⟨D, q⟩ := hQ
  have hr := q.hr
  have nr := hS.wf.nlt hr
  refine calls_of_runs (fn := Tryz.f91) (by rw [hE.P]; exact Tryz.func91) rfl (by rw [hE.known]; rfl) (by rw [Tryz.ntmps91]; exact Nat.le_of_ble_eq_true rfl) (by decide +kernel) (rs := [.tmp 2]) rfl (wpc_runs _ _ _ _ ?_)
  simp only [push_cast, seval, hE.P, awrite, wpc_label, wpc_block, hr, nr]
  rw [Int.tdiv_eq_ediv_of_nonneg (by omega), wr64 (by omega) (by omega)]
  rfl
theorem leads_at (hn : 1 ≤ P.n ∧ P.n ≤ 1000) (hv : P.vw ≤ 1099511627776) : CallsTo E 66 [ptr r] h fun v h' => v = .bool (P.st == 0 && P.prim) ∧ h' = h := by
  have hQ0 := hQ
  obtain ⟨D, q⟩ := hQ
  have hr := q.hr
  have nr := hS.wf.nlt hr
  refine calls_of_runs (fn := Tryz.f66) (by rw [hE.P]; exact Tryz.func66) rfl (by rw [hE.known]; rfl) (by rw [Tryz.ntmps66]; exact Nat.le_of_ble_eq_true rfl) (by decide +kernel) (rs := [.tmp 2]) rfl (wpc_runs _ _ _ _ ?_)
  simp only [push_cast, seval, hE.P, awrite, wpc_label, wpc_block, hr, nr]
  refine wdraw_pairs [(11, 7)] (by rw [hE.P]; decide +kernel) (by rw [hE.P]; decide +kernel) (by rw [hE.P]; decide +kernel) ?_
  by_cases h0 : P.st = 0
  · have hb : ((P.st : Int) == 0) = true := by simp [h0]
    simp only [push_cast, seval, hE.P, awrite, wpc_label, wpc_block, hr, nr, hb]
    refine (primary_at hE hS hQ0 hn hv).mono ?_
    rintro v h' ⟨rfl, rfl⟩
    simp only [push_cast, seval, hE.P, awrite, wpc_label, wpc_block, hr, nr, hb]
    unfold PR.prim
    rw [h0, ← Int.natCast_emod]
    simp only [BEq.rfl, Bool.true_and, Bool.beq_eq_decide_eq]
    congr 1
    exact decide_eq_decide.2 (by omega)
  · have hb : ((P.st : Int) == 0) = false := by simp; omega
    simp only [push_cast, seval, hE.P, awrite, wpc_label, wpc_block, hr, nr, hb, kguard_undef]
    simp [h0]
theorem send_at (ho : out.length ≤ 10000000) {m : Mg} {ms : List Value} (hm : MgR E G m ms) (i : Nat) : CallsTo E 88 [ptr r, iv i, .agg ms.toArray] h fun v h' => v = .tuple #[] ∧ ∃ X', PX E G h X G h' X' ∧ QR E G h' X' P (out ++ [P.toM m i]) r t := by
  obtain ⟨⟨dc, vl, vt, vv, vo⟩, q⟩ := hQ
  obtain ⟨co, o1, o2⟩ := q.ho
  obtain ⟨ao, ac, hvo, _⟩ := o1.isSl
  simp only at hvo
  subst hvo
  obtain ⟨b1, d1, b2, d2, b3, d3, rfl, m1, m2, m3⟩ := hm.e
  have hr := q.hr
  have nr := hS.wf.nlt hr
  refine calls_of_runs (fn := Tryz.f88) (by rw [hE.P]; exact Tryz.func88) rfl (by rw [hE.known]; rfl) (by rw [Tryz.ntmps88]; exact Nat.le_of_ble_eq_true rfl) (by decide +kernel) (rs := []) rfl (wpc_runs _ _ _ _ ?_)
  have e1 := hS.wf.ne hr
  have e2 := hS.wf.ne' hr
  have w0 := hS.wf.b0
  have w1 := hS.wf.b1
  have e3 : (h.next + 1 = r) = False := by have := (hS.wf.live _ _ hr).2; simp; omega
  simp only [push_cast, seval, hE.P, awrite, wpc_label, wpc_block, hr, nr, e1, e2, w0, w1]
  refine wdraw_pairs [(4, 6)] (by rw [hE.P]; decide +kernel) (by rw [hE.P]; decide +kernel) (by rw [hE.P]; decide +kernel) ?_
  simp only [push_cast, seval, hE.P, awrite, wpc_label, wpc_block, hr, nr, e1, e2, w0, w1]
  rw [bs26 rfl, kalloc_some]
  simp only [push_cast, seval, hE.P, awrite, wpc_label, wpc_block, hr, nr, e1, e2, w0, w1]
  have hx1 := hS.wf.push (.cells [iv m.k, iv P.me, iv i, iv m.vw, iv m.op, iv m.cm, iv m.bs, iv m.nm, iv m.nc, .slice b1 m.log.length d1, .slice b2 m.img.length d2, iv m.en.c, iv m.en.n, .string m.en.t, iv m.rp.e, iv m.rp.n, .slice b3 0 d3] 62 true)
  refine kwv_G1 (el26 hE.P) hx1 (lo := 0) (Nat.zero_le _) (o1.keep ((Keep.refl h).push hS.wf)) rfl rfl (by omega) (by omega) ?_
  intro v' h4 a _
  have k1 := (KW.refl hS.wf).push (o := .cells [iv m.k, iv P.me, iv i, iv m.vw, iv m.op, iv m.cm, iv m.bs, iv m.nm, iv m.nc, .slice b1 m.log.length d1, .slice b2 m.img.length d2, iv m.en.c, iv m.en.n, .string m.en.t, iv m.rp.e, iv m.rp.n, .slice b3 0 d3] 62 true)
  have gk : ∀ b o, b ∉ slB (.slice ao out.length ac) → h.get b = some o → h4.get b = some o := fun b o hn hb => a.get b o (k1.k.get b o hb) hn
  have hr4 := gk _ _ (o1.tag hr fun c fx e => by injection e with _ e; cases e) hr
  have nr4 := a.wf.nlt hr4
  obtain ⟨va, vc, rfl⟩ := a.sl
  simp only [push_cast, seval, hE.P, awrite, wpc_label, wpc_block, hr4, nr4, hr, e1, e3, veq_slice]
  have hX : ∀ b, b ∈ slB (.slice ao out.length ac) → X b := fun b hb => q.hx b (by simp [hb])
  have px1 := PX.kw hS k1
  have px2 := px1.trans hS.wf (PX.app px1.so a hX)
  refine ⟨_, px2.trans hS.wf (PX.put px2.so (.inl (q.hx r (by simp))) hr4), _, q.out (Sub.refl _) (by rw [get_put, if_pos rfl]) (fun b o hb1 hb2 hb => by rw [get_put, if_neg (fun e => hb1 e.symm)]; exact gk b o hb2 hb) rfl rfl rfl rfl rfl ⟨co ++ [iv m.k, iv P.me, iv i, iv m.vw, iv m.op, iv m.cm, iv m.bs, iv m.nm, iv m.nc, .slice b1 m.log.length d1, .slice b2 m.img.length d2, iv m.en.c, iv m.en.n, .string m.en.t, iv m.rp.e, iv m.rp.n, .slice b3 0 d3], ?_, ?_⟩ (fun b hb => .inl hb) (fun b hb => .inr hb)⟩
  · rw [List.length_append]
    refine a.own.at fun b o hb hg => ?_
    rw [get_put, if_neg (fun e => ?_)]
    · exact hg
    · subst e
      exact a.own.tag hr4 (fun c fx e => by injection e with _ e; cases e) hb
  · exact o2.app (MgsR.one ⟨_, _, _, rfl, m1, m2, m3⟩)
theorem all_at (hn : P.n ≤ 1000) (ho : out.length ≤ 10000) {m : Mg} {ms : List Value} (hm : MgR E G m ms) : CallsTo E 65 [ptr r, .agg ms.toArray] h fun v h' => v = .tuple #[] ∧ ∃ X', PX E G h X G h' X' ∧ QR E G h' X' P (out ++ P.allM m) r t := by
  have hm0 := hm
  obtain ⟨b1, d1, b2, d2, b3, d3, rfl, m1, m2, m3⟩ := hm.e
  have k0 := (KW.refl hS.wf).push (o := .cells [iv m.k, iv m.fr, iv m.to, iv m.vw, iv m.op, iv m.cm, iv m.bs, iv m.nm, iv m.nc, .slice b1 m.log.length d1, .slice b2 m.img.length d2, iv m.en.c, iv m.en.n, .string m.en.t, iv m.rp.e, iv m.rp.n, .slice b3 0 d3] 62 true)
  have hQ1 := hQ.ext (k0.ext hS.frz)
  have nx : h.next < (h.push (.cells [iv m.k, iv m.fr, iv m.to, iv m.vw, iv m.op, iv m.cm, iv m.bs, iv m.nm, iv m.nc, .slice b1 m.log.length d1, .slice b2 m.img.length d2, iv m.en.c, iv m.en.n, .string m.en.t, iv m.rp.e, iv m.rp.n, .slice b3 0 d3] 62 true)).next := by simp
  have px0 := PX.kw hS k0
  refine calls_of_runs (fn := Tryz.f65) (by rw [hE.P]; exact Tryz.func65) rfl (by rw [hE.known]; rfl) (by rw [Tryz.ntmps65]; exact Nat.le_of_ble_eq_true rfl) (by decide +kernel) (rs := []) rfl (wpc_runs _ _ _ _ ?_)
  have hr := (show ∃ D, QR' E G h X P out r t D from hQ)
  obtain ⟨D, q⟩ := hr
  have hr := q.hr
  have nr := hS.wf.nlt hr
  have e1 := hS.wf.ne hr
  have nb := hS.wf.nb0
  simp only [push_cast, seval, hE.P, awrite, wpc_label, wpc_block, hr, nr, e1, nb]
  refine wpc_loop (fun k tm h2 => ∃ i X2, k = P.n - i ∧ i ≤ P.n ∧ fget tm 0 = ptr r ∧ fget tm 3 = ptr h.next ∧ fget tm 8 = iv P.n ∧ fget tm 9 = iv i ∧
    h2.get h.next = some (.cells [iv m.k, iv m.fr, iv m.to, iv m.vw, iv m.op, iv m.cm, iv m.bs, iv m.nm, iv m.nc, .slice b1 m.log.length d1, .slice b2 m.img.length d2, iv m.en.c, iv m.en.n, .string m.en.t, iv m.rp.e, iv m.rp.n, .slice b3 0 d3] 62 true) ∧
    PX E G (h.push (.cells [iv m.k, iv m.fr, iv m.to, iv m.vw, iv m.op, iv m.cm, iv m.bs, iv m.nm, iv m.nc, .slice b1 m.log.length d1, .slice b2 m.img.length d2, iv m.en.c, iv m.en.n, .string m.en.t, iv m.rp.e, iv m.rp.n, .slice b3 0 d3] 62 true)) X G h2 X2 ∧ QR E G h2 X2 P (out ++ allF P m i) r t) P.n ?_ ?_
  · simp only [push_cast, seval, hE.P, awrite, wpc_label, wpc_block]
    exact ⟨0, X, by omega, by omega, rfl, PX.refl px0.so, by rw [show allF P m 0 = [] from rfl, List.append_nil]; exact hQ1⟩
  · rintro k tm h2 ⟨i, X2, rfl, hi, f0, f3, f8, f9, g1, px, hQ2⟩
    obtain ⟨D2, q2⟩ := hQ2
    have hr2 := q2.hr
    have nr2 := px.so.wf.nlt hr2
    have n1 := px.so.wf.nlt g1
    simp only [push_cast, seval, hE.P, awrite, wpc_label, wpc_block, f0, f3, f8, f9]
    by_cases hlt : i < P.n
    · have hb : decide ((i : Int) < (P.n : Int)) = true := by simp; omega
      simp only [push_cast, seval, hE.P, awrite, wpc_label, wpc_block, f0, f3, f8, f9, hb, hr2, nr2, g1, n1]
      have eF := allF_succ P m i
      have hlen := allF_len P m i
      by_cases he : i = P.me
      · have hb : ((i : Int) != (P.me : Int)) = false := by simp [he]
        rw [if_pos he, List.append_nil] at eF
        simp only [push_cast, seval, hE.P, awrite, wpc_label, wpc_block, f0, f3, f8, f9, hb, hr2, nr2, g1, n1]
        exact ⟨P.n - (i + 1), by omega, i + 1, X2, rfl, by omega, iv_succ (by omega), px, by rw [eF]; exact ⟨D2, q2⟩⟩
      · have hb : ((i : Int) != (P.me : Int)) = true := by simp; omega
        rw [if_neg he] at eF
        simp only [push_cast, seval, hE.P, awrite, wpc_label, wpc_block, f0, f3, f8, f9, hb, hr2, nr2, g1, n1]
        refine (send_at hE px.so ⟨D2, q2⟩ (by rw [List.length_append]; omega) hm0 i).mono ?_
        rintro v h3 ⟨rfl, X3, px3, hQ3⟩
        have g3 := px3.kx.get _ _ (fun hx => ?_) g1
        · simp only [push_cast, seval, hE.P, awrite, wpc_label, wpc_block, f0, f3, f8, f9]
          exact ⟨P.n - (i + 1), by omega, i + 1, X3, rfl, by omega, iv_succ (by omega), g3, px.trans px0.so.wf px3, by rw [eF, ← List.append_assoc]; exact hQ3⟩
        · rcases px.xs _ hx with h5 | h5
          · have := hS.lt _ h5; omega
          · omega
    · have hb : decide ((i : Int) < (P.n : Int)) = false := by simp; omega
      have he : i = P.n := by omega
      subst he
      simp only [push_cast, seval, hE.P, awrite, wpc_label, wpc_block, f0, f3, f8, f9, hb]
      exact ⟨X2, px0.trans hS.wf px, ⟨D2, q2⟩⟩
end
end Go.Proofs.YthdgobcpefcolaaGreatDoor
namespace Go.Proofs.YthdgobcpefcolaaGreatDoor
open Go.Tm Vr
variable {E : Env} (hE : EOk E)
include hE
section
variable {G : Mem} {h : Heap} {X : Nat → Prop} (hS : SO E G h X)
include hS
theorem toyLast_at {S : Sv} {ss : List Value} {t : Nat} (ht : h.get t = some (.cells ss 44 true)) (hs : SvR E G S ss) (c : Nat) (hl : S.tab.length ≤ 1099511627776) : CallsTo E 273 [ptr t, iv c] h fun v h' => KW E h h' ∧ ∃ r, LaR E G ((lastOf S.tab c).getD ⟨0, 0, ⟨0, 0⟩⟩) r ∧ v = .tuple #[.agg r.toArray, .bool (lastOf S.tab c).isSome] := by
  have hs0 := hs
  obtain ⟨a1, c1, a2, c2, ct, rfl, h1, h2, h3⟩ := hs.e
  have nt := hS.wf.nlt ht
  have e1 := hS.wf.ne ht
  have w0 := hS.wf.b0
  refine calls_of_runs (fn := Tryz.f273) (by rw [hE.P]; exact Tryz.func273) rfl (by rw [hE.known]; rfl) (by rw [Tryz.ntmps273]; exact Nat.le_of_ble_eq_true rfl) (by decide +kernel) (rs := [.cell 4 121, .tmp 5]) rfl (wpc_runs _ _ _ _ ?_)
  simp only [push_cast, seval, hE.P, awrite, wpc_label, wpc_block, ht, nt, e1, w0]
  have k0 := (KW.refl hS.wf).push (o := .cells [.int .i64 0, .int .i64 0, .int .i64 0, .int .i64 0, .slice none 0 0] 121 true)
  refine (lastR_at hE k0.w (hS.frz.keep k0.k) hs0 c hl).mono ?_
  rintro v h1' ⟨kw1, r, hr, rfl⟩
  obtain ⟨sd, rfl, hsd⟩ := hr
  obtain ⟨a3, c3, rfl, _, _⟩ := hsd.slice
  have g0 := kw1.k.get h.next _ (by rw [get_push, if_pos rfl])
  have n0 := kw1.w.nlt g0
  simp only [push_cast, seval, hE.P, awrite, wpc_label, wpc_block, g0, n0]
  have k1 := k0.trans kw1
  have hW := hS.wf
  have hlt := (kw1.w.live _ _ g0).2
  exact ⟨(by repeat (first | assumption | exact KW.refl hW | apply KW.push | refine KW.put ?_ (by first | omega | (simp <;> omega)) (by first | omega | (simp <;> omega)) hW)), _, ⟨_, rfl, hsd⟩, rfl⟩
theorem toyApply_at {S : Sv} {ss : List Value} {t : Nat} (ht : h.get t = some (.cells ss 44 true)) (hs : SvR E G S ss) (hX : X t) {e : Ent} (hb : e.c ≤ 1099511627776 ∧ e.n ≤ 1099511627776) (hl : S.tab.length ≤ 1000000) (hl2 : S.l.length ≤ 1000000) (hsr : srt S.tab) :
    CallsTo E 272 [ptr t, iv e.c, iv e.n, .string e.t] h fun v h' => ∃ G' sc rc, PX E G h X G' h' X ∧ SvR E G' (applyS S e).1 sc ∧ RpR E G' (applyS S e).2 rc ∧ h'.get t = some (.cells sc 44 true) ∧ (∀ b o, b ≠ t → h.get b = some o → h'.get b = some o) ∧ v = .agg rc.toArray := by
  have hs0 := hs
  obtain ⟨a1, c1, a2, c2, ct, rfl, h1, h2, h3⟩ := hs.e
  have nt := hS.wf.nlt ht
  have e1 := hS.wf.ne ht
  have w0 := hS.wf.b0
  refine calls_of_runs (fn := Tryz.f272) (by rw [hE.P]; exact Tryz.func272) rfl (by rw [hE.known]; rfl) (by rw [Tryz.ntmps272]; exact Nat.le_of_ble_eq_true rfl) (by decide +kernel) (rs := [.cell 8 60]) rfl (wpc_runs _ _ _ _ ?_)
  simp only [push_cast, seval, hE.P, awrite, wpc_label, wpc_block, ht, nt, e1, w0]
  have k0 := (KW.refl hS.wf).push (o := .cells [.int .i64 0, .int .i64 0, .slice none 0 0] 60 true)
  refine (applyR_at hE k0.w (hS.frz.keep k0.k) hs0 hb hl hl2 (fun x hx => place_lt hsr hx)).mono ?_
  rintro v h1' ⟨G', sc, rc, x1, hsc, hrc, rfl⟩
  have hsc0 := hsc
  obtain ⟨a4, c4, a5, c5, ct2, rfl, s1, s2, s3⟩ := hsc.e
  obtain ⟨a6, c6, rfl, r1⟩ := hrc
  have g0 := x1.keep.get h.next _ (by rw [get_push, if_pos rfl])
  have gt := x1.keep.get t _ (k0.k.get _ _ ht)
  have n0 := x1.wf.nlt g0
  have ngt := x1.wf.nlt gt
  have f0 := x1.wf.ne g0
  have f1 := x1.wf.ne gt
  have f2 := x1.wf.ne' g0
  have f3 := x1.wf.ne' gt
  have f4 := hS.wf.ne' ht
  have y0 := x1.wf.b0
  have y1 := x1.wf.b1
  have l0 := (hS.wf.live _ _ ht).2
  have l1 := (x1.wf.live _ _ g0).2
  have p1 : (h1'.next + 1 = t) = False := by simp; omega
  have p2 : (h1'.next + 1 = h.next) = False := by simp; omega
  have p3 : (t = h.next) = False := by simp; omega
  have p4 : (t = h1'.next + 1) = False := by simp; omega
  have p5 : (h.next = h1'.next + 1) = False := by simp; omega
  simp only [push_cast, seval, hE.P, awrite, wpc_label, wpc_block, g0, gt, n0, ngt, f0, f1, f2, f3, e1, f4, y0, y1, p1, p2, p3, p4, p5]
  have s1 := hS.kw k0
  have q1 := (PX.kw hS k0).trans hS.wf (PX.ext s1 x1)
  have k2 := ((KW.refl x1.wf).push (o := .cells [.bool false, .slice none 0 0, .slice none 0 0, .slice none 0 0] 42 true)).push (o := .cells [.int .i64 0, .int .i64 0, .slice none 0 0] 60 true)
  have hW1 := x1.wf
  have k3 : KW E h1' ((((h1'.push (.cells [.bool false, .slice none 0 0, .slice none 0 0, .slice none 0 0] 42 true)).push (.cells [.int .i64 0, .int .i64 0, .slice none 0 0] 60 true)).put h1'.next (.cells [.bool false, .slice a4 (applyS S e).1.l.length c4, .slice none 0 0, .slice a5 (applyS S e).1.tab.length c5] 42 true)).put (h1'.next + 1) (.cells [iv (applyS S e).2.e, iv (applyS S e).2.n, .slice a6 0 c6] 60 true)) :=
    KW.put (KW.put k2 (by omega) (by simp; omega) hW1) (by omega) (by simp) hW1
  have q2 := q1.trans hS.wf (PX.kw q1.so k3)
  have q3 := q2.trans hS.wf (PX.put q2.so hX (k3.k.get _ _ gt) (o := .cells [.bool false, .slice a4 (applyS S e).1.l.length c4, .slice none 0 0, .slice a5 (applyS S e).1.tab.length c5] 44 true))
  have gn : G' h.next = none := by
    cases hg : G' h.next with
    | none => rfl
    | some c =>
      rcases x1.new _ _ hg with h5 | h5
      · rw [hS.gnone (Nat.le_refl _)] at h5; cases h5
      · rw [next_push] at h5; omega
  refine ⟨G', _, _, PX.fresh hS.wf q3 (Nat.le_refl _) gn (by rw [get_put, if_neg (by omega)]; exact k3.k.get _ _ g0), hsc0, ⟨_, _, rfl, r1⟩, ?_, fun b o hne hb => ?_, rfl⟩
  · rfl
  · have := (hS.wf.live _ _ hb).2
    rw [if_neg (by omega), if_neg (by omega), if_neg (by omega), if_neg (by omega), if_neg (by omega), if_neg (by omega)]
    exact x1.keep.get _ _ (k0.k.get _ _ hb)
end
end Go.Proofs.YthdgobcpefcolaaGreatDoor
