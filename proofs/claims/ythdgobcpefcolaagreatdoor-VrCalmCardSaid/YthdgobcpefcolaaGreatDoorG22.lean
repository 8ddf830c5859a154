/- Chapter 25: the program's replica: idle moments; a new one; what it tells. -/
/- Merged by a program of ours: U13 U14. -/
import Derived.Test.YthdgobcpefcolaaGreatDoorG21
set_option maxRecDepth 10000
set_option linter.all false
set_option linter.unusedSimpArgs false
set_option linter.unusedVariables false
/- Chapter 25: the program's replica: which handler. -/
namespace Go.Tm
theorem wop_insert {E : Env} {t : TypeId} {m k x : Operand} {d : Option Nat} {R : Cont} {tm : Tr Value} {h : Heap} : wop1 E (.insert t m k x) d R tm h ↔ kwr (aupdate E h t (opd tm m) (opd tm k) (opd tm x)) undef d R tm h := by
  simp only [wop1, wpop, kindOf, aeff, kput, kwr, Option.map_eq_some_iff]
  constructor
  · rintro ⟨r, ⟨h', h1, rfl⟩, h2⟩; exact ⟨h', h1, h2⟩
  · rintro ⟨h', h1, h2⟩; exact ⟨_, ⟨h', h1, rfl⟩, h2⟩
end Go.Tm
namespace Go.Proofs.YthdgobcpefcolaaGreatDoor
open Go.Tm Vr
variable {E : Env} (hE : EOk E)
include hE
/-- What does what a message of this kind asks; whether it must be well made. -/
def hnd : List (Nat × Nat × Bool) := [(1, 53, false), (2, 54, false), (3, 55, false), (4, 56, false), (5, 57, false), (6, 58, true), (7, 59, true), (8, 60, false), (9, 61, false), (10, 62, false), (11, 63, false)]
def hent (p : (Nat × Nat × Bool) × Nat) : MapEntry := { key := .int .i64 (p.1.1 : Int), val := .agg #[.func (.func p.1.2.1) #[] #[], .bool p.1.2.2], born := p.2 }
omit hE in
theorem up_h {E : Env} (hP : E.P = Tryz.prog) {h : Heap} {mb clock n : Nat} {es : List MapEntry} {v : Value} (hm : h.get mb = some (.map es clock)) (hk : es.map (·.key) = (List.range n).map fun i => .int .i64 ((i + 1 : Nat) : Int)) :
    aupdate E h 92 (.map (some mb)) (.int .i64 ((n + 1 : Nat) : Int)) v = some (h.put mb (.map (es ++ [{ key := .int .i64 ((n + 1 : Nat) : Int), val := v, born := clock }]) (clock + 1))) := by
  have h1 : ∀ (es : List MapEntry) (n : Nat) (l : List Nat), es.map (·.key) = l.map (fun i => Value.int .i64 ((i + 1 : Nat) : Int)) → (∀ i, i ∈ l → i < n) → akeyOk Tryz.prog 3 (.int .i64 ((n + 1 : Nat) : Int)) es = true ∧ afindKey (.int .i64 ((n + 1 : Nat) : Int)) es = none := by
    intro es
    induction es with
    | nil => intro n l _ _; exact ⟨by simp [akeyOk, Tryz.underlying3], rfl⟩
    | cons e es ih =>
      intro n l hl hn
      cases l with
      | nil => simp at hl
      | cons i l =>
        simp only [List.map_cons, List.cons.injEq] at hl
        obtain ⟨a1, a2⟩ := ih n l hl.2 fun j hj => hn j (by simp [hj])
        have hi := hn i (by simp)
        constructor
        · simp only [akeyOk, Tryz.underlying3, List.all_cons, hl.1, Bool.and_eq_true] at a1 ⊢
          exact ⟨by simp, a1⟩
        · simp only [afindKey, hl.1]
          rw [if_neg (by omega), a2]; rfl
  obtain ⟨a1, a2⟩ := h1 es n (List.range n) hk fun i hi => by simpa using hi
  unfold aupdate
  rw [hP, Tryz.underlying92]
  simp only [hm, a1, a2, if_true]
omit hE in
theorem kup {E : Env} (hP : E.P = Tryz.prog) {h : Heap} {es : List MapEntry} {c n : Nat} {k : Int} {v : Value} {R : Cont} {tm : Tr Value} (hk : k = ((n + 1 : Nat) : Int)) (hes : es.map (·.key) = (List.range n).map fun i => .int .i64 ((i + 1 : Nat) : Int))
    (K : R tm (h.push (.map (es ++ [{ key := .int .i64 k, val := v, born := c }]) (c + 1)))) : kwr (aupdate E (h.push (.map es c)) 92 (.map (some h.next)) (.int .i64 k) v) undef none R tm (h.push (.map es c)) := by
  subst hk
  rw [up_h hP (by rw [get_push, if_pos rfl]) hes, kwr_some, put_push]
  exact K
theorem handlers_at {h : Heap} (hW : WF E h) : CallsTo E 27 [] h fun v h' => v = .map (some h.next) ∧ h' = h.push (.map (hnd.zipIdx.map hent) 11) := by
  have nb := hW.nb0
  refine calls_of_runs (fn := Tryz.f27) (by rw [hE.P]; exact Tryz.func27) rfl (by rw [hE.known]; rfl) (by rw [Tryz.ntmps27]; exact Nat.le_of_ble_eq_true rfl) (by decide +kernel) (rs := [.tmp 0]) rfl (wpc_runs _ _ _ _ ?_)
  have g0 : (h.push (.map [] 0)).get h.next = some (.map [] 0) := by rw [get_push, if_pos rfl]
  simp only [push_cast, seval, hE.P, awrite, wpc_label, wpc_block, nb, wop_insert]
  refine kup hE.P (n := 0) rfl rfl ?_
  simp only [push_cast, seval, hE.P, awrite, wpc_label, wpc_block, nb, wop_insert]
  refine kup hE.P (n := 1) rfl rfl ?_
  simp only [push_cast, seval, hE.P, awrite, wpc_label, wpc_block, nb, wop_insert]
  refine kup hE.P (n := 2) rfl rfl ?_
  simp only [push_cast, seval, hE.P, awrite, wpc_label, wpc_block, nb, wop_insert]
  refine kup hE.P (n := 3) rfl rfl ?_
  simp only [push_cast, seval, hE.P, awrite, wpc_label, wpc_block, nb, wop_insert]
  refine kup hE.P (n := 4) rfl rfl ?_
  simp only [push_cast, seval, hE.P, awrite, wpc_label, wpc_block, nb, wop_insert]
  refine kup hE.P (n := 5) rfl rfl ?_
  simp only [push_cast, seval, hE.P, awrite, wpc_label, wpc_block, nb, wop_insert]
  refine kup hE.P (n := 6) rfl rfl ?_
  simp only [push_cast, seval, hE.P, awrite, wpc_label, wpc_block, nb, wop_insert]
  refine kup hE.P (n := 7) rfl rfl ?_
  simp only [push_cast, seval, hE.P, awrite, wpc_label, wpc_block, nb, wop_insert]
  refine kup hE.P (n := 8) rfl rfl ?_
  simp only [push_cast, seval, hE.P, awrite, wpc_label, wpc_block, nb, wop_insert]
  refine kup hE.P (n := 9) rfl rfl ?_
  simp only [push_cast, seval, hE.P, awrite, wpc_label, wpc_block, nb, wop_insert]
  refine kup hE.P (n := 10) rfl rfl ?_
  simp only [push_cast, seval, hE.P, awrite, wpc_label, wpc_block, nb, wop_insert]
  rfl
omit hE in
theorem look_h {E : Env} (hP : E.P = Tryz.prog) {h : Heap} {b k f : Nat} {w : Bool} (hb : h.get b = some (.map (hnd.zipIdx.map hent) 11)) (hk : 1 ≤ k) (hh : hnd[k - 1]? = some (k, f, w)) :
    alookup E h 92 (.map (some b)) (iv k) true = some (.tuple #[.agg #[.func (.func f) #[] #[], .bool w], .bool true]) := by
  have hk2 : k ≤ 11 := by
    have := (List.getElem?_eq_some_iff.1 hh).1
    have h2 : hnd.length = 11 := rfl
    omega
  unfold alookup ament
  rw [hP, Tryz.underlying92]
  simp only [hb]
  have hkk : k = 1 ∨ k = 2 ∨ k = 3 ∨ k = 4 ∨ k = 5 ∨ k = 6 ∨ k = 7 ∨ k = 8 ∨ k = 9 ∨ k = 10 ∨ k = 11 := by omega
  have hu := Tryz.underlying3
  rcases hkk with rfl | rfl | rfl | rfl | rfl | rfl | rfl | rfl | rfl | rfl | rfl <;>
  · injection hh with hh
    injection hh with _ hh
    injection hh with hh1 hh2
    subst hh1; subst hh2
    rw [show akeyOk Tryz.prog 3 _ (hnd.zipIdx.map hent) = true by simp only [akeyOk, hu]; rfl]
    rfl
omit hE in
theorem bs6 {a b c d e f : Nat} : abs1 Tryz.prog 27 6 [(0, iv a), (1, iv b), (2, iv c), (3, iv d), (4, iv e), (5, iv f)] = some (fun b => .slice (some ⟨b, 0, none⟩) 6 6, .cells [iv a, iv b, iv c, iv d, iv e, iv f] 3 true) := by
  unfold abs1
  rw [Tryz.underlying27]
  simp [sz3, zr3, vcells, afill, arep, splice]
theorem min6_at {h : Heap} (hW : WF E h) {b c0 c1 c2 c3 c4 c5 : Nat} (hb : h.get b = some (.cells [iv c0, iv c1, iv c2, iv c3, iv c4, iv c5] 3 true)) : CallsTo E 28 [.slice (some ⟨b, 0, none⟩) 6 6] h fun v h' => (∃ k : Nat, v = iv k) ∧ h' = h := by
  have nb := hW.nlt hb
  have hg : h.get b = some (.cells (intsC [c0, c1, c2, c3, c4, c5] ++ []) 3 true) := hb
  refine calls_of_runs (fn := Tryz.f28) (by rw [hE.P]; exact Tryz.func28) rfl (by rw [hE.known]; rfl) (by rw [Tryz.ntmps28]; exact Nat.le_of_ble_eq_true rfl) (by decide +kernel) (rs := [.tmp 2]) rfl (wpc_runs _ _ _ _ ?_)
  simp only [push_cast, seval, hE.P, awrite, wpc_label, wpc_block]
  rw [ia27 rfl (by omega) (by omega), kpure_some]
  simp only [push_cast, seval, hE.P, awrite, wpc_label, wpc_block, hb, nb]
  refine wpc_loop (fun k tm h2 => ∃ i x : Nat, k = 6 - i ∧ i ≤ 6 ∧ h2 = h ∧ fget tm 0 = .slice (some ⟨b, 0, none⟩) 6 6 ∧ fget tm 3 = iv x ∧ fget tm 4 = iv i) 5 ?_ ?_
  · simp only [push_cast, seval, hE.P, awrite, wpc_label, wpc_block]
    exact ⟨1, c0, by omega, by omega, rfl, rfl⟩
  · rintro k tm h2 ⟨i, x, rfl, hi, rfl, f0, f3, f4⟩
    simp only [push_cast, seval, hE.P, awrite, wpc_label, wpc_block, f0, f3, f4]
    by_cases hlt : i < 6
    · have hb1 : decide ((i : Int) < 6) = true := by simp; omega
      have r0 := int_read hW hg (i := i) (by simpa using hlt)
      simp only [push_cast, seval, hE.P, awrite, wpc_label, wpc_block, f0, f3, f4, hb1]
      rw [ia27 rfl (by omega) (by omega), kpure_some]
      simp only [push_cast, seval, hE.P, awrite, wpc_label, wpc_block, f0, f3, f4, Nat.zero_add, ↓r0, Int.toNat_natCast]
      exact ⟨6 - (i + 1), by omega, i + 1, min x ([c0, c1, c2, c3, c4, c5].getD i 0), rfl, by omega, by show Value.int .i64 _ = Value.int .i64 _; congr 1; omega, iv_succ (by omega)⟩
    · have hb1 : decide ((i : Int) < 6) = false := by simp; omega
      simp only [push_cast, seval, hE.P, awrite, wpc_label, wpc_block, f0, f3, f4, hb1]
      exact ⟨_, rfl⟩
theorem made_at {G : Mem} {h : Heap} (hW : WF E h) {m : Mg} {ms : List Value} (hm : MgR E G m ms) (hmd : madeM m = true) (hsz : m.op ≤ 1000000000) : CallsTo E 29 [.agg ms.toArray] h fun v h' => v = .bool true ∧ KW E h h' := by
  obtain ⟨b1, d1, b2, d2, b3, d3, rfl, m1, m2, m3⟩ := hm.e
  unfold madeM at hmd
  simp only [Bool.and_eq_true, decide_eq_true_eq, beq_iff_eq] at hmd
  obtain ⟨⟨h1, h2⟩, h3⟩ := hmd
  have nb := hW.nb0
  have c1 : decide ((m.bs : Int) ≤ (m.cm : Int)) = true := by simp; omega
  have c2 : decide ((m.cm : Int) ≤ (m.op : Int)) = true := by simp; omega
  have c3 : IntKind.i64.wrap ((m.op : Int) - (m.bs : Int)) = ((m.op - m.bs : Nat) : Int) := by rw [wr64 (by omega) (by omega)]; omega
  have c4 : ((m.log.length : Int) == ((m.op - m.bs : Nat) : Int)) = true := by rw [h3]; simp
  refine calls_of_runs (fn := Tryz.f29) (by rw [hE.P]; exact Tryz.func29) rfl (by rw [hE.known]; rfl) (by rw [Tryz.ntmps29]; exact Nat.le_of_ble_eq_true rfl) (by decide +kernel) (rs := [.tmp 2]) rfl (wpc_runs _ _ _ _ ?_)
  simp only [push_cast, seval, hE.P, awrite, wpc_label, wpc_block, nb, c1, c2, c3, c4]
  exact (KW.refl hW).push
section
variable {G : Mem} {h : Heap} {X : Nat → Prop} (hS : SO E G h X) {P : PR} {r t : Nat} (hQ : QR E G h X P [] r t)
include hS hQ
set_option maxHeartbeats 2000000 in
theorem stepC {P' : PR} {out' : List Mg} {f : Nat} {w : Bool} (z : P.Sz) {m : Mg} {ms : List Value} (hm : MgR E G m ms) (hk1 : 1 ≤ m.k) (hk : hnd[m.k - 1]? = some (m.k, f, w)) (hto : m.to = P.me) (hfr : m.k = 1 ∨ m.fr < P.n ∧ m.fr ≠ P.me) (hw : w = true → madeM m = true) (hop : m.op ≤ 1000000000)
    (hol : out'.length ≤ 10000000 ∧ ∀ m, m ∈ out' → m.log.length ≤ 1000000 ∧ m.img.length ≤ 100000000)
    (hf : ∀ {G1 : Mem} {H : Heap} {X1 : Nat → Prop}, SO E G1 H X1 → QR E G1 H X1 P [] r t → MgR E G1 m ms → CallsTo E f [ptr r, .agg ms.toArray] H fun v h' => v = .tuple #[] ∧ ∃ G' X', PX E G1 H X1 G' h' X' ∧ QR E G' h' X' P' out' r t) :
    CallsTo E 15 [ptr r, .agg ms.toArray] h fun v h' => ∃ G' X' co, PX E G h X G' h' X' ∧ QR E G' h' X' P' [] r t ∧ Fz E G' 17 out'.length co v ∧ MgsR E G' out' co := by
  have hm0 := hm
  obtain ⟨b1, d1, b2, d2, b3, d3, rfl, m1, m2, m3⟩ := hm.e
  have nb := hS.wf.nb0
  refine calls_of_runs (fn := Tryz.f15) (by rw [hE.P]; exact Tryz.func15) rfl (by rw [hE.known]; rfl) (by rw [Tryz.ntmps15]; exact Nat.le_of_ble_eq_true rfl) (by decide +kernel) (rs := [.tmp 4]) rfl (wpc_runs _ _ _ _ ?_)
  simp only [push_cast, seval, hE.P, awrite, wpc_label, wpc_block, nb]
  have k0 := (KW.refl hS.wf).push (o := .cells (mgC m (.slice b1 m.log.length d1) (.slice b2 m.img.length d2) (.slice b3 0 d3)) 62 true)
  have p0 := PX.kw hS k0
  have q0 := hQ.ext (k0.ext hS.frz)
  have ge : (h.push (.cells (mgC m (.slice b1 m.log.length d1) (.slice b2 m.img.length d2) (.slice b3 0 d3)) 62 true)).get h.next = some (.cells (mgC m (.slice b1 m.log.length d1) (.slice b2 m.img.length d2) (.slice b3 0 d3)) 62 true) := by rw [get_push, if_pos rfl]
  refine gtm (motive := wdraw E _ _) [0, 3] fun t1 hf' => ?_
  simp only [push_cast, seval, hE.P, awrite, wpc_label, wpc_block, List.mem_cons, List.not_mem_nil, or_false, forall_eq_or_imp, forall_eq] at hf'
  obtain ⟨f0, f3⟩ := hf'
  refine gheap (motive := fun H => wdraw E _ _ _ H) (fun H => PX E G h X G H X ∧ QR E G H X P [] r t ∧ H.get h.next = some (.cells (mgC m (.slice b1 m.log.length d1) (.slice b2 m.img.length d2) (.slice b3 0 d3)) 62 true)) ⟨p0, q0, ge⟩ ?_
  clear p0 q0 ge k0
  rintro H ⟨p0, q0, ge⟩
  have ne := p0.so.wf.nlt ge
  have e1 := p0.so.wf.ne ge
  have k1 := (KW.refl p0.so.wf).push (o := .map (hnd.zipIdx.map hent) 11)
  have hlk := look_h (E := E) hE.P (h := H.push (.map (hnd.zipIdx.map hent) 11)) (b := H.next) (k := m.k) (by rw [get_push, if_pos rfl]) hk1 hk
  refine wdraw_two [(2, [0, 1]), (3, [1])] [0, 7, 8] [(7, [])] [(0, (10, [0])), (1, (11, [1])), (2, (12, [2, 1])), (3, (13, [3, 0, 1, 2])), (4, (9, [4, 0, 1, 2, 3])), (5, (14, [5, 0, 1, 2, 3, 4])), (6, (15, [6, 0, 1, 2, 3, 4])), (7, (5, [7])), (9, (6, [9, 0, 1, 2, 3, 4, 5, 6, 7, 8]))] [0, 1, 2, 3, 4, 5, 6, 7, 8, 9] (by rw [hE.P]; decide +kernel) (by rw [hE.P]; decide +kernel) (by rw [hE.P]; decide +kernel) (by rw [hE.P]; decide +kernel) (by rw [hE.P]; decide +kernel) (by decide +kernel) rfl ?_
  simp only [push_cast, seval, hE.P, awrite, wpc_label, wpc_block, f0, f3, ge, ne, e1]
  refine (handlers_at hE p0.so.wf).mono ?_
  rintro v h5 ⟨rfl, rfl⟩
  have w0 := p0.so.wf.b0
  simp only [push_cast, seval, hE.P, awrite, wpc_label, wpc_block, f0, f3, ge, ne, e1, w0, hlk, kpure_some]
  have he0 : h.next < H.next := (p0.so.wf.live _ _ ge).2
  refine ⟨⟨?_, ?_, ?_, ?_, ?_⟩, ?_⟩
  · simp
  · simp only [push_cast, seval, hE.P, awrite, wpc_label, wpc_block, f0, f3, ge, ne, e1, w0, hlk, rdOk, veq_int]
    simp [veq, veqA, veqL]
  · simp only [push_cast, seval, hE.P, awrite, wpc_label, wpc_block, f0, f3, ge, ne, e1, w0, hlk, faOk, Op.operands, ops_func, Go.Tm.sc, scA, scL]
    exact ⟨fun _ x => x.elim, by simp⟩
  · simp only [push_cast, seval, hE.P, awrite, wpc_label, wpc_block, f0, f3, ge, ne, e1, w0, hlk, aOk]
    rfl
  · simp only [push_cast, seval, hE.P, awrite, wpc_label, wpc_block, f0, f3, ge, ne, e1, w0, hlk, dOk]
    have hq1 : ∀ q : Nat → Bool, scQ q (.agg #[.func (.func f) #[] #[], .bool w]) = true := fun q => by simp [scQ, scQA, scQL]
    have hq2 : ∀ q : Nat → Bool, scQ q (.tuple #[.agg #[.func (.func f) #[] #[], .bool w], .bool true]) = true := fun q => by simp [scQ, scQA, scQL]
    exact ⟨live_one (k := 0) (by decide) (Nat.le_refl _) (Nat.lt_succ_self _), scQ_pt 0 (by omega) he0, rfl, hq2 _, hq2 _, hq1 _, rfl, live_one (k := 7) (by decide) (Nat.le_refl _) (Nat.lt_succ_self _), rfl⟩
  · have k2 := (k1.push (o := .cells [.nilFunc, .bool false] 90 true))
    have hW1 := p0.so.wf
    have k3 : KW E H (((H.push (.map (hnd.zipIdx.map hent) 11)).push (.cells [.nilFunc, .bool false] 90 true)).put (H.next + 1) (.cells [.func (.func f) #[] #[], .bool w] 90 true)) := KW.put k2 (by omega) (by simp) hW1
    have p3 := p0.trans hS.wf (PX.kw p0.so k3)
    have q3 := q0.ext (k3.ext p0.so.frz)
    have g3 := k3.k.get _ _ ge
    have gh : (((H.push (.map (hnd.zipIdx.map hent) 11)).push (.cells [.nilFunc, .bool false] 90 true)).put (H.next + 1) (.cells [.func (.func f) #[] #[], .bool w] 90 true)).get (H.next + 1) = some (.cells [.func (.func f) #[] #[], .bool w] 90 true) := by rw [get_put, if_pos rfl]
    refine gtm (motive := wdraw E _ _) [0, 3, 5, 6] fun t2 hf' => ?_
    simp only [push_cast, seval, hE.P, awrite, wpc_label, wpc_block, List.mem_cons, List.not_mem_nil, or_false, forall_eq_or_imp, forall_eq, f0, f3] at hf'
    obtain ⟨f0, f3, f5, f6⟩ := hf'
    generalize H.next + 1 = hb at *
    refine gheap (motive := fun H => wdraw E _ _ _ H) (fun H => PX E G h X G H X ∧ QR E G H X P [] r t ∧ H.get h.next = some (.cells (mgC m (.slice b1 m.log.length d1) (.slice b2 m.img.length d2) (.slice b3 0 d3)) 62 true) ∧ H.get hb = some (.cells [.func (.func f) #[] #[], .bool w] 90 true)) ⟨p3, q3, g3, gh⟩ ?_
    clear p3 q3 g3 gh k3 k2 k1 hlk
    rintro H2 ⟨p3, q3, g3, gh⟩
    have n3 := p3.so.wf.nlt g3
    have n4 := p3.so.wf.nlt gh
    have q3' := q3
    obtain ⟨D, q⟩ := q3'
    have hr := q.hr
    have nr := p3.so.wf.nlt hr
    have w0 := p3.so.wf.b0
    have e3 := p3.so.wf.ne g3
    have e4 := p3.so.wf.ne gh
    have e5 := p3.so.wf.ne hr
    refine wdraw_calm (by rw [hE.P]; decide +kernel) ?_
    have c0 : (((m.to : Nat) : Int) != (P.me : Int)) = false := by simp [hto]
    -- no stranger
    have key : ∀ (b7 : Bool), True := fun _ => trivial
    by_cases h1 : m.k = 1
    · have c1 : ((m.k : Int) != 1) = false := by simp [h1]
      simp only [push_cast, seval, hE.P, awrite, wpc_label, wpc_block, f0, f3, f5, f6, hr, nr, g3, n3, gh, n4, c1, kguard_undef]
      refine gtm (motive := kalloc _ _ _) [0, 3, 5, 6, 7] fun t3 hf' => ?_
      simp only [push_cast, seval, hE.P, awrite, wpc_label, wpc_block, List.mem_cons, List.not_mem_nil, or_false, forall_eq_or_imp, forall_eq, f0, f3, f5, f6] at hf'
      obtain ⟨f0, f3, f5, f6, f7⟩ := hf'
      rw [bs6, kalloc_some]
      have k4 := (KW.refl p3.so.wf).push (o := .cells [iv m.vw, iv m.op, iv m.cm, iv m.bs, iv m.nm, iv m.nc] 3 true)
      have p4 := p3.trans hS.wf (PX.kw p3.so k4)
      have q4 := q3.ext (k4.ext p3.so.frz)
      have g4 := k4.k.get _ _ g3
      have gh4 := k4.k.get _ _ gh
      have gi : (H2.push (.cells [iv m.vw, iv m.op, iv m.cm, iv m.bs, iv m.nm, iv m.nc] 3 true)).get H2.next = some (.cells [iv m.vw, iv m.op, iv m.cm, iv m.bs, iv m.nm, iv m.nc] 3 true) := by rw [get_push, if_pos rfl]
      simp only [push_cast, seval, hE.P, awrite, wpc_label, wpc_block, f0, f3, f5, f6, f7]
      refine (min6_at hE p4.so.wf gi).mono ?_
      rintro v5 h5 ⟨⟨kk, rfl⟩, rfl⟩
      have ck : decide ((kk : Int) < 0) = false := by simp
      obtain ⟨D4, qq4⟩ := q4
      have hr4 := qq4.hr
      have nr4 := p4.so.wf.nlt hr4
      have n5 := p4.so.wf.nlt g4
      have n6 := p4.so.wf.nlt gh4
      have w4 := p4.so.wf.b0
      simp only [push_cast, seval, hE.P, awrite, wpc_label, wpc_block, f0, f3, f5, f6, f7, ck]
      refine wdraw_calm (by rw [hE.P]; decide +kernel) ?_
      simp only [push_cast, seval, hE.P, awrite, wpc_label, wpc_block, f0, f3, f5, f6, f7, ck, c0, hr4, nr4, g4, n5, gh4, n6]
      cases w
      · simp only [push_cast, seval, hE.P, awrite, wpc_label, wpc_block, f0, f3, f5, f6, f7, g4, n5, gh4, n6, kguard_undef, kcall_func]
        have px := p4
        have qx : QR E G _ X P [] r t := ⟨D4, qq4⟩
        refine (hf px.so qx (hm0.sub px.sub)).mono ?_
        rintro v7 h7 ⟨rfl, G7, X7, p7, q7⟩
        simp only [push_cast, seval, hE.P, awrite, wpc_label, wpc_block, f0, f3, f5, f6]
        refine (sent_at hE p7.so q7 hol.1 hol.2).mono ?_
        rintro v8 h8 ⟨G8, co8, p8, q8, z8, r8⟩
        simp only [push_cast, seval, hE.P, awrite, wpc_label, wpc_block, f0]
        exact ⟨G8, X7, co8, (px.trans hS.wf p7).trans hS.wf p8, q8, z8, r8⟩
      · simp only [push_cast, seval, hE.P, awrite, wpc_label, wpc_block, f0, f3, f5, f6, f7, g4, n5, gh4, n6]
        refine (made_at hE p4.so.wf (hm0.sub p4.sub) (hw rfl) hop).mono ?_
        rintro v6 h6 ⟨rfl, km⟩
        have g6 := km.k.get _ _ g4
        have gh6 := km.k.get _ _ gh4
        have px := p4.trans hS.wf (PX.kw p4.so km)
        have qx : QR E G _ X P [] r t := QR.ext ⟨D4, qq4⟩ (km.ext p4.so.frz)
        simp only [push_cast, seval, hE.P, awrite, wpc_label, wpc_block, f0, f3, f5, f6, f7, g6, n5, gh6, n6, kcall_func]
        refine (hf px.so qx (hm0.sub px.sub)).mono ?_
        rintro v7 h7 ⟨rfl, G7, X7, p7, q7⟩
        simp only [push_cast, seval, hE.P, awrite, wpc_label, wpc_block, f0, f3, f5, f6]
        refine (sent_at hE p7.so q7 hol.1 hol.2).mono ?_
        rintro v8 h8 ⟨G8, co8, p8, q8, z8, r8⟩
        simp only [push_cast, seval, hE.P, awrite, wpc_label, wpc_block, f0]
        exact ⟨G8, X7, co8, (px.trans hS.wf p7).trans hS.wf p8, q8, z8, r8⟩
    · have c1 : ((m.k : Int) != 1) = true := by simp; omega
      have c2 : decide ((m.fr : Int) < 0) = false := by simp
      have c3 : decide ((P.n : Int) ≤ (m.fr : Int)) = false := by simp; omega
      have c4 : ((m.fr : Int) == (P.me : Int)) = false := by simp; omega
      simp only [push_cast, seval, hE.P, awrite, wpc_label, wpc_block, f0, f3, f5, f6, hr, nr, g3, n3, gh, n4, c1, c2, c3, c4]
      refine gtm (motive := kalloc _ _ _) [0, 3, 5, 6, 7] fun t3 hf' => ?_
      simp only [push_cast, seval, hE.P, awrite, wpc_label, wpc_block, List.mem_cons, List.not_mem_nil, or_false, forall_eq_or_imp, forall_eq, f0, f3, f5, f6] at hf'
      obtain ⟨f0, f3, f5, f6, f7⟩ := hf'
      rw [bs6, kalloc_some]
      have k4 := (KW.refl p3.so.wf).push (o := .cells [iv m.vw, iv m.op, iv m.cm, iv m.bs, iv m.nm, iv m.nc] 3 true)
      have p4 := p3.trans hS.wf (PX.kw p3.so k4)
      have q4 := q3.ext (k4.ext p3.so.frz)
      have g4 := k4.k.get _ _ g3
      have gh4 := k4.k.get _ _ gh
      have gi : (H2.push (.cells [iv m.vw, iv m.op, iv m.cm, iv m.bs, iv m.nm, iv m.nc] 3 true)).get H2.next = some (.cells [iv m.vw, iv m.op, iv m.cm, iv m.bs, iv m.nm, iv m.nc] 3 true) := by rw [get_push, if_pos rfl]
      simp only [push_cast, seval, hE.P, awrite, wpc_label, wpc_block, f0, f3, f5, f6, f7]
      refine (min6_at hE p4.so.wf gi).mono ?_
      rintro v5 h5 ⟨⟨kk, rfl⟩, rfl⟩
      have ck : decide ((kk : Int) < 0) = false := by simp
      obtain ⟨D4, qq4⟩ := q4
      have hr4 := qq4.hr
      have nr4 := p4.so.wf.nlt hr4
      have n5 := p4.so.wf.nlt g4
      have n6 := p4.so.wf.nlt gh4
      have w4 := p4.so.wf.b0
      simp only [push_cast, seval, hE.P, awrite, wpc_label, wpc_block, f0, f3, f5, f6, f7, ck]
      refine wdraw_calm (by rw [hE.P]; decide +kernel) ?_
      simp only [push_cast, seval, hE.P, awrite, wpc_label, wpc_block, f0, f3, f5, f6, f7, ck, c0, hr4, nr4, g4, n5, gh4, n6]
      cases w
      · simp only [push_cast, seval, hE.P, awrite, wpc_label, wpc_block, f0, f3, f5, f6, f7, g4, n5, gh4, n6, kguard_undef, kcall_func]
        have px := p4
        have qx : QR E G _ X P [] r t := ⟨D4, qq4⟩
        refine (hf px.so qx (hm0.sub px.sub)).mono ?_
        rintro v7 h7 ⟨rfl, G7, X7, p7, q7⟩
        simp only [push_cast, seval, hE.P, awrite, wpc_label, wpc_block, f0, f3, f5, f6]
        refine (sent_at hE p7.so q7 hol.1 hol.2).mono ?_
        rintro v8 h8 ⟨G8, co8, p8, q8, z8, r8⟩
        simp only [push_cast, seval, hE.P, awrite, wpc_label, wpc_block, f0]
        exact ⟨G8, X7, co8, (px.trans hS.wf p7).trans hS.wf p8, q8, z8, r8⟩
      · simp only [push_cast, seval, hE.P, awrite, wpc_label, wpc_block, f0, f3, f5, f6, f7, g4, n5, gh4, n6]
        refine (made_at hE p4.so.wf (hm0.sub p4.sub) (hw rfl) hop).mono ?_
        rintro v6 h6 ⟨rfl, km⟩
        have g6 := km.k.get _ _ g4
        have gh6 := km.k.get _ _ gh4
        have px := p4.trans hS.wf (PX.kw p4.so km)
        have qx : QR E G _ X P [] r t := QR.ext ⟨D4, qq4⟩ (km.ext p4.so.frz)
        simp only [push_cast, seval, hE.P, awrite, wpc_label, wpc_block, f0, f3, f5, f6, f7, g6, n5, gh6, n6, kcall_func]
        refine (hf px.so qx (hm0.sub px.sub)).mono ?_
        rintro v7 h7 ⟨rfl, G7, X7, p7, q7⟩
        simp only [push_cast, seval, hE.P, awrite, wpc_label, wpc_block, f0, f3, f5, f6]
        refine (sent_at hE p7.so q7 hol.1 hol.2).mono ?_
        rintro v8 h8 ⟨G8, co8, p8, q8, z8, r8⟩
        simp only [push_cast, seval, hE.P, awrite, wpc_label, wpc_block, f0]
        exact ⟨G8, X7, co8, (px.trans hS.wf p7).trans hS.wf p8, q8, z8, r8⟩
end
end Go.Proofs.YthdgobcpefcolaaGreatDoor
namespace Go.Proofs.YthdgobcpefcolaaGreatDoor
open Go.Tm Vr
variable {E : Env} (hE : EOk E)
include hE
section
variable {G : Mem} {h : Heap} {X : Nat → Prop} (hS : SO E G h X) {P : PR} {r t : Nat}
include hS
set_option maxHeartbeats 1000000 in
theorem idle_at (hQ : QR E G h X P [] r t) (z : P.Sz) : CallsTo E 34 [ptr r] h fun v h' => ∃ G' X' co, PX E G h X G' h' X' ∧ QR E G' h' X' P [] r t ∧ Fz E G' 17 (idle P).length co v ∧ MgsR E G' (idle P) co := by
  have hQ0 := hQ
  obtain ⟨⟨dc, vl, vt, vv, vo⟩, q⟩ := hQ
  have hr := q.hr
  have nr := hS.wf.nlt hr
  have zn := z.n
  have zo := z.op
  have zb := z.bs
  have zc := z.cm
  have hn : 1 ≤ P.n ∧ P.n ≤ 1000 := ⟨by omega, by omega⟩
  have hvw : P.vw ≤ 1099511627776 := by have := z.vw; omega
  have hall : ∀ m : Mg, m.log = [] → m.img = [] → (P.allM m).length ≤ 10000000 ∧ ∀ x, x ∈ P.allM m → x.log.length ≤ 1000000 ∧ x.img.length ≤ 100000000 := by
    intro m h1 h2
    refine ⟨by have := allF_len P m P.n; unfold PR.allM; omega, fun x hx => ?_⟩
    unfold PR.allM allF at hx
    obtain ⟨j, _, rfl⟩ := List.mem_map.1 hx
    simp [PR.toM, h1, h2]
  refine calls_of_runs (fn := Tryz.f34) (by rw [hE.P]; exact Tryz.func34) rfl (by rw [hE.known]; rfl) (by rw [Tryz.ntmps34]; exact Nat.le_of_ble_eq_true rfl) (by decide +kernel) (rs := [.tmp 2]) rfl (wpc_runs _ _ _ _ ?_)
  simp only [push_cast, seval, hE.P, awrite, wpc_label, wpc_block]
  refine (leads_at hE hS hQ0 hn hvw).mono ?_
  intro v h5 hvh
  rw [hvh.1, hvh.2]
  clear hvh
  generalize hR : idle P = R
  unfold idle at hR
  by_cases hl : P.st = 0 ∧ P.prim = true
  · have hb : (P.st == 0 && P.prim) = true := by simp [hl]
    rw [if_neg (by simp [hl])] at hR
    simp only [push_cast, seval, hE.P, awrite, wpc_label, wpc_block, hb]
    refine wdraw_calm (by rw [hE.P]; decide +kernel) ?_
    by_cases hc : P.cm < P.op
    · have hb2 : decide ((P.cm : Int) < (P.op : Int)) = true := by simp; omega
      rw [if_pos hc] at hR
      subst hR
      have hll : 0 < P.log.length := by unfold PR.op at hc; omega
      obtain ⟨lb, lc, hvl, hel⟩ := q.hl.elem hS.wf (show P.log.length - 1 < P.log.length by omega)
      simp only at hvl
      subst hvl
      rw [entsC_at (List.getElem?_eq_getElem (show P.log.length - 1 < P.log.length by omega))] at hel
      unfold entC at hel
      have hlast : P.log.getLastD ⟨0, 0, .empty⟩ = P.log[P.log.length - 1] := by
        rw [List.getLastD_eq_getLast?, List.getLast?_eq_getElem?, List.getElem?_eq_getElem (by omega)]; rfl
      rw [hlast]
      generalize P.log[P.log.length - 1] = e at *
      have hlz : P.log.length ≤ P.op := by unfold PR.op; omega
      have hw : (Value.int .i64 (IntKind.i64.wrap ((P.log.length : Int) - 1))) = .int .i64 ((P.log.length - 1 : Nat) : Int) := by rw [wr64 (by omega) (by omega)]; congr 1; omega
      simp only [push_cast, seval, hE.P, awrite, wpc_label, wpc_block, hr, nr, hb2]
      refine wdraw_calm (by rw [hE.P]; decide +kernel) ?_
      simp only [push_cast, seval, hE.P, awrite, wpc_label, wpc_block, hr, nr, hb2]
      rw [hw, ia36 rfl (by omega) (by omega), kpure_some]
      simp only [push_cast, seval, hE.P, awrite, wpc_label, wpc_block, hr, nr, Nat.zero_add, ↓hel, Int.toNat_natCast]
      refine (all_at hE hS hQ0 (by omega) (by simp) (m := { k := 2, vw := P.vw, op := P.op, cm := P.cm, en := e }) ⟨_, _, _, rfl, Fz.nil, Fz.nil, Fz.nil⟩).mono ?_
      rintro v ha ⟨rfl, X6, px6, q6⟩
      simp only [push_cast, seval, hE.P, awrite, wpc_label, wpc_block]
      have hh := hall { k := 2, vw := P.vw, op := P.op, cm := P.cm, en := e } rfl rfl
      refine (sent_at hE px6.so q6 hh.1 hh.2).mono ?_
      rintro v8 h8 ⟨G8, co8, p8, q8, z8, r8⟩
      simp only [push_cast, seval, hE.P, awrite, wpc_label, wpc_block]
      exact ⟨G8, X6, co8, px6.trans hS.wf p8, q8, z8, r8⟩
    · have hb2 : decide ((P.cm : Int) < (P.op : Int)) = false := by simp; omega
      rw [if_neg hc] at hR
      subst hR
      simp only [push_cast, seval, hE.P, awrite, wpc_label, wpc_block, hr, nr, hb2]
      refine wdraw_calm (by rw [hE.P]; decide +kernel) ?_
      simp only [push_cast, seval, hE.P, awrite, wpc_label, wpc_block, hr, nr, hb2]
      refine (all_at hE hS hQ0 (by omega) (by simp) (m := { k := 4, vw := P.vw, cm := P.cm }) ⟨_, _, _, rfl, Fz.nil, Fz.nil, Fz.nil⟩).mono ?_
      rintro v ha ⟨rfl, X6, px6, q6⟩
      simp only [push_cast, seval, hE.P, awrite, wpc_label, wpc_block]
      have hh := hall { k := 4, vw := P.vw, cm := P.cm } rfl rfl
      refine (sent_at hE px6.so q6 hh.1 hh.2).mono ?_
      rintro v8 h8 ⟨G8, co8, p8, q8, z8, r8⟩
      simp only [push_cast, seval, hE.P, awrite, wpc_label, wpc_block]
      exact ⟨G8, X6, co8, px6.trans hS.wf p8, q8, z8, r8⟩
  · have hb : (P.st == 0 && P.prim) = false := by
      cases hp : P.prim <;> simp_all
    rw [if_pos (by cases hp : P.prim <;> simp_all)] at hR
    subst hR
    simp only [push_cast, seval, hE.P, awrite, wpc_label, wpc_block, hb]
    refine (sent_at hE hS hQ0 (by simp) (fun m hm => by simp at hm)).mono ?_
    rintro v8 h8 ⟨G8, co8, p8, q8, z8, r8⟩
    simp only [push_cast, seval, hE.P, awrite, wpc_label, wpc_block]
    exact ⟨G8, X, co8, p8, q8, z8, r8⟩
theorem getView_at (hQ : QR E G h X P [] r t) : CallsTo E 9 [ptr r] h fun v h' => v = iv P.vw ∧ h' = h := by
  obtain ⟨D, q⟩ := hQ
  have hr := q.hr
  have nr := hS.wf.nlt hr
  refine calls_of_runs (fn := Tryz.f9) (by rw [hE.P]; exact Tryz.func9) rfl (by rw [hE.known]; rfl) (by rw [Tryz.ntmps9]; exact Nat.le_of_ble_eq_true rfl) (by decide +kernel) (rs := [.tmp 2]) rfl (wpc_runs _ _ _ _ ?_)
  simp only [push_cast, seval, hE.P, awrite, wpc_label, wpc_block, hr, nr]
theorem getStatus_at (hQ : QR E G h X P [] r t) : CallsTo E 10 [ptr r] h fun v h' => v = iv P.st ∧ h' = h := by
  obtain ⟨D, q⟩ := hQ
  have hr := q.hr
  have nr := hS.wf.nlt hr
  refine calls_of_runs (fn := Tryz.f10) (by rw [hE.P]; exact Tryz.func10) rfl (by rw [hE.known]; rfl) (by rw [Tryz.ntmps10]; exact Nat.le_of_ble_eq_true rfl) (by decide +kernel) (rs := [.tmp 2]) rfl (wpc_runs _ _ _ _ ?_)
  simp only [push_cast, seval, hE.P, awrite, wpc_label, wpc_block, hr, nr]
theorem getNormal_at (hQ : QR E G h X P [] r t) : CallsTo E 69 [ptr r] h fun v h' => v = iv P.nm ∧ h' = h := by
  obtain ⟨D, q⟩ := hQ
  have hr := q.hr
  have nr := hS.wf.nlt hr
  refine calls_of_runs (fn := Tryz.f69) (by rw [hE.P]; exact Tryz.func69) rfl (by rw [hE.known]; rfl) (by rw [Tryz.ntmps69]; exact Nat.le_of_ble_eq_true rfl) (by decide +kernel) (rs := [.tmp 2]) rfl (wpc_runs _ _ _ _ ?_)
  simp only [push_cast, seval, hE.P, awrite, wpc_label, wpc_block, hr, nr]
theorem getOp_at (hQ : QR E G h X P [] r t) : CallsTo E 17 [ptr r] h fun v h' => v = iv P.op ∧ h' = h := by
  obtain ⟨D, q⟩ := hQ
  have hr := q.hr
  have nr := hS.wf.nlt hr
  refine calls_of_runs (fn := Tryz.f17) (by rw [hE.P]; exact Tryz.func17) rfl (by rw [hE.known]; rfl) (by rw [Tryz.ntmps17]; exact Nat.le_of_ble_eq_true rfl) (by decide +kernel) (rs := [.tmp 2]) rfl (wpc_runs _ _ _ _ ?_)
  simp only [push_cast, seval, hE.P, awrite, wpc_label, wpc_block, hr, nr]
theorem getCommit_at (hQ : QR E G h X P [] r t) : CallsTo E 18 [ptr r] h fun v h' => v = iv P.cm ∧ h' = h := by
  obtain ⟨D, q⟩ := hQ
  have hr := q.hr
  have nr := hS.wf.nlt hr
  refine calls_of_runs (fn := Tryz.f18) (by rw [hE.P]; exact Tryz.func18) rfl (by rw [hE.known]; rfl) (by rw [Tryz.ntmps18]; exact Nat.le_of_ble_eq_true rfl) (by decide +kernel) (rs := [.tmp 2]) rfl (wpc_runs _ _ _ _ ?_)
  simp only [push_cast, seval, hE.P, awrite, wpc_label, wpc_block, hr, nr]
theorem getBase_at (hQ : QR E G h X P [] r t) : CallsTo E 70 [ptr r] h fun v h' => v = iv P.bs ∧ h' = h := by
  obtain ⟨D, q⟩ := hQ
  have hr := q.hr
  have nr := hS.wf.nlt hr
  refine calls_of_runs (fn := Tryz.f70) (by rw [hE.P]; exact Tryz.func70) rfl (by rw [hE.known]; rfl) (by rw [Tryz.ntmps70]; exact Nat.le_of_ble_eq_true rfl) (by decide +kernel) (rs := [.tmp 2]) rfl (wpc_runs _ _ _ _ ?_)
  simp only [push_cast, seval, hE.P, awrite, wpc_label, wpc_block, hr, nr]
theorem getPrimary_at (hQ : QR E G h X P [] r t) (z : P.Sz) : CallsTo E 71 [ptr r] h fun v h' => v = .bool P.prim ∧ h' = h := by
  have hQ0 := hQ
  obtain ⟨D, q⟩ := hQ
  have hr := q.hr
  have nr := hS.wf.nlt hr
  refine calls_of_runs (fn := Tryz.f71) (by rw [hE.P]; exact Tryz.func71) rfl (by rw [hE.known]; rfl) (by rw [Tryz.ntmps71]; exact Nat.le_of_ble_eq_true rfl) (by decide +kernel) (rs := [.tmp 2]) rfl (wpc_runs _ _ _ _ ?_)
  simp only [push_cast, seval, hE.P, awrite, wpc_label, wpc_block]
  refine wdraw_pairs [(5, 1)] (by rw [hE.P]; decide +kernel) (by rw [hE.P]; decide +kernel) (by rw [hE.P]; decide +kernel) ?_
  simp only [push_cast, seval, hE.P, awrite, wpc_label, wpc_block]
  refine (primary_at hE hS hQ0 ⟨by have := z.n; omega, by have := z.n; omega⟩ (by have := z.vw; omega)).mono ?_
  intro v h5 hvh
  rw [hvh.1, hvh.2]
  clear hvh
  simp only [push_cast, seval, hE.P, awrite, wpc_label, wpc_block, hr, nr, veq_int]
  unfold PR.prim
  rw [← Int.natCast_emod, Bool.beq_eq_decide_eq, Bool.beq_eq_decide_eq]
  congr 1
  exact decide_eq_decide.2 (by omega)
theorem getLog_at (hQ : QR E G h X P [] r t) (z : P.Sz) : CallsTo E 72 [ptr r] h fun v h' => ∃ G', Ext E G h G' h' ∧ Fz E G' 3 P.log.length (entsC P.log) v := by
  obtain ⟨⟨dc, vl, vt, vv, vo⟩, q⟩ := hQ
  have hr := q.hr
  have nr := hS.wf.nlt hr
  obtain ⟨la, lc, hvl, _⟩ := q.hl.isSl
  simp only at hvl
  subst hvl
  have hlz : P.log.length ≤ P.op := by unfold PR.op; omega
  have zo := z.op
  have e1 := hS.wf.ne hr
  refine calls_of_runs (fn := Tryz.f72) (by rw [hE.P]; exact Tryz.func72) rfl (by rw [hE.known]; rfl) (by rw [Tryz.ntmps72]; exact Nat.le_of_ble_eq_true rfl) (by decide +kernel) (rs := [.tmp 2]) rfl (wpc_runs _ _ _ _ ?_)
  simp only [push_cast, seval, hE.P, awrite, wpc_label, wpc_block]
  refine wdraw_pairs [(9, 5)] (by rw [hE.P]; decide +kernel) (by rw [hE.P]; decide +kernel) (by rw [hE.P]; decide +kernel) ?_
  simp only [push_cast, seval, hE.P, awrite, wpc_label, wpc_block, hr, nr]
  rw [mk36 (by omega) (by omega) (by omega) (by omega), kalloc_some]
  simp only [push_cast, seval, hE.P, awrite, wpc_label, wpc_block, hr, nr, e1]
  have k0 := (KW.refl hS.wf).push (o := .cells (arep P.log.length [.int .i64 0, .int .i64 0, .string .empty]) 56 true)
  refine kwv_GO (el36 hE.P) (hS.wf.push _) (lo := h.next) (by simp) (Own.made rfl (Nat.le_refl _) (by omega)) (q.hl.keep k0.k) (entsC_one _) (by omega) (by omega) ?_
  intro v4 Hc aC
  obtain ⟨va, vc, hv4⟩ := aC.sl
  have kC := k0.app hS.wf (Own.made rfl (Nat.le_refl _) (by omega)) aC
  have oC := aC.own
  rw [Nat.zero_add, List.nil_append] at oC
  rw [Nat.zero_add] at hv4
  subst hv4
  have hr2 := kC.k.get _ _ hr
  simp only [push_cast, seval, hE.P, awrite, wpc_label, wpc_block, hr, nr, e1, hr2, veq_slice]
  obtain ⟨G', z', x'⟩ := oC.frz hS.wf hS.frz kC
  exact ⟨G', x', z'⟩
end
end Go.Proofs.YthdgobcpefcolaaGreatDoor
