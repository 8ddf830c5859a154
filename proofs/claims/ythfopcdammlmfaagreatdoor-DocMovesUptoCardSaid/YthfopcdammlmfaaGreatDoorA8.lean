/- PLAIN: rows of numbers and of slots; heads of objects; bits. No program in sight. -/
/- Merged by a program of ours: L2 L3 L4 P1 L5 P2 L6 P3 P4. -/
import Derived.Test.YthfopcdammlmfaaGreatDoorA7
import Derived.Lib.ValidU
import Derived.IntWalk
import Derived.Laws.Bits64
import Derived.Laws.Bits64b
import Derived.Lib.Zigzag
set_option maxRecDepth 10000
set_option linter.all false
set_option linter.unusedSimpArgs false
set_option linter.unusedVariables false
/- The logic, second part: its rules as equations. -/
namespace Go.Tm
section
variable {E : Env} {Q : XCont} {tm : Tr Value} {h : Heap}
theorem wpc_skip : wpc E .skip Q tm h = Q .normal tm h := rfl
theorem wpc_label {l : Nat} : wpc E (.label l) Q tm h = Q .normal tm h := rfl
theorem wpc_ret : wpc E .ret Q tm h = Q .ret tm h := rfl
theorem wpc_exit {i : Nat} : wpc E (.exit i) Q tm h = Q (.exit i) tm h := rfl
theorem wpc_goto {i : Nat} : wpc E (.goto i) Q tm h = Q (.goto i) tm h := rfl
theorem wpc_seq {a b : Code} : wpc E (.seq a b) Q tm h = wpc E a (kseq (wpc E b Q) Q) tm h := rfl
theorem wpc_cond {c : Operand} {x y : Code} : wpc E (.cond c x y) Q tm h = kif E (opd tm c) (wpc E x) (wpc E y) Q tm h := rfl
theorem wpc_block {i : Nat} {b : Code} : wpc E (.block i b) Q tm h = wpc E b (kblock i Q) tm h := rfl
theorem wpc_region {i : Nat} {ops : Array Oper} : wpc E (.region i ops false) Q tm h = wpo E ops.toList ops.toList (Q .normal) tm h := rfl
theorem wpc_draw {i : Nat} {ops : Array Oper} : wpc E (.region i ops true) Q tm h = wdraw E ops.toList (Q .normal) tm h := rfl
theorem kseq_normal {R : Cont} : kseq R Q .normal tm h = R tm h := rfl
theorem kseq_ret {R : Cont} : kseq R Q .ret tm h = Q .ret tm h := rfl
theorem kseq_exit {R : Cont} {i : Nat} : kseq R Q (.exit i) tm h = Q (.exit i) tm h := rfl
theorem kseq_goto {R : Cont} {i : Nat} : kseq R Q (.goto i) tm h = Q (.goto i) tm h := rfl
theorem kblock_normal {i : Nat} : kblock i Q .normal tm h = Q .normal tm h := rfl
theorem kblock_ret {i : Nat} : kblock i Q .ret tm h = Q .ret tm h := rfl
theorem kblock_exit {i j : Nat} : kblock i Q (.exit j) tm h = if j = i then Q .normal tm h else Q (.exit j) tm h := rfl
theorem kblock_goto {i j : Nat} : kblock i Q (.goto j) tm h = Q (.goto j) tm h := rfl
theorem kloop_normal {I : Nat → Cont} {n : Nat} : kloop I n Q .normal tm h = ∃ m, m < n ∧ I m tm h := rfl
theorem kloop_ret {I : Nat → Cont} {n : Nat} : kloop I n Q .ret tm h = Q .ret tm h := rfl
theorem kloop_exit {I : Nat → Cont} {n i : Nat} : kloop I n Q (.exit i) tm h = Q (.exit i) tm h := rfl
theorem kloop_goto {I : Nat → Cont} {n i : Nat} : kloop I n Q (.goto i) tm h = Q (.goto i) tm h := rfl
theorem kscope_normal {b : Code} {I : Nat → Code → Cont} {n : Nat} : kscope b I n Q .normal tm h = Q .normal tm h := rfl
theorem kscope_ret {b : Code} {I : Nat → Code → Cont} {n : Nat} : kscope b I n Q .ret tm h = Q .ret tm h := rfl
theorem kscope_exit {b : Code} {I : Nat → Code → Cont} {n i : Nat} : kscope b I n Q (.exit i) tm h = Q (.exit i) tm h := rfl
theorem kscope_goto {b : Code} {I : Nat → Code → Cont} {n l : Nat} : kscope b I n Q (.goto l) tm h = ∃ m c, m < n ∧ findLabel b l = some c ∧ I m c tm h := rfl
theorem kif_true {x y : XCont → Cont} : kif E (.bool true) x y Q tm h = x Q tm h := rfl
theorem kif_false {x y : XCont → Cont} : kif E (.bool false) x y Q tm h = y Q tm h := rfl
theorem kif_split {x y : XCont → Cont} {b : Bool} (h1 : b = true → x Q tm h) (h2 : b = false → y Q tm h) : kif E (.bool b) x y Q tm h := by
 cases b
 ·exact h2 rfl
 ·exact h1 rfl
end
section
variable {E : Env} {O l : List Oper} {Q : Cont} {tm : Tr Value} {h : Heap} {K : Value → Heap → Prop} {ty : TypeId} {pos : String} {aft : Array Edge}
def kguard (v : Value) (want : Bool) (A B : Cont) : Cont := fun tm h =>
 match v with
 | .bool b => (b = want → A tm h) ∧ (b = !want → B tm h)
 | _ => B tm h
def gval (O : List Oper) (j : Nat) (tm : Tr Value) : Value :=
 match (O[j]?).bind (·.dst) with
 | some d => fget tm d
 | none => undef
def wop1 (E : Env) (op : Op) (d : Option Nat) (R : Cont) : Cont := fun tm h => wpop E op tm h (kput tm d R)
def wskip (d : Option Nat) (R : Cont) : Cont := fun tm h => R (aput tm d undef) h
theorem wpo_nil : wpo E O [] Q tm h = Q tm h := rfl
theorem wpo_cons {d : Option Nat} {op : Op} : wpo E O (⟨d, op, ty, pos, aft, none⟩ :: l) Q tm h = wop1 E op d (wpo E O l Q) tm h := rfl
theorem wpo_guard {d : Option Nat} {op : Op} {j : Nat} {b : Bool} : wpo E O (⟨d, op, ty, pos, aft, some (j, b)⟩ :: l) Q tm h = kguard (gval O j tm) b (wop1 E op d (wpo E O l Q)) (wskip d (wpo E O l Q)) tm h := by
 simp only [wpo, kguard, awanted, gval, wop1, wskip]
 cases hj : (O[j]?).bind (·.dst) with
 | none => simp [undef]
 | some d' =>
   simp only
   cases hv : fget tm d' with
   | bool c => cases c <;> cases b <;> simp
   | _ => simp
theorem kguard_tt {A B : Cont} : kguard (.bool true) true A B tm h = A tm h := by simp [kguard]
theorem kguard_ff {A B : Cont} : kguard (.bool false) false A B tm h = A tm h := by simp [kguard]
theorem kguard_tf {A B : Cont} : kguard (.bool true) false A B tm h = B tm h := by simp [kguard]
theorem kguard_ft {A B : Cont} : kguard (.bool false) true A B tm h = B tm h := by simp [kguard]
theorem kput_some {d : Nat} {R : Cont} {v : Value} : kput tm (some d) R v h = R (tm.set d (some v)) h := rfl
theorem kput_none {R : Cont} {v : Value} : kput tm none R v h = R tm h := rfl
theorem wskip_some {d : Nat} {R : Cont} : wskip (some d) R tm h = R (tm.set d (some undef)) h := rfl
theorem wskip_none {R : Cont} : wskip none R tm h = R tm h := rfl
theorem fget_set_lit {t d : Nat} {v : Value} : fget (tm.set d (some v)) t = if d = t then v else fget tm t := by
 exact fget_set _ _ _ _
theorem opd_tmp {t : Nat} : opd tm (.tmp t) = fget tm t := rfl
theorem opd_const {v : Value} : opd tm (.const v) = v := rfl
theorem opd_func {f : Nat} : opd tm (.func f) = .func (.func f) #[] #[] := rfl
theorem opd_global {g : Nat} : opd tm (.global g) = .pointer (some ⟨g, 0, none⟩) := rfl
theorem kleave_ret {rs : List ResultVar} {K : Value → Heap → Prop} : kleave E rs K .ret tm h = ∃ l, aresults E ⟨tm, h⟩ rs = some l ∧ K (aret l) h := rfl
theorem kleave_normal {rs : List ResultVar} {K : Value → Heap → Prop} : kleave E rs K .normal tm h = ∃ l, aresults E ⟨tm, h⟩ rs = some l ∧ K (aret l) h := rfl
theorem setP_setP {α : Type} (x y : Option α) : ∀ (p : List Bool) (t : Tr α), Tr.setP y p (Tr.setP x p t) = Tr.setP y p t
 | [], t => by cases t <;> rfl
 | b :: p, t => by
   cases t with
   | leaf => cases b <;> simp [Tr.setP, setP_setP x y p]
   | node v l r => cases b <;> simp [Tr.setP, setP_setP x y p]
theorem put_push {o o' : AObj} : (h.push o).put h.next o' = h.push o' := by
 simp only [Heap.put, Heap.push, Tr.set, setP_setP]
theorem put_put {b : Nat} {o o' : AObj} : (h.put b o).put b o' = h.put b o' := by
 simp only [Heap.put, Tr.set, setP_setP]
theorem aret_one {v : Value} : aret [v] = v := rfl
theorem aret_none : aret [] = .tuple #[] := rfl
theorem aret_two {v w : Value} : aret [v, w] = .tuple #[v, w] := rfl
theorem aret_three {v w x : Value} : aret [v, w, x] = .tuple #[v, w, x] := rfl
theorem aret_four {v w x y : Value} : aret [v, w, x, y] = .tuple #[v, w, x, y] := rfl
theorem wop_move {x : Operand} {d : Option Nat} {R : Cont} : wop1 E (.move x) d R tm h ↔ R (aput tm d (opd tm x)) h := by simp [wop1, wpop, kindOf, apure, kput]
theorem wop_assign {x : Operand} {d : Option Nat} {R : Cont} : wop1 E (.assign x) d R tm h ↔ R (aput tm d (opd tm x)) h := by simp [wop1, wpop, kindOf, apure, kput]
def kpure (o : Option Value) (d : Option Nat) (R : Cont) : Cont := fun tm h => ∃ v, o = some v ∧ R (aput tm d v) h
theorem kpure_some {v : Value} {d : Option Nat} {R : Cont} : kpure (some v) d R tm h ↔ R (aput tm d v) h := by simp [kpure]
def aput' := @aput
def anilc : Value → Option Value
 | .pointer (some a) => some (.pointer (some a))
 | .func (.func f) x y => some (.func (.func f) x y)
 | .iface t v => some (.iface t v)
 | _ => none
def apick (c a b : Value) : Option Value :=
 match c with
 | .bool t => some (if t then a else b)
 | _ => none
theorem wop_pick {c x y : Operand} {d : Option Nat} {R : Cont} : wop1 E (.pick c x y) d R tm h = kpure (apick (opd tm c) (opd tm x) (opd tm y)) d R tm h := by
 simp only [wop1, wpop, kindOf, apure, kput, kpure, apick]
 rfl
theorem wop_nilCheck {x : Operand} {d : Option Nat} {R : Cont} : wop1 E (.nilCheck x) d R tm h = kpure (anilc (opd tm x)) d R tm h := by
 simp only [wop1, wpop, kindOf, apure, kput, kpure, anilc]
 rfl
theorem wop_binOp {op : BinOp} {t t' : TypeId} {x y : Operand} {d : Option Nat} {R : Cont} : wop1 E (.binOp op t x y t') d R tm h = kpure (abin E.P (isConst x || isConst y) op t (opd tm x) (opd tm y)) d R tm h := by
 simp only [wop1, wpop, kindOf, apure, kput, kpure]
theorem wop_unOp {op : UnOp} {t : TypeId} {x : Operand} {d : Option Nat} {R : Cont} : wop1 E (.unOp op t x) d R tm h = kpure (aun op (opd tm x)) d R tm h := by
 simp only [wop1, wpop, kindOf, apure, kput, kpure]
theorem wop_makeInterface {t : TypeId} {x : Operand} {d : Option Nat} {R : Cont} : wop1 E (.makeInterface t x) d R tm h = kpure (match E.P.underlying t with
 | some (.interface _) => none
 | some _ => some (.iface t (opd tm x))
 | none => none) d R tm h := by
 simp only [wop1, wpop, kindOf, apure, kput, kpure]
 rfl
theorem wop_build {t : TypeId} {ps : Array (Nat × Operand)} {d : Option Nat} {R : Cont} : wop1 E (.build t ps) d R tm h = kpure (abuild E.P t (ps.toList.map fun p => (p.1, opd tm p.2))) d R tm h := by
 simp only [wop1, wpop, kindOf, apure, kput, kpure]
theorem wop_slice {t : TypeId} {x : Operand} {lo hi : Option Operand} {d : Option Nat} {R : Cont} : wop1 E (.slice t x lo hi none) d R tm h = kpure (asl E.P t (opd tm x) (lo.map (opd tm)) (hi.map (opd tm))) d R tm h := by
 simp only [wop1, wpop, kindOf, apure, kput, kpure]
theorem wop_fieldAddr {t : TypeId} {x : Operand} {f : Nat} {d : Option Nat} {R : Cont} : wop1 E (.fieldAddr t x f) d R tm h = kpure (afieldAddr E.P t (opd tm x) f) d R tm h := by
 simp only [wop1, wpop, kindOf, apure, kput, kpure]
theorem wop_indexAddr {t : TypeId} {x i : Operand} {d : Option Nat} {R : Cont} : wop1 E (.indexAddr t x i) d R tm h = kpure (aindexAddr E.P t (opd tm x) (opd tm i)) d R tm h := by
 simp only [wop1, wpop, kindOf, apure, kput, kpure]
theorem wop_index {t : TypeId} {x i : Operand} {d : Option Nat} {R : Cont} : wop1 E (.index t x i) d R tm h = kpure (aindex E.P t (opd tm x) (opd tm i)) d R tm h := by
 simp only [wop1, wpop, kindOf, apure, kput, kpure]
theorem wop_extract {x : Operand} {i : Nat} {d : Option Nat} {R : Cont} : wop1 E (.extract x i) d R tm h = kpure (aextract (opd tm x) i) d R tm h := by
 simp only [wop1, wpop, kindOf, apure, kput, kpure]
theorem wop_max {as : Array Operand} {ts : Array TypeId} {d : Option Nat} {R : Cont} : wop1 E (.call ⟨.builtin .max, as, ts⟩) d R tm h = kpure (amm fmax (as.toList.map (opd tm))) d R tm h := by
 simp only [wop1, wpop, kindOf, apure, kput, kpure]
theorem wop_min {as : Array Operand} {ts : Array TypeId} {d : Option Nat} {R : Cont} : wop1 E (.call ⟨.builtin .min, as, ts⟩) d R tm h = kpure (amm fmin (as.toList.map (opd tm))) d R tm h := by
 simp only [wop1, wpop, kindOf, apure, kput, kpure]
theorem wop_len {x : Operand} {t : TypeId} {d : Option Nat} {R : Cont} {u : TypeDesc} (hu : E.P.underlying t = some u) (hm : (match u with | .map _ _ => false | _ => true) = true) : wop1 E (.call ⟨.builtin .len, #[x], #[t]⟩) d R tm h = kpure (alen E.P t (opd tm x)) d R tm h := by
 cases u <;> first | (simp only [wop1, wpop, kindOf, apure, kput, kpure, hu]; done) | cases hm
theorem wop_convert {s t : TypeId} {x : Operand} {d : Option Nat} {R : Cont} {u : TypeDesc} (hu : E.P.underlying s = some u) (hm : (match u with | .slice _ => false | _ => true) = true) : wop1 E (.convert s t x) d R tm h = kpure (aconv E.P s t (opd tm x)) d R tm h := by
 cases u <;> first | (simp only [wop1, wpop, kindOf, apure, kput, kpure, hu]; done) | cases hm
theorem wop_convertB {s t e : TypeId} {x : Operand} {d : Option Nat} {R : Cont} (hu : E.P.underlying s = some (.slice e)) : wop1 E (.convert s t x) d R tm h = kpure (aread E h (opd tm) (.convert s t x)) d R tm h := by
 simp only [wop1, wpop, kindOf, kput, kpure, hu]
theorem wop_load {t : TypeId} {x : Operand} {d : Option Nat} {R : Cont} : wop1 E (.load t x) d R tm h = kpure (aload E h t (opd tm x)) d R tm h := by
 simp only [wop1, wpop, kindOf, aread, kput, kpure]
def kalloc (o : Option ((Nat → Value) × AObj)) (d : Option Nat) (R : Cont) : Cont := fun tm h => ∃ p, o = some p ∧ R (aput tm d (p.1 h.next)) (h.push p.2)
theorem kalloc_some {p : Nat → Value} {o : AObj} {d : Option Nat} {R : Cont} : kalloc (some (p, o)) d R tm h ↔ R (aput tm d (p h.next)) (h.push o) := by simp [kalloc]
theorem wop_alloc {t : TypeId} {d : Option Nat} {R : Cont} : wop1 E (.alloc t) d R tm h = kalloc (aalloc E.P (opd tm) (.alloc t)) d R tm h := by simp only [wop1, wpop, kindOf, kput, kalloc]
theorem wop_box {t : TypeId} {x : Operand} {d : Option Nat} {R : Cont} : wop1 E (.box t x) d R tm h ↔ R (aput tm d (.pointer (some ⟨h.next, 0, none⟩))) (h.push (.cells (vcells (opd tm x)) t true)) := by simp [wop1, wpop, kindOf, kput, aalloc]
def abs1 (P : Program) (t : TypeId) (len : Nat) (parts : List (Nat × Value)) : Option ((Nat → Value) × AObj) :=
 match P.underlying t with
 | some (.slice e) =>
   match asz P e, azero P e with
   | some (size + 1), some z =>
     if len * (size + 1) ≤ 16777216 ∧ (vcells z).length = size + 1 then
      (afill (fun i => some (i * (size + 1), size + 1)) (arep len (vcells z)) parts).map fun l =>
       (fun b => .slice (some ⟨b, 0, none⟩) len len, .cells l e true)
     else none
   | _, _ => none
 | _ => none
def amk (P : Program) (t : TypeId) (l c : Value) : Option ((Nat → Value) × AObj) :=
 match P.underlying t, l, c with
 | some (.slice e), .int _ l, .int _ c =>
   match P.info? e, azero P e with
   | some i, some z =>
     if 0 ≤ l ∧ l ≤ c ∧ c ≤ 9223372036854775807 ∧ (i.bytes : Int) * c ≤ 281474976710656 ∧ (vcells z).length = i.size ∧ 0 < i.size then
      some (fun b => .slice (some ⟨b, 0, none⟩) l.toNat c.toNat, .cells (arep c.toNat (vcells z)) e true)
     else none
   | _, _ => none
 | _, _, _ => none
theorem wop_buildSlice {t : TypeId} {n : Nat} {ps : Array (Nat × Operand)} {d : Option Nat} {R : Cont} : wop1 E (.buildSlice t n ps) d R tm h = kalloc (abs1 E.P t n (ps.toList.map fun p => (p.1, opd tm p.2))) d R tm h := by simp only [wop1, wpop, kindOf, kput, kalloc]; rfl
theorem wop_makeSlice {t : TypeId} {x y : Operand} {d : Option Nat} {R : Cont} : wop1 E (.makeSlice t x y) d R tm h = kalloc (amk E.P t (opd tm x) (opd tm y)) d R tm h := by simp only [wop1, wpop, kindOf, kput, kalloc]; rfl
def kwr (o : Option Heap) (v : Value) (d : Option Nat) (R : Cont) : Cont := fun tm _ => ∃ h', o = some h' ∧ R (aput tm d v) h'
theorem kwr_some {h' : Heap} {v : Value} {d : Option Nat} {R : Cont} : kwr (some h') v d R tm h ↔ R (aput tm d v) h' := by simp [kwr]
def kwv (o : Option (Value × Heap)) (d : Option Nat) (R : Cont) : Cont := fun tm _ => ∃ p, o = some p ∧ R (aput tm d p.1) p.2
theorem kwv_some {h' : Heap} {v : Value} {d : Option Nat} {R : Cont} : kwv (some (v, h')) d R tm h ↔ R (aput tm d v) h' := by simp [kwv]
theorem wop_store {t : TypeId} {a x : Operand} {d : Option Nat} {R : Cont} : wop1 E (.store t a x) d R tm h ↔ kwr (astore E h t (opd tm a) (opd tm x)) undef d R tm h := by
 simp only [wop1, wpop, kindOf, aeff, kput, kwr, Option.map_eq_some_iff]
 constructor
 ·rintro ⟨r, ⟨h', h1, rfl⟩, h2⟩; exact ⟨h', h1, h2⟩
 ·rintro ⟨h', h1, h2⟩; exact ⟨_, ⟨h', h1, rfl⟩, h2⟩
theorem wop_clear {x : Operand} {t : TypeId} {d : Option Nat} {R : Cont} : wop1 E (.call ⟨.builtin .clear, #[x], #[t]⟩) d R tm h ↔ kwr (aclear E h t (opd tm x)) (.tuple #[]) d R tm h := by
 simp only [wop1, wpop, kindOf, aeff, kput, kwr, Option.map_eq_some_iff]
 constructor
 ·rintro ⟨r, ⟨h', h1, rfl⟩, h2⟩; exact ⟨h', h1, h2⟩
 ·rintro ⟨h', h1, h2⟩; exact ⟨_, ⟨h', h1, rfl⟩, h2⟩
theorem wop_append {s x : Operand} {t t1 : TypeId} {d : Option Nat} {R : Cont} : wop1 E (.call ⟨.builtin .append, #[s, x], #[t, t1]⟩) d R tm h ↔ kwv (aappend E h t t1 (opd tm s) (opd tm x)) d R tm h := by
 simp only [wop1, wpop, kindOf, aeff, kput, kwv, Option.map_eq_some_iff]
 constructor
 ·rintro ⟨r, ⟨h', h1, rfl⟩, h2⟩; exact ⟨h', h1, h2⟩
 ·rintro ⟨h', h1, h2⟩; exact ⟨_, ⟨h', h1, rfl⟩, h2⟩
theorem wop_copy {s x : Operand} {t t1 : TypeId} {d : Option Nat} {R : Cont} : wop1 E (.call ⟨.builtin .copy, #[s, x], #[t, t1]⟩) d R tm h ↔ kwv (acopy E h t (opd tm s) (opd tm x)) d R tm h := by
 simp only [wop1, wpop, kindOf, aeff, kput, kwv, Option.map_eq_some_iff]
 constructor
 ·rintro ⟨r, ⟨h', h1, rfl⟩, h2⟩; exact ⟨h', h1, h2⟩
 ·rintro ⟨h', h1, h2⟩; exact ⟨_, ⟨h', h1, rfl⟩, h2⟩
theorem wop_call {f : FuncId} {as : Array Operand} {ts : Array TypeId} {d : Option Nat} {R : Cont} : wop1 E (.call ⟨.value (.func f), as, ts⟩) d R tm h ↔ CallsTo E f (as.toList.map (opd tm)) h (kput tm d R) := by
 simp [wop1, wpop, kindOf, aeff, opd]
def kcall (E : Env) (v : Value) (as : List Value) (d : Option Nat) (R : Cont) : Cont := fun tm h =>
 match v with
 | .func (.func g) x y => CallsTo E g (x.toList ++ as ++ y.toList) h (kput tm d R)
 | _ => False
theorem wop_callv {x : Nat} {as : Array Operand} {ts : Array TypeId} {d : Option Nat} {R : Cont} : wop1 E (.call ⟨.value (.tmp x), as, ts⟩) d R tm h ↔ kcall E (fget tm x) (as.toList.map (opd tm)) d R tm h := by
 simp only [wop1, wpop, kindOf, aeff, opd, kcall]
 cases hv : fget tm x with
 | func f y z => cases f <;> simp
 | _ => simp
theorem kcall_func {g : FuncId} {x y : Array Value} {as : List Value} {d : Option Nat} {R : Cont} : kcall E (.func (.func g) x y) as d R tm h = CallsTo E g (x.toList ++ as ++ y.toList) h (kput tm d R) := rfl
end
end Go.Tm
/- The logic, third part: memory that stays; plain values in memory. -/
namespace Go.Tm
structure WF (E : Env) (h : Heap) : Prop where
 base : E.base ≤ h.next
 live : ∀ b o, h.get b = some o → E.base ≤ b ∧ b < h.next
structure Keep (h h' : Heap) : Prop where
 get : ∀ b o, h.get b = some o → h'.get b = some o
 next : h.next ≤ h'.next
theorem Keep.refl (h : Heap) : Keep h h := ⟨fun _ _ x => x, Nat.le_refl _⟩
theorem Keep.trans {h h1 h2 : Heap} (a : Keep h h1) (b : Keep h1 h2) : Keep h h2 := ⟨fun x o y => b.get x o (a.get x o y), Nat.le_trans a.next b.next⟩
theorem Keep.push {E : Env} {h h1 : Heap} {o : AObj} (hw : WF E h1) (a : Keep h h1) : Keep h (h1.push o) := ⟨fun x p y => by
 have := a.get x p y
 rw [get_push, if_neg (by have := (hw.live x p this).2; omega)]; exact this, by have := a.next; simp; omega⟩
theorem WF.push {E : Env} {h : Heap} (hw : WF E h) (o : AObj) : WF E (h.push o) := ⟨by have := hw.base; simp; omega, fun b p hb => by
 rw [get_push] at hb
 by_cases e : h.next = b
 ·subst e; exact ⟨hw.base, by simp⟩
 ·rw [if_neg e] at hb
  obtain ⟨h1, h2⟩ := hw.live b p hb
  exact ⟨h1, by simp; omega⟩⟩
theorem WF.put {E : Env} {h : Heap} (hw : WF E h) {b : Nat} {o o' : AObj} (hb : h.get b = some o') : WF E (h.put b o) := ⟨hw.base, fun j p hj => by
 rw [get_put] at hj
 by_cases e : b = j
 ·subst e; exact hw.live _ _ hb
 ·rw [if_neg e] at hj; exact hw.live _ _ hj⟩
theorem WF.kill {E : Env} {h : Heap} (hw : WF E h) {b : Nat} : WF E (h.kill b) := ⟨hw.base, fun j p hj => by
 rw [get_kill] at hj
 by_cases e : b = j
 ·simp [e] at hj
 ·rw [if_neg e] at hj; exact hw.live _ _ hj⟩
theorem WF.nb {E : Env} {h : Heap} (hw : WF E h) (k : Nat) : (h.next + k < E.base) = False := by have := hw.base; simp; omega
theorem WF.nb0 {E : Env} {h : Heap} (hw : WF E h) : (h.next < E.base) = False := by have := hw.base; simp; omega
theorem WF.nlt {E : Env} {h : Heap} (hw : WF E h) {b : Nat} {o : AObj} (hb : h.get b = some o) : (b < E.base) = False := by have := (hw.live b o hb).1; simp; omega
abbrev Mem := Nat → Option (List Value)
def gcells (E : Env) (G : Mem) (a : Addr) (n : Nat) : Option (List Value) :=
 if a.block < E.base then acells E ⟨0, .leaf⟩ a n else
 match a.spot with
 | some _ => none
 | none => match G a.block with
   | some c => if a.off + n ≤ c.length then some ((c.drop a.off).take n) else none
   | none => none
def Frz (_E : Env) (G : Mem) (h : Heap) : Prop := ∀ b c, G b = some c → ∃ e fx, h.get b = some (.cells c e fx)
def Sub (G G' : Mem) : Prop := ∀ b c, G b = some c → G' b = some c
theorem Sub.refl (G : Mem) : Sub G G := fun _ _ h => h
theorem Sub.trans {G G1 G2 : Mem} (a : Sub G G1) (b : Sub G1 G2) : Sub G G2 := fun x c h => b x c (a x c h)
theorem Frz.keep {E : Env} {G : Mem} {h h' : Heap} (f : Frz E G h) (k : Keep h h') : Frz E G h' := fun b c hb => by
 obtain ⟨e, fx, hh⟩ := f b c hb
 exact ⟨e, fx, k.get _ _ hh⟩
theorem gcells_acells {E : Env} {G : Mem} {h : Heap} (f : Frz E G h) {a : Addr} {n : Nat} {l : List Value} (hg : gcells E G a n = some l) : acells E h a n = some l := by
 unfold gcells at hg
 split at hg
 ·rename_i hb
  unfold acells at hg ⊢
  split
  ·rename_i hs; simp [hs] at hg
  ·rename_i hs; simp only [hs, if_pos hb] at hg ⊢; exact hg
 ·rename_i hb
  split at hg
  ·cases hg
  ·rename_i hs
   unfold acells
   simp only [hs, if_neg hb]
   split at hg
   ·rename_i c hc
    obtain ⟨e, fx, hh⟩ := f _ _ hc
    simp only [hh]; exact hg
   ·cases hg
theorem gcells_sub {E : Env} {G G' : Mem} (s : Sub G G') {a : Addr} {n : Nat} {l : List Value} (hg : gcells E G a n = some l) : gcells E G' a n = some l := by
 unfold gcells at hg ⊢
 split
 ·rename_i hb; rw [if_pos hb] at hg; exact hg
 ·rename_i hb
  rw [if_neg hb] at hg
  split at hg
  ·cases hg
  ·split at hg
   ·rename_i c hc
    simp only [s _ _ hc]; exact hg
   ·cases hg
theorem gcells_part {E : Env} {G : Mem} {a : Addr} {n : Nat} {l : List Value} (hg : gcells E G a n = some l) {i m : Nat} (h : i + m ≤ n) : gcells E G ⟨a.block, a.off + i, none⟩ m = some ((l.drop i).take m) := by
 have key : ∀ c : List Value, a.off + n ≤ c.length → (c.drop (a.off + i)).take m = (((c.drop a.off).take n).drop i).take m := by
  intro c hc
  rw [List.drop_take, List.drop_drop, List.take_take, Nat.min_eq_left (by omega)]
 unfold gcells at hg ⊢
 split at hg
 ·rename_i hb
  simp only [if_pos hb]
  unfold acells at hg ⊢
  split at hg
  ·cases hg
  ·simp only [if_pos hb] at hg ⊢
   split at hg
   ·rename_i c e fr hro
    split at hg
    ·rename_i hc
     injection hg with hg; subst hg
     have hk := key c.toList (by simpa using hc.1)
     rw [← List.map_drop, ← List.map_take, ← hk, if_pos]
     refine ⟨by omega, ?_⟩
     rw [hk, List.all_eq_true]
     intro v hv
     exact (List.all_eq_true.1 hc.2) v (List.mem_of_mem_drop (List.mem_of_mem_take hv))
    ·cases hg
   ·cases hg
 ·rename_i hb
  simp only [if_neg hb]
  split at hg
  ·cases hg
  ·split at hg
   ·rename_i c hc
    split at hg
    ·rename_i hle
     injection hg with hg; subst hg
     rw [if_pos (by omega), key c hle]
    ·cases hg
   ·cases hg
theorem gcells_len {E : Env} {G : Mem} {a : Addr} {n : Nat} {l : List Value} (hg : gcells E G a n = some l) : l.length = n ∧ a.spot = none := by
 unfold gcells at hg
 split at hg
 ·rename_i hb
  unfold acells at hg
  split at hg
  ·cases hg
  ·rename_i hs
   simp only [if_pos hb] at hg
   split at hg
   ·rename_i c e fr hro
    split at hg
    ·rename_i hc
     injection hg with hg; subst hg
     have := hc.1
     exact ⟨by simp; omega, hs⟩
    ·cases hg
   ·cases hg
 ·split at hg
  ·cases hg
  ·rename_i hs
   split at hg
   ·split at hg
    ·injection hg with hg; subst hg
     exact ⟨by simp; omega, hs⟩
    ·cases hg
   ·cases hg
inductive Vl where
 | mk (k n : Int) (s : ByteArray) (l : List Vl) (f : List (ByteArray × Vl))
def Vl.k : Vl → Int | .mk k _ _ _ _ => k
def Vl.n : Vl → Int | .mk _ n _ _ _ => n
def Vl.s : Vl → ByteArray | .mk _ _ s _ _ => s
def Vl.l : Vl → List Vl | .mk _ _ _ l _ => l
def Vl.f : Vl → List (ByteArray × Vl) | .mk _ _ _ _ f => f
def Sl (E : Env) (G : Mem) (z n : Nat) (cs : List Value) (v : Value) : Prop :=
 ∃ a c, v = .slice a n c ∧ n ≤ c ∧ c ≤ 9223372036854775807 ∧ ((a = none → c = 0) ∧ ∀ b, a = some b → b.block < E.base ∨ ∃ g, G b.block = some g) ∧ ((n = 0 ∧ cs = []) ∨ ∃ b, a = some b ∧ gcells E G b (n * z) = some cs)
mutual
def Rep (E : Env) (G : Mem) : Vl → List Value → Prop
 | .mk k n s l f, c => ∃ sl sf cl cf, c = [.int .i64 k, .int .i64 n, .string s, sl, sf] ∧ Sl E G 5 l.length cl sl ∧ Sl E G 6 f.length cf sf ∧ RepLs E G l cl ∧ RepFs E G f cf ∧
  (s.size ≤ 140737488355328 ∧ l.length * 80 ≤ 140737488355328 ∧ f.length * 96 ≤ 140737488355328) ∧ (-9223372036854775808 ≤ k ∧ k ≤ 9223372036854775807) ∧ (-9223372036854775808 ≤ n ∧ n ≤ 9223372036854775807)
def RepLs (E : Env) (G : Mem) : List Vl → List Value → Prop
 | [], c => c = []
 | v :: l, c => ∃ c1 c2, c = c1 ++ c2 ∧ Rep E G v c1 ∧ RepLs E G l c2
def RepFs (E : Env) (G : Mem) : List (ByteArray × Vl) → List Value → Prop
 | [], c => c = []
 | (nm, v) :: l, c => ∃ c1 c2, c = .string nm :: c1 ++ c2 ∧ Rep E G v c1 ∧ RepFs E G l c2 ∧ nm.size ≤ 140737488355328
end
theorem Rep.len {E : Env} {G : Mem} {V : Vl} {c : List Value} (h : Rep E G V c) : c.length = 5 := by
 cases V
 unfold Rep at h
 obtain ⟨_, _, _, _, rfl, _⟩ := h
 rfl
theorem RepLs.len {E : Env} {G : Mem} : ∀ {l : List Vl} {c : List Value}, RepLs E G l c → c.length = l.length * 5
 | [], c, h => by unfold RepLs at h; subst h; rfl
 | v :: l, c, h => by
   unfold RepLs at h
   obtain ⟨c1, c2, rfl, h1, h2⟩ := h
   have := h1.len; have := h2.len
   simp; omega
theorem RepFs.len {E : Env} {G : Mem} : ∀ {l : List (ByteArray × Vl)} {c : List Value}, RepFs E G l c → c.length = l.length * 6
 | [], c, h => by unfold RepFs at h; subst h; rfl
 | (nm, v) :: l, c, h => by
   unfold RepFs at h
   obtain ⟨c1, c2, rfl, h1, h2, _⟩ := h
   have := h1.len; have := h2.len
   simp; omega
theorem RepLs.at {E : Env} {G : Mem} : ∀ {l : List Vl} {c : List Value}, RepLs E G l c → ∀ (i : Nat) (v : Vl), l[i]? = some v → Rep E G v ((c.drop (i * 5)).take 5)
 | [], c, _, i, v, hv => by simp at hv
 | x :: l, c, h, i, v, hv => by
   unfold RepLs at h
   obtain ⟨c1, c2, rfl, h1, h2⟩ := h
   have e := h1.len
   cases i with
   | zero =>
     simp at hv; subst hv
     simpa [e] using h1
   | succ i =>
     simp at hv
     have := h2.at i v hv
     rw [show (i + 1) * 5 = c1.length + i * 5 by omega, ← List.drop_drop, List.drop_left]; exact this
theorem RepFs.at {E : Env} {G : Mem} : ∀ {l : List (ByteArray × Vl)} {c : List Value}, RepFs E G l c → ∀ (i : Nat) (nm : ByteArray) (v : Vl), l[i]? = some (nm, v) →
 ∃ c1, (c.drop (i * 6)).take 6 = .string nm :: c1 ∧ Rep E G v c1 ∧ nm.size ≤ 140737488355328
 | [], c, _, i, nm, v, hv => by simp at hv
 | (x, y) :: l, c, h, i, nm, v, hv => by
   unfold RepFs at h
   obtain ⟨c1, c2, rfl, h1, h2, h3⟩ := h
   have e := h1.len
   cases i with
   | zero =>
     simp at hv
     obtain ⟨rfl, rfl⟩ := hv
     exact ⟨c1, by simp [e], h1, h3⟩
   | succ i =>
     simp at hv
     obtain ⟨c', h4, h5⟩ := h2.at i nm v hv
     refine ⟨c', ?_, h5⟩
     rw [show (i + 1) * 6 = (Value.string x :: c1).length + i * 6 by simp; omega, ← List.drop_drop, List.drop_left]; exact h4
theorem Sl.sub {E : Env} {G G' : Mem} (s : Sub G G') {z n : Nat} {cs : List Value} {v : Value} (h : Sl E G z n cs v) : Sl E G' z n cs v := by
 obtain ⟨a, c, h1, h2, h3, h4, h5⟩ := h
 refine ⟨a, c, h1, h2, h3, ⟨h4.1, fun b e => (h4.2 b e).imp id fun ⟨g, hg⟩ => ⟨g, s _ _ hg⟩⟩, ?_⟩
 rcases h5 with h5 | ⟨b, h5, h6⟩
 ·exact .inl h5
 ·exact .inr ⟨b, h5, gcells_sub s h6⟩
mutual
theorem Rep.sub {E : Env} {G G' : Mem} (s : Sub G G') : ∀ {V : Vl} {c : List Value}, Rep E G V c → Rep E G' V c
 | .mk k n t l f, c, h => by
   unfold Rep at h ⊢
   obtain ⟨sl, sf, cl, cf, h1, h2, h3, h4, h5, h6⟩ := h
   exact ⟨sl, sf, cl, cf, h1, h2.sub s, h3.sub s, RepLs.sub s h4, RepFs.sub s h5, h6⟩
theorem RepLs.sub {E : Env} {G G' : Mem} (s : Sub G G') : ∀ {l : List Vl} {c : List Value}, RepLs E G l c → RepLs E G' l c
 | [], c, h => by unfold RepLs at h ⊢; exact h
 | v :: l, c, h => by
   unfold RepLs at h ⊢
   obtain ⟨c1, c2, h1, h2, h3⟩ := h
   exact ⟨c1, c2, h1, Rep.sub s h2, RepLs.sub s h3⟩
theorem RepFs.sub {E : Env} {G G' : Mem} (s : Sub G G') : ∀ {l : List (ByteArray × Vl)} {c : List Value}, RepFs E G l c → RepFs E G' l c
 | [], c, h => by unfold RepFs at h ⊢; exact h
 | (nm, v) :: l, c, h => by
   unfold RepFs at h ⊢
   obtain ⟨c1, c2, h1, h2, h3, h4⟩ := h
   exact ⟨c1, c2, h1, Rep.sub s h2, RepFs.sub s h3, h4⟩
end
mutual
def Vl.sz : Vl → Nat
 | .mk _ _ _ l f => 1 + szL l + szF f
def szL : List Vl → Nat
 | [] => 0
 | v :: l => v.sz + szL l
def szF : List (ByteArray × Vl) → Nat
 | [] => 0
 | (_, v) :: l => v.sz + szF l
end
theorem szL_mem : ∀ {l : List Vl} {v : Vl}, v ∈ l → v.sz ≤ szL l
 | [], v, h => by simp at h
 | x :: l, v, h => by
   simp only [List.mem_cons] at h
   unfold szL
   rcases h with rfl | h
   ·omega
   ·have := szL_mem h; omega
theorem szF_mem : ∀ {l : List (ByteArray × Vl)} {nm : ByteArray} {v : Vl}, (nm, v) ∈ l → v.sz ≤ szF l
 | [], nm, v, h => by simp at h
 | (x, y) :: l, nm, v, h => by
   simp only [List.mem_cons, Prod.mk.injEq] at h
   unfold szF
   rcases h with ⟨rfl, rfl⟩ | h
   ·omega
   ·have := szF_mem h; omega
def Vl.parts (v : Vl) : List Vl := if v.k = 5 then v.l else if v.k = 6 then v.f.map (·.2) else []
theorem sz_eq (v : Vl) : v.sz = 1 + szL v.l + szF v.f := by cases v; simp [Vl.sz, Vl.l, Vl.f]
theorem parts_sz {v x : Vl} (h : x ∈ v.parts) : x.sz < v.sz := by
 rw [sz_eq v]
 unfold Vl.parts at h
 split at h
 ·have := szL_mem h; omega
 ·split at h
  ·obtain ⟨⟨nm, y⟩, h1, rfl⟩ := List.mem_map.1 h
   have := szF_mem h1
   simp only at *; omega
  ·simp at h
end Go.Tm
/- The logic, fourth part: what grows. -/
namespace Go.Tm
structure KeepLo (lo : Nat) (h h' : Heap) : Prop where
 get : ∀ b o, b < lo → h.get b = some o → h'.get b = some o
 next : h.next ≤ h'.next
theorem KeepLo.refl (lo : Nat) (h : Heap) : KeepLo lo h h := ⟨fun _ _ _ x => x, Nat.le_refl _⟩
theorem KeepLo.trans {lo : Nat} {h h1 h2 : Heap} (a : KeepLo lo h h1) (b : KeepLo lo h1 h2) : KeepLo lo h h2 := ⟨fun x o l y => b.get x o l (a.get x o l y), Nat.le_trans a.next b.next⟩
theorem Keep.lo {lo : Nat} {h h' : Heap} (k : Keep h h') : KeepLo lo h h' := ⟨fun b o _ x => k.get b o x, k.next⟩
theorem KeepLo.keep {E : Env} {lo : Nat} {h h' : Heap} (hw : WF E h) (k : KeepLo lo h h') (hl : h.next ≤ lo) : Keep h h' := ⟨fun b o x => k.get b o (by have := (hw.live b o x).2; omega) x, k.next⟩
theorem Keep.thenLo {E : Env} {lo : Nat} {h h1 h2 : Heap} (hw : WF E h) (a : Keep h h1) (b : KeepLo lo h1 h2) (hl : h.next ≤ lo) : Keep h h2 :=
 ⟨fun x o y => b.get x o (by have := (hw.live x o y).2; omega) (a.get x o y), Nat.le_trans a.next b.next⟩
theorem KeepLo.push {lo : Nat} {h h1 : Heap} {o : AObj} (a : KeepLo lo h h1) (hl : lo ≤ h1.next) : KeepLo lo h (h1.push o) := ⟨fun x p l y => by
 rw [get_push, if_neg (by omega)]; exact a.get x p l y, by have := a.next; simp; omega⟩
def Own (h : Heap) (e z lo n : Nat) (cs : List Value) (v : Value) : Prop :=
 (v = .slice none 0 0 ∧ n = 0 ∧ cs = []) ∨ ∃ b cap rest fx, v = .slice (some ⟨b, 0, none⟩) n cap ∧ h.get b = some (.cells (cs ++ rest) e fx) ∧ cs.length = n * z ∧ rest.length = (cap - n) * z ∧ n ≤ cap ∧ lo ≤ b ∧ cap ≤ 9223372036854775807
theorem Own.nil (h : Heap) (e z lo : Nat) : Own h e z lo 0 [] (.slice none 0 0) := .inl ⟨rfl, rfl, rfl⟩
theorem splice_end {cs rest xs : List Value} (h : xs.length ≤ rest.length) : splice (cs ++ rest) cs.length xs = (cs ++ xs) ++ rest.drop xs.length := by
 unfold splice
 rw [List.take_left, List.drop_length_add_append]
structure Elem (E : Env) (t e z by_ : Nat) : Prop where
 und : E.P.underlying t = some (.slice e)
 info : (E.P.info? e).map (fun i => (i.size, i.bytes)) = some (z, by_)
 zero : ∃ v, azero E.P e = some v ∧ (vcells v).length = z
 pos : 0 < z
theorem append_own {E : Env} {h : Heap} {t e z by_ lo n m : Nat} {cs xs : List Value} {v x : Value} (T : Elem E t e z by_) (hW : WF E h) (hlo : lo ≤ h.next) (H : Own h e z lo n cs v)
 (hm : alenOf x = some m) (h0 : 0 < m) (hx : asrc E h z x m = some xs) (hl : xs.length = m * z) (ho : xs.all Value.oneCell' = true)
 (hb : (n + m) * by_ ≤ 140737488355328) (hn : n + m ≤ 9223372036854775807) :
 ∃ v' h', aappend E h t t v x = some (v', h') ∧ Own h' e z lo (n + m) (cs ++ xs) v' ∧ KeepLo lo h h' ∧ WF E h' ∧
  (∀ b o, h.get b = some o → (∀ c, ∀ a k, v = .slice (some a) k c → a.block ≠ b) → h'.get b = some o) := by
 obtain ⟨i, hi, hiz⟩ : ∃ i, E.P.info? e = some i ∧ (i.size, i.bytes) = (z, by_) := by
  have := T.info
  rw [Option.map_eq_some_iff] at this
  exact this
 injection hiz with hz1 hz2
 subst hz1; subst hz2
 obtain ⟨zv, hzv, hzl⟩ := T.zero
 have hpos := T.pos
 have main : ∀ base sCap, v = .slice base n sCap → aappend E h t t v x = aappendE E h e i base n sCap m x := by
  intro base sCap hv
  subst hv
  simp only [aappend, T.und, hm, isIntD, Bool.false_eq_true, if_false, hi]
 have none' : ∀ base sCap, n + m > sCap → aappendE E h e i base n sCap m x = agrow E h e i base n sCap m xs := by
  intro base sCap hc
  unfold aappendE
  rw [if_neg (by omega)]
  simp only [hx]
  rw [if_neg (by omega)]
 rcases H with ⟨rfl, rfl, rfl⟩ | ⟨b, cap, rest, fx, rfl, hg, hc1, hc2, hc3, hc4, hc5⟩
 ·refine ⟨_, _, ?_, .inr ⟨h.next, m, [], false, rfl, ?_, by simpa using hl, by simp, by omega, hlo, by omega⟩, (KeepLo.refl lo h).push (o := .cells xs e false) hlo, hW.push _, ?_⟩
  ·rw [main none 0 rfl, none' none 0 (by omega)]
   unfold agrow
   rw [if_pos ⟨by omega, hl, hpos, by omega, ho⟩]
   simp only [hzv]
   rw [if_pos hzl]
   simp [anew]
  ·simp [get_push]
  ·intro j o hj _
   rw [get_push, if_neg (by have := (hW.live j o hj).2; omega)]; exact hj
 ·by_cases hroom : n + m ≤ cap
  ·have hlen : cs.length + xs.length ≤ (cs ++ rest).length := by
    simp only [List.length_append]
    rw [hc2, hl]
    have : m * i.size ≤ (cap - n) * i.size := Nat.mul_le_mul_right _ (by omega)
    omega
   refine ⟨.slice (some ⟨b, 0, none⟩) (n + m) cap, h.put b (.cells ((cs ++ xs) ++ rest.drop xs.length) e fx), ?_, .inr ⟨b, cap, rest.drop xs.length, fx, rfl, ?_, ?_, ?_, hroom, hc4, hc5⟩, ⟨?_, by simp⟩, hW.put hg, ?_⟩
   ·rw [main _ cap rfl]
    unfold aappendE
    rw [if_neg (by omega)]
    simp only [hx]
    rw [if_pos hroom]
    simp only [addo, Nat.zero_add, awrite, hg]
    rw [if_pos ⟨by rw [← hc1]; exact hlen, ho⟩]
    simp only [Option.map_some]
    rw [← hc1, splice_end (by
     have : m * i.size ≤ (cap - n) * i.size := Nat.mul_le_mul_right _ (by omega)
     omega)]
   ·rw [get_put, if_pos rfl, List.append_assoc]
   ·simp only [List.length_append, hc1, hl]; rw [Nat.add_mul]
   ·rw [List.length_drop, hc2, hl, ← Nat.sub_mul]; congr 1; omega
   ·intro j o hj hgj
    rw [get_put, if_neg (by omega)]; exact hgj
   ·intro j o hgj hne
    rw [get_put, if_neg (hne cap ⟨b, 0, none⟩ n rfl)]; exact hgj
  ·have hd : (List.drop 0 (cs ++ rest)).take (n * i.size) = cs := by
    rw [List.drop_zero, ← hc1, List.take_left]
   have hgr : ∀ (h2 : Heap), h2.next = h.next → agrow E h e i (some ⟨b, 0, none⟩) n cap m xs = (if fx then some (.slice (some (anew h)) (n + m) (n + m), h.push (.cells (cs ++ xs) e false)) else some (.slice (some (anew h)) (n + m) (n + m), (h.kill b).push (.cells (cs ++ xs) e false))) := by
    intro _ _
    unfold agrow
    rw [if_pos ⟨hb, hl, hpos, by omega, ho⟩]
    simp only [hzv]
    rw [if_pos hzl]
    simp only [hg, hd]
    rw [if_pos ⟨trivial, by simp only [aend, List.length_append, hc1, hc2]; rw [Nat.zero_add, ← Nat.add_mul]; congr 1; omega, by simp, by omega⟩]
   have hg2 := hgr h rfl
   cases fx with
   | true =>
     refine ⟨_, _, by rw [main _ cap rfl, none' _ cap (by omega), hg2]; rfl, .inr ⟨h.next, n + m, [], false, rfl, ?_, ?_, by simp, by omega, hlo, hn⟩, (KeepLo.refl lo h).push hlo, hW.push _, ?_⟩
     ·simp [get_push]
     ·simp only [List.length_append, hc1, hl]; rw [Nat.add_mul]
     ·intro j o hj _
      rw [get_push, if_neg (by have := (hW.live j o hj).2; omega)]; exact hj
   | false =>
     refine ⟨_, _, by rw [main _ cap rfl, none' _ cap (by omega), hg2]; rfl, .inr ⟨h.next, n + m, [], false, rfl, ?_, ?_, by simp, by omega, hlo, hn⟩, ⟨?_, by simp⟩, (hW.kill (b := b)).push _, ?_⟩
     ·simp [get_push]
     ·simp only [List.length_append, hc1, hl]; rw [Nat.add_mul]
     ·intro j o hj hgj
      rw [get_push, next_kill, if_neg (by omega), get_kill, if_neg (by omega)]; exact hgj
     ·intro j o hj hne
      rw [get_push, next_kill, if_neg (by have := (hW.live j o hj).2; omega), get_kill, if_neg (hne cap ⟨b, 0, none⟩ n rfl)]; exact hj
theorem Own.keep {h h' : Heap} {e z lo n : Nat} {cs : List Value} {v : Value} (H : Own h e z lo n cs v) (k : Keep h h') : Own h' e z lo n cs v := by
 rcases H with H | ⟨b, cap, rest, fx, h1, h2, h3⟩
 ·exact .inl H
 ·exact .inr ⟨b, cap, rest, fx, h1, k.get _ _ h2, h3⟩
theorem kwv_own {E : Env} {h : Heap} {t e z by_ lo n m : Nat} {cs xs : List Value} {v x : Value} {d : Option Nat} {R : Cont} {tm : Tr Value} (T : Elem E t e z by_) (hW : WF E h) (hlo : lo ≤ h.next) (H : Own h e z lo n cs v)
 (hm : alenOf x = some m) (h0 : 0 < m) (hx : asrc E h z x m = some xs) (hl : xs.length = m * z) (ho : xs.all Value.oneCell' = true)
 (hb : (n + m) * by_ ≤ 140737488355328) (hn : n + m ≤ 9223372036854775807)
 (K : ∀ v' h', Own h' e z lo (n + m) (cs ++ xs) v' → KeepLo lo h h' → WF E h' → R (aput tm d v') h') : kwv (aappend E h t t v x) d R tm h := by
 obtain ⟨v', h', e1, e2, e3, e4, _⟩ := append_own T hW hlo H hm h0 hx hl ho hb hn
 exact ⟨(v', h'), e1, K v' h' e2 e3 e4⟩
theorem kwv_own1 {E : Env} {h : Heap} {t e e' z by_ lo n : Nat} {cs xs : List Value} {v : Value} {d : Option Nat} {R : Cont} {tm : Tr Value} (T : Elem E t e z by_) (hW : WF E h) (hlo : lo ≤ h.next) (H : Own h e z lo n cs v)
 (hl : xs.length = z) (ho : xs.all Value.oneCell' = true) (hb : (n + 1) * by_ ≤ 140737488355328) (hn : n + 1 ≤ 9223372036854775807)
 (K : ∀ v' h', Own h' e z lo (n + 1) (cs ++ xs) v' → KeepLo lo h h' → WF E h' → R (aput tm d v') h') : kwv (aappend E (h.push (.cells xs e' true)) t t v (.slice (some ⟨h.next, 0, none⟩) 1 1)) d R tm (h.push (.cells xs e' true)) := by
 refine kwv_own (m := 1) (xs := xs) T (hW.push _) (lo := lo) (by simp; omega) (H.keep ((Keep.refl h).push hW)) rfl (by omega) ?_ (by omega) ho hb hn ?_
 ·have hz := T.pos
  simp only [asrc, Nat.one_mul]
  rw [if_neg (by omega)]
  unfold acells
  simp only [hW.nb0, if_false, get_push, if_true, Nat.zero_add]
  rw [if_pos (by omega), List.drop_zero, List.take_of_length_le (by omega)]
 ·intro v' h' a b c
  exact K v' h' a ((((KeepLo.refl lo h).push (o := .cells xs e' true) hlo)).trans b) c
theorem makeSlice_at {E : Env} {t e z by_ : Nat} (T : Elem E t e z by_) {zs : List Value} (hz : ∃ v, azero E.P e = some v ∧ vcells v = zs) {k k' : IntKind} {l c : Int} (h0 : 0 ≤ l) (h1 : l ≤ c) (h2 : (by_ : Int) * c ≤ 281474976710656) (h3 : c ≤ 9223372036854775807) :
 amk E.P t (.int k l) (.int k' c) = some (fun b => .slice (some ⟨b, 0, none⟩) l.toNat c.toNat, .cells (arep c.toNat zs) e true) := by
 obtain ⟨i, hi, hiz⟩ : ∃ i, E.P.info? e = some i ∧ (i.size, i.bytes) = (z, by_) := by
  have := T.info
  rw [Option.map_eq_some_iff] at this
  exact this
 injection hiz with hz1 hz2
 subst hz1; subst hz2
 obtain ⟨v, hv, rfl⟩ := hz
 obtain ⟨v', hv', hl⟩ := T.zero
 rw [hv] at hv'; injection hv' with hv'; subst hv'
 simp only [amk, T.und, hi, hv]
 rw [if_pos ⟨h0, h1, h3, h2, hl, T.pos⟩]
theorem arep_len (n : Nat) (z : List Value) : (arep n z).length = n * z.length := by
 induction n with
 | zero => simp [arep]
 | succ n ih => simp [arep, ih, Nat.add_mul]; omega
theorem Own.made {h : Heap} {e z lo c : Nat} {zs : List Value} (hz : zs.length = z) (hl : lo ≤ h.next) (hc : c ≤ 9223372036854775807) : Own (h.push (.cells (arep c zs) e true)) e z lo 0 [] (.slice (some ⟨h.next, 0, none⟩) 0 c) :=
 .inr ⟨h.next, c, arep c zs, true, rfl, by simp [get_push], by simp, by rw [arep_len, hz]; simp, by omega, hl, hc⟩
theorem wdraw_calm {E : Env} {O : List Oper} {Q : Cont} {tm : Tr Value} {h : Heap} (hc : calm E.P O = true) (H : wpo E O O Q tm h) : wdraw E O Q tm h := .inl ⟨hc, H⟩
theorem buildSlice_one {E : Env} {t e z by_ : Nat} (T : Elem E t e z by_) {v : Value} (hl : (vcells v).length = z) (hz : z ≤ 16777216) : abs1 E.P t 1 [(0, v)] = some (fun b => .slice (some ⟨b, 0, none⟩) 1 1, .cells (vcells v) e true) := by
 obtain ⟨i, hi, hiz⟩ : ∃ i, E.P.info? e = some i ∧ (i.size, i.bytes) = (z, by_) := by
  have := T.info
  rw [Option.map_eq_some_iff] at this
  exact this
 injection hiz with hz1 hz2
 subst hz1; subst hz2
 obtain ⟨zv, hzv, hzl⟩ := T.zero
 obtain ⟨z', hz'⟩ : ∃ z', i.size = z' + 1 := ⟨i.size - 1, by have := T.pos; omega⟩
 have hs : asz E.P e = some (z' + 1) := by simp [asz, hi, hz']
 simp only [abs1, T.und, hs, hzv]
 rw [if_pos ⟨by omega, by rw [hzl, hz']⟩]
 have harep : arep 1 (vcells zv) = vcells zv := by simp [arep]
 simp only [afill, harep, Option.map_eq_some_iff]
 rw [if_neg (by rw [hl, hzl, hz']; simp)]
 have : splice (vcells zv) (0 * (z' + 1)) (vcells v) = vcells v := by
  unfold splice
  simp [hl, hzl]
 simp only [this]
 exact ⟨_, rfl, rfl⟩
structure Ext (E : Env) (G : Mem) (h : Heap) (G' : Mem) (h' : Heap) : Prop where
 sub : Sub G G'
 frz : Frz E G' h'
 new : ∀ b c, G' b = some c → G b = some c ∨ h.next ≤ b
 keep : Keep h h'
 wf : WF E h'
theorem Ext.same {E : Env} {G : Mem} {h h' : Heap} (hG : Frz E G h) (k : Keep h h') (w : WF E h') : Ext E G h G h' := ⟨Sub.refl _, hG.keep k, fun b c x => .inl x, k, w⟩
theorem Own.freeze {E : Env} {G : Mem} {h h' : Heap} {e z lo n : Nat} {cs : List Value} {v : Value} (hW : WF E h) (hG : Frz E G h) (hl : h.next ≤ lo) (k : Keep h h') (hw : WF E h') (H : Own h' e z lo n cs v) : ∃ G', Sl E G' z n cs v ∧ Ext E G h G' h' := by
 have hlt : ∀ b c, G b = some c → b < h.next := fun b c hb => by
  obtain ⟨e', fx, hh⟩ := hG b c hb
  exact (hW.live _ _ hh).2
 rcases H with ⟨rfl, rfl, rfl⟩ | ⟨b, cap, rest, fx, rfl, hg, hc1, hc2, hc3, hc4, hc5⟩
 ·exact ⟨G, ⟨none, 0, rfl, by omega, by omega, ⟨fun _ => rfl, fun _ x => (by cases x)⟩, .inl ⟨rfl, rfl⟩⟩, Ext.same hG k hw⟩
 ·refine ⟨fun j => if j = b then some (cs ++ rest) else G j, ⟨some ⟨b, 0, none⟩, cap, rfl, hc3, hc5, ⟨fun x => (by cases x), fun b' e => .inr ⟨cs ++ rest, by injection e with e; subst e; simp⟩⟩, .inr ⟨_, rfl, ?_⟩⟩, ?_, ?_, ?_, k, hw⟩
  ·unfold gcells
   rw [if_neg (by have := hw.nlt hg; simpa using this)]
   simp only [if_true]
   rw [if_pos (by simp [hc1])]
   simp [← hc1]
  ·intro j c hj
   show (if j = b then some (cs ++ rest) else G j) = some c
   rw [if_neg (by have := hlt j c hj; omega)]; exact hj
  ·intro j c hj
   replace hj : (if j = b then some (cs ++ rest) else G j) = some c := hj
   split at hj
   ·rename_i e1; subst e1; injection hj with hj; subst hj; exact ⟨_, _, hg⟩
   ·exact hG.keep k j c hj
  ·intro j c hj
   replace hj : (if j = b then some (cs ++ rest) else G j) = some c := hj
   split at hj
   ·rename_i e1; right; omega
   ·exact .inl hj
theorem wpc_loop {E : Env} {b : Code} {Q : XCont} {tm : Tr Value} {h : Heap} (I : Nat → Cont) (n : Nat) (h0 : I n tm h) (h1 : ∀ n tm h, I n tm h → wpc E b (kloop I n Q) tm h) : wpc E (.loop b) Q tm h := ⟨I, n, h0, h1⟩
theorem Sl.elem {E : Env} {G : Mem} {h : Heap} (hG : Frz E G h) {z n : Nat} {cs : List Value} {v : Value} (H : Sl E G z n cs v) {i : Nat} (hi : i < n) : ∃ a c, v = .slice (some a) n c ∧ a.spot = none ∧ acells E h ⟨a.block, a.off + i * z, none⟩ z = some ((cs.drop (i * z)).take z) := by
 obtain ⟨a, c, rfl, _, _, _, h5⟩ := H
 rcases h5 with ⟨h5, _⟩ | ⟨b, rfl, h6⟩
 ·omega
 ·refine ⟨b, c, rfl, (gcells_len h6).2, gcells_acells hG (gcells_part h6 ?_)⟩
  calc i * z + z = (i + 1) * z := by rw [Nat.add_mul]; omega
   _ ≤ n * z := Nat.mul_le_mul_right _ hi
theorem Rep.cells {E : Env} {G : Mem} {V : Vl} {c : List Value} (h : Rep E G V c) : ∃ sl sf cl cf, c = [.int .i64 V.k, .int .i64 V.n, .string V.s, sl, sf] ∧ Sl E G 5 V.l.length cl sl ∧ Sl E G 6 V.f.length cf sf ∧ RepLs E G V.l cl ∧ RepFs E G V.f cf ∧
 (V.s.size ≤ 140737488355328 ∧ V.l.length * 80 ≤ 140737488355328 ∧ V.f.length * 96 ≤ 140737488355328) ∧ (-9223372036854775808 ≤ V.k ∧ V.k ≤ 9223372036854775807) ∧ (-9223372036854775808 ≤ V.n ∧ V.n ≤ 9223372036854775807) := by
 cases V with | mk k n s l f =>
 unfold Rep at h
 exact h
theorem Sl.slice {E : Env} {G : Mem} {z n : Nat} {cs : List Value} {v : Value} (H : Sl E G z n cs v) : ∃ a c, v = .slice a n c ∧ n ≤ c ∧ c ≤ 9223372036854775807 := by
 obtain ⟨a, c, rfl, h1, h2, _⟩ := H
 exact ⟨a, c, rfl, h1, h2⟩
theorem RepLs.app {E : Env} {G : Mem} : ∀ {l l' : List Vl} {c c' : List Value}, RepLs E G l c → RepLs E G l' c' → RepLs E G (l ++ l') (c ++ c')
 | [], l', c, c', h, h' => by unfold RepLs at h; subst h; simpa using h'
 | v :: l, l', c, c', h, h' => by
   unfold RepLs at h
   obtain ⟨c1, c2, rfl, h1, h2⟩ := h
   simp only [List.cons_append]
   unfold RepLs
   exact ⟨c1, c2 ++ c', by simp, h1, RepLs.app h2 h'⟩
theorem RepLs.one {E : Env} {G : Mem} {v : Vl} {c : List Value} (h : Rep E G v c) : RepLs E G [v] c := by
 unfold RepLs
 exact ⟨c, [], by simp, h, by unfold RepLs; rfl⟩
end Go.Tm
/- PLAIN VALUES: what is asked of them, in plain words. No program in sight. -/
namespace Go.Tm
def rise : List ByteArray → Bool
 | a :: b :: r => bslt a.data.toList b.data.toList && rise (b :: r)
 | _ => true
def formedV (v : Vl) : Bool :=
 !(decide (v.k < 1) || decide (v.k > 6) || (v.k == 2 && v.n != 0 && v.n != 1)) &&
 !((v.k != 2 && v.k != 3 && v.n != 0) || (v.k != 4 && !(v.s.data.toList == []))) &&
 !((v.k != 5 && decide ((v.l.length : Int) > 0)) || (v.k != 6 && decide ((v.f.length : Int) > 0))) &&
 rise (v.f.map (·.1))
def vld (s : ByteArray) : Bool := Lib.validD s.data.toList
def spelledV (v : Vl) : Bool := vld v.s && v.f.all fun x => vld x.1
def fewV (v : Vl) : Bool := decide (v.l.length ≤ 32) && decide (v.f.length ≤ 32) && v.f.all fun x => !(x.1.data.toList == [] || decide (24 < x.1.size))
theorem attach_map {α β : Type} (l : List α) (f : α → β) : (l.attach.map fun x => f x.1) = l.map f := by
 have : (l.attach.map fun x => f x.1) = (l.attach.map Subtype.val).map f := by rw [List.map_map]; rfl
 rw [this, List.attach_map_subtype_val]
theorem attach_all {α : Type} (l : List α) (f : α → Bool) : (l.attach.all fun x => f x.1) = l.all f := by
 have : (l.attach.all fun x => f x.1) = (l.attach.map Subtype.val).all f := by rw [List.all_map]; rfl
 rw [this, List.attach_map_subtype_val]
def allV (p : Vl → Bool) (v : Vl) : Bool := p v && v.parts.attach.all fun x => allV p x.1
termination_by v.sz
decreasing_by exact parts_sz x.2
theorem allV_eq (p : Vl → Bool) (v : Vl) : allV p v = (p v && v.parts.all (allV p)) := by
 rw [allV]
 rw [attach_all v.parts (allV p)]
def maxL : List Int → Int
 | [] => 0
 | x :: l => max x (maxL l)
def depthV (v : Vl) : Int := if v.k = 5 ∨ v.k = 6 then 1 + maxL (v.parts.attach.map fun x => depthV x.1) else 0
termination_by v.sz
decreasing_by exact parts_sz x.2
def digitsN (n : Nat) : Int := if n < 128 then 1 else 1 + digitsN (n / 128)
def turnedN (n : Int) : Nat := (if n < 0 then -2 * n - 1 else 2 * n).toNat
def headV (v : Vl) : Int :=
 1 + (if v.k = 2 then 1 else if v.k = 3 then digitsN (turnedN v.n) else if v.k = 4 then digitsN v.s.size + v.s.size else if v.k = 5 then digitsN v.l.length
  else if v.k = 6 then digitsN v.f.length + (v.f.map fun x => digitsN x.1.size + (x.1.size : Int)).sum else 0)
def sizeV (v : Vl) : Int := headV v + (v.parts.attach.map fun x => sizeV x.1).sum
termination_by v.sz
decreasing_by exact parts_sz x.2
theorem depthV_eq (v : Vl) : depthV v = if v.k = 5 ∨ v.k = 6 then 1 + maxL (v.parts.map depthV) else 0 := by
 rw [depthV]
 rw [attach_map v.parts depthV]
theorem sizeV_eq (v : Vl) : sizeV v = headV v + (v.parts.map sizeV).sum := by
 rw [sizeV]
 rw [attach_map v.parts sizeV]
def goodV (v : Vl) : Int :=
 if allV formedV v = false then 4 else if allV spelledV v = false then 11 else if allV fewV v = false then 15 else if depthV v > 8 then 3 else if sizeV v > 2048 then 2 else 0
end Go.Tm
/- The logic, fifth part: cuts; small laws. -/
namespace Go.Tm
theorem wpop_mono {E : Env} {op : Op} {tm : Tr Value} {h : Heap} {K K' : Value → Heap → Prop} (H : wpop E op tm h K) (m : ∀ v h', K v h' → K' v h') : wpop E op tm h K' := by
 unfold wpop at H ⊢
 split at H
 ·rename_i hk; obtain ⟨v, h1, h2⟩ := H; exact ⟨v, h1, m _ _ h2⟩
 ·rename_i hk; obtain ⟨v, h1, h2⟩ := H; exact ⟨v, h1, m _ _ h2⟩
 ·rename_i hk; obtain ⟨v, h1, h2⟩ := H; exact ⟨v, h1, m _ _ h2⟩
 ·rename_i hk
  obtain ⟨r, h1, h2⟩ := H
  refine ⟨r, h1, ?_⟩
  cases r with
  | val v h' => exact m _ _ h2
  | enter f args => exact CallsTo.mono h2 m
theorem wpo_mono {E : Env} {O : List Oper} {Q Q' : Cont} (m : ∀ tm h, Q tm h → Q' tm h) : ∀ (l : List Oper) (tm : Tr Value) (h : Heap), wpo E O l Q tm h → wpo E O l Q' tm h
 | [], tm, h, H => m tm h H
 | o :: l, tm, h, H => by
   have ih := wpo_mono (E := E) (O := O) m l
   simp only [wpo] at H ⊢
   split at H
   ·exact wpop_mono H fun v h' => ih _ _
   ·exact ⟨fun a => wpop_mono (H.1 a) fun v h' => ih _ _, fun a => ih _ _ (H.2 a)⟩
theorem wpt_mono {E : Env} {O : List Oper} {Q Q' : List St → Prop} (m : ∀ tr, Q tr → Q' tr) : ∀ (l : List Oper) (tr : List St) (tm : Tr Value) (h : Heap), wpt E O l tr Q tm h → wpt E O l tr Q' tm h
 | [], tr, tm, h, H => m _ H
 | o :: l, tr, tm, h, H => by
   have ih := wpt_mono (E := E) (O := O) m l
   simp only [wpt] at H ⊢
   split at H
   ·exact wpop_mono H fun v h' => ih _ _ _
   ·exact ⟨fun a => wpop_mono (H.1 a) fun v h' => ih _ _ _, fun a => ih _ _ _ (H.2 a)⟩
theorem wdraw_mono {E : Env} {O : List Oper} {Q Q' : Cont} (m : ∀ tm h, Q tm h → Q' tm h) {tm : Tr Value} {h : Heap} (H : wdraw E O Q tm h) : wdraw E O Q' tm h := by
 rcases H with ⟨a, b⟩ | H
 ·exact .inl ⟨a, wpo_mono m _ _ _ b⟩
 ·exact .inr (wpt_mono (fun tr ht => ⟨ht.1, m _ _ ht.2⟩) _ _ _ _ H)
theorem wpc_mono {E : Env} : ∀ (c : Code) {Q Q' : XCont}, (∀ e tm h, Q e tm h → Q' e tm h) → ∀ (tm : Tr Value) (h : Heap), wpc E c Q tm h → wpc E c Q' tm h := by
 intro c
 induction c with
 | skip => intro Q Q' m tm h H; exact m _ _ _ H
 | label l => intro Q Q' m tm h H; exact m _ _ _ H
 | ret => intro Q Q' m tm h H; exact m _ _ _ H
 | exit id => intro Q Q' m tm h H; exact m _ _ _ H
 | goto l => intro Q Q' m tm h H; exact m _ _ _ H
 | seq a b iha ihb =>
   intro Q Q' m tm h H
   refine iha ?_ tm h H
   intro e tm h he
   cases e with
   | normal => exact ihb m _ _ he
   | ret => exact m _ _ _ he
   | exit i => exact m _ _ _ he
   | goto l => exact m _ _ _ he
 | cond c x y ihx ihy =>
   intro Q Q' m tm h H
   simp only [wpc, kif] at H ⊢
   split at H
   ·exact ihx m _ _ H
   ·exact ihy m _ _ H
   ·exact H.elim
 | block id b ih =>
   intro Q Q' m tm h H
   refine ih ?_ tm h H
   intro e tm h he
   cases e with
   | exit i =>
     simp only [kblock] at he ⊢
     split
     ·rename_i hi; rw [if_pos hi] at he; exact m _ _ _ he
     ·rename_i hi; rw [if_neg hi] at he; exact m _ _ _ he
   | normal => exact m _ _ _ he
   | ret => exact m _ _ _ he
   | goto l => exact m _ _ _ he
 | loop b ih =>
   intro Q Q' m tm h H
   obtain ⟨I, n, h0, h1⟩ := H
   refine ⟨I, n, h0, fun n tm h hI => ih ?_ tm h (h1 n tm h hI)⟩
   intro e tm h he
   cases e with
   | normal => exact he
   | exit i => exact m _ _ _ he
   | ret => exact m _ _ _ he
   | goto l => exact m _ _ _ he
 | scope b _ =>
   intro Q Q' m tm h H
   obtain ⟨I, n, h0, h1⟩ := H
   refine ⟨I, n, h0, fun n c tm h hI => (h1 n c tm h hI).mono ?_⟩
   intro e tm h he
   cases e with
   | normal => exact m _ _ _ he
   | exit i => exact m _ _ _ he
   | ret => exact m _ _ _ he
   | goto l => exact he
 | region id ops draw =>
   intro Q Q' m tm h H
   cases draw with
   | false => exact wpo_mono (m .normal) _ _ _ H
   | true => exact wdraw_mono (m .normal) H
 | rangeFunc g ps x y ihx ihy =>
   intro Q Q' m tm h H
   obtain ⟨hfl, it, p, hai, hps, I, n, h0, hI⟩ := H
   refine ⟨hfl, it, p, hai, hps, I, n, h0, fun n i h hh => ?_⟩
   obtain ⟨o, ho, hk⟩ := hI n i h hh
   refine ⟨o, ho, ?_⟩
   cases o with
   | none => exact m _ _ _ hk
   | some v =>
     refine ihx ?_ _ _ hk
     intro e tm1 h1 he
     cases e with
     | normal =>
       refine ihy ?_ _ _ he
       intro e2 tm2 h2 he2
       cases e2 with
       | normal => exact he2
       | ret => exact m _ _ _ he2
       | exit i => exact m _ _ _ he2
       | goto l => exact m _ _ _ he2
     | ret => exact he.elim
     | exit i => exact he.elim
     | goto l => exact he.elim
 | refuse _ => intro Q Q' m tm h H; exact H.elim
theorem kguard_cut {E : Env} {O l : List Oper} {op : Op} {d : Option Nat} {v : Value} {want : Bool} {Q : Cont} {tm : Tr Value} {h : Heap} (P : Cont) (m : ∀ tm h, P tm h → Q tm h) (H : kguard v want (wop1 E op d (wpo E O l P)) (wskip d (wpo E O l P)) tm h) : kguard v want (wop1 E op d (wpo E O l Q)) (wskip d (wpo E O l Q)) tm h := by
 unfold kguard at H ⊢
 split at H
 ·exact ⟨fun a => wpop_mono (H.1 a) fun v h' => wpo_mono m l _ _, fun a => wpo_mono m l _ _ (H.2 a)⟩
 ·exact wpo_mono m l _ _ H
theorem wr64 {x : Int} (h1 : -9223372036854775808 ≤ x) (h2 : x ≤ 9223372036854775807) : IntKind.i64.wrap x = x := Go.IntWalk.i64_in x ⟨h1, h2⟩
theorem wru64 {x : Int} (h1 : 0 ≤ x) (h2 : x ≤ 18446744073709551615) : IntKind.u64.wrap x = x := Go.IntWalk.u64_in x ⟨h1, h2⟩
theorem shr_nat {m b : Nat} (hb : b ≤ 64) : (m : Int).fdiv (2 ^ min (b : Int).toNat IntKind.u64.bits) = ((m / 2 ^ b : Nat) : Int) := by
 have : min (b : Int).toNat IntKind.u64.bits = b := by simp [IntKind.bits]; omega
 rw [this, Int.fdiv_eq_ediv_of_nonneg _ (by exact_mod_cast Nat.zero_le _)]
 norm_cast
end Go.Tm
/- PLAIN VALUES, second part: how great numbers get. No program in sight. -/
namespace Go.Tm
theorem digitsN_eq (n : Nat) : digitsN n = if n < 128 then 1 else 1 + digitsN (n / 128) := by
 conv => lhs; unfold digitsN
theorem digitsN_pos (n : Nat) : 1 ≤ digitsN n := by
 induction n using Nat.strongRecOn with
 | ind n ih =>
   rw [digitsN_eq]
   split
   ·omega
   ·have := ih (n / 128) (by omega); omega
theorem digitsN_le : ∀ (k n : Nat), n < 128 ^ (k + 1) → digitsN n ≤ k + 1
 | 0, n, h => by rw [digitsN_eq, if_pos (by omega)]; omega
 | k + 1, n, h => by
   rw [digitsN_eq]
   split
   ·omega
   ·have := digitsN_le k (n / 128) (by rw [Nat.pow_succ] at h; omega)
    omega
theorem digitsN_10 {n : Nat} (h : n < 18446744073709551616) : digitsN n ≤ 10 := digitsN_le 9 n (Nat.lt_of_lt_of_le h (by decide))
theorem turned_lt {x : Int} (h0 : -9223372036854775808 ≤ x) (h1 : x ≤ 9223372036854775807) : turnedN x < 18446744073709551616 := by
 unfold turnedN; split <;> omega
theorem Rep.name {E : Env} {G : Mem} {V : Vl} {c : List Value} (h : Rep E G V c) {x : ByteArray × Vl} (hx : x ∈ V.f) : x.1.size ≤ 140737488355328 ∧ ∃ c', Rep E G x.2 c' := by
 obtain ⟨sl, sf, cl, cf, _, _, _, _, hf, _⟩ := h.cells
 obtain ⟨i, hi, rfl⟩ := List.mem_iff_getElem.1 hx
 obtain ⟨c1, _, h2, h3⟩ := hf.at i V.f[i].1 V.f[i].2 (by simp [hi])
 exact ⟨h3, c1, h2⟩
theorem Rep.part {E : Env} {G : Mem} {V : Vl} {c : List Value} (h : Rep E G V c) {x : Vl} (hx : x ∈ V.parts) : ∃ c', Rep E G x c' := by
 unfold Vl.parts at hx
 split at hx
 ·obtain ⟨sl, sf, cl, cf, _, _, _, hl, _⟩ := h.cells
  obtain ⟨i, hi, rfl⟩ := List.mem_iff_getElem.1 hx
  exact ⟨_, hl.at i V.l[i] (by simp [hi])⟩
 ·split at hx
  ·obtain ⟨y, hy, rfl⟩ := List.mem_map.1 hx
   exact (h.name hy).2
  ·simp at hx
theorem sum_le {l : List Int} {b : Int} (h : ∀ x, x ∈ l → x ≤ b) : l.sum ≤ l.length * b := by
 induction l with
 | nil => simp
 | cons x l ih =>
   have h1 := h x (by simp)
   have h2 := ih fun y hy => h y (List.mem_cons_of_mem _ hy)
   simp only [List.sum_cons, List.length_cons]
   have : ((l.length + 1 : Nat) : Int) * b = l.length * b + b := by rw [Int.natCast_succ, Int.add_mul, Int.one_mul]
   omega
theorem sum_nn {l : List Int} (h : ∀ x, x ∈ l → 0 ≤ x) : 0 ≤ l.sum := by
 induction l with
 | nil => simp
 | cons x l ih =>
   have h1 := h x (by simp)
   have h2 := ih fun y hy => h y (List.mem_cons_of_mem _ hy)
   simp only [List.sum_cons]; omega
theorem parts_len (v : Vl) : v.parts.length ≤ v.sz := by
 have hL : ∀ l : List Vl, l.length ≤ szL l := by
  intro l; induction l with
  | nil => simp
  | cons x l ih => unfold szL; have := sz_eq x; simp; omega
 have hF : ∀ l : List (ByteArray × Vl), l.length ≤ szF l := by
  intro l; induction l with
  | nil => simp
  | cons x l ih => obtain ⟨nm, x⟩ := x; unfold szF; have := sz_eq x; simp; omega
 have := sz_eq v; have := hL v.l; have := hF v.f
 unfold Vl.parts
 split
 ·omega
 ·split
  ·simp; omega
  ·simp
theorem f_len (v : Vl) : v.f.length ≤ v.sz := by
 have hF : ∀ l : List (ByteArray × Vl), l.length ≤ szF l := by
  intro l; induction l with
  | nil => simp
  | cons x l ih => obtain ⟨nm, x⟩ := x; unfold szF; have := sz_eq x; simp; omega
 have := sz_eq v; have := hF v.f
 omega
theorem names_sum {E : Env} {G : Mem} {V : Vl} {c : List Value} (h : Rep E G V c) (l : List (ByteArray × Vl)) (hl : ∀ x, x ∈ l → x ∈ V.f) : 0 ≤ (l.map fun x => digitsN x.1.size + (x.1.size : Int)).sum ∧ (l.map fun x => digitsN x.1.size + (x.1.size : Int)).sum ≤ l.length * 140737488355348 := by
 constructor
 ·refine sum_nn ?_
  intro x hx
  obtain ⟨y, hy, rfl⟩ := List.mem_map.1 hx
  have := digitsN_pos y.1.size
  omega
 ·have := sum_le (l := l.map fun x => digitsN x.1.size + (x.1.size : Int)) (b := 140737488355348) (by
   intro x hx
   obtain ⟨y, hy, rfl⟩ := List.mem_map.1 hx
   have h1 := (h.name (hl y hy)).1
   have h2 := digitsN_10 (n := y.1.size) (by omega)
   omega)
  simpa using this
theorem headV_bd {E : Env} {G : Mem} {V : Vl} {c : List Value} (h : Rep E G V c) : 1 ≤ headV V ∧ headV V ≤ 11 + 140737488355328 + V.f.length * 140737488355348 := by
 obtain ⟨sl, sf, cl, cf, _, _, _, _, _, hb1, hb2, hb3⟩ := h.cells
 have h1 := names_sum h V.f fun _ h => h
 have d1 := digitsN_10 (turned_lt hb3.1 hb3.2)
 have d2 := digitsN_10 (n := V.s.size) (by omega)
 have d3 := digitsN_10 (n := V.l.length) (by omega)
 have d4 := digitsN_10 (n := V.f.length) (by omega)
 have e1 := digitsN_pos (turnedN V.n)
 have e2 := digitsN_pos V.s.size
 have e3 := digitsN_pos V.l.length
 have e4 := digitsN_pos V.f.length
 unfold headV
 constructor
 ·split
  ·omega
  ·split
   ·omega
   ·split
    ·omega
    ·split
     ·omega
     ·split <;> omega
 ·split
  ·omega
  ·split
   ·omega
   ·split
    ·omega
    ·split
     ·omega
     ·split <;> omega
theorem sz_sum (v : Vl) : (v.parts.map fun x => (x.sz : Int)).sum + 1 ≤ v.sz := by
 have hL : ∀ l : List Vl, (l.map fun x => (x.sz : Int)).sum = szL l := by
  intro l; induction l with
  | nil => simp [szL]
  | cons x l ih => simp [szL, ih]
 have hF : ∀ l : List (ByteArray × Vl), ((l.map (·.2)).map fun x => (x.sz : Int)).sum = szF l := by
  intro l; induction l with
  | nil => simp [szF]
  | cons x l ih => obtain ⟨nm, x⟩ := x; simp only [List.map_cons, List.sum_cons, szF, ih]; omega
 have := sz_eq v
 unfold Vl.parts
 split
 ·rw [hL]; omega
 ·split
  ·rw [hF]; omega
  ·simp; omega
theorem sum_mono {α : Type} {l : List α} {f g : α → Int} (h : ∀ x, x ∈ l → f x ≤ g x) : (l.map f).sum ≤ (l.map g).sum := by
 induction l with
 | nil => simp
 | cons x l ih =>
   have h1 := h x (by simp)
   have h2 := ih fun y hy => h y (List.mem_cons_of_mem _ hy)
   simp only [List.map_cons, List.sum_cons]; omega
theorem bd_arith {H S Z len fl z : Int} (h1 : H ≤ 11 + 140737488355328 + fl * 140737488355348) (h2 : S ≤ Z * 281474976710720 - len * 140737488355350) (h3 : Z + 1 ≤ z) (h4 : fl ≤ len) (h5 : 0 ≤ len) : H + S ≤ z * 281474976710720 - 140737488355350 := by omega
theorem bd_arith2 {H S Z len z : Int} (h1 : H ≤ 11 + 140737488355328) (h2 : S ≤ Z * 281474976710720 - len * 140737488355350) (h3 : Z + 1 ≤ z) (h5 : 0 ≤ len) : H + S ≤ z * 281474976710720 - 140737488355350 := by omega
theorem sum_lin {α : Type} (f : α → Int) (a b : Int) (l : List α) : (l.map fun x => f x * a + b).sum = (l.map f).sum * a + l.length * b := by
 induction l with
 | nil => simp
 | cons x l ih =>
   simp only [List.map_cons, List.sum_cons, ih, List.length_cons, Int.natCast_succ, Int.add_mul, Int.one_mul]
   omega
theorem headV_bd2 {E : Env} {G : Mem} {V : Vl} {c : List Value} (h : Rep E G V c) (hk : V.k ≠ 6) : headV V ≤ 11 + 140737488355328 := by
 obtain ⟨sl, sf, cl, cf, _, _, _, _, _, hb1, hb2, hb3⟩ := h.cells
 have d1 := digitsN_10 (turned_lt hb3.1 hb3.2)
 have d2 := digitsN_10 (n := V.s.size) (by omega)
 have d3 := digitsN_10 (n := V.l.length) (by omega)
 unfold headV
 rw [if_neg hk]
 split
 ·omega
 ·split
  ·omega
  ·split
   ·omega
   ·split <;> omega
theorem sizeV_bd {E : Env} {G : Mem} : ∀ (n : Nat) (V : Vl), V.sz ≤ n → ∀ {c : List Value}, Rep E G V c → 1 ≤ sizeV V ∧ sizeV V ≤ (V.sz : Int) * 281474976710720 - 140737488355350 := by
 intro n
 induction n with
 | zero => intro V hn; have := sz_eq V; omega
 | succ n ih =>
   intro V hn c h
   have hh := headV_bd h
   have ihp : ∀ x, x ∈ V.parts → 1 ≤ sizeV x ∧ sizeV x ≤ (x.sz : Int) * 281474976710720 - 140737488355350 := by
    intro x hx
    obtain ⟨c', hc'⟩ := h.part hx
    exact ih x (by have := parts_sz hx; omega) hc'
   have hz := sz_sum V
   rw [sizeV_eq]
   have h1 : 0 ≤ (V.parts.map sizeV).sum := sum_nn (by
    intro x hx
    obtain ⟨y, hy, rfl⟩ := List.mem_map.1 hx
    exact Int.le_trans (by decide) (ihp y hy).1)
   have h2 : (V.parts.map sizeV).sum ≤ (V.parts.map fun x => (x.sz : Int) * 281474976710720 + (-140737488355350)).sum := sum_mono fun x hx => (ihp x hx).2
   rw [sum_lin (fun x : Vl => (x.sz : Int)), Int.mul_neg, ← Int.sub_eq_add_neg] at h2
   refine ⟨Int.le_trans hh.1 (Int.le_add_of_nonneg_right h1), ?_⟩
   by_cases hk : V.k = 6
   ·have : V.parts.length = V.f.length := by unfold Vl.parts; rw [if_neg (by omega), if_pos hk]; simp
    exact bd_arith hh.2 h2 hz (by rw [this]; exact Int.le_refl _) (Int.natCast_nonneg _)
   ·exact bd_arith2 (headV_bd2 h hk) h2 hz (Int.natCast_nonneg _)
theorem depthV_bd : ∀ (n : Nat) (V : Vl), V.sz ≤ n → 0 ≤ depthV V ∧ depthV V ≤ V.sz := by
 intro n
 induction n with
 | zero => intro V hn; have := sz_eq V; omega
 | succ n ih =>
   intro V hn
   have h1 := sz_eq V
   rw [depthV_eq]
   split
   ·have hm : ∀ l : List Vl, (∀ x, x ∈ l → 0 ≤ depthV x ∧ depthV x ≤ V.sz - 1) → 0 ≤ maxL (l.map depthV) ∧ maxL (l.map depthV) ≤ V.sz - 1 := by
     intro l
     induction l with
     | nil => intro _; simp [maxL]; omega
     | cons x l ih2 =>
       intro hx
       have a1 := hx x (by simp)
       have a2 := ih2 fun y hy => hx y (List.mem_cons_of_mem _ hy)
       simp only [List.map_cons, maxL]; omega
    have := hm V.parts (fun x hx => by
     have := ih x (by have := parts_sz hx; omega)
     have := parts_sz hx
     omega)
    omega
   ·omega
end Go.Tm
/- The logic, sixth part: the rules by which a walk goes, as one set. -/
namespace Go.Tm
theorem kguard_splitF {b : Bool} {A B : Cont} {tm : Tr Value} {h : Heap} (h1 : b = false → A tm h) (h2 : b = true → B tm h) : kguard (.bool b) false A B tm h := ⟨h1, h2⟩
theorem kguard_splitT {b : Bool} {A B : Cont} {tm : Tr Value} {h : Heap} (h1 : b = true → A tm h) (h2 : b = false → B tm h) : kguard (.bool b) true A B tm h := ⟨h1, h2⟩
theorem kguard_undef {b : Bool} {A B : Cont} {tm : Tr Value} {h : Heap} : kguard undef b A B tm h = B tm h := by simp [kguard, undef]
theorem acells_part {E : Env} {h : Heap} {a : Addr} {n : Nat} {l : List Value} (hg : acells E h a n = some l) (i m : Nat) (hm : i + m ≤ n) : acells E h ⟨a.block, a.off + i, none⟩ m = some ((l.drop i).take m) := by
 have key : ∀ c : List Value, a.off + n ≤ c.length → (c.drop (a.off + i)).take m = (((c.drop a.off).take n).drop i).take m := by
  intro c hc
  rw [List.drop_take, List.drop_drop, List.take_take, Nat.min_eq_left (by omega)]
 unfold acells at hg ⊢
 split at hg
 ·cases hg
 ·split at hg
  ·rename_i hb
   simp only [if_pos hb]
   split at hg
   ·rename_i c e fr hro
    split at hg
    ·rename_i hc
     injection hg with hg; subst hg
     have hk := key c.toList (by simpa using hc.1)
     rw [← List.map_drop, ← List.map_take, ← hk, if_pos]
     refine ⟨by omega, ?_⟩
     rw [hk, List.all_eq_true]
     intro v hv
     exact (List.all_eq_true.1 hc.2) v (List.mem_of_mem_drop (List.mem_of_mem_take hv))
    ·cases hg
   ·cases hg
  ·rename_i hb
   simp only [if_neg hb]
   split at hg
   ·rename_i c e fx hc
    split at hg
    ·rename_i hle
     injection hg with hg; subst hg
     rw [if_pos (by omega), key c hle]
    ·cases hg
   ·cases hg
theorem all_not_any {α : Type} (l : List α) (p : α → Bool) : (!l.any fun x => !p x) = l.all p := by
 induction l with
 | nil => rfl
 | cons x l ih => simp only [List.any_cons, List.all_cons, Bool.not_or, Bool.not_not, ih]
theorem all_any_not {α : Type} (l : List α) (p : α → Bool) : (!l.any fun x => p x) = l.all fun x => !p x := by
 induction l with
 | nil => rfl
 | cons x l ih => simp only [List.any_cons, List.all_cons, Bool.not_or, ih]
theorem maxL_snoc (l : List Int) (x : Int) (h : 0 ≤ x) : maxL (l ++ [x]) = max (maxL l) x := by
 induction l with
 | nil => simp only [List.nil_append, maxL]; omega
 | cons y l ih => simp only [List.cons_append, maxL, ih]; omega
theorem fmax_max (x y : Int) : fmax x y = max x y := by unfold fmax; split <;> omega
theorem fmin_min (x y : Int) : fmin x y = min x y := by unfold fmin; split <;> omega
def pairOk (E : Env) (O : List Oper) (tr : List St) (d : St) (x y : Nat) : Prop :=
 match O[x]? with
 | some o => awanted O (sget tr d x).tm o = true → ∃ u, aread E (sget tr d x).h (opd (sget tr d x).tm) o.op = some u ∧ aread E (sget tr d y).h (opd (sget tr d x).tm) o.op = some u ∧ aread E (sget tr d (y + 1)).h (opd (sget tr d x).tm) o.op = some u ∧ veq u u = true
 | none => True
theorem wdraw_pairs {E : Env} {O : List Oper} {Q : Cont} {tm : Tr Value} {h : Heap} (prs : List (Nat × Nat)) (h1 : dstat E.P O (masks O []) none = true) (h2 : (match spOf E.P O (masks O []) with | none => true | some _ => false) = true) (h3 : unord E.P O (masks O []) = prs)
 (H : wpt E O O [] (fun tr => (∀ p, p ∈ prs → pairOk E O tr ⟨tm, h⟩ p.1 p.2) ∧ Q (sget tr ⟨tm, h⟩ O.length).tm (sget tr ⟨tm, h⟩ O.length).h) tm h) : wdraw E O Q tm h := by
 have hsp : spOf E.P O (masks O []) = none := by
  cases hx : spOf E.P O (masks O []) with
  | none => rfl
  | some p => simp [hx] at h2
 refine .inr (wpt_mono ?_ _ _ _ _ H)
 rintro tr ⟨hp, hq⟩
 refine ⟨?_, hq⟩
 unfold drawOk
 rw [hsp, h1]
 simp only [Bool.true_and, Bool.not_true, Bool.false_and, Bool.or_false]
 unfold ddyn
 simp only [Bool.and_true, List.all_eq_true]
 intro x hx y hy
 simp only [Bool.or_eq_true, Bool.not_eq_true']
 cases hb : (bef (masks O []) x.2 y.2 || bef (masks O []) y.2 x.2) with
 | true =>
   simp only [Bool.or_eq_true] at hb
   rcases hb with hb | hb
   ·exact .inl hb
   ·exact .inr (.inl hb)
 | false =>
   have hm : (x.2, y.2) ∈ prs := by
    rw [← h3]
    unfold unord
    rw [List.mem_flatMap]
    exact ⟨x, hx, List.mem_map.2 ⟨y, List.mem_filter.2 ⟨hy, by simp [hb]⟩, rfl⟩⟩
   have hpo := hp _ hm
   right; right
   cases ha : awanted O (sget tr ⟨tm, h⟩ x.2).tm x.1 with
   | false => exact .inl rfl
   | true =>
     right
     have hox : O[x.2]? = some x.1 := by
      have := (List.mem_filter.1 hx).1
      rw [← List.mk_mem_zipIdx_iff_getElem?]; exact this
     unfold pairOk at hpo
     simp only [hox] at hpo
     obtain ⟨u, e1, e2, e3, e4⟩ := hpo ha
     simp only [e1, e2, e3, e4, Bool.and_self]
section
variable {E : Env} {O l : List Oper} {tr : List St} {Q : List St → Prop} {tm : Tr Value} {h : Heap} {ty : TypeId} {pos : String} {aft : Array Edge}
theorem wpt_nil : wpt E O [] tr Q tm h = Q (tr ++ [⟨tm, h⟩]) := rfl
theorem wpt_cons {d : Option Nat} {op : Op} : wpt E O (⟨d, op, ty, pos, aft, none⟩ :: l) tr Q tm h = wop1 E op d (wpt E O l (tr ++ [⟨tm, h⟩]) Q) tm h := rfl
theorem wpt_guard {d : Option Nat} {op : Op} {j : Nat} {b : Bool} : wpt E O (⟨d, op, ty, pos, aft, some (j, b)⟩ :: l) tr Q tm h = kguard (gval O j tm) b (wop1 E op d (wpt E O l (tr ++ [⟨tm, h⟩]) Q)) (wskip d (wpt E O l (tr ++ [⟨tm, h⟩]) Q)) tm h := by
 simp only [wpt, kguard, awanted, gval, wop1, wskip]
 cases hj : (O[j]?).bind (·.dst) with
 | none => simp [undef]
 | some d' =>
   simp only
   cases hv : fget tm d' with
   | bool c => cases c <;> cases b <;> simp
   | _ => simp
end
theorem kif_cut {E : Env} {a b : Code} {v : Value} {Q : XCont} {tm : Tr Value} {h : Heap} (P : XCont) (m : ∀ e tm h, P e tm h → Q e tm h) (H : kif E v (wpc E a) (wpc E b) P tm h) : kif E v (wpc E a) (wpc E b) Q tm h := by
 unfold kif at H ⊢
 split at H
 ·exact wpc_mono a m _ _ H
 ·exact wpc_mono b m _ _ H
 ·exact H.elim
theorem kif_cutN {E : Env} {a b : Code} {v : Value} {Q : XCont} {tm : Tr Value} {h : Heap} (P : Cont) (m : ∀ tm h, P tm h → Q .normal tm h) (H : kif E v (wpc E a) (wpc E b) (fun e tm h => e = .normal ∧ P tm h) tm h) : kif E v (wpc E a) (wpc E b) Q tm h :=
 kif_cut _ (fun e tm h he => by obtain ⟨rfl, hp⟩ := he; exact m _ _ hp) H
theorem awanted_none {O : List Oper} {tm : Tr Value} {d : Option Nat} {op : Op} {ty : TypeId} {pos : String} {aft : Array Edge} : awanted O tm ⟨d, op, ty, pos, aft, none⟩ = true := rfl
theorem aread_load {E : Env} {h : Heap} {ev : Operand → Value} {t : TypeId} {x : Operand} : aread E h ev (.load t x) = aload E h t (ev x) := rfl
theorem aread_lookup {E : Env} {h : Heap} {ev : Operand → Value} {t : TypeId} {x i : Operand} {ok : Bool} : aread E h ev (.lookup t x i ok) = alookup E h t (ev x) (ev i) ok := rfl
theorem veq_str {s : ByteArray} : veq (.string s) (.string s) = true := by simp [veq]
theorem veq_int {k : IntKind} {n : Int} : veq (.int k n) (.int k n) = true := by simp [veq]
theorem veq_ptr {a : Option Addr} : veq (.pointer a) (.pointer a) = true := by cases a <;> simp [veq]
theorem veq_slice {a : Option Addr} {n c : Nat} : veq (.slice a n c) (.slice a n c) = true := by cases a <;> simp [veq]
theorem veq_agg {l : List Value} : veq (.agg ⟨l⟩) (.agg ⟨l⟩) = veqL l l := by simp [veq, veqA]
theorem veqL_nil : veqL [] [] = true := rfl
theorem veqL_cons {v w : Value} {l m : List Value} : veqL (v :: l) (w :: m) = (veq v w && veqL l m) := rfl
theorem sget_0 {s d : St} {l : List St} : sget (s :: l) d 0 = s := rfl
theorem sget_s {s d : St} {l : List St} {n : Nat} : sget (s :: l) d (n + 1) = sget l d n := by simp [sget]
theorem shr_nat' {m b : Nat} (hb : b ≤ 64) : (m : Int).fdiv (2 ^ min b IntKind.u64.bits) = ((m / 2 ^ b : Nat) : Int) := shr_nat (m := m) hb
attribute [push_cast] wpc_draw wpc_seq wpc_cond wpc_region wpc_ret wpc_exit wpc_skip wpc_goto kseq_normal kseq_ret kseq_exit kseq_goto kblock_normal kblock_ret kblock_exit kblock_goto kif_true kif_false kloop_normal kloop_ret kloop_exit kloop_goto kscope_normal kscope_ret kscope_exit kscope_goto wpo_nil wpo_cons wpo_guard kguard_tt kguard_ff kguard_tf kguard_ft gval kput_some kput_none wskip_some wskip_none aput fget_set_lit opd_tmp opd_const opd_func opd_global wop_move wop_assign wop_pick wop_nilCheck wop_binOp wop_unOp wop_makeInterface wop_build wop_slice wop_fieldAddr wop_indexAddr wop_index wop_extract wop_load wop_alloc wop_box wop_makeSlice wop_buildSlice wop_append wop_copy wop_clear wop_store wop_call wop_callv wop_max wop_min kpure_some kalloc_some kwr_some kwv_some kcall_func anilc apick aextract List.getElem?_cons_zero List.getElem?_cons_succ if_true if_false ite_true ite_false List.map_cons List.map_nil List.length_cons List.length_nil List.drop_succ_cons List.drop_zero List.take_succ_cons List.take_zero Option.bind_some Option.map_some Option.bind_none Option.map_none Option.some.injEq abin aint astr aun aconv next_push next_put get_push get_put acells vcells Nat.zero_add Nat.add_zero Bool.not_true Bool.not_false beq_self_eq_true bne_self_eq_false Bool.or_true Bool.or_false Bool.true_or Bool.false_or Bool.and_true Bool.and_false isConst kleave_ret kleave_normal aresults aret_one aret_none aret_two aret_three aret_four exists_eq_left' fget_leaf put_push put_put splice List.all_cons List.all_nil Value.oneCell' Bool.and_self and_self Nat.le_refl List.cons_append List.append_nil not_true_eq_false not_false_eq_true Nat.add_eq_left Nat.left_eq_add Nat.add_left_cancel_iff Bool.false_eq_true true_and and_true Nat.succ_ne_self ne_eq Option.map_eq_map afrom decide_true decide_false Int.toNat_natCast List.take_nil List.drop_nil List.nil_append kguard_undef Bool.true_and Bool.false_and amm afold fmax_max fmin_min wpt_nil wpt_cons wpt_guard sget_0 sget_s veq_str veq_int veq_ptr veq_slice veq_agg veqL_nil veqL_cons awanted_none aread_load aread_lookup List.mem_cons List.not_mem_nil or_false forall_eq_or_imp forall_eq pairOk forall_const true_implies eq_self afill ne_eq not_true_eq_false false_or gt_iff_lt Nat.lt_irrefl Nat.mul_one
theorem zz : (∀ (h : Heap) (a : Addr) (vs : List Value), awrite h a vs = match a.spot with
 | some _ => none
 | none => match h.get a.block with
   | some (.cells c e fx) => if a.off + vs.length ≤ c.length ∧ vs.all Value.oneCell' = true then some (h.put a.block (.cells (splice c a.off vs) e fx)) else none
   | _ => none) ∧ (∀ (E : Env) (Q : XCont) (tm : Tr Value) (h : Heap) (l : Nat), wpc E (.label l) Q tm h = Q .normal tm h) ∧ (∀ (E : Env) (Q : XCont) (tm : Tr Value) (h : Heap) (i : Nat) (b : Code), wpc E (.block i b) Q tm h = wpc E b (kblock i Q) tm h) :=
 ⟨fun _ _ _ => rfl, fun _ _ _ _ _ => rfl, fun _ _ _ _ _ _ => rfl⟩
end Go.Tm
/- PLAIN VALUES, third part: words and objects; parts counted; sameness. No program in sight. -/
namespace Go.Tm
theorem l_sz {v x : Vl} (h : x ∈ v.l) : x.sz < v.sz := by have := sz_eq v; have := szL_mem h; omega
theorem f_sz {v : Vl} {x : ByteArray × Vl} (h : x ∈ v.f) : x.2.sz < v.sz := by have := sz_eq v; have := szF_mem (nm := x.1) (v := x.2) h; omega
def textW (s : ByteArray) : Int := 1 + ((s.size : Int) + 7) / 8
def baseW (v : Vl) : Int := if v.k = 2 then 2 else if v.k = 3 then 2 else if v.k = 4 then 1 + textW v.s else 1
def wordsV (v : Vl) : Int := baseW v + (v.l.attach.map fun x => 1 + wordsV x.1).sum + (v.f.attach.map fun x => 3 + textW x.1.1 + wordsV x.1.2).sum
termination_by v.sz
decreasing_by
 ·exact l_sz x.2
 ·exact f_sz x.2
def objsV (v : Vl) : Int := 1 + (v.l.attach.map fun x => objsV x.1).sum + (v.f.attach.map fun x => 1 + objsV x.1.2).sum
termination_by v.sz
decreasing_by
 ·exact l_sz x.2
 ·exact f_sz x.2
theorem wordsV_eq (v : Vl) : wordsV v = baseW v + (v.l.map fun x => 1 + wordsV x).sum + (v.f.map fun x => 3 + textW x.1 + wordsV x.2).sum := by
 rw [wordsV, attach_map v.l (fun x => 1 + wordsV x), attach_map v.f (fun x => 3 + textW x.1 + wordsV x.2)]
theorem objsV_eq (v : Vl) : objsV v = 1 + (v.l.map fun x => objsV x).sum + (v.f.map fun x => 1 + objsV x.2).sum := by
 rw [objsV, attach_map v.l (fun x => objsV x), attach_map v.f (fun x => 1 + objsV x.2)]
theorem textW_bd {s : ByteArray} (h : s.size ≤ 140737488355328) : 1 ≤ textW s ∧ textW s ≤ 17592186044418 := by unfold textW; omega
theorem Rep.lpart {E : Env} {G : Mem} {V : Vl} {c : List Value} (h : Rep E G V c) {x : Vl} (hx : x ∈ V.l) : ∃ c', Rep E G x c' := by
 obtain ⟨sl, sf, cl, cf, _, _, _, hl, _⟩ := h.cells
 obtain ⟨i, hi, rfl⟩ := List.mem_iff_getElem.1 hx
 exact ⟨_, hl.at i V.l[i] (by simp [hi])⟩
theorem szl_sum (v : Vl) : (v.l.map fun x => (x.sz : Int)).sum + (v.f.map fun x => (x.2.sz : Int)).sum + 1 = v.sz := by
 have hL : ∀ l : List Vl, (l.map fun x => (x.sz : Int)).sum = szL l := by
  intro l; induction l with
  | nil => simp [szL]
  | cons x l ih => simp [szL, ih]
 have hF : ∀ l : List (ByteArray × Vl), (l.map fun x => (x.2.sz : Int)).sum = szF l := by
  intro l; induction l with
  | nil => simp [szF]
  | cons x l ih => obtain ⟨nm, x⟩ := x; simp only [List.map_cons, List.sum_cons, szF, ih]; omega
 rw [hL, hF]
 have := sz_eq v; omega
theorem wd_arith {B S T SL SF z : Int} (hB : B ≤ 17592186044420) (h1 : S ≤ SL * 40000000000000) (h2 : T ≤ SF * 40000000000000) (h3 : SL + SF + 1 = z) : B + S + T ≤ z * 40000000000000 - 20000000000000 := by omega
theorem words_bd {E : Env} {G : Mem} : ∀ (n : Nat) (V : Vl), V.sz ≤ n → ∀ {c : List Value}, Rep E G V c → 1 ≤ wordsV V ∧ wordsV V ≤ (V.sz : Int) * 40000000000000 - 20000000000000 := by
 intro n
 induction n with
 | zero => intro V hn; have := sz_eq V; omega
 | succ n ih =>
   intro V hn c h
   have hs := szl_sum V
   obtain ⟨_, _, _, _, _, _, _, _, _, hb1, _⟩ := h.cells
   have ht := textW_bd hb1.1
   have hB : 1 ≤ baseW V ∧ baseW V ≤ 17592186044420 := by unfold baseW; split <;> (try split) <;> (try split) <;> omega
   have hl : ∀ x, x ∈ V.l → 1 ≤ wordsV x ∧ 1 + wordsV x ≤ (x.sz : Int) * 40000000000000 := by
    intro x hx
    obtain ⟨c', hc'⟩ := h.lpart hx
    have := ih x (by have := l_sz hx; omega) hc'; omega
   have hf : ∀ x, x ∈ V.f → 1 ≤ wordsV x.2 ∧ 1 ≤ textW x.1 ∧ 3 + textW x.1 + wordsV x.2 ≤ (x.2.sz : Int) * 40000000000000 := by
    intro x hx
    obtain ⟨h1, c', hc'⟩ := h.name hx
    have := ih x.2 (by have := f_sz hx; omega) hc'
    have := textW_bd h1; omega
   have s1 : (V.l.map fun x => 1 + wordsV x).sum ≤ (V.l.map fun x => (x.sz : Int) * 40000000000000 + 0).sum := sum_mono fun x hx => by have := hl x hx; omega
   have s2 : (V.f.map fun x => 3 + textW x.1 + wordsV x.2).sum ≤ (V.f.map fun x => (x.2.sz : Int) * 40000000000000 + 0).sum := sum_mono fun x hx => by have := hf x hx; omega
   have p1 : 0 ≤ (V.l.map fun x => 1 + wordsV x).sum := sum_nn fun y hy => by
    obtain ⟨x, hx, rfl⟩ := List.mem_map.1 hy
    have := hl x hx; omega
   have p2 : 0 ≤ (V.f.map fun x => 3 + textW x.1 + wordsV x.2).sum := sum_nn fun y hy => by
    obtain ⟨x, hx, rfl⟩ := List.mem_map.1 hy
    have := hf x hx; omega
   rw [sum_lin (fun x : Vl => (x.sz : Int)), Int.mul_zero, Int.add_zero] at s1
   rw [sum_lin (fun x : ByteArray × Vl => (x.2.sz : Int)), Int.mul_zero, Int.add_zero] at s2
   rw [wordsV_eq]
   exact ⟨by omega, wd_arith hB.2 s1 s2 hs⟩
theorem objs_bd : ∀ (n : Nat) (V : Vl), V.sz ≤ n → 1 ≤ objsV V ∧ objsV V ≤ (V.sz : Int) * 2 - 1 := by
 intro n
 induction n with
 | zero => intro V hn; have := sz_eq V; omega
 | succ n ih =>
   intro V hn
   have hs := szl_sum V
   have hl : ∀ x, x ∈ V.l → 1 ≤ objsV x ∧ objsV x ≤ (x.sz : Int) * 2 := by
    intro x hx
    have := ih x (by have := l_sz hx; omega); omega
   have hf : ∀ x, x ∈ V.f → 1 ≤ objsV x.2 ∧ 1 + objsV x.2 ≤ (x.2.sz : Int) * 2 := by
    intro x hx
    have := ih x.2 (by have := f_sz hx; omega); omega
   have s1 : (V.l.map fun x => objsV x).sum ≤ (V.l.map fun x => (x.sz : Int) * 2 + 0).sum := sum_mono fun x hx => by have := hl x hx; omega
   have s2 : (V.f.map fun x => 1 + objsV x.2).sum ≤ (V.f.map fun x => (x.2.sz : Int) * 2 + 0).sum := sum_mono fun x hx => by have := hf x hx; omega
   have p1 : 0 ≤ (V.l.map fun x => objsV x).sum := sum_nn fun y hy => by
    obtain ⟨x, hx, rfl⟩ := List.mem_map.1 hy
    have := hl x hx; omega
   have p2 : 0 ≤ (V.f.map fun x => 1 + objsV x.2).sum := sum_nn fun y hy => by
    obtain ⟨x, hx, rfl⟩ := List.mem_map.1 hy
    have := hf x hx; omega
   rw [sum_lin (fun x : Vl => (x.sz : Int)), Int.mul_zero, Int.add_zero] at s1
   rw [sum_lin (fun x : ByteArray × Vl => (x.2.sz : Int)), Int.mul_zero, Int.add_zero] at s2
   rw [objsV_eq]
   omega
theorem sum_part {α : Type} (l : List α) (f : α → Int) (h : ∀ x, x ∈ l → 0 ≤ f x) (i : Nat) : 0 ≤ ((l.take i).map f).sum ∧ ((l.take i).map f).sum ≤ (l.map f).sum := by
 have hnn : ∀ m : List α, (∀ x, x ∈ m → x ∈ l) → 0 ≤ (m.map f).sum := by
  intro m hm
  refine sum_nn ?_
  intro x hx
  obtain ⟨y, hy, rfl⟩ := List.mem_map.1 hx
  exact h y (hm y hy)
 have h1 := hnn (l.take i) fun x hx => List.mem_of_mem_take hx
 have h2 := hnn (l.drop i) fun x hx => List.mem_of_mem_drop hx
 have h3 : (l.map f).sum = ((l.take i).map f).sum + ((l.drop i).map f).sum := by
  rw [← List.sum_append, ← List.map_append, List.take_append_drop]
 omega
theorem sum_step {α : Type} (l : List α) (f : α → Int) {i : Nat} (h : i < l.length) : ((l.take (i + 1)).map f).sum = ((l.take i).map f).sum + f l[i] := by
 rw [List.take_succ_eq_append_getElem h, List.map_append, List.map_cons, List.map_nil, List.sum_append]
 simp
end Go.Tm
namespace Go.Tm
def updN {α : Type} (w : Nat → α) (i : Nat) (x : α) : Nat → α := fun j => if j = i then x else w j
@[simp] theorem updN_same {α : Type} (w : Nat → α) (i : Nat) (x : α) : updN w i x i = x := by simp [updN]
theorem updN_ne {α : Type} (w : Nat → α) {i j : Nat} (x : α) (h : j ≠ i) : updN w i x j = w j := by simp [updN, h]
def wcells (n : Nat) (w : Nat → Nat) : List Value := (List.range n).map fun i => .int .u64 (w i)
theorem wcells_len (n : Nat) (w : Nat → Nat) : (wcells n w).length = n := by simp [wcells]
theorem wcells_get {n : Nat} {w : Nat → Nat} {i : Nat} (h : i < n) : (wcells n w)[i]? = some (.int .u64 (w i)) := by simp [wcells, h]
theorem wcells_at {n : Nat} {w : Nat → Nat} {i : Nat} (h : i < n) : ((wcells n w).drop i).take 1 = [.int .u64 (w i)] := by
 rw [List.drop_eq_getElem_cons (by simpa [wcells] using h)]
 simp [wcells]
theorem splice_get2 {c vs : List Value} {off : Nat} (h : off + vs.length ≤ c.length) (j : Nat) : (splice c off vs)[j]? = if j < off then c[j]? else if j < off + vs.length then vs[j - off]? else c[j]? := by
 unfold splice
 rw [List.append_assoc, List.getElem?_append, List.getElem?_append]
 simp only [List.length_take, Nat.min_eq_left (show off ≤ c.length by omega)]
 split
 ·rename_i h1; rw [List.getElem?_take, if_pos h1]
 ·rename_i h1
  split
  ·rename_i h2; rw [if_pos (by omega)]
  ·rename_i h2
   rw [if_neg (by omega), List.getElem?_drop]
   congr 1; omega
theorem wcells_set {n : Nat} {w : Nat → Nat} {i x : Nat} (h : i < n) : splice (wcells n w) i [.int .u64 x] = wcells n (updN w i x) := by
 apply List.ext_getElem?
 intro j
 rw [splice_get2 (by rw [wcells_len]; simp; omega)]
 simp only [List.length_cons, List.length_nil]
 by_cases hj : j < n
 ·rw [wcells_get hj, wcells_get hj]
  by_cases e : j = i
  ·subst e; rw [if_neg (by omega), if_pos (by omega)]; simp
  ·rw [updN_ne _ _ e]
   split
   ·rfl
   ·rw [if_neg (by omega)]
 ·have h1 : (wcells n w)[j]? = none := by rw [List.getElem?_eq_none]; rw [wcells_len]; omega
  have h2 : (wcells n (updN w i x))[j]? = none := by rw [List.getElem?_eq_none]; rw [wcells_len]; omega
  rw [h1, h2, if_neg (by omega), if_neg (by omega)]
def clrN (w : Nat → Nat) (i k : Nat) : Nat → Nat := fun j => if i ≤ j ∧ j < i + k then 0 else w j
theorem arep1_get (k : Nat) (v : Value) (j : Nat) : (arep k [v])[j]? = if j < k then some v else none := by
 induction k generalizing j with
 | zero => simp [arep]
 | succ k ih =>
   simp only [arep, List.cons_append, List.nil_append]
   cases j with
   | zero => simp
   | succ j => simp [ih]
theorem wcells_clr {n : Nat} {w : Nat → Nat} {i k : Nat} (h : i + k ≤ n) : splice (wcells n w) i (arep k [.int .u64 0]) = wcells n (clrN w i k) := by
 apply List.ext_getElem?
 intro j
 rw [splice_get2 (by rw [wcells_len, arep_len]; simpa using h)]
 simp only [arep_len, List.length_cons, List.length_nil, Nat.zero_add, Nat.mul_one]
 by_cases hj : j < n
 ·rw [wcells_get hj, wcells_get hj, arep1_get]
  unfold clrN
  split
  ·rw [if_neg (by omega)]
  ·split
   ·rw [if_pos (by omega), if_pos (by omega)]; simp
   ·rw [if_neg (by omega)]
 ·have h1 : (wcells n w)[j]? = none := by rw [List.getElem?_eq_none]; rw [wcells_len]; omega
  have h2 : (wcells n (clrN w i k))[j]? = none := by rw [List.getElem?_eq_none]; rw [wcells_len]; omega
  rw [h1, h2, if_neg (by omega), if_neg (by omega)]
theorem wcells_zero (n : Nat) : arep n [.int .u64 0] = wcells n fun _ => 0 := by
 apply List.ext_getElem?
 intro j
 rw [arep1_get]
 by_cases hj : j < n
 ·rw [wcells_get hj, if_pos hj]; simp
 ·rw [if_neg hj, List.getElem?_eq_none]; rw [wcells_len]; omega
structure Slot where
 gen : Nat
 taken : Bool
 at_ : Nat
 next : Nat
def scell (s : Slot) : List Value := [.int .u32 s.gen, .bool s.taken, .int .i64 s.at_, .int .i64 s.next]
def scells (n : Nat) (sl : Nat → Slot) : List Value := (List.range n).flatMap fun i => scell (sl i)
theorem scells_succ (n : Nat) (sl : Nat → Slot) : scells (n + 1) sl = scells n sl ++ scell (sl n) := by simp [scells, List.range_succ, List.flatMap_append]
theorem scells_len (n : Nat) (sl : Nat → Slot) : (scells n sl).length = n * 4 := by
 induction n with
 | zero => rfl
 | succ n ih => rw [scells_succ]; simp [ih, scell]; omega
theorem scells_split {n : Nat} {sl : Nat → Slot} {i : Nat} (h : i < n) : ∃ B, scells n sl = scells i sl ++ (scell (sl i) ++ B) ∧ ∀ s, scells n (updN sl i s) = scells i sl ++ (scell s ++ B) := by
 induction n with
 | zero => omega
 | succ n ih =>
   by_cases e : i = n
   ·subst e
    refine ⟨[], by rw [scells_succ]; simp, fun s => ?_⟩
    rw [scells_succ, updN_same]
    have : scells i (updN sl i s) = scells i sl := by
     unfold scells
     rw [List.flatMap_def, List.flatMap_def]
     congr 1
     apply List.map_congr_left
     intro j hj
     rw [updN_ne _ _ (by have := List.mem_range.1 hj; omega)]
    rw [this]; simp
   ·obtain ⟨B, h1, h2⟩ := ih (by omega)
    refine ⟨B ++ scell (sl n), by rw [scells_succ, h1]; simp, fun s => ?_⟩
    rw [scells_succ, h2, updN_ne _ _ (by omega)]; simp
theorem scells_at {n : Nat} {sl : Nat → Slot} {i : Nat} (h : i < n) : ((scells n sl).drop (i * 4)).take 4 = scell (sl i) := by
 obtain ⟨B, h1, _⟩ := scells_split (sl := sl) h
 rw [h1, show i * 4 = (scells i sl).length by rw [scells_len], List.drop_left]
 simp [scell]
theorem splice_app {A B C vs : List Value} {j : Nat} (h : j + vs.length ≤ B.length) : splice (A ++ (B ++ C)) (A.length + j) vs = A ++ (splice B j vs ++ C) := by
 unfold splice
 rw [List.take_length_add_append, Nat.add_assoc, List.drop_length_add_append, List.take_append_of_le_length (by omega), List.drop_append_of_le_length (by omega)]
 simp
theorem scells_set {n : Nat} {sl : Nat → Slot} {i j : Nat} {vs : List Value} {s : Slot} (h : i < n) (hj : j + vs.length ≤ 4) (hs : splice (scell (sl i)) j vs = scell s) : splice (scells n sl) (i * 4 + j) vs = scells n (updN sl i s) := by
 obtain ⟨B, h1, h2⟩ := scells_split (sl := sl) h
 rw [h1, h2, show i * 4 + j = (scells i sl).length + j by rw [scells_len], splice_app (by simp [scell]; omega), hs]
theorem scells_new (n : Nat) : arep n [.int .u32 0, .bool false, .int .i64 0, .int .i64 0] = scells n fun _ => ⟨0, false, 0, 0⟩ := by
 induction n with
 | zero => rfl
 | succ n ih =>
   have : ∀ (k : Nat) (z : List Value), arep (k + 1) z = arep k z ++ z := by
    intro k z
    induction k with
    | zero => simp [arep]
    | succ k ih2 => simp only [arep] at ih2 ⊢; rw [ih2, ← List.append_assoc, ih2]
   rw [this, ih, scells_succ]; rfl
structure Hd where
 tag : Nat
 refs : Nat
 size : Nat
 mark : Bool
 owner : Nat
def unpackN (x : Nat) : Hd := ⟨x % 256, x / 512 % 8192, x / 4194304 % 8192, x / 256 % 2 == 1, x / 34359738368 % 1048576⟩
def packN (h : Hd) : Nat := h.tag + (if h.mark then 256 else 0) + h.refs * 512 + h.size * 4194304 + h.owner * 34359738368
def Hd.ok (h : Hd) : Prop := h.tag < 256 ∧ h.refs < 8192 ∧ h.size < 8192 ∧ h.owner < 1048576
theorem pack_lt {h : Hd} (ho : h.ok) : packN h < 36028797018963968 := by
 obtain ⟨a, b, c, d⟩ := ho
 unfold packN; split <;> omega
theorem unpack_pack {h : Hd} (ho : h.ok) : unpackN (packN h) = h := by
 obtain ⟨t, r, s, m, o⟩ := h
 obtain ⟨a, b, c, d⟩ := ho
 simp only at a b c d
 unfold unpackN packN
 cases m
 ·simp only [Bool.false_eq_true, if_false, Hd.mk.injEq]
  refine ⟨by omega, by omega, by omega, ?_, by omega⟩
  have : (t + 0 + r * 512 + s * 4194304 + o * 34359738368) / 256 % 2 = 0 := by omega
  rw [this]; rfl
 ·simp only [if_true, Hd.mk.injEq]
  refine ⟨by omega, by omega, by omega, ?_, by omega⟩
  have : (t + 256 + r * 512 + s * 4194304 + o * 34359738368) / 256 % 2 = 1 := by omega
  rw [this]; rfl
theorem unpack_ok (x : Nat) : (unpackN x).ok := by unfold unpackN Hd.ok; simp only; omega
theorem or_add {a b i : Nat} (h : b < 2 ^ i) : b ||| (a * 2 ^ i) = b + a * 2 ^ i := by
 have := Nat.two_pow_add_eq_or_of_lt h a
 rw [Nat.or_comm, Nat.mul_comm, ← this]; omega
theorem or_mark {t q : Nat} (h : t < 256) : (t + q * 512) ||| 256 = t + 256 + q * 512 := by
 have e1 : t ||| (q * 2 ^ 9) = t + q * 2 ^ 9 := or_add (by omega)
 have e2 : t ||| (1 * 2 ^ 8) = t + 1 * 2 ^ 8 := or_add (by omega)
 have e3 : (t + 256) ||| (q * 2 ^ 9) = t + 256 + q * 2 ^ 9 := or_add (by omega)
 have e4 : t ||| 256 = t + 256 := e2
 have e5 : (t ||| (q * 2 ^ 9)) ||| 256 = (t ||| 256) ||| (q * 2 ^ 9) := by rw [Nat.or_assoc, Nat.or_comm (q * 2 ^ 9), ← Nat.or_assoc]
 rw [e1, e4, e3] at e5
 exact e5
theorem and_mask {m k : Nat} (h : m < 18446744073709551616) (hk : k ≤ 63) : bits .and .u64 (m : Int) ((2 ^ k - 1 : Nat) : Int) = ((m % 2 ^ k : Nat) : Int) := by
 have : 2 ^ k - 1 < 18446744073709551616 := by
  have := Nat.pow_le_pow_right (show 0 < 2 by decide) hk
  have e : 2 ^ 63 = 9223372036854775808 := rfl
  omega
 rw [bits_and_u64_nat m _ h this, Nat.and_two_pow_sub_one_eq_mod]
theorem and255 {m : Nat} (h : m < 18446744073709551616) : bits .and .u64 (m : Int) 255 = ((m % 256 : Nat) : Int) := and_mask (k := 8) h (by omega)
theorem and8191 {m : Nat} (h : m < 18446744073709551616) : bits .and .u64 (m : Int) 8191 = ((m % 8192 : Nat) : Int) := and_mask (k := 13) h (by omega)
theorem and1 {m : Nat} (h : m < 18446744073709551616) : bits .and .u64 (m : Int) 1 = ((m % 2 : Nat) : Int) := and_mask (k := 1) h (by omega)
theorem and20 {m : Nat} (h : m < 18446744073709551616) : bits .and .u64 (m : Int) 1048575 = ((m % 1048576 : Nat) : Int) := and_mask (k := 20) h (by omega)
theorem and32 {m : Nat} (h : m < 18446744073709551616) : bits .and .u64 (m : Int) 4294967295 = ((m % 4294967296 : Nat) : Int) := and_mask (k := 32) h (by omega)
theorem shr9 {m : Nat} : (m : Int).fdiv (2 ^ min 9 IntKind.u64.bits) = ((m / 512 : Nat) : Int) := shr_nat' (b := 9) (by omega)
theorem shr8 {m : Nat} : (m : Int).fdiv (2 ^ min 8 IntKind.u64.bits) = ((m / 256 : Nat) : Int) := shr_nat' (b := 8) (by omega)
theorem shr22 {m : Nat} : (m : Int).fdiv (2 ^ min 22 IntKind.u64.bits) = ((m / 4194304 : Nat) : Int) := shr_nat' (b := 22) (by omega)
theorem shr35 {m : Nat} : (m : Int).fdiv (2 ^ min 35 IntKind.u64.bits) = ((m / 34359738368 : Nat) : Int) := shr_nat' (b := 35) (by omega)
theorem shr32 {m : Nat} : (m : Int).fdiv (2 ^ min 32 IntKind.u64.bits) = ((m / 4294967296 : Nat) : Int) := shr_nat' (b := 32) (by omega)
theorem shl_nat {m k : Nat} (hk : k ≤ 64) (h : m * 2 ^ k < 18446744073709551616) : IntKind.u64.wrap ((m : Int) * 2 ^ min k IntKind.u64.bits) = ((m * 2 ^ k : Nat) : Int) := by
 have e : min k IntKind.u64.bits = k := by simp [IntKind.bits]; omega
 rw [e, show (m : Int) * 2 ^ k = ((m * 2 ^ k : Nat) : Int) by simp]
 exact wru64 (by omega) (by omega)
theorem wruN {m : Nat} (h : m < 18446744073709551616) : IntKind.u64.wrap (m : Int) = (m : Int) := wru64 (by omega) (by omega)
theorem wrN {m : Nat} (h : m < 9223372036854775808) : IntKind.i64.wrap (m : Int) = (m : Int) := wr64 (by omega) (by omega)
theorem pack_bits {d : Hd} (ho : d.ok) : bits .or .u64 (bits .or .u64 (bits .or .u64 (IntKind.u64.wrap d.tag) (IntKind.u64.wrap (IntKind.u64.wrap d.refs * 2 ^ min 9 IntKind.u64.bits))) (IntKind.u64.wrap (IntKind.u64.wrap d.size * 2 ^ min 22 IntKind.u64.bits))) (IntKind.u64.wrap (IntKind.u64.wrap d.owner * 2 ^ min 35 IntKind.u64.bits)) = ((d.tag + d.refs * 512 + d.size * 4194304 + d.owner * 34359738368 : Nat) : Int) := by
 obtain ⟨o1, o2, o3, o4⟩ := ho
 rw [wruN (by omega), wruN (m := d.refs) (by omega), wruN (m := d.size) (by omega), wruN (m := d.owner) (by omega)]
 rw [shl_nat (by omega) (by omega), shl_nat (by omega) (by omega), shl_nat (by omega) (by omega)]
 rw [bits_or_u64_nat _ _ (by omega) (by omega), or_add (by omega)]
 rw [bits_or_u64_nat _ _ (by omega) (by omega), or_add (by omega)]
 rw [bits_or_u64_nat _ _ (by omega) (by omega), or_add (by omega)]
theorem pack_mark {d : Hd} (ho : d.ok) : bits .or .u64 ((d.tag + d.refs * 512 + d.size * 4194304 + d.owner * 34359738368 : Nat) : Int) 256 = ((d.tag + 256 + d.refs * 512 + d.size * 4194304 + d.owner * 34359738368 : Nat) : Int) := by
 obtain ⟨o1, o2, o3, o4⟩ := ho
 have := bits_or_u64_nat (d.tag + d.refs * 512 + d.size * 4194304 + d.owner * 34359738368) 256 (by omega) (by omega)
 rw [show ((256 : Nat) : Int) = 256 from rfl] at this
 rw [this]
 have e := or_mark (t := d.tag) (q := d.refs + d.size * 8192 + d.owner * 67108864) o1
 rw [show d.tag + d.refs * 512 + d.size * 4194304 + d.owner * 34359738368 = d.tag + (d.refs + d.size * 8192 + d.owner * 67108864) * 512 by omega, e]
 congr 1; omega
theorem packF {d : Hd} (ho : d.ok) (hm : d.mark = false) : bits .or .u64 (bits .or .u64 (bits .or .u64 (IntKind.u64.wrap d.tag) (IntKind.u64.wrap (IntKind.u64.wrap d.refs * 2 ^ min 9 IntKind.u64.bits))) (IntKind.u64.wrap (IntKind.u64.wrap d.size * 2 ^ min 22 IntKind.u64.bits))) (IntKind.u64.wrap (IntKind.u64.wrap d.owner * 2 ^ min 35 IntKind.u64.bits)) = ((packN d : Nat) : Int) := by
 rw [pack_bits ho]
 refine congrArg _ ?_
 unfold packN
 rw [hm]
 simp only [Bool.false_eq_true, if_false]
 omega
theorem packT {d : Hd} (ho : d.ok) (hm : d.mark = true) : bits .or .u64 (bits .or .u64 (bits .or .u64 (bits .or .u64 (IntKind.u64.wrap d.tag) (IntKind.u64.wrap (IntKind.u64.wrap d.refs * 2 ^ min 9 IntKind.u64.bits))) (IntKind.u64.wrap (IntKind.u64.wrap d.size * 2 ^ min 22 IntKind.u64.bits))) (IntKind.u64.wrap (IntKind.u64.wrap d.owner * 2 ^ min 35 IntKind.u64.bits))) 256 = ((packN d : Nat) : Int) := by
 rw [pack_bits ho, pack_mark ho]
 refine congrArg _ ?_
 unfold packN
 rw [hm]
 simp only [if_true]
def bitB (bg : Nat → Nat) (a : Nat) : Bool := bg (a / 64) / 2 ^ (a % 64) % 2 == 1
theorem bitB_test (bg : Nat → Nat) (a : Nat) : bitB bg a = (bg (a / 64)).testBit (a % 64) := by
 unfold bitB
 rw [Nat.testBit_eq_decide_div_mod_eq]
 rw [Bool.eq_iff_iff]; simp
theorem bitB_set (bg : Nat → Nat) (a b : Nat) : bitB (updN bg (a / 64) (bg (a / 64) ||| 2 ^ (a % 64))) b = (decide (b = a) || bitB bg b) := by
 rw [bitB_test, bitB_test]
 by_cases e : b / 64 = a / 64
 ·rw [e, updN_same, Nat.testBit_or, Nat.testBit_two_pow]
  by_cases e2 : b = a
  ·subst e2; simp
  ·have : ¬ (a % 64 = b % 64) := by omega
   simp [e2, this]
 ·rw [updN_ne _ _ e]
  have : b ≠ a := by intro h; subst h; exact e rfl
  simp [this]
end Go.Tm
