/- The logic, third part: memory that stays; plain values in memory. -/
/- Merged by a program of ours: L2 L3. -/
import Derived.Test.YthdgobcpefcolaaGreatDoorG09
set_option maxRecDepth 10000
set_option linter.all false
set_option linter.unusedSimpArgs false
set_option linter.unusedVariables false
/- The logic, second part: its rules as equations. -/
namespace Go.Tm
section
variable {E : Env} {Q : XCont} {tm : Tr Value} {h : Heap}

theorem wpc_skip : wpc E .skip Q tm h = Q .normal tm h := rfl
theorem wpc_label {l : Nat} : wpc E (.label l) Q tm h = Q .normal tm h := rfl
theorem wpc_ret : wpc E .ret Q tm h = Q .ret tm h := rfl
theorem wpc_exit {i : Nat} : wpc E (.exit i) Q tm h = Q (.exit i) tm h := rfl
theorem wpc_goto {i : Nat} : wpc E (.goto i) Q tm h = Q (.goto i) tm h := rfl
theorem wpc_seq {a b : Code} : wpc E (.seq a b) Q tm h = wpc E a (kseq (wpc E b Q) Q) tm h := rfl
theorem wpc_cond {c : Operand} {x y : Code} : wpc E (.cond c x y) Q tm h = kif E (opd tm c) (wpc E x) (wpc E y) Q tm h := rfl
theorem wpc_block {i : Nat} {b : Code} : wpc E (.block i b) Q tm h = wpc E b (kblock i Q) tm h := rfl
theorem wpc_region {i : Nat} {ops : Array Oper} : wpc E (.region i ops false) Q tm h = wpo E ops.toList ops.toList (Q .normal) tm h := rfl
theorem wpc_draw {i : Nat} {ops : Array Oper} : wpc E (.region i ops true) Q tm h = wdraw E ops.toList (Q .normal) tm h := rfl
theorem kseq_normal {R : Cont} : kseq R Q .normal tm h = R tm h := rfl
theorem kseq_ret {R : Cont} : kseq R Q .ret tm h = Q .ret tm h := rfl
theorem kseq_exit {R : Cont} {i : Nat} : kseq R Q (.exit i) tm h = Q (.exit i) tm h := rfl
theorem kseq_goto {R : Cont} {i : Nat} : kseq R Q (.goto i) tm h = Q (.goto i) tm h := rfl
theorem kblock_normal {i : Nat} : kblock i Q .normal tm h = Q .normal tm h := rfl
theorem kblock_ret {i : Nat} : kblock i Q .ret tm h = Q .ret tm h := rfl
theorem kblock_exit {i j : Nat} : kblock i Q (.exit j) tm h = if j = i then Q .normal tm h else Q (.exit j) tm h := rfl
theorem kblock_goto {i j : Nat} : kblock i Q (.goto j) tm h = Q (.goto j) tm h := rfl
theorem kloop_normal {I : Nat → Cont} {n : Nat} : kloop I n Q .normal tm h = ∃ m, m < n ∧ I m tm h := rfl
theorem kloop_ret {I : Nat → Cont} {n : Nat} : kloop I n Q .ret tm h = Q .ret tm h := rfl
theorem kloop_exit {I : Nat → Cont} {n i : Nat} : kloop I n Q (.exit i) tm h = Q (.exit i) tm h := rfl
theorem kloop_goto {I : Nat → Cont} {n i : Nat} : kloop I n Q (.goto i) tm h = Q (.goto i) tm h := rfl
theorem kscope_normal {b : Code} {I : Nat → Code → Cont} {n : Nat} : kscope b I n Q .normal tm h = Q .normal tm h := rfl
theorem kscope_ret {b : Code} {I : Nat → Code → Cont} {n : Nat} : kscope b I n Q .ret tm h = Q .ret tm h := rfl
theorem kscope_exit {b : Code} {I : Nat → Code → Cont} {n i : Nat} : kscope b I n Q (.exit i) tm h = Q (.exit i) tm h := rfl
theorem kscope_goto {b : Code} {I : Nat → Code → Cont} {n l : Nat} : kscope b I n Q (.goto l) tm h = ∃ m c, m < n ∧ findLabel b l = some c ∧ I m c tm h := rfl
theorem kif_true {x y : XCont → Cont} : kif E (.bool true) x y Q tm h = x Q tm h := rfl
theorem kif_false {x y : XCont → Cont} : kif E (.bool false) x y Q tm h = y Q tm h := rfl
theorem kif_split {x y : XCont → Cont} {b : Bool} (h1 : b = true → x Q tm h) (h2 : b = false → y Q tm h) : kif E (.bool b) x y Q tm h := by
  cases b
  · exact h2 rfl
  · exact h1 rfl
end

section
variable {E : Env} {O l : List Oper} {Q : Cont} {tm : Tr Value} {h : Heap} {K : Value → Heap → Prop} {ty : TypeId} {pos : String} {aft : Array Edge}

/-- What goes on at a guard. -/
def kguard (v : Value) (want : Bool) (A B : Cont) : Cont := fun tm h =>
  match v with
  | .bool b => (b = want → A tm h) ∧ (b = !want → B tm h)
  | _ => B tm h

def gval (O : List Oper) (j : Nat) (tm : Tr Value) : Value :=
  match (O[j]?).bind (·.dst) with
  | some d => fget tm d
  | none => undef

def wop1 (E : Env) (op : Op) (d : Option Nat) (R : Cont) : Cont := fun tm h => wpop E op tm h (kput tm d R)
def wskip (d : Option Nat) (R : Cont) : Cont := fun tm h => R (aput tm d undef) h

theorem wpo_nil : wpo E O [] Q tm h = Q tm h := rfl
theorem wpo_cons {d : Option Nat} {op : Op} : wpo E O (⟨d, op, ty, pos, aft, none⟩ :: l) Q tm h = wop1 E op d (wpo E O l Q) tm h := rfl
theorem wpo_guard {d : Option Nat} {op : Op} {j : Nat} {b : Bool} : wpo E O (⟨d, op, ty, pos, aft, some (j, b)⟩ :: l) Q tm h = kguard (gval O j tm) b (wop1 E op d (wpo E O l Q)) (wskip d (wpo E O l Q)) tm h := by
  simp only [wpo, kguard, awanted, gval, wop1, wskip]
  cases hj : (O[j]?).bind (·.dst) with
  | none => simp [undef]
  | some d' =>
    simp only
    cases hv : fget tm d' with
    | bool c => cases c <;> cases b <;> simp
    | _ => simp
theorem kguard_tt {A B : Cont} : kguard (.bool true) true A B tm h = A tm h := by simp [kguard]
theorem kguard_ff {A B : Cont} : kguard (.bool false) false A B tm h = A tm h := by simp [kguard]
theorem kguard_tf {A B : Cont} : kguard (.bool true) false A B tm h = B tm h := by simp [kguard]
theorem kguard_ft {A B : Cont} : kguard (.bool false) true A B tm h = B tm h := by simp [kguard]
theorem kguard_split {b want : Bool} {A B : Cont} (h1 : b = want → A tm h) (h2 : b = !want → B tm h) : kguard (.bool b) want A B tm h := ⟨h1, h2⟩
theorem kput_some {d : Nat} {R : Cont} {v : Value} : kput tm (some d) R v h = R (tm.set d (some v)) h := rfl
theorem kput_none {R : Cont} {v : Value} : kput tm none R v h = R tm h := rfl
theorem wskip_some {d : Nat} {R : Cont} : wskip (some d) R tm h = R (tm.set d (some undef)) h := rfl
theorem wskip_none {R : Cont} : wskip none R tm h = R tm h := rfl

theorem fget_set_lit {t d : Nat} {v : Value} : fget (tm.set d (some v)) t = if d = t then v else fget tm t := by
  exact fget_set _ _ _ _
theorem opd_tmp {t : Nat} : opd tm (.tmp t) = fget tm t := rfl
theorem opd_const {v : Value} : opd tm (.const v) = v := rfl
theorem opd_func {f : Nat} : opd tm (.func f) = .func (.func f) #[] #[] := rfl
theorem opd_global {g : Nat} : opd tm (.global g) = .pointer (some ⟨g, 0, none⟩) := rfl

theorem ex_some {α : Type} {a : α} {p : α → Prop} : (∃ v, some a = some v ∧ p v) ↔ p a := by simp

theorem kleave_ret {rs : List ResultVar} {K : Value → Heap → Prop} : kleave E rs K .ret tm h = ∃ l, aresults E ⟨tm, h⟩ rs = some l ∧ K (aret l) h := rfl
theorem kleave_normal {rs : List ResultVar} {K : Value → Heap → Prop} : kleave E rs K .normal tm h = ∃ l, aresults E ⟨tm, h⟩ rs = some l ∧ K (aret l) h := rfl
theorem setP_setP {α : Type} (x y : Option α) : ∀ (p : List Bool) (t : Tr α), Tr.setP y p (Tr.setP x p t) = Tr.setP y p t
  | [], t => by cases t <;> rfl
  | b :: p, t => by
    cases t with
    | leaf => cases b <;> simp [Tr.setP, setP_setP x y p]
    | node v l r => cases b <;> simp [Tr.setP, setP_setP x y p]
theorem put_push {o o' : AObj} : (h.push o).put h.next o' = h.push o' := by
  simp only [Heap.put, Heap.push, Tr.set, setP_setP]
theorem put_put {b : Nat} {o o' : AObj} : (h.put b o).put b o' = h.put b o' := by
  simp only [Heap.put, Tr.set, setP_setP]
theorem aret_one {v : Value} : aret [v] = v := rfl
theorem aret_none : aret [] = .tuple #[] := rfl
theorem aret_two {v w : Value} : aret [v, w] = .tuple #[v, w] := rfl
theorem aret_three {v w x : Value} : aret [v, w, x] = .tuple #[v, w, x] := rfl
theorem aret_four {v w x y : Value} : aret [v, w, x, y] = .tuple #[v, w, x, y] := rfl
/- Operations, each by its kind. -/
theorem wop_move {x : Operand} {d : Option Nat} {R : Cont} : wop1 E (.move x) d R tm h ↔ R (aput tm d (opd tm x)) h := by simp [wop1, wpop, kindOf, apure, kput]
theorem wop_assign {x : Operand} {d : Option Nat} {R : Cont} : wop1 E (.assign x) d R tm h ↔ R (aput tm d (opd tm x)) h := by simp [wop1, wpop, kindOf, apure, kput]
/-- Of a pure operation. -/
def kpure (o : Option Value) (d : Option Nat) (R : Cont) : Cont := fun tm h => ∃ v, o = some v ∧ R (aput tm d v) h
theorem kpure_some {v : Value} {d : Option Nat} {R : Cont} : kpure (some v) d R tm h ↔ R (aput tm d v) h := by simp [kpure]
def aput' := @aput
def anilc : Value → Option Value
  | .pointer (some a) => some (.pointer (some a))
  | .func (.func f) x y => some (.func (.func f) x y)
  | .iface t v => some (.iface t v)
  | _ => none
def apick (c a b : Value) : Option Value :=
  match c with
  | .bool t => some (if t then a else b)
  | _ => none
theorem wop_pick {c x y : Operand} {d : Option Nat} {R : Cont} : wop1 E (.pick c x y) d R tm h = kpure (apick (opd tm c) (opd tm x) (opd tm y)) d R tm h := by
  simp only [wop1, wpop, kindOf, apure, kput, kpure, apick]
  rfl
theorem wop_nilCheck {x : Operand} {d : Option Nat} {R : Cont} : wop1 E (.nilCheck x) d R tm h = kpure (anilc (opd tm x)) d R tm h := by
  simp only [wop1, wpop, kindOf, apure, kput, kpure, anilc]
  rfl
theorem wop_binOp {op : BinOp} {t t' : TypeId} {x y : Operand} {d : Option Nat} {R : Cont} : wop1 E (.binOp op t x y t') d R tm h = kpure (abin E.P (isConst x || isConst y) op t (opd tm x) (opd tm y)) d R tm h := by
  simp only [wop1, wpop, kindOf, apure, kput, kpure]
theorem wop_unOp {op : UnOp} {t : TypeId} {x : Operand} {d : Option Nat} {R : Cont} : wop1 E (.unOp op t x) d R tm h = kpure (aun op (opd tm x)) d R tm h := by
  simp only [wop1, wpop, kindOf, apure, kput, kpure]
theorem wop_makeInterface {t : TypeId} {x : Operand} {d : Option Nat} {R : Cont} : wop1 E (.makeInterface t x) d R tm h = kpure (match E.P.underlying t with
    | some (.interface _) => none
    | some _ => some (.iface t (opd tm x))
    | none => none) d R tm h := by
  simp only [wop1, wpop, kindOf, apure, kput, kpure]
  rfl
theorem wop_makeFunc {f : FuncId} {x y : Array Operand} {d : Option Nat} {R : Cont} : wop1 E (.makeFunc (.func f) x y) d R tm h = kpure (some (.func (.func f) (x.toList.map (opd tm)).toArray (y.toList.map (opd tm)).toArray)) d R tm h := by
  simp only [wop1, wpop, kindOf, apure, kput, kpure]
theorem wop_build {t : TypeId} {ps : Array (Nat × Operand)} {d : Option Nat} {R : Cont} : wop1 E (.build t ps) d R tm h = kpure (abuild E.P t (ps.toList.map fun p => (p.1, opd tm p.2))) d R tm h := by
  simp only [wop1, wpop, kindOf, apure, kput, kpure]
theorem wop_slice {t : TypeId} {x : Operand} {lo hi : Option Operand} {d : Option Nat} {R : Cont} : wop1 E (.slice t x lo hi none) d R tm h = kpure (asl E.P t (opd tm x) (lo.map (opd tm)) (hi.map (opd tm))) d R tm h := by
  simp only [wop1, wpop, kindOf, apure, kput, kpure]
theorem wop_fieldAddr {t : TypeId} {x : Operand} {f : Nat} {d : Option Nat} {R : Cont} : wop1 E (.fieldAddr t x f) d R tm h = kpure (afieldAddr E.P t (opd tm x) f) d R tm h := by
  simp only [wop1, wpop, kindOf, apure, kput, kpure]
theorem wop_field {t : TypeId} {x : Operand} {f : Nat} {d : Option Nat} {R : Cont} : wop1 E (.field t x f) d R tm h = kpure (afield E.P t (opd tm x) f) d R tm h := by
  simp only [wop1, wpop, kindOf, apure, kput, kpure]
theorem wop_indexAddr {t : TypeId} {x i : Operand} {d : Option Nat} {R : Cont} : wop1 E (.indexAddr t x i) d R tm h = kpure (aindexAddr E.P t (opd tm x) (opd tm i)) d R tm h := by
  simp only [wop1, wpop, kindOf, apure, kput, kpure]
theorem wop_index {t : TypeId} {x i : Operand} {d : Option Nat} {R : Cont} : wop1 E (.index t x i) d R tm h = kpure (aindex E.P t (opd tm x) (opd tm i)) d R tm h := by
  simp only [wop1, wpop, kindOf, apure, kput, kpure]
theorem wop_extract {x : Operand} {i : Nat} {d : Option Nat} {R : Cont} : wop1 E (.extract x i) d R tm h = kpure (aextract (opd tm x) i) d R tm h := by
  simp only [wop1, wpop, kindOf, apure, kput, kpure]
theorem wop_max {as : Array Operand} {ts : Array TypeId} {d : Option Nat} {R : Cont} : wop1 E (.call ⟨.builtin .max, as, ts⟩) d R tm h = kpure (amm fmax (as.toList.map (opd tm))) d R tm h := by
  simp only [wop1, wpop, kindOf, apure, kput, kpure]
theorem wop_min {as : Array Operand} {ts : Array TypeId} {d : Option Nat} {R : Cont} : wop1 E (.call ⟨.builtin .min, as, ts⟩) d R tm h = kpure (amm fmin (as.toList.map (opd tm))) d R tm h := by
  simp only [wop1, wpop, kindOf, apure, kput, kpure]
/-- The types of which this is asked are no maps. -/
theorem wop_len {x : Operand} {t : TypeId} {d : Option Nat} {R : Cont} {u : TypeDesc} (hu : E.P.underlying t = some u) (hm : (match u with | .map _ _ => false | _ => true) = true) : wop1 E (.call ⟨.builtin .len, #[x], #[t]⟩) d R tm h = kpure (alen E.P t (opd tm x)) d R tm h := by
  cases u <;> first | (simp only [wop1, wpop, kindOf, apure, kput, kpure, hu]; done) | cases hm
theorem wop_convert {s t : TypeId} {x : Operand} {d : Option Nat} {R : Cont} {u : TypeDesc} (hu : E.P.underlying s = some u) (hm : (match u with | .slice _ => false | _ => true) = true) : wop1 E (.convert s t x) d R tm h = kpure (aconv E.P s t (opd tm x)) d R tm h := by
  cases u <;> first | (simp only [wop1, wpop, kindOf, apure, kput, kpure, hu]; done) | cases hm
/-- A text out of bytes. -/
theorem wop_convertB {s t e : TypeId} {x : Operand} {d : Option Nat} {R : Cont} (hu : E.P.underlying s = some (.slice e)) : wop1 E (.convert s t x) d R tm h = kpure (aread E h (opd tm) (.convert s t x)) d R tm h := by
  simp only [wop1, wpop, kindOf, kput, kpure, hu]
theorem wop_load {t : TypeId} {x : Operand} {d : Option Nat} {R : Cont} : wop1 E (.load t x) d R tm h = kpure (aload E h t (opd tm x)) d R tm h := by
  simp only [wop1, wpop, kindOf, aread, kput, kpure]
theorem wop_lookup {t : TypeId} {x i : Operand} {ok : Bool} {d : Option Nat} {R : Cont} : wop1 E (.lookup t x i ok) d R tm h = kpure (alookup E h t (opd tm x) (opd tm i) ok) d R tm h := by
  simp only [wop1, wpop, kindOf, aread, kput, kpure]
/-- Of new memory. -/
def kalloc (o : Option ((Nat → Value) × AObj)) (d : Option Nat) (R : Cont) : Cont := fun tm h => ∃ p, o = some p ∧ R (aput tm d (p.1 h.next)) (h.push p.2)
theorem kalloc_some {p : Nat → Value} {o : AObj} {d : Option Nat} {R : Cont} : kalloc (some (p, o)) d R tm h ↔ R (aput tm d (p h.next)) (h.push o) := by simp [kalloc]
theorem wop_alloc {t : TypeId} {d : Option Nat} {R : Cont} : wop1 E (.alloc t) d R tm h = kalloc (aalloc E.P (opd tm) (.alloc t)) d R tm h := by simp only [wop1, wpop, kindOf, kput, kalloc]
theorem wop_box {t : TypeId} {x : Operand} {d : Option Nat} {R : Cont} : wop1 E (.box t x) d R tm h ↔ R (aput tm d (.pointer (some ⟨h.next, 0, none⟩))) (h.push (.cells (vcells (opd tm x)) t true)) := by simp [wop1, wpop, kindOf, kput, aalloc]
def abs1 (P : Program) (t : TypeId) (len : Nat) (parts : List (Nat × Value)) : Option ((Nat → Value) × AObj) :=
  match P.underlying t with
  | some (.slice e) =>
    match asz P e, azero P e with
    | some (size + 1), some z =>
      if len * (size + 1) ≤ 16777216 ∧ (vcells z).length = size + 1 then
        (afill (fun i => some (i * (size + 1), size + 1)) (arep len (vcells z)) parts).map fun l =>
          (fun b => .slice (some ⟨b, 0, none⟩) len len, .cells l e true)
      else none
    | _, _ => none
  | _ => none
def amk (P : Program) (t : TypeId) (l c : Value) : Option ((Nat → Value) × AObj) :=
  match P.underlying t, l, c with
  | some (.slice e), .int _ l, .int _ c =>
    match P.info? e, azero P e with
    | some i, some z =>
      if 0 ≤ l ∧ l ≤ c ∧ c ≤ 9223372036854775807 ∧ (i.bytes : Int) * c ≤ 281474976710656 ∧ (vcells z).length = i.size ∧ 0 < i.size then
        some (fun b => .slice (some ⟨b, 0, none⟩) l.toNat c.toNat, .cells (arep c.toNat (vcells z)) e true)
      else none
    | _, _ => none
  | _, _, _ => none
theorem wop_buildSlice {t : TypeId} {n : Nat} {ps : Array (Nat × Operand)} {d : Option Nat} {R : Cont} : wop1 E (.buildSlice t n ps) d R tm h = kalloc (abs1 E.P t n (ps.toList.map fun p => (p.1, opd tm p.2))) d R tm h := by simp only [wop1, wpop, kindOf, kput, kalloc]; rfl
theorem wop_makeSlice {t : TypeId} {x y : Operand} {d : Option Nat} {R : Cont} : wop1 E (.makeSlice t x y) d R tm h = kalloc (amk E.P t (opd tm x) (opd tm y)) d R tm h := by simp only [wop1, wpop, kindOf, kput, kalloc]; rfl
theorem wop_makeMap {t : TypeId} {d : Option Nat} {R : Cont} : wop1 E (.makeMap t none) d R tm h ↔ R (aput tm d (.map (some h.next))) (h.push (.map [] 0)) := by simp [wop1, wpop, kindOf, kput, aalloc]
theorem wop_range {t : TypeId} {x : Operand} {d : Option Nat} {R : Cont} : wop1 E (.range t x) d R tm h = kalloc (aalloc E.P (opd tm) (.range t x)) d R tm h := by simp only [wop1, wpop, kindOf, kput, kalloc]
/-- Of what writes. -/
def kwr (o : Option Heap) (v : Value) (d : Option Nat) (R : Cont) : Cont := fun tm _ => ∃ h', o = some h' ∧ R (aput tm d v) h'
theorem kwr_some {h' : Heap} {v : Value} {d : Option Nat} {R : Cont} : kwr (some h') v d R tm h ↔ R (aput tm d v) h' := by simp [kwr]
def kwv (o : Option (Value × Heap)) (d : Option Nat) (R : Cont) : Cont := fun tm _ => ∃ p, o = some p ∧ R (aput tm d p.1) p.2
theorem kwv_some {h' : Heap} {v : Value} {d : Option Nat} {R : Cont} : kwv (some (v, h')) d R tm h ↔ R (aput tm d v) h' := by simp [kwv]
theorem wop_store {t : TypeId} {a x : Operand} {d : Option Nat} {R : Cont} : wop1 E (.store t a x) d R tm h ↔ kwr (astore E h t (opd tm a) (opd tm x)) undef d R tm h := by
  simp only [wop1, wpop, kindOf, aeff, kput, kwr, Option.map_eq_some_iff]
  constructor
  · rintro ⟨r, ⟨h', h1, rfl⟩, h2⟩; exact ⟨h', h1, h2⟩
  · rintro ⟨h', h1, h2⟩; exact ⟨_, ⟨h', h1, rfl⟩, h2⟩
theorem wop_mapUpdate {t : TypeId} {m k x : Operand} {d : Option Nat} {R : Cont} : wop1 E (.mapUpdate t m k x) d R tm h ↔ kwr (aupdate E h t (opd tm m) (opd tm k) (opd tm x)) undef d R tm h := by
  simp only [wop1, wpop, kindOf, aeff, kput, kwr, Option.map_eq_some_iff]
  constructor
  · rintro ⟨r, ⟨h', h1, rfl⟩, h2⟩; exact ⟨h', h1, h2⟩
  · rintro ⟨h', h1, h2⟩; exact ⟨_, ⟨h', h1, rfl⟩, h2⟩
theorem wop_clear {x : Operand} {t : TypeId} {d : Option Nat} {R : Cont} : wop1 E (.call ⟨.builtin .clear, #[x], #[t]⟩) d R tm h ↔ kwr (aclear E h t (opd tm x)) (.tuple #[]) d R tm h := by
  simp only [wop1, wpop, kindOf, aeff, kput, kwr, Option.map_eq_some_iff]
  constructor
  · rintro ⟨r, ⟨h', h1, rfl⟩, h2⟩; exact ⟨h', h1, h2⟩
  · rintro ⟨h', h1, h2⟩; exact ⟨_, ⟨h', h1, rfl⟩, h2⟩
theorem wop_next {x : Operand} {s : Bool} {d : Option Nat} {R : Cont} : wop1 E (.next x s) d R tm h ↔ kwv (anext h (opd tm x) s) d R tm h := by
  simp only [wop1, wpop, kindOf, aeff, kput, kwv, Option.map_eq_some_iff]
  constructor
  · rintro ⟨r, ⟨h', h1, rfl⟩, h2⟩; exact ⟨h', h1, h2⟩
  · rintro ⟨h', h1, h2⟩; exact ⟨_, ⟨h', h1, rfl⟩, h2⟩
theorem wop_append {s x : Operand} {t t1 : TypeId} {d : Option Nat} {R : Cont} : wop1 E (.call ⟨.builtin .append, #[s, x], #[t, t1]⟩) d R tm h ↔ kwv (aappend E h t t1 (opd tm s) (opd tm x)) d R tm h := by
  simp only [wop1, wpop, kindOf, aeff, kput, kwv, Option.map_eq_some_iff]
  constructor
  · rintro ⟨r, ⟨h', h1, rfl⟩, h2⟩; exact ⟨h', h1, h2⟩
  · rintro ⟨h', h1, h2⟩; exact ⟨_, ⟨h', h1, rfl⟩, h2⟩
theorem wop_copy {s x : Operand} {t t1 : TypeId} {d : Option Nat} {R : Cont} : wop1 E (.call ⟨.builtin .copy, #[s, x], #[t, t1]⟩) d R tm h ↔ kwv (acopy E h t (opd tm s) (opd tm x)) d R tm h := by
  simp only [wop1, wpop, kindOf, aeff, kput, kwv, Option.map_eq_some_iff]
  constructor
  · rintro ⟨r, ⟨h', h1, rfl⟩, h2⟩; exact ⟨h', h1, h2⟩
  · rintro ⟨h', h1, h2⟩; exact ⟨_, ⟨h', h1, rfl⟩, h2⟩
/-- A call of a function that stands in the text. -/
theorem wop_call {f : FuncId} {as : Array Operand} {ts : Array TypeId} {d : Option Nat} {R : Cont} : wop1 E (.call ⟨.value (.func f), as, ts⟩) d R tm h ↔ CallsTo E f (as.toList.map (opd tm)) h (kput tm d R) := by
  simp [wop1, wpop, kindOf, aeff, opd]
/-- A call of a value. -/
def kcall (E : Env) (v : Value) (as : List Value) (d : Option Nat) (R : Cont) : Cont := fun tm h =>
  match v with
  | .func (.func g) x y => CallsTo E g (x.toList ++ as ++ y.toList) h (kput tm d R)
  | _ => False
theorem wop_callv {x : Nat} {as : Array Operand} {ts : Array TypeId} {d : Option Nat} {R : Cont} : wop1 E (.call ⟨.value (.tmp x), as, ts⟩) d R tm h ↔ kcall E (fget tm x) (as.toList.map (opd tm)) d R tm h := by
  simp only [wop1, wpop, kindOf, aeff, opd, kcall]
  cases hv : fget tm x with
  | func f y z => cases f <;> simp
  | _ => simp
theorem kcall_func {g : FuncId} {x y : Array Value} {as : List Value} {d : Option Nat} {R : Cont} : kcall E (.func (.func g) x y) as d R tm h = CallsTo E g (x.toList ++ as ++ y.toList) h (kput tm d R) := rfl
end
end Go.Tm
namespace Go.Tm

/-- The abstract heap is in order. -/
structure WF (E : Env) (h : Heap) : Prop where
  base : E.base ≤ h.next
  live : ∀ b o, h.get b = some o → E.base ≤ b ∧ b < h.next

/-- What there was is as it was. -/
structure Keep (h h' : Heap) : Prop where
  get : ∀ b o, h.get b = some o → h'.get b = some o
  next : h.next ≤ h'.next

theorem Keep.refl (h : Heap) : Keep h h := ⟨fun _ _ x => x, Nat.le_refl _⟩
theorem Keep.trans {h h1 h2 : Heap} (a : Keep h h1) (b : Keep h1 h2) : Keep h h2 := ⟨fun x o y => b.get x o (a.get x o y), Nat.le_trans a.next b.next⟩
theorem Keep.push {E : Env} {h h1 : Heap} {o : AObj} (hw : WF E h1) (a : Keep h h1) : Keep h (h1.push o) := ⟨fun x p y => by
  have := a.get x p y
  rw [get_push, if_neg (by have := (hw.live x p this).2; omega)]; exact this, by have := a.next; simp; omega⟩
theorem WF.push {E : Env} {h : Heap} (hw : WF E h) (o : AObj) : WF E (h.push o) := ⟨by have := hw.base; simp; omega, fun b p hb => by
  rw [get_push] at hb
  by_cases e : h.next = b
  · subst e; exact ⟨hw.base, by simp⟩
  · rw [if_neg e] at hb
    obtain ⟨h1, h2⟩ := hw.live b p hb
    exact ⟨h1, by simp; omega⟩⟩
theorem WF.put {E : Env} {h : Heap} (hw : WF E h) {b : Nat} {o o' : AObj} (hb : h.get b = some o') : WF E (h.put b o) := ⟨hw.base, fun j p hj => by
  rw [get_put] at hj
  by_cases e : b = j
  · subst e; exact hw.live _ _ hb
  · rw [if_neg e] at hj; exact hw.live _ _ hj⟩
theorem WF.kill {E : Env} {h : Heap} (hw : WF E h) {b : Nat} : WF E (h.kill b) := ⟨hw.base, fun j p hj => by
  rw [get_kill] at hj
  by_cases e : b = j
  · simp [e] at hj
  · rw [if_neg e] at hj; exact hw.live _ _ hj⟩
theorem WF.nb {E : Env} {h : Heap} (hw : WF E h) (k : Nat) : (h.next + k < E.base) = False := by have := hw.base; simp; omega
theorem WF.nb0 {E : Env} {h : Heap} (hw : WF E h) : (h.next < E.base) = False := by have := hw.base; simp; omega
theorem WF.ne {E : Env} {h : Heap} (hw : WF E h) {b : Nat} {o : AObj} (hb : h.get b = some o) : (h.next = b) = False := by have := (hw.live b o hb).2; simp; omega
theorem WF.nlt {E : Env} {h : Heap} (hw : WF E h) {b : Nat} {o : AObj} (hb : h.get b = some o) : (b < E.base) = False := by have := (hw.live b o hb).1; simp; omega

/-- Memory that stays as it is: blocks of cells. -/
abbrev Mem := Nat → Option (List Value)
def gcells (E : Env) (G : Mem) (a : Addr) (n : Nat) : Option (List Value) :=
  if a.block < E.base then acells E ⟨0, .leaf⟩ a n else
  match a.spot with
  | some _ => none
  | none => match G a.block with
    | some c => if a.off + n ≤ c.length then some ((c.drop a.off).take n) else none
    | none => none
def Frz (_E : Env) (G : Mem) (h : Heap) : Prop := ∀ b c, G b = some c → ∃ e fx, h.get b = some (.cells c e fx)
def Sub (G G' : Mem) : Prop := ∀ b c, G b = some c → G' b = some c
theorem Sub.refl (G : Mem) : Sub G G := fun _ _ h => h
theorem Sub.trans {G G1 G2 : Mem} (a : Sub G G1) (b : Sub G1 G2) : Sub G G2 := fun x c h => b x c (a x c h)
theorem Frz.keep {E : Env} {G : Mem} {h h' : Heap} (f : Frz E G h) (k : Keep h h') : Frz E G h' := fun b c hb => by
  obtain ⟨e, fx, hh⟩ := f b c hb
  exact ⟨e, fx, k.get _ _ hh⟩
theorem Frz.none (E : Env) (h : Heap) : Frz E (fun _ => Option.none) h := fun _ _ h => by cases h
theorem gcells_acells {E : Env} {G : Mem} {h : Heap} (f : Frz E G h) {a : Addr} {n : Nat} {l : List Value} (hg : gcells E G a n = some l) : acells E h a n = some l := by
  unfold gcells at hg
  split at hg
  · rename_i hb
    unfold acells at hg ⊢
    split
    · rename_i hs; simp [hs] at hg
    · rename_i hs; simp only [hs, if_pos hb] at hg ⊢; exact hg
  · rename_i hb
    split at hg
    · cases hg
    · rename_i hs
      unfold acells
      simp only [hs, if_neg hb]
      split at hg
      · rename_i c hc
        obtain ⟨e, fx, hh⟩ := f _ _ hc
        simp only [hh]; exact hg
      · cases hg
theorem gcells_sub {E : Env} {G G' : Mem} (s : Sub G G') {a : Addr} {n : Nat} {l : List Value} (hg : gcells E G a n = some l) : gcells E G' a n = some l := by
  unfold gcells at hg ⊢
  split
  · rename_i hb; rw [if_pos hb] at hg; exact hg
  · rename_i hb
    rw [if_neg hb] at hg
    split at hg
    · cases hg
    · split at hg
      · rename_i c hc
        simp only [s _ _ hc]; exact hg
      · cases hg
/-- Of a stretch each part. -/
theorem gcells_part {E : Env} {G : Mem} {a : Addr} {n : Nat} {l : List Value} (hg : gcells E G a n = some l) {i m : Nat} (h : i + m ≤ n) : gcells E G ⟨a.block, a.off + i, none⟩ m = some ((l.drop i).take m) := by
  have key : ∀ c : List Value, a.off + n ≤ c.length → (c.drop (a.off + i)).take m = (((c.drop a.off).take n).drop i).take m := by
    intro c hc
    rw [List.drop_take, List.drop_drop, List.take_take, Nat.min_eq_left (by omega)]
  unfold gcells at hg ⊢
  split at hg
  · rename_i hb
    simp only [if_pos hb]
    unfold acells at hg ⊢
    split at hg
    · cases hg
    · simp only [if_pos hb] at hg ⊢
      split at hg
      · rename_i c e fr hro
        split at hg
        · rename_i hc
          injection hg with hg; subst hg
          have hk := key c.toList (by simpa using hc.1)
          rw [← List.map_drop, ← List.map_take, ← hk, if_pos]
          refine ⟨by omega, ?_⟩
          rw [hk, List.all_eq_true]
          intro v hv
          exact (List.all_eq_true.1 hc.2) v (List.mem_of_mem_drop (List.mem_of_mem_take hv))
        · cases hg
      · cases hg
  · rename_i hb
    simp only [if_neg hb]
    split at hg
    · cases hg
    · split at hg
      · rename_i c hc
        split at hg
        · rename_i hle
          injection hg with hg; subst hg
          rw [if_pos (by omega), key c hle]
        · cases hg
      · cases hg
theorem gcells_len {E : Env} {G : Mem} {a : Addr} {n : Nat} {l : List Value} (hg : gcells E G a n = some l) : l.length = n ∧ a.spot = none := by
  unfold gcells at hg
  split at hg
  · rename_i hb
    unfold acells at hg
    split at hg
    · cases hg
    · rename_i hs
      simp only [if_pos hb] at hg
      split at hg
      · rename_i c e fr hro
        split at hg
        · rename_i hc
          injection hg with hg; subst hg
          have := hc.1
          exact ⟨by simp; omega, hs⟩
        · cases hg
      · cases hg
  · split at hg
    · cases hg
    · rename_i hs
      split at hg
      · split at hg
        · injection hg with hg; subst hg
          exact ⟨by simp; omega, hs⟩
        · cases hg
      · cases hg

/- Plain values. -/
inductive Vl where
  | mk (k n : Int) (s : ByteArray) (l : List Vl) (f : List (ByteArray × Vl))

def Vl.k : Vl → Int | .mk k _ _ _ _ => k
def Vl.n : Vl → Int | .mk _ n _ _ _ => n
def Vl.s : Vl → ByteArray | .mk _ _ s _ _ => s
def Vl.l : Vl → List Vl | .mk _ _ _ l _ => l
def Vl.f : Vl → List (ByteArray × Vl) | .mk _ _ _ _ f => f

/-- A slice's value of n elements of z cells, whose cells are these. -/
def Sl (E : Env) (G : Mem) (z n : Nat) (cs : List Value) (v : Value) : Prop :=
  ∃ a c, v = .slice a n c ∧ n ≤ c ∧ c ≤ 9223372036854775807 ∧ ((a = none → c = 0) ∧ ∀ b, a = some b → b.block < E.base ∨ ∃ g, G b.block = some g) ∧ ((n = 0 ∧ cs = []) ∨ ∃ b, a = some b ∧ gcells E G b (n * z) = some cs)

mutual
def Rep (E : Env) (G : Mem) : Vl → List Value → Prop
  | .mk k n s l f, c => ∃ sl sf cl cf, c = [.int .i64 k, .int .i64 n, .string s, sl, sf] ∧ Sl E G 5 l.length cl sl ∧ Sl E G 6 f.length cf sf ∧ RepLs E G l cl ∧ RepFs E G f cf ∧
      (s.size ≤ 140737488355328 ∧ l.length * 80 ≤ 140737488355328 ∧ f.length * 96 ≤ 140737488355328) ∧ (-9223372036854775808 ≤ k ∧ k ≤ 9223372036854775807) ∧ (-9223372036854775808 ≤ n ∧ n ≤ 9223372036854775807)
def RepLs (E : Env) (G : Mem) : List Vl → List Value → Prop
  | [], c => c = []
  | v :: l, c => ∃ c1 c2, c = c1 ++ c2 ∧ Rep E G v c1 ∧ RepLs E G l c2
def RepFs (E : Env) (G : Mem) : List (ByteArray × Vl) → List Value → Prop
  | [], c => c = []
  | (nm, v) :: l, c => ∃ c1 c2, c = .string nm :: c1 ++ c2 ∧ Rep E G v c1 ∧ RepFs E G l c2 ∧ nm.size ≤ 140737488355328
end

theorem Rep.len {E : Env} {G : Mem} {V : Vl} {c : List Value} (h : Rep E G V c) : c.length = 5 := by
  cases V
  unfold Rep at h
  obtain ⟨_, _, _, _, rfl, _⟩ := h
  rfl
theorem RepLs.len {E : Env} {G : Mem} : ∀ {l : List Vl} {c : List Value}, RepLs E G l c → c.length = l.length * 5
  | [], c, h => by unfold RepLs at h; subst h; rfl
  | v :: l, c, h => by
    unfold RepLs at h
    obtain ⟨c1, c2, rfl, h1, h2⟩ := h
    have := h1.len; have := h2.len
    simp; omega
theorem RepFs.len {E : Env} {G : Mem} : ∀ {l : List (ByteArray × Vl)} {c : List Value}, RepFs E G l c → c.length = l.length * 6
  | [], c, h => by unfold RepFs at h; subst h; rfl
  | (nm, v) :: l, c, h => by
    unfold RepFs at h
    obtain ⟨c1, c2, rfl, h1, h2, _⟩ := h
    have := h1.len; have := h2.len
    simp; omega
theorem RepLs.at {E : Env} {G : Mem} : ∀ {l : List Vl} {c : List Value}, RepLs E G l c → ∀ (i : Nat) (v : Vl), l[i]? = some v → Rep E G v ((c.drop (i * 5)).take 5)
  | [], c, _, i, v, hv => by simp at hv
  | x :: l, c, h, i, v, hv => by
    unfold RepLs at h
    obtain ⟨c1, c2, rfl, h1, h2⟩ := h
    have e := h1.len
    cases i with
    | zero =>
      simp at hv; subst hv
      simpa [e] using h1
    | succ i =>
      simp at hv
      have := h2.at i v hv
      rw [show (i + 1) * 5 = c1.length + i * 5 by omega, ← List.drop_drop, List.drop_left]; exact this
theorem RepFs.at {E : Env} {G : Mem} : ∀ {l : List (ByteArray × Vl)} {c : List Value}, RepFs E G l c → ∀ (i : Nat) (nm : ByteArray) (v : Vl), l[i]? = some (nm, v) →
    ∃ c1, (c.drop (i * 6)).take 6 = .string nm :: c1 ∧ Rep E G v c1 ∧ nm.size ≤ 140737488355328
  | [], c, _, i, nm, v, hv => by simp at hv
  | (x, y) :: l, c, h, i, nm, v, hv => by
    unfold RepFs at h
    obtain ⟨c1, c2, rfl, h1, h2, h3⟩ := h
    have e := h1.len
    cases i with
    | zero =>
      simp at hv
      obtain ⟨rfl, rfl⟩ := hv
      exact ⟨c1, by simp [e], h1, h3⟩
    | succ i =>
      simp at hv
      obtain ⟨c', h4, h5⟩ := h2.at i nm v hv
      refine ⟨c', ?_, h5⟩
      rw [show (i + 1) * 6 = (Value.string x :: c1).length + i * 6 by simp; omega, ← List.drop_drop, List.drop_left]; exact h4

theorem Sl.sub {E : Env} {G G' : Mem} (s : Sub G G') {z n : Nat} {cs : List Value} {v : Value} (h : Sl E G z n cs v) : Sl E G' z n cs v := by
  obtain ⟨a, c, h1, h2, h3, h4, h5⟩ := h
  refine ⟨a, c, h1, h2, h3, ⟨h4.1, fun b e => (h4.2 b e).imp id fun ⟨g, hg⟩ => ⟨g, s _ _ hg⟩⟩, ?_⟩
  rcases h5 with h5 | ⟨b, h5, h6⟩
  · exact .inl h5
  · exact .inr ⟨b, h5, gcells_sub s h6⟩
mutual
theorem Rep.sub {E : Env} {G G' : Mem} (s : Sub G G') : ∀ {V : Vl} {c : List Value}, Rep E G V c → Rep E G' V c
  | .mk k n t l f, c, h => by
    unfold Rep at h ⊢
    obtain ⟨sl, sf, cl, cf, h1, h2, h3, h4, h5, h6⟩ := h
    exact ⟨sl, sf, cl, cf, h1, h2.sub s, h3.sub s, RepLs.sub s h4, RepFs.sub s h5, h6⟩
theorem RepLs.sub {E : Env} {G G' : Mem} (s : Sub G G') : ∀ {l : List Vl} {c : List Value}, RepLs E G l c → RepLs E G' l c
  | [], c, h => by unfold RepLs at h ⊢; exact h
  | v :: l, c, h => by
    unfold RepLs at h ⊢
    obtain ⟨c1, c2, h1, h2, h3⟩ := h
    exact ⟨c1, c2, h1, Rep.sub s h2, RepLs.sub s h3⟩
theorem RepFs.sub {E : Env} {G G' : Mem} (s : Sub G G') : ∀ {l : List (ByteArray × Vl)} {c : List Value}, RepFs E G l c → RepFs E G' l c
  | [], c, h => by unfold RepFs at h ⊢; exact h
  | (nm, v) :: l, c, h => by
    unfold RepFs at h ⊢
    obtain ⟨c1, c2, h1, h2, h3, h4⟩ := h
    exact ⟨c1, c2, h1, Rep.sub s h2, RepFs.sub s h3, h4⟩
end

/- How great a value is. -/
mutual
def Vl.sz : Vl → Nat
  | .mk _ _ _ l f => 1 + szL l + szF f
def szL : List Vl → Nat
  | [] => 0
  | v :: l => v.sz + szL l
def szF : List (ByteArray × Vl) → Nat
  | [] => 0
  | (_, v) :: l => v.sz + szF l
end
theorem szL_mem : ∀ {l : List Vl} {v : Vl}, v ∈ l → v.sz ≤ szL l
  | [], v, h => by simp at h
  | x :: l, v, h => by
    simp only [List.mem_cons] at h
    unfold szL
    rcases h with rfl | h
    · omega
    · have := szL_mem h; omega
theorem szF_mem : ∀ {l : List (ByteArray × Vl)} {nm : ByteArray} {v : Vl}, (nm, v) ∈ l → v.sz ≤ szF l
  | [], nm, v, h => by simp at h
  | (x, y) :: l, nm, v, h => by
    simp only [List.mem_cons, Prod.mk.injEq] at h
    unfold szF
    rcases h with ⟨rfl, rfl⟩ | h
    · omega
    · have := szF_mem h; omega
/-- A value's parts, by its kind. -/
def Vl.parts (v : Vl) : List Vl := if v.k = 5 then v.l else if v.k = 6 then v.f.map (·.2) else []
theorem sz_eq (v : Vl) : v.sz = 1 + szL v.l + szF v.f := by cases v; simp [Vl.sz, Vl.l, Vl.f]
theorem parts_sz {v x : Vl} (h : x ∈ v.parts) : x.sz < v.sz := by
  rw [sz_eq v]
  unfold Vl.parts at h
  split at h
  · have := szL_mem h; omega
  · split at h
    · obtain ⟨⟨nm, y⟩, h1, rfl⟩ := List.mem_map.1 h
      have := szF_mem h1
      simp only at *; omega
    · simp at h
end Go.Tm
