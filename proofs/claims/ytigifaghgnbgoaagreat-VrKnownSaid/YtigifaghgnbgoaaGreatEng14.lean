/- The engine, fourteenth part: frames, and operations one behind the other. -/
import Derived.Test.YtigifaghgnbgoaaGreatEng13
namespace Go.Tm

structure FR (ρ : Ren) (n : Nat) (tm : Tr Value) (a : Act) : Prop where
  defers : a.defers = []
  size : a.tmps.size = n
  val : ∀ t, t < n → a.tmps.getD t undef = ren ρ (fget tm t)

def Sc (s : St) : Prop := ∀ t, sc s.h.next (fget s.tm t) = true

def opdOk (base n : Nat) : Operand → Bool
  | .tmp t => decide (t < n)
  | .const v => cl 0 v
  | .global g => decide (g < base)
  | .func _ => true

def dstOk (n : Nat) : Option Nat → Bool
  | some d => decide (d < n)
  | none => true

def operOk (base n : Nat) (o : Oper) : Bool := o.op.operands.toList.all (opdOk base n) && dstOk n o.dst
def opsOk (base n : Nat) (ops : Array Oper) : Bool := ops.toList.all (operOk base n)

theorem eval_opd {E : Env} {B n : Nat} {ρ : Ren} {h : Heap} {w : World} {tm : Tr Value} {a : Act} (H : HR E B ρ h w) (F : FR ρ n tm a) {x : Operand} (hx : opdOk E.base n x = true) : a.eval x = ren ρ (opd tm x) := by
  cases x with
  | tmp t => simp only [opdOk, decide_eq_true_eq] at hx; exact F.val t hx
  | const v => simp only [opdOk] at hx; exact (ren_id ρ 0 (fun _ hb => by omega) v hx).symm
  | global g =>
    simp only [opdOk, decide_eq_true_eq] at hx
    have := H.fix g hx
    simp [Act.eval, opd, ren, rena, this]
  | func f => simp [Act.eval, opd, ren, renA_eq]

theorem sc_opd {E : Env} {n : Nat} {s : St} (hb : E.base ≤ s.h.next) (S : Sc s) {x : Operand} (hx : opdOk E.base n x = true) : sc s.h.next (opd s.tm x) = true := by
  cases x with
  | tmp t => exact S t
  | const v => simp only [opdOk] at hx; exact sc_mono 0 _ (Nat.zero_le _) v (sc_of_cl 0 v hx)
  | global g => simp only [opdOk, decide_eq_true_eq] at hx; simp only [opd, sc, decide_eq_true_eq]; omega
  | func f => rfl

def notSelect : Op → Bool
  | .select _ _ => false
  | _ => true

theorem execOp_congr {f g : Operand → Value} {o : Oper} (hsel : notSelect o.op = true) (h : ∀ x, x ∈ o.op.operands → f x = g x) : execOp f o = execOp g o := by
  obtain ⟨dst, op, ty, pos, after, guard⟩ := o
  simp only at h
  have am : ∀ (l : Array Operand), (∀ x, x ∈ l → f x = g x) → l.map f = l.map g := fun l hl => Array.map_congr_left hl
  cases op with
  | move x => simp only [execOp, h x (by simp [Op.operands])]
  | assign x => simp only [execOp, h x (by simp [Op.operands])]
  | pick c a b => simp only [execOp, h c (by simp [Op.operands]), h a (by simp [Op.operands]), h b (by simp [Op.operands])]
  | alloc e => rfl
  | box e x => simp only [execOp, h x (by simp [Op.operands])]
  | build t ps =>
    have : (ps.map fun (x : Nat × Operand) => match x with | (i, x) => (i, f x)) = ps.map fun (x : Nat × Operand) => match x with | (i, x) => (i, g x) :=
      Array.map_congr_left fun p hp => by
        have := h p.2 (by simp only [Op.operands, List.mem_toArray, List.mem_map]; exact ⟨p, by simpa using hp, rfl⟩)
        simp only [this]
    simp only [execOp, this]
  | buildSlice t l ps =>
    have : (ps.map fun (x : Nat × Operand) => match x with | (i, x) => (i, f x)) = ps.map fun (x : Nat × Operand) => match x with | (i, x) => (i, g x) :=
      Array.map_congr_left fun p hp => by
        have := h p.2 (by simp only [Op.operands, List.mem_toArray, List.mem_map]; exact ⟨p, by simpa using hp, rfl⟩)
        simp only [this]
    simp only [execOp, this]
  | insert t m k v => simp only [execOp, h m (by simp [Op.operands]), h k (by simp [Op.operands]), h v (by simp [Op.operands])]
  | load t x => simp only [execOp, h x (by simp [Op.operands])]
  | store t x v => simp only [execOp, h x (by simp [Op.operands]), h v (by simp [Op.operands])]
  | ready g => rfl
  | waits g => rfl
  | nilCheck x => simp only [execOp, h x (by simp [Op.operands])]
  | binOp op t x y yt => simp only [execOp, h x (by simp [Op.operands]), h y (by simp [Op.operands])]
  | unOp op t x => simp only [execOp, h x (by simp [Op.operands])]
  | convert s d x => simp only [execOp, h x (by simp [Op.operands])]
  | sliceToArrayPointer d x => simp only [execOp, h x (by simp [Op.operands])]
  | makeInterface t x => simp only [execOp, h x (by simp [Op.operands])]
  | makeFunc fn a b =>
    simp only [execOp, am a (fun x hx => h x (by simp [Op.operands, hx])), am b (fun x hx => h x (by simp [Op.operands, hx]))]
  | makeMap t r => cases r with
    | none => rfl
    | some x => simp only [execOp, Option.map_some, h x (by simp [Op.operands])]
  | makeChan t x => simp only [execOp, h x (by simp [Op.operands])]
  | makeSlice t l c => simp only [execOp, h l (by simp [Op.operands]), h c (by simp [Op.operands])]
  | slice t x lo hi mx =>
    have h1 : lo.map f = lo.map g := by cases lo <;> simp; exact h _ (by simp [Op.operands])
    have h2 : hi.map f = hi.map g := by cases hi <;> simp; exact h _ (by simp [Op.operands])
    have h3 : mx.map f = mx.map g := by cases mx <;> simp; exact h _ (by simp [Op.operands])
    simp only [execOp, h x (by simp [Op.operands]), h1, h2, h3]
  | fieldAddr t x k => simp only [execOp, h x (by simp [Op.operands])]
  | field t x k => simp only [execOp, h x (by simp [Op.operands])]
  | indexAddr t x i => simp only [execOp, h x (by simp [Op.operands]), h i (by simp [Op.operands])]
  | index t x i => simp only [execOp, h x (by simp [Op.operands]), h i (by simp [Op.operands])]
  | lookup t x i ok => simp only [execOp, h x (by simp [Op.operands]), h i (by simp [Op.operands])]
  | mapUpdate t m k v => simp only [execOp, h m (by simp [Op.operands]), h k (by simp [Op.operands]), h v (by simp [Op.operands])]
  | mapEntry t m k => simp only [execOp, h m (by simp [Op.operands]), h k (by simp [Op.operands])]
  | entryStore t m k v => simp only [execOp, h m (by simp [Op.operands]), h k (by simp [Op.operands]), h v (by simp [Op.operands])]
  | range t x => simp only [execOp, h x (by simp [Op.operands])]
  | next x b => simp only [execOp, h x (by simp [Op.operands])]
  | entry x => simp only [execOp, h x (by simp [Op.operands])]
  | typeAssert x t a ok => simp only [execOp, h x (by simp [Op.operands])]
  | extract x i => simp only [execOp, h x (by simp [Op.operands])]
  | panic x => simp only [execOp, h x (by simp [Op.operands])]
  | recv t x ok => simp only [execOp, h x (by simp [Op.operands])]
  | send c x => simp only [execOp, h c (by simp [Op.operands]), h x (by simp [Op.operands])]
  | call c =>
    obtain ⟨callee, args, ats⟩ := c
    have ha : args.map f = args.map g := am args fun x hx => h x (by simp [Op.operands, Call.operands, hx])
    cases callee with
    | value y => simp only [execOp, resolve, ha, h y (by simp [Op.operands, Call.operands])]
    | invoke y name => simp only [execOp, resolve, ha, h y (by simp [Op.operands, Call.operands])]
    | builtin b => simp only [execOp, resolve, ha]
  | go c =>
    obtain ⟨callee, args, ats⟩ := c
    have ha : args.map f = args.map g := am args fun x hx => h x (by simp [Op.operands, Call.operands, hx])
    cases callee with
    | value y => simp only [execOp, resolve, ha, h y (by simp [Op.operands, Call.operands])]
    | invoke y name => simp only [execOp, resolve, ha, h y (by simp [Op.operands, Call.operands])]
    | builtin b => simp only [execOp, resolve, ha]
  | defer c =>
    obtain ⟨callee, args, ats⟩ := c
    have ha : args.map f = args.map g := am args fun x hx => h x (by simp [Op.operands, Call.operands, hx])
    cases callee with
    | value y => simp only [execOp, resolve, ha, h y (by simp [Op.operands, Call.operands])]
    | invoke y name => simp only [execOp, resolve, ha, h y (by simp [Op.operands, Call.operands])]
    | builtin b => simp only [execOp, resolve, ha]
  | select cs b => simp [notSelect] at hsel

theorem fget_set (tm : Tr Value) (d t : Nat) (v : Value) : fget (tm.set d (some v)) t = if d = t then v else fget tm t := by
  unfold fget
  rw [Tr.get_set]
  by_cases e : d = t <;> simp [e]

theorem FR.put {ρ ρ' : Ren} {n m : Nat} {tm : Tr Value} {a : Act} (F : FR ρ n tm a) (hext : ∀ b, b < m → ρ' b = ρ b) (hs : ∀ t, sc m (fget tm t) = true) {d : Option Nat} (hd : dstOk n d = true) (v : Value) :
    FR ρ' n (aput tm d v) (a.put d (ren ρ' v)) := by
  cases d with
  | none =>
    refine ⟨F.defers, F.size, fun t ht => ?_⟩
    simp only [aput, Act.put]
    rw [F.val t ht, ren_congr ρ ρ' m hext _ (hs t)]
  | some d =>
    simp only [dstOk, decide_eq_true_eq] at hd
    refine ⟨F.defers, by simp [Act.put, F.size], fun t ht => ?_⟩
    simp only [aput, Act.put, fget_set]
    by_cases e : d = t
    · subst e
      simp [Array.getD, F.size, hd]
    · rw [if_neg e]
      have := F.val t ht
      rw [ren_congr ρ ρ' m hext _ (hs t), ← this]
      rw [Array.getD_eq_getD_getElem?, Array.getD_eq_getD_getElem?, Array.getElem?_setIfInBounds_ne e]

theorem sc_aput {m m' : Nat} {tm : Tr Value} (hs : ∀ t, sc m (fget tm t) = true) (hle : m ≤ m') {d : Option Nat} {v : Value} (hv : sc m' v = true) : ∀ t, sc m' (fget (aput tm d v) t) = true := by
  intro t
  cases d with
  | none => exact sc_mono _ _ hle _ (hs t)
  | some d =>
    simp only [aput, fget_set]
    by_cases e : d = t
    · rw [if_pos e]; exact hv
    · rw [if_neg e]; exact sc_mono _ _ hle _ (hs t)

theorem wanted_eq {ρ : Ren} {n : Nat} {tm : Tr Value} {a : Act} {ops : Array Oper} (F : FR ρ n tm a) (hd : ∀ o, o ∈ ops → dstOk n o.dst = true) (o : Oper) :
    Region.wanted o (yielded ops a.tmps) = awanted ops.toList tm o := by
  unfold Region.wanted awanted
  cases o.guard with
  | none => rfl
  | some g =>
    obtain ⟨j, want⟩ := g
    simp only
    unfold yielded
    have e : ops.toList[j]? = ops[j]? := by simp
    rw [e]
    cases ho : ops[j]? with
    | none => rfl
    | some o' =>
      simp only [Option.bind_some]
      have hdst := hd o' (Array.mem_of_getElem? ho)
      cases hdd : o'.dst with
      | none => rfl
      | some d =>
        rw [hdd] at hdst
        simp only [dstOk, decide_eq_true_eq] at hdst
        have hv := F.val d hdst
        have hg : a.tmps[d]? = some (ren ρ (fget tm d)) := by
          rw [← hv]; simp [Array.getD, F.size, hdst]
        simp only [Option.bind_some, hg]
        cases fget tm d with
        | bool b => simp [ren]
        | pointer p => cases p <;> rfl
        | slice p l c => cases p <;> rfl
        | map p => cases p <;> rfl
        | chan p => cases p <;> rfl
        | _ => rfl
end Go.Tm
