/- The engine, fifteenth part: a list of operations, on both sides. -/
/- Merged by a program of ours: Eng13 Eng14 Eng15. -/
import Derived.Test.YthdgobcpefcolaaGreatDoorG03
import Derived.CallsIn
set_option maxRecDepth 10000
set_option linter.all false
set_option linter.unusedSimpArgs false
set_option linter.unusedVariables false
/- The engine, thirteenth part: one operation, on both sides. -/
namespace Go.Tm

theorem sc_apure {P : Program} {n : Nat} {ev : Operand → Value} {op : Op} {v : Value} (h : apure P ev op = some v) (hs : ∀ x, x ∈ op.operands → sc n (ev x) = true) : sc n v = true := by
  unfold apure at h
  split at h
  · rename_i x; injection h with h; subst h; exact hs x (by simp [Op.operands])
  · rename_i x; injection h with h; subst h; exact hs x (by simp [Op.operands])
  · rename_i c a b
    split at h
    · rename_i t _
      injection h with h; subst h
      cases t
      · exact hs b (by simp [Op.operands])
      · exact hs a (by simp [Op.operands])
    · cases h
  · rename_i t parts
    refine sc_abuild h ?_
    intro p hp
    simp only [List.mem_map] at hp
    obtain ⟨q, hq, rfl⟩ := hp
    refine hs q.2 ?_
    simp only [Op.operands, List.mem_toArray, List.mem_map]
    exact ⟨q, hq, rfl⟩
  · rename_i x
    have hx := hs x (by simp [Op.operands])
    split at h <;> first
      | (rename_i e; injection h with h; subst h; rw [e] at hx; exact hx)
      | (cases h; done)
  · exact (flat_abin h (fun b => ⟨b, 0, 0⟩) n).2
  · unfold aun at h
    split at h <;> first | (injection h with h; subst h; rfl) | (cases h; done)
  · unfold aconv at h
    split at h <;> first | (injection h with h; subst h; rfl) | (cases h; done)
  · rename_i t x
    have hx := hs x (by simp [Op.operands])
    split at h
    · cases h
    · injection h with h; subst h; simpa [sc] using hx
    · cases h
  · rename_i f first cap
    injection h with h; subst h
    simp only [sc, Bool.and_eq_true, scA, scL_iff, List.mem_map]
    constructor
    · rintro v ⟨x, hx, rfl⟩; exact hs x (by simp [Op.operands]; left; simpa using hx)
    · rintro v ⟨x, hx, rfl⟩; exact hs x (by simp [Op.operands]; right; simpa using hx)
  · rename_i t x lo hi
    have hx := hs x (by simp [Op.operands])
    unfold asl at h
    split at h
    · split at h
      · cases h
      · split at h
        · cases h
        · injection h with h; subst h; rfl
    · rename_i e a len cap hu hv
      rw [hv] at hx
      split at h
      · split at h
        · cases h
        · split at h
          · injection h with h; subst h; rfl
          · split at h
            · split at h
              · injection h with h; subst h; simp only [sc] at hx ⊢; exact hx
              · split at h
                · injection h with h; subst h; simpa [sc] using hx
                · cases h
            · split at h
              · injection h with h; subst h; simpa [sc] using hx
              · cases h
      · cases h
    · cases h
  · rename_i t x f
    have hx := hs x (by simp [Op.operands])
    unfold afieldAddr at h
    split at h
    · rename_i fields a hu hv
      rw [hv] at hx
      split at h
      · split at h
        · injection h with h; subst h; simp only [sc] at hx ⊢; exact hx
        · cases h
      · cases h
    · cases h
  · rename_i t x f
    have hx := hs x (by simp [Op.operands])
    unfold afield at h
    split at h
    · rename_i fields cs hu hv
      rw [hv] at hx
      split at h
      · refine sc_apart h ?_
        cases cs with | mk l => simpa [sc, scA, scL_iff] using hx
      · cases h
    · cases h
  · rename_i t x i
    have hx := hs x (by simp [Op.operands])
    unfold aindexAddr at h
    split at h
    · rename_i hv _
      rw [hv] at hx
      split at h
      · split at h
        · injection h with h; subst h; simp only [sc] at hx ⊢; exact hx
        · injection h with h; subst h; simp only [sc] at hx ⊢; exact hx
        · cases h
      · cases h
    · rename_i hv _
      rw [hv] at hx
      split at h
      · split at h
        · injection h with h; subst h; simp only [sc] at hx ⊢; exact hx
        · cases h
      · cases h
    · cases h
  · rename_i t x i
    have hx := hs x (by simp [Op.operands])
    unfold aindex at h
    split at h
    · split at h
      · split at h
        · injection h with h; subst h; rfl
        · cases h
      · cases h
    · rename_i cs _ _ hu hv _
      rw [hv] at hx
      split at h
      · split at h
        · refine sc_apart h ?_
          cases cs with | mk l => simpa [sc, scA, scL_iff] using hx
        · cases h
      · cases h
    · cases h
  · rename_i x i
    have hx := hs x (by simp [Op.operands])
    unfold aextract at h
    split at h
    · rename_i vs hv
      rw [hv] at hx
      cases vs with | mk l =>
      simp only [sc, scA, scL_iff] at hx
      exact hx v (List.mem_of_getElem? h)
    · cases h
  · split at h
    · unfold alen at h
      split at h <;> first | (injection h with h; subst h; rfl) | (cases h; done)
    · cases h
  · obtain ⟨k, m, rfl⟩ := flat_amm h; rfl
  · obtain ⟨k, m, rfl⟩ := flat_amm h; rfl
  · cases h

theorem foldl_push : ∀ (ns : List Int) (b : ByteArray), ns.foldl (fun r n => r.push (UInt8.ofNat n.toNat)) b = ⟨b.data ++ (ns.map fun n => UInt8.ofNat n.toNat).toArray⟩
  | [], b => by simp
  | n :: ns, b => by
    simp only [List.foldl_cons]
    rw [foldl_push ns]
    simp [ByteArray.push]

theorem run_aread {E : Env} {B : Nat} {ρ : Ren} {h : Heap} {w : World} (H : HR E B ρ h w) {ev : Operand → Value} {o : Oper} {v : Value} (hx : aread E h ev o.op = some v) :
    (execOp (fun x => ren ρ (ev x)) o).run E.P w = .ok (.value (ren ρ v)) w ∧ sc h.next v = true := by
  obtain ⟨dst, op, ty, pos, after, guard⟩ := o
  simp only at hx
  unfold aread at hx
  split at hx
  · obtain ⟨h1, h2, _⟩ := run_aload H hx
    exact ⟨by simp only [execOp, Sem.run_bind, h1]; rfl, h2⟩
  · obtain ⟨h1, h2⟩ := run_alookup H hx
    exact ⟨by simp only [execOp, Sem.run_bind, h1]; rfl, h2⟩
  · rename_i s d x
    split at hx
    · rename_i e a b hs hd hv
      split at hx
      · rename_i hu
        injection hx with hx; subst hx
        have he : E.P.underlying e = some (.int .u8) := by
          unfold isU8 at hu; split at hu
          · assumption
          · cases hu
        refine ⟨?_, rfl⟩
        simp only [execOp, hv, ren, Sem.run_bind, run_convert_bytes_string w s d e _ _ _ hs he hd]
        simp [Conv.bytesToString]
      · cases hx
    · rename_i e a n c hs hd hv
      split at hx
      · rename_i hu
        have he : E.P.underlying e = some (.int .u8) := by
          unfold isU8 at hu; split at hu
          · assumption
          · cases hu
        split at hx
        · rename_i l hl
          split at hx
          · rename_i hall
            injection hx with hx; subst hx
            refine ⟨?_, rfl⟩
            obtain ⟨h1, h2, h3, hsp⟩ := acells_run H hl
            have hns : ∃ ns : List Int, l = ns.map (Value.int .u8) := by
              clear hl h1 h2 h3
              induction l with
              | nil => exact ⟨[], rfl⟩
              | cons x l ih =>
                simp only [List.all_cons, Bool.and_eq_true] at hall
                obtain ⟨ns, rfl⟩ := ih hall.2
                have := hall.1
                split at this
                · rename_i b; exact ⟨b :: ns, rfl⟩
                · cases this
            obtain ⟨ns, rfl⟩ := hns
            have hm : (ns.map (Value.int .u8)).map (ren ρ) = ns.map (Value.int .u8) := by simp [ren]
            have hlc := run_loadCells_list (P := E.P) w (rena ρ a) _ h1
            rw [hm, List.length_map, ← List.length_map (f := Value.int .u8), h2] at hlc
            simp only [execOp, hv, ren, rens_none hsp, Sem.run_bind, run_convert_bytes_string w s d e _ _ _ hs he hd, run_bytesToString w (rena ρ a) n _ ns hlc, foldl_push]
            simp [Function.comp_def]
          · cases hx
        · cases hx
      · cases hx
    · cases hx
  · cases hx

theorem run_aeff {E : Env} {B : Nat} {ρ : Ren} {h h' : Heap} {w : World} (H : HR E B ρ h w) {ev : Operand → Value} {o : Oper} {v : Value} (hs : ∀ x, x ∈ o.op.operands → sc h.next (ev x) = true) (hx : aeff E h ev o.op = some (.val v h')) :
    ∃ ρ' w', ((execOp (fun x => ren ρ (ev x)) o).run E.P w = .ok (.value (ren ρ' v)) w' ∨ (v = undef ∧ (execOp (fun x => ren ρ (ev x)) o).run E.P w = .ok .skip w')) ∧ Step E B ρ h w ρ' h' w' ∧ sc h'.next v = true := by
  obtain ⟨dst, op, ty, pos, after, guard⟩ := o
  simp only at hx hs
  unfold aeff at hx
  split at hx
  · rename_i t a x
    cases hw : astore E h t (ev a) (ev x) with
    | none => simp [hw] at hx
    | some h2 =>
      simp [hw] at hx
      obtain ⟨rfl, rfl⟩ := hx
      obtain ⟨w', r1, r2⟩ := run_astore H hw (hs x (by simp [Op.operands]))
      refine ⟨ρ, w', .inr ⟨rfl, ?_⟩, r2, rfl⟩
      simp only [execOp, Sem.run_bind, r1, Result.andThen_ok]; rfl
  · rename_i it isS
    cases hw : anext h (ev it) isS with
    | none => simp [hw] at hx
    | some p =>
      simp [hw] at hx
      obtain ⟨rfl, rfl⟩ := hx
      obtain ⟨w', r1, r2, r3⟩ := run_anext (ty := ty) H hw
      refine ⟨ρ, w', .inl ?_, r2, r3⟩
      simp only [execOp, Sem.run_bind, r1, Result.andThen_ok]; rfl
  · rename_i t m k x
    cases hw : aupdate E h t (ev m) (ev k) (ev x) with
    | none => simp [hw] at hx
    | some h2 =>
      simp [hw] at hx
      obtain ⟨rfl, rfl⟩ := hx
      obtain ⟨w', r1, r2⟩ := run_aupdate H hw (hs x (by simp [Op.operands]))
      refine ⟨ρ, w', .inr ⟨rfl, ?_⟩, r2, rfl⟩
      simp only [execOp, Sem.run_bind, r1, Result.andThen_ok]; rfl
  · rename_i t m k x
    cases hw : aupdate E h t (ev m) (ev k) (ev x) with
    | none => simp [hw] at hx
    | some h2 =>
      simp [hw] at hx
      obtain ⟨rfl, rfl⟩ := hx
      obtain ⟨w', r1, r2⟩ := run_aupdate H hw (hs x (by simp [Op.operands]))
      refine ⟨ρ, w', .inr ⟨rfl, ?_⟩, r2, rfl⟩
      simp only [execOp, Sem.run_bind, r1, Result.andThen_ok]; rfl
  · rename_i b args argTypes
    split at hx
    · rename_i s x t t1 ha ht
      obtain ⟨args⟩ := args
      obtain ⟨argTypes⟩ := argTypes
      simp only at ha ht; subst ha ht
      cases hw : aappend E h t t1 (ev s) (ev x) with
      | none => simp [hw] at hx
      | some p =>
        simp [hw] at hx
        obtain ⟨rfl, rfl⟩ := hx
        obtain ⟨ρ', w', r1, r2, r3⟩ := run_aappend (ty := ty) H hw (hs s (by simp [Op.operands, Call.operands]))
        refine ⟨ρ', w', .inl ?_, r2, r3⟩
        simp [execOp, resolve, invoke, builtin, r1]
    · rename_i d x t t1 ha ht
      obtain ⟨args⟩ := args
      obtain ⟨argTypes⟩ := argTypes
      simp only at ha ht; subst ha ht
      cases hw : acopy E h t (ev d) (ev x) with
      | none => simp [hw] at hx
      | some p =>
        simp [hw] at hx
        obtain ⟨rfl, rfl⟩ := hx
        obtain ⟨w', r1, r2, k, m, hkm⟩ := run_acopy (ts := #[t, t1]) (ty := ty) H (by simp) hw
        refine ⟨ρ, w', .inl ?_, r2, by rw [hkm]; rfl⟩
        have : ren ρ p.1 = p.1 := by rw [hkm]; rfl
        simp [execOp, resolve, invoke, builtin, r1, this]
    · rename_i x t ha ht
      obtain ⟨args⟩ := args
      obtain ⟨argTypes⟩ := argTypes
      simp only at ha ht; subst ha ht
      cases hw : aclear E h t (ev x) with
      | none => simp [hw] at hx
      | some p =>
        simp [hw] at hx
        obtain ⟨rfl, rfl⟩ := hx
        obtain ⟨w', r1, r2⟩ := run_aclear (ty := ty) H hw
        refine ⟨ρ, w', .inl ?_, r2, rfl⟩
        simp [execOp, resolve, invoke, builtin, r1, ren, renA_eq]
    · cases hx
  · split at hx <;> simp at hx
  · split at hx
    · split at hx
      · simp at hx
      · split at hx
        · split at hx <;> simp at hx
        · simp at hx
    · simp at hx
  · cases hx

theorem head_app (a : Value) (b : Array Value) : (#[a] ++ b)[0]? = some a := by simp [Array.getElem?_append]

theorem run_callFunc {P : Program} {w : World} {f : FuncId} {fn : Func} {b : Code} {args : Array Value} (hf : P.funcs[f]? = some fn) (hb : fn.body = some b) (hn : (fn.name == "runtime.NumGoroutine") = false) :
    (callFunc f args).run P w = .ok (.enter f args) w := by
  have hn' : ¬ fn.name = "runtime.NumGoroutine" := by simpa using hn
  simp [callFunc, hf, hb, hn']

theorem run_enter {E : Env} {B : Nat} {ρ : Ren} {h : Heap} {w : World} (_ : HR E B ρ h w) {ev : Operand → Value} {o : Oper} {f : FuncId} {args : List Value} (hs : ∀ x, x ∈ o.op.operands → sc h.next (ev x) = true) (hx : aeff E h ev o.op = some (.enter f args))
    {fn : Func} {b : Code} (hf : E.P.funcs[f]? = some fn) (hb : fn.body = some b) (hn : (fn.name == "runtime.NumGoroutine") = false) :
    (execOp (fun x => ren ρ (ev x)) o).run E.P w = .ok (.enter f (args.map (ren ρ)).toArray) w ∧ ∀ v, v ∈ args → sc h.next v = true := by
  obtain ⟨dst, op, ty, pos, after, guard⟩ := o
  simp only at hx hs
  unfold aeff at hx
  split at hx
  · rename_i t a x; cases hw : astore E h t (ev a) (ev x) <;> simp [hw] at hx
  · rename_i it isS; cases hw : anext h (ev it) isS <;> simp [hw] at hx
  · rename_i t m k x; cases hw : aupdate E h t (ev m) (ev k) (ev x) <;> simp [hw] at hx
  · rename_i t m k x; cases hw : aupdate E h t (ev m) (ev k) (ev x) <;> simp [hw] at hx
  · split at hx
    · rename_i s x t t1 _ _; cases hw : aappend E h t t1 (ev s) (ev x) <;> simp [hw] at hx
    · rename_i d x t t1 _ _; cases hw : acopy E h t (ev d) (ev x) <;> simp [hw] at hx
    · rename_i x t _ _; cases hw : aclear E h t (ev x) <;> simp [hw] at hx
    · cases hx
  · rename_i g args' argTypes
    split at hx
    · rename_i g' first cap hv
      simp only [Option.some.injEq, Eff.enter.injEq] at hx
      obtain ⟨rfl, rfl⟩ := hx
      have hg := hs g (by simp [Op.operands, Call.operands])
      rw [hv] at hg
      simp only [sc, Bool.and_eq_true, scA_iff] at hg
      constructor
      · simp only [execOp, resolve, hv, ren, Deferred.ofValue, Sem.run_bind, Sem.run_pure, Result.andThen_ok, invoke]
        rw [run_callFunc hf hb hn]
        congr 2
        apply Array.ext'
        simp [renA_eq, Function.comp_def]
      · intro v hv2
        simp only [List.mem_append, List.mem_map] at hv2
        rcases hv2 with (hv2 | ⟨x, hx, rfl⟩) | hv2
        · exact hg.1 v (by simpa using hv2)
        · exact hs x (by simp [Op.operands, Call.operands]; right; simpa using hx)
        · exact hg.2 v (by simpa using hv2)
    · cases hx
  · rename_i r name args' argTypes
    split at hx
    · rename_i t x hv
      split at hx
      · cases hx
      · rename_i i hi
        split at hx
        · rename_i m hm
          split at hx
          · rename_i f' e hp hmf hu
            simp only [Option.some.injEq, Eff.enter.injEq] at hx
            obtain ⟨rfl, rfl⟩ := hx
            have hg := hs r (by simp [Op.operands, Call.operands])
            rw [hv] at hg
            simp only [sc] at hg
            constructor
            · have hm' : i.methods.find? (fun m => m.name == name) = some m := by
                rw [← Array.find?_toList]; exact hm
              have hpath : m.path = #[] := by cases hpp : m.path with | mk l => rw [hpp] at hp; simp at hp; simp [hp]
              have hmeth : (method ((E.P).types.size + Made.depth) t (ren ρ x) name).run E.P w = .ok (f', ren ρ x) w := by
                generalize hd : (E.P).types.size + Made.depth = d
                obtain ⟨d', rfl⟩ : ∃ d', d = d' + 1 := ⟨(E.P).types.size + 99, by rw [← hd]; rfl⟩
                simp only [method, Sem.run_bind, typeInfo, run_program, Result.andThen_ok, hi, Sem.run_pure, hm', hpath, follow, hmf, receiverAt, run_underlying hu, Place.get]
              simp only [execOp, resolve, hv, ren, Sem.run_bind, Sem.run_pure, Result.andThen_ok, invoke]
              rw [head_app]
              simp [callMethod, hmeth, run_callFunc hf hb hn]
              rw [List.take_of_length_le (by simp)]
              rfl
            · intro v hv2
              simp only [List.mem_cons, List.mem_map] at hv2
              rcases hv2 with rfl | ⟨y, hy, rfl⟩
              · exact hg
              · exact hs y (by simp [Op.operands, Call.operands]; right; simpa using hy)
          · cases hx
        · cases hx
    · cases hx
  · cases hx
end Go.Tm
/- The engine, fourteenth part: frames, and operations one behind the other. -/
namespace Go.Tm

structure FR (ρ : Ren) (n : Nat) (ds : List Deferred) (tm : Tr Value) (a : Act) : Prop where
  defers : a.defers = ds
  size : a.tmps.size = n
  val : ∀ t, t < n → a.tmps.getD t undef = ren ρ (fget tm t)

def Sc (s : St) : Prop := ∀ t, sc s.h.next (fget s.tm t) = true

def opdOk (base n : Nat) : Operand → Bool
  | .tmp t => decide (t < n)
  | .const v => cl 0 v
  | .global g => decide (g < base)
  | .func _ => true

def dstOk (n : Nat) : Option Nat → Bool
  | some d => decide (d < n)
  | none => true

def operOk (base n : Nat) (o : Oper) : Bool := o.op.operands.toList.all (opdOk base n) && dstOk n o.dst
def opsOk (base n : Nat) (ops : Array Oper) : Bool := ops.toList.all (operOk base n)

theorem eval_opd {E : Env} {B n : Nat} {ds : List Deferred} {ρ : Ren} {h : Heap} {w : World} {tm : Tr Value} {a : Act} (H : HR E B ρ h w) (F : FR ρ n ds tm a) {x : Operand} (hx : opdOk E.base n x = true) : a.eval x = ren ρ (opd tm x) := by
  cases x with
  | tmp t => simp only [opdOk, decide_eq_true_eq] at hx; exact F.val t hx
  | const v => simp only [opdOk] at hx; exact (ren_id ρ 0 (fun _ hb => by omega) v hx).symm
  | global g =>
    simp only [opdOk, decide_eq_true_eq] at hx
    have := H.fix g hx
    simp [Act.eval, opd, ren, rena, this]
  | func f => simp [Act.eval, opd, ren, renA_eq]

theorem sc_opd {E : Env} {n : Nat} {s : St} (hb : E.base ≤ s.h.next) (S : Sc s) {x : Operand} (hx : opdOk E.base n x = true) : sc s.h.next (opd s.tm x) = true := by
  cases x with
  | tmp t => exact S t
  | const v => simp only [opdOk] at hx; exact sc_mono 0 _ (Nat.zero_le _) v (sc_of_cl 0 v hx)
  | global g => simp only [opdOk, decide_eq_true_eq] at hx; simp only [opd, sc, decide_eq_true_eq]; omega
  | func f => rfl

def notSelect : Op → Bool
  | .select _ _ => false
  | _ => true

theorem execOp_congr {f g : Operand → Value} {o : Oper} (hsel : notSelect o.op = true) (h : ∀ x, x ∈ o.op.operands → f x = g x) : execOp f o = execOp g o := by
  obtain ⟨dst, op, ty, pos, after, guard⟩ := o
  simp only at h
  have am : ∀ (l : Array Operand), (∀ x, x ∈ l → f x = g x) → l.map f = l.map g := fun l hl => Array.map_congr_left hl
  cases op with
  | move x => simp only [execOp, h x (by simp [Op.operands])]
  | assign x => simp only [execOp, h x (by simp [Op.operands])]
  | pick c a b => simp only [execOp, h c (by simp [Op.operands]), h a (by simp [Op.operands]), h b (by simp [Op.operands])]
  | alloc e => rfl
  | box e x => simp only [execOp, h x (by simp [Op.operands])]
  | build t ps =>
    have : (ps.map fun (x : Nat × Operand) => match x with | (i, x) => (i, f x)) = ps.map fun (x : Nat × Operand) => match x with | (i, x) => (i, g x) :=
      Array.map_congr_left fun p hp => by
        have := h p.2 (by simp only [Op.operands, List.mem_toArray, List.mem_map]; exact ⟨p, by simpa using hp, rfl⟩)
        simp only [this]
    simp only [execOp, this]
  | buildSlice t l ps =>
    have : (ps.map fun (x : Nat × Operand) => match x with | (i, x) => (i, f x)) = ps.map fun (x : Nat × Operand) => match x with | (i, x) => (i, g x) :=
      Array.map_congr_left fun p hp => by
        have := h p.2 (by simp only [Op.operands, List.mem_toArray, List.mem_map]; exact ⟨p, by simpa using hp, rfl⟩)
        simp only [this]
    simp only [execOp, this]
  | insert t m k v => simp only [execOp, h m (by simp [Op.operands]), h k (by simp [Op.operands]), h v (by simp [Op.operands])]
  | load t x => simp only [execOp, h x (by simp [Op.operands])]
  | store t x v => simp only [execOp, h x (by simp [Op.operands]), h v (by simp [Op.operands])]
  | ready g => rfl
  | waits g => rfl
  | nilCheck x => simp only [execOp, h x (by simp [Op.operands])]
  | binOp op t x y yt => simp only [execOp, h x (by simp [Op.operands]), h y (by simp [Op.operands])]
  | unOp op t x => simp only [execOp, h x (by simp [Op.operands])]
  | convert s d x => simp only [execOp, h x (by simp [Op.operands])]
  | sliceToArrayPointer d x => simp only [execOp, h x (by simp [Op.operands])]
  | makeInterface t x => simp only [execOp, h x (by simp [Op.operands])]
  | makeFunc fn a b =>
    simp only [execOp, am a (fun x hx => h x (by simp [Op.operands, hx])), am b (fun x hx => h x (by simp [Op.operands, hx]))]
  | makeMap t r => cases r with
    | none => rfl
    | some x => simp only [execOp, Option.map_some, h x (by simp [Op.operands])]
  | makeChan t x => simp only [execOp, h x (by simp [Op.operands])]
  | makeSlice t l c => simp only [execOp, h l (by simp [Op.operands]), h c (by simp [Op.operands])]
  | slice t x lo hi mx =>
    have h1 : lo.map f = lo.map g := by cases lo <;> simp; exact h _ (by simp [Op.operands])
    have h2 : hi.map f = hi.map g := by cases hi <;> simp; exact h _ (by simp [Op.operands])
    have h3 : mx.map f = mx.map g := by cases mx <;> simp; exact h _ (by simp [Op.operands])
    simp only [execOp, h x (by simp [Op.operands]), h1, h2, h3]
  | fieldAddr t x k => simp only [execOp, h x (by simp [Op.operands])]
  | field t x k => simp only [execOp, h x (by simp [Op.operands])]
  | indexAddr t x i => simp only [execOp, h x (by simp [Op.operands]), h i (by simp [Op.operands])]
  | index t x i => simp only [execOp, h x (by simp [Op.operands]), h i (by simp [Op.operands])]
  | lookup t x i ok => simp only [execOp, h x (by simp [Op.operands]), h i (by simp [Op.operands])]
  | mapUpdate t m k v => simp only [execOp, h m (by simp [Op.operands]), h k (by simp [Op.operands]), h v (by simp [Op.operands])]
  | mapEntry t m k => simp only [execOp, h m (by simp [Op.operands]), h k (by simp [Op.operands])]
  | entryStore t m k v => simp only [execOp, h m (by simp [Op.operands]), h k (by simp [Op.operands]), h v (by simp [Op.operands])]
  | range t x => simp only [execOp, h x (by simp [Op.operands])]
  | next x b => simp only [execOp, h x (by simp [Op.operands])]
  | entry x => simp only [execOp, h x (by simp [Op.operands])]
  | typeAssert x t a ok => simp only [execOp, h x (by simp [Op.operands])]
  | extract x i => simp only [execOp, h x (by simp [Op.operands])]
  | panic x => simp only [execOp, h x (by simp [Op.operands])]
  | recv t x ok => simp only [execOp, h x (by simp [Op.operands])]
  | send c x => simp only [execOp, h c (by simp [Op.operands]), h x (by simp [Op.operands])]
  | call c =>
    obtain ⟨callee, args, ats⟩ := c
    have ha : args.map f = args.map g := am args fun x hx => h x (by simp [Op.operands, Call.operands, hx])
    cases callee with
    | value y => simp only [execOp, resolve, ha, h y (by simp [Op.operands, Call.operands])]
    | invoke y name => simp only [execOp, resolve, ha, h y (by simp [Op.operands, Call.operands])]
    | builtin b => simp only [execOp, resolve, ha]
  | go c =>
    obtain ⟨callee, args, ats⟩ := c
    have ha : args.map f = args.map g := am args fun x hx => h x (by simp [Op.operands, Call.operands, hx])
    cases callee with
    | value y => simp only [execOp, resolve, ha, h y (by simp [Op.operands, Call.operands])]
    | invoke y name => simp only [execOp, resolve, ha, h y (by simp [Op.operands, Call.operands])]
    | builtin b => simp only [execOp, resolve, ha]
  | defer c =>
    obtain ⟨callee, args, ats⟩ := c
    have ha : args.map f = args.map g := am args fun x hx => h x (by simp [Op.operands, Call.operands, hx])
    cases callee with
    | value y => simp only [execOp, resolve, ha, h y (by simp [Op.operands, Call.operands])]
    | invoke y name => simp only [execOp, resolve, ha, h y (by simp [Op.operands, Call.operands])]
    | builtin b => simp only [execOp, resolve, ha]
  | select cs b => simp [notSelect] at hsel

theorem fget_set (tm : Tr Value) (d t : Nat) (v : Value) : fget (tm.set d (some v)) t = if d = t then v else fget tm t := by
  unfold fget
  rw [Tr.get_set]
  by_cases e : d = t <;> simp [e]

theorem FR.put {ρ ρ' : Ren} {n m : Nat} {ds : List Deferred} {tm : Tr Value} {a : Act} (F : FR ρ n ds tm a) (hext : ∀ b, b < m → ρ' b = ρ b) (hs : ∀ t, sc m (fget tm t) = true) {d : Option Nat} (hd : dstOk n d = true) (v : Value) :
    FR ρ' n ds (aput tm d v) (a.put d (ren ρ' v)) := by
  cases d with
  | none =>
    refine ⟨F.defers, F.size, fun t ht => ?_⟩
    simp only [aput, Act.put]
    rw [F.val t ht, ren_congr ρ ρ' m hext _ (hs t)]
  | some d =>
    simp only [dstOk, decide_eq_true_eq] at hd
    refine ⟨F.defers, by simp [Act.put, F.size], fun t ht => ?_⟩
    simp only [aput, Act.put, fget_set]
    by_cases e : d = t
    · subst e
      simp [Array.getD, F.size, hd]
    · rw [if_neg e]
      have := F.val t ht
      rw [ren_congr ρ ρ' m hext _ (hs t), ← this]
      rw [Array.getD_eq_getD_getElem?, Array.getD_eq_getD_getElem?, Array.getElem?_setIfInBounds_ne e]

theorem sc_aput {m m' : Nat} {tm : Tr Value} (hs : ∀ t, sc m (fget tm t) = true) (hle : m ≤ m') {d : Option Nat} {v : Value} (hv : sc m' v = true) : ∀ t, sc m' (fget (aput tm d v) t) = true := by
  intro t
  cases d with
  | none => exact sc_mono _ _ hle _ (hs t)
  | some d =>
    simp only [aput, fget_set]
    by_cases e : d = t
    · rw [if_pos e]; exact hv
    · rw [if_neg e]; exact sc_mono _ _ hle _ (hs t)

theorem wanted_eq {ρ : Ren} {n : Nat} {ds : List Deferred} {tm : Tr Value} {a : Act} {ops : Array Oper} (F : FR ρ n ds tm a) (hd : ∀ o, o ∈ ops → dstOk n o.dst = true) (o : Oper) :
    Region.wanted o (yielded ops a.tmps) = awanted ops.toList tm o := by
  unfold Region.wanted awanted
  cases o.guard with
  | none => rfl
  | some g =>
    obtain ⟨j, want⟩ := g
    simp only
    unfold yielded
    have e : ops.toList[j]? = ops[j]? := by simp
    rw [e]
    cases ho : ops[j]? with
    | none => rfl
    | some o' =>
      simp only [Option.bind_some]
      have hdst := hd o' (Array.mem_of_getElem? ho)
      cases hdd : o'.dst with
      | none => rfl
      | some d =>
        rw [hdd] at hdst
        simp only [dstOk, decide_eq_true_eq] at hdst
        have hv := F.val d hdst
        have hg : a.tmps[d]? = some (ren ρ (fget tm d)) := by
          rw [← hv]; simp [Array.getD, F.size, hdst]
        simp only [Option.bind_some, hg]
        cases fget tm d with
        | bool b => simp [ren]
        | pointer p => cases p <;> rfl
        | slice p l c => cases p <;> rfl
        | map p => cases p <;> rfl
        | chan p => cases p <;> rfl
        | _ => rfl
end Go.Tm
namespace Go.Tm

theorem aop_notSelect {E : Env} {call : Caller} {op : Op} {s : St} {r : Value × Heap} (h : aop E call op s = some r) : notSelect op = true := by
  cases op <;> first | rfl | skip
  simp [aop, kindOf, apure] at h

/-- The fence: no bound; the round that the frame is of. -/
def Wd (rd : Option Nat) : Fence := { Fence.wide with round := rd }
theorem calls_wd {P : Program} {f : FuncId} {args : Array Value} {w : World} {R : Ending → World → Prop} (rd : Option Nat) {n : Nat} (h : Calls P f args w R) : CallsIn (Wd rd) n P f args w R :=
  (callsIn_wide (n := n)).2 h

theorem aop_notDefer {E : Env} {call : Caller} {op : Op} {s : St} {r : Value × Heap} (h : aop E call op s = some r) : ∀ c, op ≠ .defer c := by
  rintro c rfl
  simp [aop, kindOf, apure] at h

/-- What is known of calls. -/
def CallOk (E : Env) (B : Nat) (call : Caller) : Prop :=
  ∀ f args h v h', call f args h = some (v, h') → ∃ fn b, E.P.funcs[f]? = some fn ∧ fn.body = some b ∧ (fn.name == "runtime.NumGoroutine") = false ∧
    ∀ ρ w, HR E B ρ h w → (∀ x, x ∈ args → sc h.next x = true) →
      Calls E.P f (args.map (ren ρ)).toArray w fun e w' => ∃ ρ', e = .returned (ren ρ' v) ∧ Step E B ρ h w ρ' h' w' ∧ sc h'.next v = true

theorem run_aop {E : Env} {B : Nat} {call : Caller} (hcall : CallOk E B call) {o : Oper} {s : St} {v : Value} {h' : Heap} (hx : aop E call o.op s = some (v, h')) {ρ : Ren} {w : World} (H : HR E B ρ s.h w)
    (hs : ∀ x, x ∈ o.op.operands → sc s.h.next (opd s.tm x) = true) {a : Act} (ha : execOp a.eval o = execOp (fun x => ren ρ (opd s.tm x)) o) {next : Act → World → Prop} {Q : Exit → Act → World → Prop}
    (hn : ∀ ρ' w', Step E B ρ s.h w ρ' h' w' → sc h'.next v = true → next (a.put o.dst (ren ρ' v)) w') (rd : Option Nat) : o.wpIn (Wd rd) 0 E.P a w next Q := by
  refine ⟨fun _ _ => trivial, ?_⟩
  have hro : (Wd rd).round = rd := rfl
  rw [hro, Oper.semAt_eq rd a.eval o (aop_notDefer hx), ha]
  unfold aop at hx
  split at hx
  · cases hp : apure E.P (opd s.tm) o.op with
    | none => simp [hp] at hx
    | some v' =>
      simp [hp] at hx
      obtain ⟨rfl, rfl⟩ := hx
      rw [run_apure (ρ := ρ) hp w]
      exact hn ρ w (Step.refl H) (sc_apure hp hs)
  · cases hp : aread E s.h (opd s.tm) o.op with
    | none => simp [hp] at hx
    | some v' =>
      simp [hp] at hx
      obtain ⟨rfl, rfl⟩ := hx
      obtain ⟨h1, h2⟩ := run_aread H hp
      rw [h1]
      exact hn ρ w (Step.refl H) h2
  · cases hp : aalloc E.P (opd s.tm) o.op with
    | none => simp [hp] at hx
    | some p =>
      obtain ⟨mk, ob⟩ := p
      simp [hp] at hx
      obtain ⟨rfl, rfl⟩ := hx
      obtain ⟨c, h1, h2, h3, h4⟩ := run_aalloc (ρ := ρ) (w := w) hs hp
      rw [h1]
      exact hn _ _ (Step.alloc H h3 h2) (by simpa using h4)
  · split at hx
    · rename_i v' h2 hp
      simp only [Option.some.injEq, Prod.mk.injEq] at hx
      obtain ⟨rfl, rfl⟩ := hx
      obtain ⟨ρ', w', h1, h2, h3⟩ := run_aeff H hs hp
      rcases h1 with h1 | ⟨rfl, h1⟩
      · rw [h1]; exact hn _ _ h2 h3
      · rw [h1]
        have := hn _ _ h2 h3
        simpa [Oper.uponIn, undef, ren, renA_eq] using this
    · rename_i f args hp
      obtain ⟨fn, b, hf, hb, hnm, hc⟩ := hcall _ _ _ _ _ hx
      obtain ⟨h1, h2⟩ := run_enter (ρ := ρ) H hs hp hf hb hnm
      rw [h1]
      refine ⟨fun h => Bool.noConfusion h, (calls_wd rd (hc ρ w H h2)).mono ?_⟩
      rintro e w' ⟨ρ', rfl, h3, h4⟩
      exact hn _ _ h3 h4
    · cases hx

def aopsI (E : Env) (call : Caller) (ops : Array Oper) : List Nat → St → Option St
  | [], s => some s
  | i :: l, s => match ops[i]? with
    | none => none
    | some o => match aop1 E call ops.toList o s with
      | some s' => aopsI E call ops l s'
      | none => none

theorem run_ops {E : Env} {B n : Nat} {ds : List Deferred} {rd : Option Nat} {call : Caller} (hcall : CallOk E B call) {ops : Array Oper} (hok : opsOk E.base n ops = true) {Q : Exit → Act → World → Prop} :
    ∀ (l : List Nat) (s s' : St) (ρ : Ren) (w : World) (a : Act), aopsI E call ops l s = some s' → HR E B ρ s.h w → FR ρ n ds s.tm a → Sc s →
      (∀ ρ' a' w', Step E B ρ s.h w ρ' s'.h w' → FR ρ' n ds s'.tm a' → Sc s' → Q .normal a' w') → wpOpsIn (Wd rd) 0 E.P ops Q l a w
  | [], s, s', ρ, w, a, hx, H, F, S, hq => by
    simp only [aopsI, Option.some.injEq] at hx; subst hx
    exact hq ρ a w (Step.refl H) F S
  | i :: l, s, s', ρ, w, a, hx, H, F, S, hq => by
    simp only [aopsI] at hx
    cases ho : ops[i]? with
    | none => simp [ho] at hx
    | some o =>
      simp only [ho] at hx
      have hall : ∀ o, o ∈ ops → operOk E.base n o = true := by
        intro o ho
        simp only [opsOk, List.all_eq_true] at hok
        exact hok o (by simpa using ho)
      have hoo := hall o (Array.mem_of_getElem? ho)
      simp only [operOk, Bool.and_eq_true, List.all_eq_true] at hoo
      have hopd : ∀ x, x ∈ o.op.operands → opdOk E.base n x = true := fun x hx => hoo.1 x (by simpa using hx)
      have hw := wanted_eq F (ops := ops) (fun o ho => by have := hall o ho; simp only [operOk, Bool.and_eq_true] at this; exact this.2) o
      simp only [wpOpsIn, ho, hw]
      unfold aop1 at hx
      split at hx
      · rename_i heq
        split at heq
        · rename_i hwt
          rw [hwt]
          simp only [if_true]
          cases hop : aop E call o.op s with
          | none => simp [hop] at heq
          | some r =>
            obtain ⟨v, h'⟩ := r
            simp only [hop, Option.some.injEq] at heq
            subst heq
            refine run_aop hcall hop H (fun x hx => sc_opd H.base_le S (hopd x hx)) (execOp_congr (aop_notSelect hop) fun x hx => eval_opd H F (hopd x hx)) ?_ rd
            intro ρ' w' hst hv
            refine run_ops hcall hok l _ _ ρ' w' _ hx hst.hr (F.put hst.ext S hoo.2 v) (sc_aput S hst.le hv) ?_
            intro ρ'' a' w'' hst' F' S'
            exact hq ρ'' a' w'' (hst.trans hst') F' S'
        · rename_i hwt
          simp only [Bool.not_eq_true] at hwt
          simp only [Option.some.injEq] at heq
          subst heq
          rw [hwt]
          simp only [Bool.false_eq_true, if_false]
          have F' := F.put (ρ' := ρ) (m := s.h.next) (fun _ _ => rfl) S hoo.2 undef
          have e : ren ρ undef = undef := by simp [undef, ren, renA_eq]
          rw [e] at F'
          exact ⟨fun _ _ => trivial, run_ops hcall hok l _ _ ρ w _ hx H F' (sc_aput (v := undef) S (Nat.le_refl _) rfl) hq⟩
      · cases hx

theorem aops_eq {E : Env} {call : Caller} {ops : Array Oper} : ∀ (l : List Oper) (k : Nat) (s : St), ops.toList.drop k = l → aops E call ops.toList l s = aopsI E call ops ((List.range' k l.length)) s
  | [], k, s, _ => rfl
  | o :: l, k, s, h => by
    have ho : ops[k]? = some o := by
      have : (ops.toList.drop k)[0]? = some o := by rw [h]; rfl
      rw [List.getElem?_drop] at this; simpa using this
    have hl : ops.toList.drop (k + 1) = l := by
      have : (ops.toList.drop k).drop 1 = l := by rw [h]; rfl
      rw [List.drop_drop] at this; exact this
    simp only [aops, List.length_cons, List.range'_succ, aopsI, ho]
    cases aop1 E call ops.toList o s with
    | none => rfl
    | some s' => exact aops_eq l (k + 1) s' hl
end Go.Tm
