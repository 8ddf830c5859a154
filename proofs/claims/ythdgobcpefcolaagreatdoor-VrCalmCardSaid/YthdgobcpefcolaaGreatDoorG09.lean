/- THE LOGIC OVER THE ENGINE: what a run of the abstract machine comes to, by the weakest condition ahead of it. -/
/- Merged by a program of ours: Fin L1. -/
import Derived.Test.YthdgobcpefcolaaGreatDoorG08
import Derived.RowKit3
set_option maxRecDepth 10000
set_option linter.all false
set_option linter.unusedSimpArgs false
set_option linter.unusedVariables false
/- THE ENGINE AT A CALL: what the abstract machine computes of a call is what the call gives in whatever world, and nothing that was there turns. Conditions: none beyond the premises stated. -/
namespace Go.Tm
open Go.RowKit (Below)

theorem hr_start {E : Env} {W : World} (hb : ∀ b o, b < E.base → E.ro b = some o → b < W.heap.size) (hro : ∀ b o, b < E.base → E.ro b = some o → W.heap[b]? = some o) : HR E W.heap.size (fun b => ⟨b, 0, 0⟩) ⟨E.base, .leaf⟩ W where
  base_le := Nat.le_refl _
  ro_B := hb
  B_le := Nat.le_refl _
  fix := fun _ _ => rfl
  ro := hro
  live := fun b o h => by simp [Heap.get, Tr.get_leaf] at h
  inj := fun b b' o o' h => by simp [Heap.get, Tr.get_leaf] at h

theorem Step.kept {E : Env} {B n : Nat} {ρ ρ' : Ren} {h' : Heap} {w w' : World} (s : Step E B ρ ⟨n, .leaf⟩ w ρ' h' w') : w.keptBut w' (fun _ => False) := by
  refine ⟨s.os, s.output, fun i hi => ?_⟩
  have := s.frame i hi (fun b o h => by simp [Heap.get, Tr.get_leaf] at h)
  rw [this]
  cases w.heap[i]? with
  | none => trivial
  | some o => cases o <;> simp

/-- A call without arguments. -/
theorem call_closed {E : Env} (hp : progOk E = true) (hkn : KnownOk E) (hit : IterOk E) (hm : E.P.follows .mixedOrders = true) {k : Nat} {f : FuncId} {v : Value} {h' : Heap} (h : acall E k f [] ⟨E.base, .leaf⟩ = some (v, h')) (hv : ∀ ρ, ren ρ v = v)
    {W : World} (hb : ∀ b o, b < E.base → E.ro b = some o → b < W.heap.size) (hro : ∀ b o, b < E.base → E.ro b = some o → W.heap[b]? = some o) : Calls E.P f #[] W fun e W' => e = .returned v ∧ W.keptBut W' (fun _ => False) := by
  obtain ⟨fn, b, _, _, _, hc⟩ := call_ok hp hkn (fun n => exec_ok hp hkn hit hm (B := W.heap.size) k n) f [] _ v h' h
  have := hc (fun b => ⟨b, 0, 0⟩) W (hr_start hb hro) (fun x hx => by simp at hx)
  refine this.mono ?_
  rintro e w' ⟨ρ', rfl, st, _⟩
  exact ⟨by rw [hv], st.kept⟩
/-- A call with arguments out of what is there. -/
theorem call_open {E : Env} (hp : progOk E = true) (hkn : KnownOk E) (hit : IterOk E) (hm : E.P.follows .mixedOrders = true) {k : Nat} {f : FuncId} {args vs : List Value} {v : Value} {h' : Heap} (h : acall E k f args ⟨E.base, .leaf⟩ = some (v, h')) (ha : ∀ x, x ∈ args → sc E.base x = true) (hvs : args.map (ren fun b => ⟨b, 0, 0⟩) = vs) (hv : ∀ ρ, ren ρ v = v)
    {W : World} (hb : ∀ b o, b < E.base → E.ro b = some o → b < W.heap.size) (hro : ∀ b o, b < E.base → E.ro b = some o → W.heap[b]? = some o) : Calls E.P f vs.toArray W fun e W' => e = .returned v ∧ Below W.heap.size W W' := by
  obtain ⟨fn, b, _, _, _, hc⟩ := call_ok hp hkn (fun n => exec_ok hp hkn hit hm (B := W.heap.size) k n) f args _ v h' h
  have := hc (fun b => ⟨b, 0, 0⟩) W (hr_start hb hro) ha
  rw [hvs] at this
  refine this.mono ?_
  rintro e w' ⟨ρ', rfl, st, _⟩
  refine ⟨by rw [hv], ⟨st.os, st.tape, st.output, st.size, fun i hi => st.frame i hi (fun b o h => by simp [Heap.get, Tr.get_leaf] at h)⟩⟩
end Go.Tm
namespace Go.Tm

/-- A call comes to an end at which Q holds. -/
def CallsTo (E : Env) (f : FuncId) (args : List Value) (h : Heap) (Q : Value → Heap → Prop) : Prop :=
  ∃ v h' k, Q v h' ∧ ∀ j, k ≤ j → acallBy E (aexec E j) f args h = some (v, h')

theorem CallsTo.mono {E : Env} {f : FuncId} {args : List Value} {h : Heap} {Q Q' : Value → Heap → Prop} (H : CallsTo E f args h Q) (m : ∀ v h', Q v h' → Q' v h') : CallsTo E f args h Q' := by
  obtain ⟨v, h', k, hq, hk⟩ := H
  exact ⟨v, h', k, m _ _ hq, hk⟩

abbrev Cont := Tr Value → Heap → Prop
abbrev XCont := Ex → Tr Value → Heap → Prop

def wpop (E : Env) (op : Op) (tm : Tr Value) (h : Heap) (K : Value → Heap → Prop) : Prop :=
  match kindOf E.P op with
  | .pure => ∃ v, apure E.P (opd tm) op = some v ∧ K v h
  | .read => ∃ v, aread E h (opd tm) op = some v ∧ K v h
  | .alloc => ∃ p, aalloc E.P (opd tm) op = some p ∧ K (p.1 h.next) (h.push p.2)
  | .eff => ∃ r, aeff E h (opd tm) op = some r ∧ match r with
    | .val v h' => K v h'
    | .enter f args => CallsTo E f args h K

/-- What goes on behind an operation. -/
def kput (tm : Tr Value) (d : Option Nat) (R : Cont) : Value → Heap → Prop := fun v h => R (aput tm d v) h

def wpo (E : Env) (O : List Oper) : List Oper → Cont → Cont
  | [], Q => Q
  | o :: l, Q => fun tm h =>
    match o.guard with
    | none => wpop E o.op tm h (kput tm o.dst (wpo E O l Q))
    | some _ => (awanted O tm o = true → wpop E o.op tm h (kput tm o.dst (wpo E O l Q))) ∧ (awanted O tm o = false → wpo E O l Q (aput tm o.dst undef) h)

theorem wpop_sound {E : Env} {op : Op} {tm : Tr Value} {h : Heap} {K : Value → Heap → Prop} (H : wpop E op tm h K) :
    ∃ v h' k, K v h' ∧ ∀ j, k ≤ j → aop E (acallBy E (aexec E j)) op ⟨tm, h⟩ = some (v, h') := by
  unfold wpop at H
  unfold aop
  split at H
  · rename_i hk
    obtain ⟨v, hv, hK⟩ := H
    exact ⟨v, h, 0, hK, fun j _ => by simp [hk, hv]⟩
  · rename_i hk
    obtain ⟨v, hv, hK⟩ := H
    exact ⟨v, h, 0, hK, fun j _ => by simp [hk, hv]⟩
  · rename_i hk
    obtain ⟨p, hv, hK⟩ := H
    exact ⟨_, _, 0, hK, fun j _ => by simp [hk, hv]⟩
  · rename_i hk
    obtain ⟨r, hv, hK⟩ := H
    cases r with
    | val v h' => exact ⟨v, h', 0, hK, fun j _ => by simp [hk, hv]⟩
    | enter f args =>
      obtain ⟨v, h', k, hq, hh⟩ := hK
      exact ⟨v, h', k, hq, fun j hj => by simp [hk, hv, hh j hj]⟩

theorem wpo_sound {E : Env} {O : List Oper} : ∀ (l : List Oper) (Q : Cont) (tm : Tr Value) (h : Heap), wpo E O l Q tm h →
    ∃ tm' h' k, Q tm' h' ∧ ∀ j, k ≤ j → aops E (acallBy E (aexec E j)) O l ⟨tm, h⟩ = some ⟨tm', h'⟩
  | [], Q, tm, h, H => ⟨tm, h, 0, H, fun j _ => rfl⟩
  | o :: l, Q, tm, h, H => by
    have key : awanted O tm o = true → wpop E o.op tm h (kput tm o.dst (wpo E O l Q)) → ∃ tm' h' k, Q tm' h' ∧ ∀ j, k ≤ j → aops E (acallBy E (aexec E j)) O (o :: l) ⟨tm, h⟩ = some ⟨tm', h'⟩ := by
      intro ha hw
      obtain ⟨v, h1, k1, hK, hk1⟩ := wpop_sound hw
      obtain ⟨tm', h', k2, hq, hk2⟩ := wpo_sound l Q _ _ hK
      refine ⟨tm', h', max k1 k2, hq, fun j hj => ?_⟩
      simp only [aops, aop1, ha, if_true, hk1 j (by omega), hk2 j (by omega)]
    have key2 : awanted O tm o = false → wpo E O l Q (aput tm o.dst undef) h → ∃ tm' h' k, Q tm' h' ∧ ∀ j, k ≤ j → aops E (acallBy E (aexec E j)) O (o :: l) ⟨tm, h⟩ = some ⟨tm', h'⟩ := by
      intro ha hw
      obtain ⟨tm', h', k2, hq, hk2⟩ := wpo_sound l Q _ _ hw
      refine ⟨tm', h', k2, hq, fun j hj => ?_⟩
      simp only [aops, aop1, ha, Bool.false_eq_true, if_false, hk2 j hj]
    simp only [wpo] at H
    split at H
    · rename_i hg
      exact key (by simp [awanted, hg]) H
    · cases ha : awanted O tm o with
      | true => exact key ha (H.1 ha)
      | false => exact key2 ha (H.2 ha)

/- A region that draws its order: run in the text's order; what it reads must not hang on what it leaves unordered to the reading. -/
def unord (P : Program) (O : List Oper) (M : List Nat) : List (Nat × Nat) :=
  (O.zipIdx.filter fun x => isR P x.1).flatMap fun x => ((O.zipIdx.filter fun x => isE P x.1).filter fun y => !(bef M x.2 y.2 || bef M y.2 x.2)).map fun y => (x.2, y.2)

/-- The text shows that every order comes to the same. -/
def calm (P : Program) (O : List Oper) : Bool :=
  dstat P O (masks O []) none && (match spOf P O (masks O []) with | none => true | some _ => false) && (unord P O (masks O [])).isEmpty

/-- Run in the text's order, keeping the states on the way. -/
def wpt (E : Env) (O : List Oper) : List Oper → List St → (List St → Prop) → Cont
  | [], tr, Q => fun tm h => Q (tr ++ [⟨tm, h⟩])
  | o :: l, tr, Q => fun tm h =>
    match o.guard with
    | none => wpop E o.op tm h (kput tm o.dst (wpt E O l (tr ++ [⟨tm, h⟩]) Q))
    | some _ => (awanted O tm o = true → wpop E o.op tm h (kput tm o.dst (wpt E O l (tr ++ [⟨tm, h⟩]) Q))) ∧ (awanted O tm o = false → wpt E O l (tr ++ [⟨tm, h⟩]) Q (aput tm o.dst undef) h)

/-- What a run must show at a region that draws. -/
def drawOk (E : Env) (O : List Oper) (s : St) (tr : List St) : Bool :=
  (dstat E.P O (masks O []) (spOf E.P O (masks O [])) && ddyn E O (masks O []) (spOf E.P O (masks O [])) (sget tr s)) ||
  (!dstat E.P O (masks O []) (spOf E.P O (masks O [])) && (dstat2 E.P O (masks O []) && ddyn2 E O (masks O []) (sget tr s)))

def wdraw (E : Env) (O : List Oper) (Q : Cont) : Cont := fun tm h =>
  (calm E.P O = true ∧ wpo E O O Q tm h) ∨ wpt E O O [] (fun tr => drawOk E O ⟨tm, h⟩ tr = true ∧ Q (sget tr ⟨tm, h⟩ O.length).tm (sget tr ⟨tm, h⟩ O.length).h) tm h

/-- The rest of a run. -/
def kseq (R : Cont) (Q : XCont) : XCont := fun e tm h =>
  match e with
  | .normal => R tm h
  | e => Q e tm h

def kblock (id : Nat) (Q : XCont) : XCont := fun e tm h =>
  match e with
  | .exit i => if i = id then Q .normal tm h else Q (.exit i) tm h
  | e => Q e tm h

def kloop (I : Nat → Cont) (n : Nat) (Q : XCont) : XCont := fun e tm h =>
  match e with
  | .normal => ∃ m, m < n ∧ I m tm h
  | e => Q e tm h

def kscope (b : Code) (I : Nat → Code → Cont) (n : Nat) (Q : XCont) : XCont := fun e tm h =>
  match e with
  | .goto l => ∃ m c, m < n ∧ findLabel b l = some c ∧ I m c tm h
  | e => Q e tm h

/-- A run of code comes to an end at which Q holds. -/
def Runs (E : Env) (c : Code) (Q : XCont) (tm : Tr Value) (h : Heap) : Prop :=
  ∃ e s' k, Q e s'.tm s'.h ∧ ∀ j, k ≤ j → aexec E j c ⟨tm, h⟩ = some (e, s')

theorem Runs.mono {E : Env} {c : Code} {Q Q' : XCont} {tm : Tr Value} {h : Heap} (H : Runs E c Q tm h) (m : ∀ e tm h, Q e tm h → Q' e tm h) : Runs E c Q' tm h := by
  obtain ⟨e, s', k, hq, hk⟩ := H
  exact ⟨e, s', k, m _ _ _ hq, hk⟩

def kif (_E : Env) (v : Value) (x y : XCont → Cont) (Q : XCont) (tm : Tr Value) (h : Heap) : Prop :=
  match v with
  | .bool true => x Q tm h
  | .bool false => y Q tm h
  | _ => False

/-- Behind a round of a range over a function. -/
def kback (tm0 : Tr Value) (I : Nat → Nat → Heap → Prop) (n i : Nat) (Q : XCont) : XCont := fun e _ h =>
  match e with
  | .normal => ∃ m, m < n ∧ I m (i + 1) h
  | e => Q e tm0 h

def kround (assign body : XCont → Cont) (p : Nat) (tm : Tr Value) (K Q : XCont) (o : Option Value) (h : Heap) : Prop :=
  match o with
  | none => Q .normal tm h
  | some v => assign (kseq (body K) (fun _ _ _ => False)) (tm.set p (some v)) h

def krange (E : Env) (g : Operand) (ps : Array Tmp) (fl : Bool) (assign body : XCont → Cont) (Q : XCont) : Cont := fun tm h =>
  fl = true ∧ ∃ it p, aiter E (opd tm g) = some it ∧ ps.toList = [p] ∧ ∃ (I : Nat → Nat → Heap → Prop) (n : Nat), I n 0 h ∧
    ∀ n i h, I n i h → ∃ o, it h i = some o ∧ kround assign body p tm (kback tm I n i Q) Q o h

def wpc (E : Env) : Code → XCont → Cont
  | .skip, Q => Q .normal
  | .label _, Q => Q .normal
  | .ret, Q => Q .ret
  | .exit id, Q => Q (.exit id)
  | .goto l, Q => Q (.goto l)
  | .seq a b, Q => wpc E a (kseq (wpc E b Q) Q)
  | .cond c x y, Q => fun tm h => kif E (opd tm c) (wpc E x) (wpc E y) Q tm h
  | .block id b, Q => wpc E b (kblock id Q)
  | .loop b, Q => fun tm h => ∃ (I : Nat → Cont) (n : Nat), I n tm h ∧ ∀ n tm h, I n tm h → wpc E b (kloop I n Q) tm h
  | .scope b, Q => fun tm h => ∃ (I : Nat → Code → Cont) (n : Nat), I n b tm h ∧ ∀ n c tm h, I n c tm h → Runs E c (kscope b I n Q) tm h
  | .region _ ops false, Q => wpo E ops.toList ops.toList (Q .normal)
  | .region _ ops true, Q => wdraw E ops.toList (Q .normal)
  | .rangeFunc g ps x y, Q => krange E g ps (flat x && flat y) (wpc E x) (wpc E y) Q
  | _, _ => fun _ _ => False

theorem wpt_sound {E : Env} {O : List Oper} : ∀ (l : List Oper) (tr : List St) (Q : List St → Prop) (tm : Tr Value) (h : Heap), wpt E O l tr Q tm h →
    ∃ tr' k, Q (tr ++ tr') ∧ ∀ j, k ≤ j → trace E (acallBy E (aexec E j)) O l ⟨tm, h⟩ = some tr'
  | [], tr, Q, tm, h, H => ⟨[⟨tm, h⟩], 0, H, fun j _ => rfl⟩
  | o :: l, tr, Q, tm, h, H => by
    have key : awanted O tm o = true → wpop E o.op tm h (kput tm o.dst (wpt E O l (tr ++ [⟨tm, h⟩]) Q)) → ∃ tr' k, Q (tr ++ tr') ∧ ∀ j, k ≤ j → trace E (acallBy E (aexec E j)) O (o :: l) ⟨tm, h⟩ = some tr' := by
      intro ha hw
      obtain ⟨v, h1, k1, hK, hk1⟩ := wpop_sound hw
      obtain ⟨tr', k2, hq, hk2⟩ := wpt_sound l _ Q _ _ hK
      refine ⟨⟨tm, h⟩ :: tr', max k1 k2, by simpa using hq, fun j hj => ?_⟩
      simp only [trace, aop1, ha, if_true, hk1 j (by omega), hk2 j (by omega), Option.map_some]
    have key2 : awanted O tm o = false → wpt E O l (tr ++ [⟨tm, h⟩]) Q (aput tm o.dst undef) h → ∃ tr' k, Q (tr ++ tr') ∧ ∀ j, k ≤ j → trace E (acallBy E (aexec E j)) O (o :: l) ⟨tm, h⟩ = some tr' := by
      intro ha hw
      obtain ⟨tr', k2, hq, hk2⟩ := wpt_sound l _ Q _ _ hw
      refine ⟨⟨tm, h⟩ :: tr', k2, by simpa using hq, fun j hj => ?_⟩
      simp only [trace, aop1, ha, Bool.false_eq_true, if_false, hk2 j hj, Option.map_some]
    simp only [wpt] at H
    split at H
    · rename_i hg
      exact key (by simp [awanted, hg]) H
    · cases ha : awanted O tm o with
      | true => exact key ha (H.1 ha)
      | false => exact key2 ha (H.2 ha)

theorem trace_ops {E : Env} {call : Caller} {O : List Oper} : ∀ (l : List Oper) (s s' : St), aops E call O l s = some s' → ∃ tr, trace E call O l s = some tr ∧ ∀ d, sget tr d l.length = s'
  | [], s, s', h => by
    simp only [aops, Option.some.injEq] at h; subst h
    exact ⟨[s], rfl, fun d => rfl⟩
  | o :: l, s, s', h => by
    simp only [aops] at h
    cases ha : aop1 E call O o s with
    | none => simp [ha] at h
    | some s1 =>
      simp only [ha] at h
      obtain ⟨tr, h1, h2⟩ := trace_ops l s1 s' h
      refine ⟨s :: tr, by simp only [trace, ha, h1, Option.map_some], fun d => ?_⟩
      have := h2 d
      simpa [sget] using this

theorem unord_mem {P : Program} {O : List Oper} {M : List Nat} (h : (unord P O M).isEmpty = true) : ∀ x, x ∈ O.zipIdx.filter (fun x => isR P x.1) → ∀ y, y ∈ O.zipIdx.filter (fun x => isE P x.1) → (bef M x.2 y.2 || bef M y.2 x.2) = true := by
  intro x hx y hy
  cases hb : (bef M x.2 y.2 || bef M y.2 x.2) with
  | true => rfl
  | false =>
    have : (x.2, y.2) ∈ unord P O M := by
      unfold unord
      rw [List.mem_flatMap]
      refine ⟨x, hx, List.mem_map.2 ⟨y, List.mem_filter.2 ⟨hy, by simp [hb]⟩, rfl⟩⟩
    rw [List.isEmpty_iff] at h
    rw [h] at this
    simp at this

theorem calm_draw {E : Env} {O : List Oper} (hc : calm E.P O = true) {call : Caller} {s s' : St} (h : aops E call O O s = some s') : adrawX E call O s = some s' := by
  obtain ⟨tr, h1, h2⟩ := trace_ops O s s' h
  unfold calm at hc
  simp only [Bool.and_eq_true] at hc
  obtain ⟨⟨c1, c2⟩, c3⟩ := hc
  have hsp : spOf E.P O (masks O []) = none := by
    cases hx : spOf E.P O (masks O []) with
    | none => rfl
    | some p => simp [hx] at c2
  unfold adrawX
  simp only [h1, hsp, c1, if_true]
  rw [if_pos, h2]
  simp only [ddyn, Bool.and_eq_true, List.all_eq_true, and_true]
  intro x hx y hy
  have := unord_mem c3 x hx y hy
  simp only [Bool.or_eq_true] at this ⊢
  rcases this with h | h
  · exact .inl h
  · exact .inr (.inl h)

theorem wdraw_sound {E : Env} {O : List Oper} {Q : Cont} {tm : Tr Value} {h : Heap} (H : wdraw E O Q tm h) :
    ∃ tm' h' k, Q tm' h' ∧ ∀ j, k ≤ j → adrawX E (acallBy E (aexec E j)) O ⟨tm, h⟩ = some ⟨tm', h'⟩ := by
  rcases H with ⟨hc, H⟩ | H
  · obtain ⟨tm', h', k, hq, hk⟩ := wpo_sound _ _ _ _ H
    exact ⟨tm', h', k, hq, fun j hj => calm_draw hc (hk j hj)⟩
  · obtain ⟨tr, k, ⟨hd, hq⟩, hk⟩ := wpt_sound _ _ _ _ _ H
    simp only [List.nil_append] at hd hq
    refine ⟨_, _, k, hq, fun j hj => ?_⟩
    unfold drawOk at hd
    unfold adrawX
    simp only [hk j hj]
    simp only [Bool.or_eq_true, Bool.and_eq_true, Bool.not_eq_true'] at hd
    rcases hd with ⟨d1, d2⟩ | ⟨d1, d2⟩
    · rw [if_pos d1, if_pos d2]
    · rw [if_neg (by rw [d1]; simp), if_pos d2]

theorem loop_sound {E : Env} {b : Code} {I : Nat → Cont} {Q : XCont} (hb : ∀ n tm h, I n tm h → Runs E b (kloop I n Q) tm h) :
    ∀ (n : Nat) (tm : Tr Value) (h : Heap), I n tm h → ∃ e s' k, Q e s'.tm s'.h ∧ ∀ j, k ≤ j → ∀ r, k ≤ r → arounds (aexec E j b) r ⟨tm, h⟩ = some (e, s') := by
  intro n
  induction n using Nat.strongRecOn with
  | ind n ih =>
    intro tm h hI
    obtain ⟨e, s1, k1, hq, hk⟩ := hb n tm h hI
    cases e with
    | normal =>
      obtain ⟨m, hm, hI'⟩ := hq
      obtain ⟨e, s', k2, hq, hk2⟩ := ih m hm s1.tm s1.h hI'
      refine ⟨e, s', max k1 k2 + 1, hq, fun j hj r hr => ?_⟩
      obtain ⟨r, rfl⟩ : ∃ r', r = r' + 1 := ⟨r - 1, by omega⟩
      simp only [arounds, hk j (by omega)]
      exact hk2 j (by omega) r (by omega)
    | ret =>
      refine ⟨_, s1, k1 + 1, hq, fun j hj r hr => ?_⟩
      obtain ⟨r, rfl⟩ : ∃ r', r = r' + 1 := ⟨r - 1, by omega⟩
      simp only [arounds, hk j (by omega)]
    | exit id =>
      refine ⟨_, s1, k1 + 1, hq, fun j hj r hr => ?_⟩
      obtain ⟨r, rfl⟩ : ∃ r', r = r' + 1 := ⟨r - 1, by omega⟩
      simp only [arounds, hk j (by omega)]
    | goto l =>
      refine ⟨_, s1, k1 + 1, hq, fun j hj r hr => ?_⟩
      obtain ⟨r, rfl⟩ : ∃ r', r = r' + 1 := ⟨r - 1, by omega⟩
      simp only [arounds, hk j (by omega)]

theorem scope_sound {E : Env} {b : Code} {I : Nat → Code → Cont} {Q : XCont} (hb : ∀ n c tm h, I n c tm h → Runs E c (kscope b I n Q) tm h) :
    ∀ (n : Nat) (c : Code) (tm : Tr Value) (h : Heap), I n c tm h → ∃ e s' k, Q e s'.tm s'.h ∧ ∀ j, k ≤ j → ∀ r, k ≤ r → ascope (aexec E j) b r c ⟨tm, h⟩ = some (e, s') := by
  intro n
  induction n using Nat.strongRecOn with
  | ind n ih =>
    intro c tm h hI
    obtain ⟨e, s1, k1, hq, hk⟩ := hb n c tm h hI
    cases e with
    | goto l =>
      obtain ⟨m, c', hm, hf, hI'⟩ := hq
      obtain ⟨e, s', k2, hq, hk2⟩ := ih m hm c' s1.tm s1.h hI'
      refine ⟨e, s', max k1 k2 + 1, hq, fun j hj r hr => ?_⟩
      obtain ⟨r, rfl⟩ : ∃ r', r = r' + 1 := ⟨r - 1, by omega⟩
      simp only [ascope, hk j (by omega), hf]
      exact hk2 j (by omega) r (by omega)
    | ret =>
      refine ⟨_, s1, k1 + 1, hq, fun j hj r hr => ?_⟩
      obtain ⟨r, rfl⟩ : ∃ r', r = r' + 1 := ⟨r - 1, by omega⟩
      simp only [ascope, hk j (by omega)]
    | exit id =>
      refine ⟨_, s1, k1 + 1, hq, fun j hj r hr => ?_⟩
      obtain ⟨r, rfl⟩ : ∃ r', r = r' + 1 := ⟨r - 1, by omega⟩
      simp only [ascope, hk j (by omega)]
    | normal =>
      refine ⟨_, s1, k1 + 1, hq, fun j hj r hr => ?_⟩
      obtain ⟨r, rfl⟩ : ∃ r', r = r' + 1 := ⟨r - 1, by omega⟩
      simp only [ascope, hk j (by omega)]

theorem range_sound {E : Env} {x y : Code} {it : Heap → Nat → Option (Option Value)} {p : Nat} {tm : Tr Value} {I : Nat → Nat → Heap → Prop} {Q : XCont}
    (hx : ∀ (Q : XCont) (tm : Tr Value) (h : Heap), wpc E x Q tm h → Runs E x Q tm h) (hy : ∀ (Q : XCont) (tm : Tr Value) (h : Heap), wpc E y Q tm h → Runs E y Q tm h)
    (hb : ∀ n i h, I n i h → ∃ o, it h i = some o ∧ kround (wpc E x) (wpc E y) p tm (kback tm I n i Q) Q o h) :
    ∀ (n i : Nat) (h : Heap), I n i h → ∃ e s' k, Q e s'.tm s'.h ∧ ∀ j, k ≤ j → ∀ r, k ≤ r → arange (aexec E j) it p x y tm r i h = some (e, s') := by
  intro n
  induction n using Nat.strongRecOn with
  | ind n ih =>
    intro i h hI
    obtain ⟨o, ho, hk⟩ := hb n i h hI
    cases o with
    | none =>
      refine ⟨.normal, ⟨tm, h⟩, 1, hk, fun j hj r hr => ?_⟩
      obtain ⟨r, rfl⟩ : ∃ r', r = r' + 1 := ⟨r - 1, by omega⟩
      simp only [arange, ho]
    | some v =>
      obtain ⟨ea, sa, k1, hq, hk1⟩ := hx _ _ _ hk
      cases ea with
      | ret => exact hq.elim
      | exit id => exact hq.elim
      | goto l => exact hq.elim
      | normal =>
        obtain ⟨eb, sb, k2, hq, hk2⟩ := hy _ _ _ hq
        cases eb with
        | normal =>
          obtain ⟨m, hm, hI'⟩ := hq
          obtain ⟨e, s', k3, hq, hk3⟩ := ih m hm (i + 1) sb.h hI'
          refine ⟨e, s', max (max k1 k2) k3 + 1, hq, fun j hj r hr => ?_⟩
          obtain ⟨r, rfl⟩ : ∃ r', r = r' + 1 := ⟨r - 1, by omega⟩
          simp only [arange, ho, hk1 j (by omega), hk2 j (by omega)]
          exact hk3 j (by omega) r (by omega)
        | ret =>
          refine ⟨.ret, ⟨tm, sb.h⟩, max k1 k2 + 1, hq, fun j hj r hr => ?_⟩
          obtain ⟨r, rfl⟩ : ∃ r', r = r' + 1 := ⟨r - 1, by omega⟩
          simp only [arange, ho, hk1 j (by omega), hk2 j (by omega)]
        | exit id =>
          refine ⟨.exit id, ⟨tm, sb.h⟩, max k1 k2 + 1, hq, fun j hj r hr => ?_⟩
          obtain ⟨r, rfl⟩ : ∃ r', r = r' + 1 := ⟨r - 1, by omega⟩
          simp only [arange, ho, hk1 j (by omega), hk2 j (by omega)]
        | goto l =>
          refine ⟨.goto l, ⟨tm, sb.h⟩, max k1 k2 + 1, hq, fun j hj r hr => ?_⟩
          obtain ⟨r, rfl⟩ : ∃ r', r = r' + 1 := ⟨r - 1, by omega⟩
          simp only [arange, ho, hk1 j (by omega), hk2 j (by omega)]

theorem wpc_runs {E : Env} : ∀ (c : Code) (Q : XCont) (tm : Tr Value) (h : Heap), wpc E c Q tm h → Runs E c Q tm h := by
  have one : ∀ {c : Code} {Q : XCont} {tm : Tr Value} {h : Heap} (e : Ex), Q e tm h → (∀ j s, aexec E (j + 1) c s = some (e, s)) → Runs E c Q tm h := by
    intro c Q tm h e hq hs
    refine ⟨e, ⟨tm, h⟩, 1, hq, fun j hj => ?_⟩
    obtain ⟨j, rfl⟩ : ∃ j', j = j' + 1 := ⟨j - 1, by omega⟩
    exact hs j _
  intro c
  induction c with
  | skip => intro Q tm h H; exact one .normal H fun _ _ => rfl
  | label l => intro Q tm h H; exact one .normal H fun _ _ => rfl
  | ret => intro Q tm h H; exact one .ret H fun _ _ => rfl
  | exit id => intro Q tm h H; exact one (.exit id) H fun _ _ => rfl
  | goto l => intro Q tm h H; exact one (.goto l) H fun _ _ => rfl
  | seq a b iha ihb =>
    intro Q tm h H
    obtain ⟨e, s1, k1, hq, hk⟩ := iha _ _ _ H
    cases e with
    | normal =>
      obtain ⟨e, s', k2, hq, hk2⟩ := ihb _ _ _ hq
      refine ⟨e, s', max k1 k2 + 1, hq, fun j hj => ?_⟩
      obtain ⟨j, rfl⟩ : ∃ j', j = j' + 1 := ⟨j - 1, by omega⟩
      simp only [aexec, hk j (by omega)]
      exact hk2 j (by omega)
    | ret =>
      refine ⟨_, s1, k1 + 1, hq, fun j hj => ?_⟩
      obtain ⟨j, rfl⟩ : ∃ j', j = j' + 1 := ⟨j - 1, by omega⟩
      simp only [aexec, hk j (by omega)]
    | exit id =>
      refine ⟨_, s1, k1 + 1, hq, fun j hj => ?_⟩
      obtain ⟨j, rfl⟩ : ∃ j', j = j' + 1 := ⟨j - 1, by omega⟩
      simp only [aexec, hk j (by omega)]
    | goto l =>
      refine ⟨_, s1, k1 + 1, hq, fun j hj => ?_⟩
      obtain ⟨j, rfl⟩ : ∃ j', j = j' + 1 := ⟨j - 1, by omega⟩
      simp only [aexec, hk j (by omega)]
  | cond c x y ihx ihy =>
    intro Q tm h H
    simp only [wpc, kif] at H
    split at H
    · rename_i hc
      obtain ⟨e, s', k, hq, hk⟩ := ihx _ _ _ H
      refine ⟨e, s', k + 1, hq, fun j hj => ?_⟩
      obtain ⟨j, rfl⟩ : ∃ j', j = j' + 1 := ⟨j - 1, by omega⟩
      simp only [aexec, hc, hk j (by omega)]
    · rename_i hc
      obtain ⟨e, s', k, hq, hk⟩ := ihy _ _ _ H
      refine ⟨e, s', k + 1, hq, fun j hj => ?_⟩
      obtain ⟨j, rfl⟩ : ∃ j', j = j' + 1 := ⟨j - 1, by omega⟩
      simp only [aexec, hc, hk j (by omega)]
    · exact H.elim
  | block id b ih =>
    intro Q tm h H
    obtain ⟨e, s1, k1, hq, hk⟩ := ih _ _ _ H
    cases e with
    | exit i =>
      simp only [kblock] at hq
      by_cases hi : i = id
      · rw [if_pos hi] at hq
        refine ⟨_, s1, k1 + 1, hq, fun j hj => ?_⟩
        obtain ⟨j, rfl⟩ : ∃ j', j = j' + 1 := ⟨j - 1, by omega⟩
        simp only [aexec, hk j (by omega), hi, if_true]
      · rw [if_neg hi] at hq
        refine ⟨_, s1, k1 + 1, hq, fun j hj => ?_⟩
        obtain ⟨j, rfl⟩ : ∃ j', j = j' + 1 := ⟨j - 1, by omega⟩
        simp only [aexec, hk j (by omega), hi, if_false]
    | normal =>
      refine ⟨_, s1, k1 + 1, hq, fun j hj => ?_⟩
      obtain ⟨j, rfl⟩ : ∃ j', j = j' + 1 := ⟨j - 1, by omega⟩
      simp only [aexec, hk j (by omega)]
    | ret =>
      refine ⟨_, s1, k1 + 1, hq, fun j hj => ?_⟩
      obtain ⟨j, rfl⟩ : ∃ j', j = j' + 1 := ⟨j - 1, by omega⟩
      simp only [aexec, hk j (by omega)]
    | goto l =>
      refine ⟨_, s1, k1 + 1, hq, fun j hj => ?_⟩
      obtain ⟨j, rfl⟩ : ∃ j', j = j' + 1 := ⟨j - 1, by omega⟩
      simp only [aexec, hk j (by omega)]
  | loop b ih =>
    intro Q tm h H
    obtain ⟨I, n, hI, hb⟩ := H
    obtain ⟨e, s', k, hq, hk⟩ := loop_sound (fun n tm h hh => ih _ _ _ (hb n tm h hh)) n tm h hI
    refine ⟨e, s', k + 1, hq, fun j hj => ?_⟩
    obtain ⟨j, rfl⟩ : ∃ j', j = j' + 1 := ⟨j - 1, by omega⟩
    simp only [aexec]
    exact hk j (by omega) j (by omega)
  | scope b _ =>
    intro Q tm h H
    obtain ⟨I, n, hI, hb⟩ := H
    obtain ⟨e, s', k, hq, hk⟩ := scope_sound hb n b tm h hI
    refine ⟨e, s', k + 1, hq, fun j hj => ?_⟩
    obtain ⟨j, rfl⟩ : ∃ j', j = j' + 1 := ⟨j - 1, by omega⟩
    simp only [aexec]
    exact hk j (by omega) j (by omega)
  | region id ops draw =>
    intro Q tm h H
    cases draw with
    | false =>
      obtain ⟨tm', h', k, hq, hk⟩ := wpo_sound _ _ _ _ H
      refine ⟨.normal, ⟨tm', h'⟩, k + 1, hq, fun j hj => ?_⟩
      obtain ⟨j, rfl⟩ : ∃ j', j = j' + 1 := ⟨j - 1, by omega⟩
      simp only [aexec, hk j (by omega), Option.map_some]
    | true =>
      obtain ⟨tm', h', k, hq, hk⟩ := wdraw_sound H
      refine ⟨.normal, ⟨tm', h'⟩, k + 1, hq, fun j hj => ?_⟩
      obtain ⟨j, rfl⟩ : ∃ j', j = j' + 1 := ⟨j - 1, by omega⟩
      simp only [aexec, hk j (by omega), Option.map_some]
  | rangeFunc g ps x y ihx ihy =>
    intro Q tm h H
    obtain ⟨hfl, it, p, hai, hps, I, n, h0, hI⟩ := H
    simp only [Bool.and_eq_true] at hfl
    obtain ⟨e, s', k, hq, hk⟩ := range_sound ihx ihy hI n 0 h h0
    refine ⟨e, s', k + 1, hq, fun j hj => ?_⟩
    obtain ⟨j, rfl⟩ : ∃ j', j = j' + 1 := ⟨j - 1, by omega⟩
    simp only [aexec, hai, hps, hfl, and_self, if_true]
    exact hk j (by omega) j (by omega)
  | refuse _ => intro Q tm h H; exact H.elim

/-- What a function's end asks. -/
def kleave (E : Env) (rs : List ResultVar) (Q : Value → Heap → Prop) : XCont := fun e tm h =>
  match e with
  | .normal => ∃ l, aresults E ⟨tm, h⟩ rs = some l ∧ Q (aret l) h
  | .ret => ∃ l, aresults E ⟨tm, h⟩ rs = some l ∧ Q (aret l) h
  | _ => False

theorem calls_known {E : Env} {f : FuncId} {args : List Value} {v : Value} (hk : E.known f args = some v) {h : Heap} {Q : Value → Heap → Prop} (hq : Q v h) : CallsTo E f args h Q :=
  ⟨v, h, 0, hq, fun j _ => by simp only [acallBy, hk]⟩

theorem calls_of_runs {E : Env} {f : FuncId} {fn : Func} {b : Code} (hf : E.P.funcs[f]? = some fn) (hb : fn.body = some b) {args : List Value} (hkn : E.known f args = none) (hl : args.length ≤ fn.ntmps) (hn : (fn.name == "runtime.NumGoroutine") = false) {rs : List ResultVar} (hrs : fn.results.toList = rs)
    {h : Heap} {Q : Value → Heap → Prop} (H : Runs E b (kleave E rs Q) (afrom 0 args .leaf) h) : CallsTo E f args h Q := by
  subst hrs
  obtain ⟨e, s', k, hq, hk⟩ := H
  have hf' : E.P.funcs.toList[f]? = some fn := by rw [Array.getElem?_toList]; exact hf
  cases e with
  | normal =>
    obtain ⟨l, hl', hq⟩ := hq
    refine ⟨_, _, k, hq, fun j hj => ?_⟩
    simp only [acallBy, hkn, acallText, hf', hb]
    rw [if_pos ⟨hl, hn⟩, hk j hj]
    simp only [aleave]
    rw [show s' = ⟨s'.tm, s'.h⟩ from rfl, hl']; rfl
  | ret =>
    obtain ⟨l, hl', hq⟩ := hq
    refine ⟨_, _, k, hq, fun j hj => ?_⟩
    simp only [acallBy, hkn, acallText, hf', hb]
    rw [if_pos ⟨hl, hn⟩, hk j hj]
    simp only [aleave]
    rw [show s' = ⟨s'.tm, s'.h⟩ from rfl, hl']; rfl
  | exit id => exact hq.elim
  | goto l => exact hq.elim

/-- slices.Chunk by two: the boxes hold the slice and the two. -/
def chunkIt (lb : List Value) (h : Heap) (i : Nat) : Option (Option Value) :=
  match lb with
  | [.pointer (some a), .pointer (some c)] =>
    match a.spot, c.spot, a.off, c.off, h.get a.block, h.get c.block with
    | none, none, 0, 0, some (.cells [.slice sa len cap] _ _), some (.cells [.int .i64 2] _ _) =>
      match sa with
      | none => if len = 0 then some none else none
      | some s => match s.spot with
        | none => if len % 2 = 0 ∧ len ≤ 1073741824 ∧ len ≤ cap then
            (if 2 * i < len then some (some (.slice (some ⟨s.block, s.off + 2 * i, some 0⟩) 2 2)) else some none) else none
        | some _ => none
    | _, _, _, _, _, _ => none
  | _ => none

end Go.Tm
