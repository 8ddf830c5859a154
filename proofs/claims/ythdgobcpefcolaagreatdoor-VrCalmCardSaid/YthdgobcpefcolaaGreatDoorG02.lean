/- The engine, tenth part: append, copy, clear. -/
/- Merged by a program of ours: Eng7 Eng8 Eng9 Eng10. -/
import Derived.Test.YthdgobcpefcolaaGreatDoorG01
set_option maxRecDepth 10000
set_option linter.all false
set_option linter.unusedSimpArgs false
set_option linter.unusedVariables false
/- The engine, seventh part: operations on memory, and the run of code. (Definitions.) -/
namespace Go.Tm

def acells (E : Env) (h : Heap) (a : Addr) (n : Nat) : Option (List Value) :=
  match a.spot with
  | some _ => none
  | none =>
    if a.block < E.base then
      match E.ro a.block with
      | some (.cells c _ _) => if a.off + n ≤ c.size ∧ ((c.toList.drop a.off).take n).all (cl1 E.base) = true then some (((c.toList.drop a.off).take n).map enc1) else none
      | _ => none
    else match h.get a.block with
      | some (.cells c _ _) => if a.off + n ≤ c.length then some ((c.drop a.off).take n) else none
      | _ => none

def aload (E : Env) (h : Heap) (t : TypeId) (x : Value) : Option Value :=
  match x with
  | .pointer (some a) =>
    match aagg E.P t, asz E.P t with
    | some true, some n => (acells E h a n).map fun l => .agg l.toArray
    | some false, _ => (acells E h a 1).bind fun l => l[0]?
    | _, _ => none
  | _ => none

def acan (h : Heap) (a : Addr) (n : Nat) : Bool :=
  match a.spot with
  | some _ => false
  | none => match h.get a.block with
    | some (.cells c _ _) => decide (a.off + n ≤ c.length)
    | _ => false

def awrite (h : Heap) (a : Addr) (vs : List Value) : Option Heap :=
  match a.spot with
  | some _ => none
  | none => match h.get a.block with
    | some (.cells c e fx) => if a.off + vs.length ≤ c.length ∧ vs.all Value.oneCell' = true then some (h.put a.block (.cells (splice c a.off vs) e fx)) else none
    | _ => none

def astore (E : Env) (h : Heap) (t : TypeId) (x v : Value) : Option Heap :=
  match x with
  | .pointer (some a) => if asz E.P t = some (vcells v).length then awrite h a (vcells v) else none
  | _ => none

def anew (h : Heap) : Addr := ⟨h.next, 0, none⟩

def arep : Nat → List Value → List Value
  | 0, _ => []
  | n + 1, z => z ++ arep n z

/-- New memory: the value, and what is laid. -/
def aalloc (P : Program) (ev : Operand → Value) : Op → Option ((Nat → Value) × AObj)
  | .alloc e => (azero P e).map fun z => (fun b => .pointer (some ⟨b, 0, none⟩), .cells (vcells z) e true)
  | .box e x => some (fun b => .pointer (some ⟨b, 0, none⟩), .cells (vcells (ev x)) e true)
  | .buildSlice t len parts =>
    match P.underlying t with
    | some (.slice e) =>
      match asz P e, azero P e with
      | some (size + 1), some z =>
        if len * (size + 1) ≤ 16777216 ∧ (vcells z).length = size + 1 then
          (afill (fun i => some (i * (size + 1), size + 1)) (arep len (vcells z)) (parts.toList.map fun p => (p.1, ev p.2))).map fun l =>
            (fun b => .slice (some ⟨b, 0, none⟩) len len, .cells l e true)
        else none
      | _, _ => none
    | _ => none
  | .makeSlice t l c =>
    match P.underlying t, ev l, ev c with
    | some (.slice e), .int _ l, .int _ c =>
      match P.info? e, azero P e with
      | some i, some z =>
        if 0 ≤ l ∧ l ≤ c ∧ c ≤ 9223372036854775807 ∧ (i.bytes : Int) * c ≤ 281474976710656 ∧ (vcells z).length = i.size ∧ 0 < i.size then
          some (fun b => .slice (some ⟨b, 0, none⟩) l.toNat c.toNat, .cells (arep c.toNat (vcells z)) e true)
        else none
      | _, _ => none
    | _, _, _ => none
  | .makeMap _ none => some (fun b => .map (some b), .map [] 0)
  | .range t x =>
    match P.underlying t, ev x with
    | some .string, .string s => some (fun b => .pointer (some ⟨b, 0, none⟩), .iter s 0)
    | _, _ => none
  | _ => none

def afindKey (k : Value) : List MapEntry → Option Nat
  | [] => none
  | e :: es =>
    match k, e.key with
    | .int _ a, .int _ b => if a = b then some 0 else (afindKey k es).map (· + 1)
    | .string a, .string b => if a.data.toList == b.data.toList then some 0 else (afindKey k es).map (· + 1)
    | _, _ => none

def akeyOk (P : Program) (kt : TypeId) (k : Value) (es : List MapEntry) : Bool :=
  match P.underlying kt, k with
  | some (.int _), .int j _ => es.all fun e => match e.key with | .int j' _ => decide (j' = j) | _ => false
  | some .string, .string _ => es.all fun e => match e.key with | .string _ => true | _ => false
  | _, _ => false

def isU8 (P : Program) (e : TypeId) : Bool :=
  match P.underlying e with
  | some (.int .u8) => true
  | _ => false

def ament (h : Heap) (m : Value) : Option (List MapEntry) :=
  match m with
  | .map none => some []
  | .map (some r) => match h.get r with
    | some (.map es _) => some es
    | _ => none
  | _ => none

def alookup (E : Env) (h : Heap) (t : TypeId) (m k : Value) (ok : Bool) : Option Value :=
  match E.P.underlying t, ament h m with
  | some (.map kt et), some es =>
    if akeyOk E.P kt k es then
      match afindKey k es with
      | some i => match es[i]? with
        | some e => some (if ok then .tuple #[e.val, .bool true] else e.val)
        | none => none
      | none => match azero E.P et with
        | some z => some (if ok then .tuple #[z, .bool false] else z)
        | none => none
    else none
  | _, _ => none

/-- What is read. -/
def aread (E : Env) (h : Heap) (ev : Operand → Value) : Op → Option Value
  | .load t a => aload E h t (ev a)
  | .lookup t m k ok => alookup E h t (ev m) (ev k) ok
  | .convert s d x =>
    match E.P.underlying s, E.P.underlying d, ev x with
    | some (.slice e), some .string, .slice none _ _ => if isU8 E.P e = true then some (.string .empty) else none
    | some (.slice e), some .string, .slice (some a) n _ =>
      if isU8 E.P e = true then
        match acells E h a n with
        | some l => if l.all (fun | .int .u8 _ => true | _ => false) then some (.string ⟨(l.map fun | .int _ b => UInt8.ofNat b.toNat | _ => 0).toArray⟩) else none
        | none => none
      else none
    | _, _, _ => none
  | _ => none

inductive Eff where
  | val (v : Value) (h : Heap)
  | enter (f : FuncId) (args : List Value)

/-- The cells that are appended or copied. -/
def asrc (E : Env) (h : Heap) (size : Nat) (x : Value) (n : Nat) : Option (List Value) :=
  match x with
  | .slice none _ _ => if n = 0 then some [] else none
  | .slice (some a) _ _ => if n * size = 0 then some [] else acells E h a (n * size)
  | .string s => some ((s.data.toList.take n).map fun b => .int .u8 b.toNat)
  | _ => none
def alenOf : Value → Option Nat
  | .slice _ n _ => some n
  | .string s => some s.size
  | _ => none

def isIntD : TypeDesc → Bool
  | .slice _ => false
  | .string => false
  | _ => true

def aend (a : Addr) : Nat :=
  match a.spot with
  | none => a.off
  | some d => a.off + d / 2
def evenS (a : Addr) : Bool :=
  match a.spot with
  | none => true
  | some d => !(d % 2 == 1)

/- More than there is room for. -/
def agrow (E : Env) (h : Heap) (e : TypeId) (i : TypeInfo) (base : Option Addr) (sLen sCap n : Nat) (news : List Value) : Option (Value × Heap) :=
  if (sLen + n) * i.bytes ≤ 140737488355328 ∧ news.length = n * i.size ∧ 0 < i.size ∧ sLen + n ≤ 9223372036854775807 ∧ news.all Value.oneCell' = true then
    match azero E.P e with
    | none => none
    | some z => if (vcells z).length = i.size then
        match base with
        | none => if sLen = 0 ∧ sCap = 0 then some (.slice (some (anew h)) n n, h.push (.cells news e false)) else none
        | some a =>
          match h.get a.block with
          | some (.cells c e' fx) =>
            if e' = e ∧ aend a + sCap * i.size = c.length ∧ (a.spot.isSome = true → sLen = 0 ∧ sCap = 0 ∧ evenS a = true) ∧ sLen ≤ sCap then
              if fx then some (.slice (some (anew h)) (sLen + n) (sLen + n), h.push (.cells ((c.drop a.off).take (sLen * i.size) ++ news) e false))
              else some (.slice (some (anew h)) (sLen + n) (sLen + n), (h.kill a.block).push (.cells ((c.drop a.off).take (sLen * i.size) ++ news) e false))
            else none
          | _ => none
      else none
  else none

def aappendE (E : Env) (h : Heap) (e : TypeId) (i : TypeInfo) (base : Option Addr) (sLen sCap n : Nat) (x : Value) : Option (Value × Heap) :=
  if n = 0 ∧ sLen ≤ sCap then some (.slice base sLen sCap, h) else
  match asrc E h i.size x n with
  | none => none
  | some news =>
    if sLen + n ≤ sCap then
      match base with
      | none => none
      | some a => match a.spot with
        | some _ => none
        | none => (awrite h (addo a (sLen * i.size)) news).map fun h' => (.slice base (sLen + n) sCap, h')
    else agrow E h e i base sLen sCap n news

def aappend (E : Env) (h : Heap) (t t1 : TypeId) (s x : Value) : Option (Value × Heap) :=
  match E.P.underlying t, E.P.underlying t1, s, alenOf x with
  | some (.slice e), some d1, .slice base sLen sCap, some n =>
    if isIntD d1 then none else
    match E.P.info? e with
    | none => none
    | some i => aappendE E h e i base sLen sCap n x
  | _, _, _, _ => none

def acopy (E : Env) (h : Heap) (t : TypeId) (d x : Value) : Option (Value × Heap) :=
  match E.P.underlying t, d, alenOf x with
  | some (.slice e), .slice base dLen _, some sn =>
    match asz E.P e with
    | none => none
    | some size =>
      let n := Nat.min sn dLen
      if n = 0 then some (.int .i64 0, h) else
      match asrc E h size x n, base with
      | some l, some a => if l.length = n * size then (awrite h a l).map fun h' => (.int .i64 n, h') else none
      | _, _ => none
  | _, _, _ => none

def aclear (E : Env) (h : Heap) (t : TypeId) (x : Value) : Option Heap :=
  match E.P.underlying t, x with
  | some (.slice _), .slice (some _) 0 _ => some h
  | some (.slice _), .slice none _ _ => some h
  | some (.slice e), .slice (some a) (n + 1) _ =>
    match azero E.P e with
    | some z => awrite h a (arep (n + 1) (vcells z))
    | none => none
  | _, _ => none

def aupdate (E : Env) (h : Heap) (t : TypeId) (m k v : Value) : Option Heap :=
  match E.P.underlying t, m with
  | some (.map kt _), .map (some r) =>
    match h.get r with
    | some (.map es clock) =>
      if akeyOk E.P kt k es then
        match afindKey k es with
        | some i => some (h.put r (.map (es.modify i fun e => { e with key := k, val := v }) clock))
        | none => some (h.put r (.map (es ++ [{ key := k, val := v, born := clock }]) (clock + 1)))
      else none
    | _ => none
  | _, _ => none

def adelete (E : Env) (h : Heap) (t : TypeId) (m k : Value) : Option Heap :=
  match E.P.underlying t, m with
  | some (.map kt _), .map (some r) =>
    match h.get r with
    | some (.map es clock) =>
      if akeyOk E.P kt k es then
        match afindKey k es with
        | some i => some (h.put r (.map (es.eraseIdx i) clock))
        | none => some h
      else none
    | _ => none
  | _, _ => none

def anext (h : Heap) (it : Value) (isS : Bool) : Option (Value × Heap) :=
  match it, isS with
  | .pointer (some ⟨b, 0, none⟩), true =>
    match h.get b with
    | some (.iter s pos) =>
      if pos < s.size then
        let x := Utf8.decode s pos
        some (.tuple #[.bool true, .int .i64 pos, .int .i32 x.1], h.put b (.iter s (pos + x.2)))
      else some (.tuple #[.bool false], h)
    | _ => none
  | _, _ => none

/-- What an operation that may write does. -/
def aeff (E : Env) (h : Heap) (ev : Operand → Value) : Op → Option Eff
  | .store t a v => (astore E h t (ev a) (ev v)).map (.val undef)
  | .next it isS => (anext h (ev it) isS).map fun p => .val p.1 p.2
  | .insert t m k v => (aupdate E h t (ev m) (ev k) (ev v)).map (.val undef)
  | .mapUpdate t m k v => (aupdate E h t (ev m) (ev k) (ev v)).map (.val undef)
  | .call { callee := .builtin b, args, argTypes } =>
    match b, args.toList, argTypes.toList with
    | .append, [s, x], [t, t1] => (aappend E h t t1 (ev s) (ev x)).map fun p => .val p.1 p.2
    | .copy, [d, x], [t, _] => (acopy E h t (ev d) (ev x)).map fun p => .val p.1 p.2
    | .clear, [x], [t] => (aclear E h t (ev x)).map (.val (.tuple #[]))
    | _, _, _ => none
  | .call { callee := .value f, args, argTypes := _ } =>
    match ev f with
    | .func (.func g) first cap => some (.enter g (first.toList ++ args.toList.map ev ++ cap.toList))
    | _ => none
  | .call { callee := .invoke r name, args, argTypes := _ } =>
    match ev r with
    | .iface t v =>
      match E.P.info? t with
      | none => none
      | some i => match i.methods.toList.find? (·.name == name) with
        | some m => match m.path.toList, m.func, E.P.underlying t with
          | [], some (f, true), some (.pointer _) => some (.enter f (v :: args.toList.map ev))
          | _, _, _ => none
        | none => none
    | _ => none
  | _ => none

inductive Ex where
  | normal
  | ret
  | exit (id : Nat)
  | goto (l : Nat)

structure St where
  tm : Tr Value
  h : Heap

def fget (tm : Tr Value) (t : Nat) : Value :=
  match tm.get t with
  | some v => v
  | none => undef

def opd (tm : Tr Value) : Operand → Value
  | .tmp t => fget tm t
  | .const v => v
  | .global g => .pointer (some ⟨g, 0, none⟩)
  | .func f => .func (.func f) #[] #[]

def aput (tm : Tr Value) (d : Option Nat) (v : Value) : Tr Value :=
  match d with
  | some d => tm.set d (some v)
  | none => tm

def afrom : Nat → List Value → Tr Value → Tr Value
  | _, [], tm => tm
  | k, v :: l, tm => afrom (k + 1) l (tm.set k (some v))

inductive Kind where
  | pure
  | read
  | alloc
  | eff

def kindOf (P : Program) : Op → Kind
  | .alloc _ | .box _ _ | .buildSlice _ _ _ | .makeSlice _ _ _ | .makeMap _ _ | .range _ _ => .alloc
  | .load _ _ | .lookup _ _ _ _ => .read
  | .store _ _ _ | .mapUpdate _ _ _ _ | .insert _ _ _ _ | .next _ _ => .eff
  | .convert s _ _ => match P.underlying s with
    | some (.slice _) => .read
    | _ => .pure
  | .call { callee := .builtin .len, argTypes, .. } => match argTypes.toList with
    | [t] => match P.underlying t with
      | some (.map _ _) => .read
      | _ => .pure
    | _ => .pure
  | .call { callee := .builtin .max, .. } | .call { callee := .builtin .min, .. } => .pure
  | .call _ => .eff
  | _ => .pure

def awanted (ops : List Oper) (tm : Tr Value) (o : Oper) : Bool :=
  match o.guard with
  | none => true
  | some (j, want) => match (ops[j]?).bind (·.dst) with
    | some d => match fget tm d with
      | .bool b => b == want
      | _ => false
    | none => false

abbrev Caller := FuncId → List Value → Heap → Option (Value × Heap)

/- One operation; a call by what is handed in. -/
def aop (E : Env) (call : Caller) (op : Op) (s : St) : Option (Value × Heap) :=
  match kindOf E.P op with
  | .pure => (apure E.P (opd s.tm) op).map fun v => (v, s.h)
  | .read => (aread E s.h (opd s.tm) op).map fun v => (v, s.h)
  | .alloc => (aalloc E.P (opd s.tm) op).map fun p => (p.1 s.h.next, s.h.push p.2)
  | .eff => match aeff E s.h (opd s.tm) op with
    | some (.val v h) => some (v, h)
    | some (.enter f args) => call f args s.h
    | none => none

def aop1 (E : Env) (call : Caller) (ops : List Oper) (o : Oper) (s : St) : Option St :=
  if awanted ops s.tm o then
    match aop E call o.op s with
    | some (v, h) => some ⟨aput s.tm o.dst v, h⟩
    | none => none
  else some ⟨aput s.tm o.dst undef, s.h⟩

def aops (E : Env) (call : Caller) (ops : List Oper) : List Oper → St → Option St
  | [], s => some s
  | o :: l, s => match aop1 E call ops o s with
    | some s' => aops E call ops l s'
    | none => none

def arounds (body : St → Option (Ex × St)) : Nat → St → Option (Ex × St)
  | 0, _ => none
  | n + 1, s => match body s with
    | some (.normal, s') => arounds body n s'
    | r => r

def aresults (E : Env) (s : St) : List ResultVar → Option (List Value)
  | [] => some []
  | .tmp t :: l => (aresults E s l).map (fget s.tm t :: ·)
  | .cell a t :: l => match aload E s.h t (fget s.tm a), aresults E s l with
    | some v, some r => some (v :: r)
    | _, _ => none

def aret : List Value → Value
  | [v] => v
  | l => .tuple l.toArray

/- A scope: a jump to a label of its own goes on there. -/
def ascope (run : Code → St → Option (Ex × St)) (body : Code) : Nat → Code → St → Option (Ex × St)
  | 0, _, _ => none
  | n + 1, c, s => match run c s with
    | some (.goto l, s') => match findLabel body l with
      | some rest => ascope run body n rest s'
      | none => none
    | r => r

def aleave (E : Env) (fn : Func) : Option (Ex × St) → Option (Value × Heap)
  | some (.normal, s') => (aresults E s' fn.results.toList).map fun l => (aret l, s'.h)
  | some (.ret, s') => (aresults E s' fn.results.toList).map fun l => (aret l, s'.h)
  | _ => none

def acallText (E : Env) (run : Code → St → Option (Ex × St)) (f : FuncId) (args : List Value) (h : Heap) : Option (Value × Heap) :=
  match E.P.funcs.toList[f]? with
  | some fn => match fn.body with
    | some b => if args.length ≤ fn.ntmps ∧ (fn.name == "runtime.NumGoroutine") = false then aleave E fn (run b ⟨afrom 0 args .leaf, h⟩) else none
    | none => none
  | none => none

/-- A call: of what is known already, what is known; else the text's run. -/
def acallBy (E : Env) (run : Code → St → Option (Ex × St)) (f : FuncId) (args : List Value) (h : Heap) : Option (Value × Heap) :=
  match E.known f args with
  | some v => some (v, h)
  | none => acallText E run f args h

end Go.Tm
/- The engine, eighth part: reading and writing memory, on both sides. -/
namespace Go.Tm

theorem cell_at {w : World} {r o : Nat} {c : List Value} {e : TypeId} {fr : Nat × Nat} (h : w.heap[r]? = some (.cells c.toArray e fr)) : w.cell? ⟨r, o, none⟩ = c[o]? := by
  simp [World.cell?, h]

theorem acells_run {E : Env} {B : Nat} {ρ : Ren} {h : Heap} {w : World} (H : HR E B ρ h w) {a : Addr} {n : Nat} {l : List Value} (hl : acells E h a n = some l) :
    (∀ j v, (l.map (ren ρ))[j]? = some v → w.cell? ((rena ρ a).add j) = some v) ∧ l.length = n ∧ (∀ v, v ∈ l → sc h.next v = true) ∧ a.spot = none := by
  unfold acells at hl
  split at hl
  · cases hl
  · rename_i hsp
    have hadd : ∀ j, (rena ρ a).add j = ⟨(ρ a.block).r, a.off + (ρ a.block).sh + j, none⟩ := fun j => by rw [rena_add hsp, rena_addo]
    split at hl
    · rename_i hb
      split at hl
      · rename_i c e fr hro
        split at hl
        · rename_i hc
          injection hl with hl
          obtain ⟨h1, h2⟩ := hc
          have hw := H.ro _ _ hb hro
          have hx := H.fix _ hb
          rw [List.all_eq_true] at h2
          have hid : ∀ v, v ∈ l → sc h.next v = true := by
            intro v hv
            rw [← hl] at hv
            obtain ⟨u, hu, rfl⟩ := List.mem_map.1 hv
            exact sc_mono _ _ H.base_le _ (sc_enc1 _ u (h2 u hu))
          refine ⟨?_, by rw [← hl]; simp; omega, fun v hv => hid v hv, hsp⟩
          intro j v hj
          rw [hadd, hx]
          have hm : l.map (ren ρ) = (c.toList.drop a.off).take n := by
            rw [← hl, List.map_map]
            conv => rhs; rw [← List.map_id ((c.toList.drop a.off).take n)]
            exact List.map_congr_left fun v hv => ren_enc1 ρ E.base H.fix v (h2 v hv)
          rw [hm, List.getElem?_take] at hj
          split at hj
          · rw [List.getElem?_drop] at hj
            simp [World.cell?, hw]
            simpa using hj
          · cases hj
        · cases hl
      · cases hl
    · split at hl
      · rename_i c e fx hg
        split at hl
        · rename_i hc
          injection hl with hl
          obtain ⟨_, _, _, hs, c', hw, ho⟩ := H.live _ _ hg
          cases c' <;> simp only [objR] at ho
          rename_i c' e' fr
          obtain ⟨rfl, _, pre, hid, rfl, hp, _, _⟩ := ho
          refine ⟨?_, by rw [← hl]; simp; omega, fun v hv => hs v (by rw [← hl] at hv; exact List.mem_of_mem_drop (List.mem_of_mem_take hv)), hsp⟩
          intro j v hj
          rw [hadd, cell_at hw]
          rw [← hl, List.map_take, List.map_drop, List.getElem?_take] at hj
          split at hj
          · rename_i hjn
            rw [List.getElem?_drop] at hj
            rw [List.append_assoc, List.getElem?_append_right (by omega), List.getElem?_append_left (by simp; omega)]
            rw [← hj]; congr 1; omega
          · cases hj
        · cases hl
      · cases hl

theorem run_aload {E : Env} {B : Nat} {ρ : Ren} {h : Heap} {w : World} (H : HR E B ρ h w) {t : TypeId} {x v : Value} (hl : aload E h t x = some v) :
    (Instr.loadAt t (ren ρ x)).run E.P w = .ok (ren ρ v) w ∧ sc h.next v = true ∧ ∃ a, x = .pointer (some a) := by
  unfold aload at hl
  split at hl
  · rename_i a
    refine ⟨?_, ?_, _, rfl⟩
    · split at hl
      · rename_i n ha hz
        cases hc : acells E h a n with
        | none => simp [hc] at hl
        | some l =>
          simp [hc] at hl; subst hl
          obtain ⟨h1, h2, _, _⟩ := acells_run H hc
          simp only [Instr.loadAt, ren, Instr.sureAddr, Sem.run_bind, Sem.run_pure, Result.andThen_ok, loadVar, run_isAgg ha, if_true, run_sizeOf hz]
          have := run_loadCells_list (P := E.P) w (rena ρ a) (l.map (ren ρ)) h1
          rw [List.length_map, h2] at this
          rw [this]
          simp [renA, renL_eq]
      · rename_i ha
        cases hc : acells E h a 1 with
        | none => simp [hc] at hl
        | some l =>
          simp [hc] at hl
          obtain ⟨h1, h2, _, _⟩ := acells_run H hc
          simp only [Instr.loadAt, ren, Instr.sureAddr, Sem.run_bind, Sem.run_pure, Result.andThen_ok, loadVar, run_isAgg ha]
          have := h1 0 (ren ρ v) (by simp [hl])
          rw [Addr.add_zero'] at this
          simp [this]
      · cases hl
    · split at hl
      · rename_i n ha hz
        cases hc : acells E h a n with
        | none => simp [hc] at hl
        | some l =>
          simp [hc] at hl; subst hl
          obtain ⟨_, _, h3, _⟩ := acells_run H hc
          simp only [sc, scA, scL_iff]; exact h3
      · cases hc : acells E h a 1 with
        | none => simp [hc] at hl
        | some l =>
          simp [hc] at hl
          exact (acells_run H hc).2.2.1 v (List.mem_of_getElem? hl)
      · cases hl
  · cases hl

theorem oneCell_ren (ρ : Ren) (v : Value) : (ren ρ v).oneCell' = v.oneCell' := by
  cases v with
  | pointer a => cases a <;> rfl
  | slice a l c => cases a <;> rfl
  | map a => cases a <;> rfl
  | chan a => cases a <;> rfl
  | _ => rfl

theorem splice_cons {c : List Value} {off : Nat} {v : Value} {vs : List Value} (h : off + (vs.length + 1) ≤ c.length) : splice (c.set off v) (off + 1) vs = splice c off (v :: vs) := by
  have := foldl_list vs (c.set off v) off 1 (by rw [List.length_set]; omega)
  rw [← this]
  have h2 := foldl_list (v :: vs) c off 0 (by rw [List.length_cons]; omega)
  rw [Nat.add_zero] at h2
  rw [← h2]
  simp [List.zipIdx_cons]

theorem setCell_setBlk {w : World} {r o : Nat} {c : List Value} {e : TypeId} {fr : Nat × Nat} {v : Value} (h : w.heap[r]? = some (.cells c.toArray e fr)) :
    w.setCell ⟨r, o, none⟩ v = setBlk w r (.cells (c.set o v).toArray e fr) := by
  unfold World.setCell setBlk
  congr 1
  apply Array.ext_getElem?
  intro j
  rw [Array.getElem?_modify, Array.getElem?_setIfInBounds]
  have hr : r < w.heap.size := by
    rcases Nat.lt_or_ge r w.heap.size with h' | h'
    · exact h'
    · simp [Array.getElem?_eq_none h'] at h
  by_cases e : r = j
  · subst e
    rw [if_pos rfl, if_pos rfl, if_pos hr, h]
    simp
  · simp [e]

theorem setBlk_same {w : World} {r : Nat} {c : Obj} (h : w.heap[r]? = some c) : setBlk w r c = w := by
  unfold setBlk
  have : w.heap.setIfInBounds r c = w.heap := by
    apply Array.ext_getElem?
    intro j
    rw [Array.getElem?_setIfInBounds]
    by_cases e : r = j
    · subst e
      have hr : r < w.heap.size := by
        rcases Nat.lt_or_ge r w.heap.size with h' | h'
        · exact h'
        · simp [Array.getElem?_eq_none h'] at h
      rw [if_pos rfl, if_pos hr, h]
    · simp [e]
  rw [this]

theorem setBlk_setBlk {w : World} {r : Nat} {c d : Obj} : setBlk (setBlk w r c) r d = setBlk w r d := by
  unfold setBlk; simp

theorem run_storeCells_blk {P : Program} {r off : Nat} {e : TypeId} {fr : Nat × Nat} : ∀ (vs : List Value) (w : World) (c : List Value) (k : Nat), w.heap[r]? = some (.cells c.toArray e fr) →
    (∀ i, i < c.length → ¬ (fr.1 ≤ i ∧ i < fr.2)) → off + k + vs.length ≤ c.length → vs.all Value.oneCell' = true →
    (storeCells ⟨r, off, none⟩ vs k).run P w = .ok () (setBlk w r (.cells (splice c (off + k) vs).toArray e fr))
  | [], w, c, k, hw, _, _, _ => by
    simp only [storeCells, Sem.run_pure]
    have : splice c (off + k) [] = c := by simp [splice]
    rw [this, setBlk_same hw]
  | v :: vs, w, c, k, hw, hf, hl, ho => by
    simp only [List.length_cons] at hl
    simp only [List.all_cons, Bool.and_eq_true] at ho
    have hcell : w.cell? ⟨r, off + k, none⟩ = c[off + k]? := cell_at hw
    have hlt : off + k < c.length := by omega
    have hfz : w.frozen? ⟨r, off + k, none⟩ = false := by
      have := hf (off + k) hlt
      simp [World.frozen?, hw]
      intro h1
      have := fun h2 => this ⟨h1, h2⟩
      omega
    simp only [storeCells, Sem.run_bind]
    rw [show (Addr.add ⟨r, off, none⟩ k) = ⟨r, off + k, none⟩ from Addr.add_lit r off k, run_store _ _ _ _ _ ho.1, hcell, List.getElem?_eq_getElem hlt]
    simp only [hfz, Bool.false_eq_true, if_false, Result.andThen_ok]
    rw [setCell_setBlk hw]
    have hr : r < w.heap.size := by
      rcases Nat.lt_or_ge r w.heap.size with h' | h'
      · exact h'
      · simp [Array.getElem?_eq_none h'] at hw
    rw [run_storeCells_blk (e := e) (fr := fr) vs _ (c.set (off + k) v) (k + 1) (by rw [heap_setBlk _ _ _ _ hr]; simp) (by simpa using hf) (by rw [List.length_set]; omega) ho.2]
    rw [setBlk_setBlk, show off + (k + 1) = off + k + 1 by omega, splice_cons (by omega)]

theorem splice_mid {pre c hid vs : List Value} {off : Nat} (h : off + vs.length ≤ c.length) : splice (pre ++ c ++ hid) (pre.length + off) vs = pre ++ splice c off vs ++ hid := by
  unfold splice
  rw [List.append_assoc pre c hid, List.take_length_add_append, Nat.add_assoc, List.drop_length_add_append]
  rw [List.take_append_of_le_length (by omega), List.drop_append_of_le_length (by omega)]
  simp

theorem map_splice (f : Value → Value) (c vs : List Value) (off : Nat) : (splice c off vs).map f = splice (c.map f) off (vs.map f) := by
  simp [splice, List.map_take, List.map_drop]

theorem run_awrite {E : Env} {B : Nat} {ρ : Ren} {h h' : Heap} {w : World} (H : HR E B ρ h w) {a : Addr} {vs : List Value} (hw : awrite h a vs = some h') (hs : ∀ v, v ∈ vs → sc h.next v = true) :
    ∃ w', (storeCells (rena ρ a) (vs.map (ren ρ)) 0).run E.P w = .ok () w' ∧ Step E B ρ h w ρ h' w' := by
  unfold awrite at hw
  split at hw
  · cases hw
  · rename_i hsp
    split at hw
    · rename_i c e fx hg
      split at hw
      · rename_i hc
        injection hw with hw; subst hw
        obtain ⟨hlen, hone⟩ := hc
        obtain ⟨_, _, _, hsc, c', hblk, ho⟩ := H.live _ _ hg
        cases c' <;> simp only [objR] at ho
        rename_i c' e' fr
        obtain ⟨rfl, hfx, pre, hid, rfl, hp, hh, hfr⟩ := ho
        have hra : rena ρ a = ⟨(ρ a.block).r, pre.length + a.off, none⟩ := by simp [rena, hsp, hp]; omega
        refine ⟨_, by
          rw [hra]
          refine run_storeCells_blk (vs.map (ren ρ)) w (pre ++ c.map (ren ρ) ++ hid) 0 hblk (fun i hi => hfr i (by simpa using hi)) (by simp; omega) ?_
          rw [List.all_eq_true] at hone ⊢
          intro x hx
          obtain ⟨y, hy, rfl⟩ := List.mem_map.1 hx
          rw [oneCell_ren]; exact hone y hy, ?_⟩
        rw [Nat.add_zero, splice_mid (by simpa using hlen)]
        refine Step.put H hg (sc_splice hsc hs) ?_
        refine ⟨rfl, hfx, pre, hid, by rw [map_splice], hp, hh, ?_⟩
        intro i hi
        refine hfr i ?_
        have : (splice (List.map (ren ρ) c) a.off (List.map (ren ρ) vs)).length = c.length := by rw [splice_length (by simpa using hlen)]; simp
        simp only [List.size_toArray, List.length_append, this, List.length_map] at hi ⊢
        exact hi
      · cases hw
    · cases hw

theorem run_astore {E : Env} {B : Nat} {ρ : Ren} {h h' : Heap} {w : World} (H : HR E B ρ h w) {t : TypeId} {x v : Value} (hw : astore E h t x v = some h') (hs : sc h.next v = true) :
    ∃ w', (Instr.storeAt t (ren ρ x) (ren ρ v)).run E.P w = .ok () w' ∧ Step E B ρ h w ρ h' w' := by
  unfold astore at hw
  split at hw
  · rename_i a
    split at hw
    · rename_i hz
      obtain ⟨w', r1, r2⟩ := run_awrite H hw (sc_vcells hs)
      refine ⟨w', ?_, r2⟩
      have hl : (ren ρ v).cells.size = (vcells v).length := by rw [cells_eq, vcells_ren]; simp
      have hl2 : (ren ρ v).cells.toList = (vcells v).map (ren ρ) := by rw [cells_eq, vcells_ren]
      simp only [Instr.storeAt, ren, Instr.sureAddr, Sem.run_bind, Sem.run_pure, Result.andThen_ok, storeVar, run_sizeOf hz, hl]
      simp [hl2, r1]
    · cases hw
  · cases hw
end Go.Tm
/- The engine, ninth part: new memory, on both sides. -/
namespace Go.Tm

theorem arep_length (n : Nat) (z : List Value) : (arep n z).length = n * z.length := by
  induction n with
  | zero => simp [arep]
  | succ n ih => simp [arep, ih, Nat.succ_mul]; omega

theorem arep_get (z : List Value) (_ : 0 < z.length) : ∀ (n i : Nat), i < n * z.length → (arep n z)[i]? = z[i % z.length]? := by
  intro n
  induction n with
  | zero => intro i h; simp at h
  | succ n ih =>
    intro i h
    simp only [arep]
    by_cases hi : i < z.length
    · rw [List.getElem?_append_left hi, Nat.mod_eq_of_lt hi]
    · rw [List.getElem?_append_right (by omega), ih _ (by rw [Nat.succ_mul] at h; omega)]
      rw [Nat.mod_eq_sub_mod (by omega : i ≥ z.length)]

theorem arep_range (z : List Value) (hz : 0 < z.length) (n : Nat) : ((Array.range (n * z.length)).map (fun i => z.toArray[i % z.toArray.size]!)) = (arep n z).toArray := by
  apply Array.ext_getElem?
  intro i
  by_cases hi : i < n * z.length
  · have hm : i % z.length < z.length := Nat.mod_lt _ hz
    have e : (arep n z).toArray[i]? = z[i % z.length]? := by rw [← arep_get z hz n i hi]; simp
    rw [e]
    simp [hi, hm]
  · have e : (arep n z).toArray[i]? = none := by
      rw [show (arep n z).toArray[i]? = (arep n z)[i]? by simp, List.getElem?_eq_none (by rw [arep_length]; omega)]
    rw [e]
    simp [hi]

theorem arep_map (f : Value → Value) (n : Nat) (z : List Value) : (arep n z).map f = arep n (z.map f) := by
  induction n with
  | zero => rfl
  | succ n ih => simp [arep, ih]
theorem arep_mem {n : Nat} {z : List Value} {x : Value} (h : x ∈ arep n z) : x ∈ z := by
  induction n with
  | zero => simp [arep] at h
  | succ n ih =>
    simp only [arep, List.mem_append] at h
    rcases h with h | h
    · exact h
    · exact ih h

theorem wrap_id {n : Int} (h : 0 ≤ n) (h2 : n ≤ 9223372036854775807) : IntKind.i64.wrap n = n := by
  have e : n % (18446744073709551616 : Int) = n := Int.emod_eq_of_lt h (by omega)
  simp [IntKind.wrap, IntKind.bits, IntKind.signed, e]
  omega

theorem objR_fresh {P : Program} {ρ : Ren} {r : Nat} {c : List Value} {e : TypeId} {fx : Bool} : objR P ρ ⟨r, 0, 0⟩ (.cells c e fx) (.cells (c.map (ren ρ)).toArray e) :=
  ⟨rfl, fun _ => rfl, [], [], by simp, rfl, by simp, fun i _ h => by simp at h⟩

theorem zero_cells {P : Program} {ρ : Ren} {t : TypeId} {z : Value} (h : azero P t = some z) : z.cells = ((vcells z).map (ren ρ)).toArray := by
  rw [← vcells_ren, (azero_vcells (ρ := ρ) h).1, cells_eq]

theorem azero_map {P : Program} {ρ : Ren} {t : TypeId} {z : Value} (h : azero P t = some z) : (vcells z).map (ren ρ) = vcells z := by
  rw [← vcells_ren, (azero_vcells (ρ := ρ) h).1]

theorem run_aalloc {P : Program} {ρ : Ren} {n : Nat} {w : World} {ev : Operand → Value} {o : Oper} {mk : Nat → Value} {ob : AObj}
    (hs : ∀ x, x ∈ o.op.operands → sc n (ev x) = true) (h : aalloc P ev o.op = some (mk, ob)) :
    ∃ c, (execOp (fun x => ren ρ (ev x)) o).run P w = .ok (.value (ren (upd ρ n ⟨w.heap.size, 0, 0⟩) (mk n))) (w.alloc c) ∧ objR P ρ ⟨w.heap.size, 0, 0⟩ ob c ∧ scO n ob ∧ sc (n + 1) (mk n) = true := by
  obtain ⟨dst, op, ty, pos, after, guard⟩ := o
  simp only at h hs
  unfold aalloc at h
  split at h
  · rename_i e
    cases hz : azero P e with
    | none => simp [hz] at h
    | some z =>
      simp [hz] at h
      obtain ⟨rfl, rfl⟩ := h
      refine ⟨_, ?_, objR_fresh, fun v hv => sc_vcells ((azero_vcells (ρ := ρ) hz).2 n) v hv, by simp [sc]⟩
      simp only [execOp, Instr.alloc, Sem.run_bind, (run_azero hz w).1, Result.andThen_ok, newVar, newRow, zero_cells (ρ := ρ) hz]
      simp [ren, rena]
  · rename_i e x
    simp at h
    obtain ⟨rfl, rfl⟩ := h
    have hx := hs x (by simp [Op.operands])
    refine ⟨_, ?_, objR_fresh, fun v hv => sc_vcells hx v hv, by simp [sc]⟩
    have : (ren ρ (ev x)).cells = ((vcells (ev x)).map (ren ρ)).toArray := by rw [cells_eq, vcells_ren]
    simp only [execOp, Instr.box, Sem.run_bind, newVar, newRow, this]
    simp [ren, rena]
  · rename_i t len parts
    split at h
    · rename_i e hu
      split at h
      · rename_i size z hz hzz
        split at h
        · rename_i hc
          cases hf : afill (fun i => some (i * (size + 1), size + 1)) (arep len (vcells z)) (parts.toList.map fun p => (p.1, ev p.2)) with
          | none => simp [hf] at h
          | some l =>
            simp [hf] at h
            obtain ⟨rfl, rfl⟩ := h
            have hzl := hc.2
            have rf := run_afill (ρ := ρ) _ _ _ hf
            rw [arep_map, azero_map hzz] at rf
            refine ⟨_, ?_, objR_fresh, ?_, by simp [sc]⟩
            · have e1 : (parts.map fun (x : Nat × Operand) => match x with | (i, x) => (i, ren ρ (ev x))).toList = List.map (fun p => (p.1, ren ρ p.2)) (List.map (fun p => (p.1, ev p.2)) parts.toList) := by simp
              have e2 : z.cells = (vcells z).toArray := cells_eq z
              simp only [execOp, Instr.buildSlice, Sem.run_bind, run_underlying hu, Result.andThen_ok, run_sizeOf hz]
              rw [if_neg (by have := hc.1; simp only [Nat.succ_eq_add_one] at *; omega)]
              by_cases hl0 : len * (size + 1) = 0
              · have : len = 0 := by
                  rcases Nat.eq_zero_or_pos len with h0 | h0
                  · exact h0
                  · have := Nat.mul_pos h0 (Nat.succ_pos size); simp only [Nat.succ_eq_add_one] at *; omega
                subst this
                simp only [arep] at rf
                simp only [Nat.zero_mul, if_true, Sem.run_pure, Result.andThen_ok, Sem.run_bind]
                rw [e1]
                simp only [Array.range_zero', Array.map_empty]
                rw [show (#[] : Array Value) = ([] : List Value).toArray from rfl, rf]
                simp [newRow, ren, rens, capx]
              · simp only [if_neg hl0, Sem.run_bind, (run_azero hzz w).1, Result.andThen_ok, Sem.run_pure]
                rw [e1, e2]
                have := arep_range (vcells z) (by omega) len
                rw [hzl] at this
                rw [this, rf]
                simp [newRow, ren, rens, capx]
            · refine sc_afill _ _ _ hf (fun x hx => sc_vcells ((azero_vcells (ρ := ρ) hzz).2 n) x (arep_mem hx)) ?_
              intro p hp
              simp only [List.mem_map] at hp
              obtain ⟨q, hq, rfl⟩ := hp
              refine hs q.2 ?_
              simp only [Op.operands, List.mem_toArray, List.mem_map]
              exact ⟨q, hq, rfl⟩
        · cases h
      · cases h
    · cases h
  · rename_i t l c
    split at h
    · rename_i e k1 l' k2 c' hu hl hc
      split at h
      · rename_i i z hi hz
        split at h
        · rename_i hcond
          obtain ⟨h1, h2, h3, h4, h5, h6⟩ := hcond
          simp at h
          obtain ⟨rfl, rfl⟩ := h
          refine ⟨.cells (arep c'.toNat ((vcells z).map (ren ρ))).toArray e, ?_, by rw [← arep_map]; exact objR_fresh, fun v hv => sc_vcells ((azero_vcells (ρ := ρ) hz).2 n) v (arep_mem hv), by simp [sc]⟩
          have w1 : IntKind.i64.wrap l' = l' := wrap_id h1 (by omega)
          have w2 : IntKind.i64.wrap c' = c' := wrap_id (by omega) h3
          have hsz : asz P e = some i.size := by simp [asz, hi]
          simp only [execOp, hl, hc, ren, Instr.makeSlice, Sem.run_bind, run_underlying hu, Result.andThen_ok, asInt, asIntOf, Sem.run_pure, typeInfo, run_program, hi, w1, w2]
          have hb : ¬ ((c' < 0 || (decide ((i.bytes : Int) * c' > 2 ^ 48))) || decide (l' < 0) || decide (l' > c')) = true := by
            simp; omega
          rw [if_neg hb]
          simp only [Sem.run_bind, run_askRoom, Result.andThen_ok, run_sizeOf hsz]
          have e2 : z.cells = (vcells z).toArray := cells_eq z
          have ez := azero_map (ρ := ρ) hz
          by_cases hn0 : c'.toNat * i.size = 0
          · have : c'.toNat = 0 := by
              rcases Nat.eq_zero_or_pos c'.toNat with h0 | h0
              · exact h0
              · have := Nat.mul_pos h0 h6; omega
            simp [this, newRow, arep, rens, capx, Array.range_zero']
          · simp only [if_neg hn0, Sem.run_bind, (run_azero hz w).1, Result.andThen_ok, Sem.run_pure]
            have := arep_range (vcells z) (by omega) c'.toNat
            rw [h5] at this
            rw [e2, this, ez]
            simp [newRow, rens, capx]
        · cases h
      · cases h
    · cases h
  · simp at h
    obtain ⟨rfl, rfl⟩ := h
    refine ⟨.map #[] 0, ?_, ⟨rfl, rfl⟩, (fun e he => by simp at he), by simp [sc]⟩
    simp [execOp, Instr.makeMap, ren]
  · rename_i t x
    split at h
    · rename_i s hu hx
      simp at h
      obtain ⟨rfl, rfl⟩ := h
      refine ⟨.stringIter s 0, ?_, ⟨rfl, rfl, rfl⟩, trivial, by simp [sc]⟩
      simp only [execOp, hx, ren, Instr.range, Sem.run_bind, run_underlying hu, Result.andThen_ok]
      simp [rena]
    · cases h
  · cases h
end Go.Tm
namespace Go.Tm

theorem run_lenOf {P : Program} {ρ : Ren} {x : Value} {n : Nat} (h : alenOf x = some n) (w : World) : (Builtin.lenOf (ren ρ x)).run P w = .ok n w := by
  unfold alenOf at h
  split at h
  · rename_i a n' c
    injection h with h; subst h
    cases a <;> simp [ren, Builtin.lenOf]
  · injection h with h; subst h; simp [ren, Builtin.lenOf]
  · cases h

theorem run_asrc {E : Env} {B : Nat} {ρ : Ren} {h : Heap} {w : World} (H : HR E B ρ h w) {size n : Nat} {x : Value} {l : List Value} (hx : asrc E h size x n = some l) :
    (Builtin.firstCells size n (ren ρ x)).run E.P w = .ok (l.map (ren ρ)).toArray w ∧ ∀ v, v ∈ l → sc h.next v = true := by
  unfold asrc at hx
  split at hx
  · split at hx
    · injection hx with hx; subst hx
      exact ⟨by simp [ren, Builtin.firstCells], by simp⟩
    · cases hx
  · rename_i a _ _
    split at hx
    · rename_i h0
      injection hx with hx; subst hx
      refine ⟨?_, by simp⟩
      simp only [ren, Builtin.firstCells, h0]
      simp [loadCells, loadCellsFrom]
    · obtain ⟨h1, h2, h3, hsp⟩ := acells_run H hx
      refine ⟨?_, h3⟩
      simp only [ren, Builtin.firstCells, rens_none hsp]
      have := run_loadCells_list (P := E.P) w (rena ρ a) (l.map (ren ρ)) h1
      rw [List.length_map, h2] at this
      exact this
  · rename_i s
    injection hx with hx; subst hx
    constructor
    · simp only [ren, Builtin.firstCells, Sem.run_pure]
      congr 1
      apply Array.ext'
      have e : (s.extract 0 n).data.toList = s.data.toList.take n := by simp [ByteArray.data_extract]
      simp only [Array.toList_map, e, List.map_map]
      rfl
    · intro v hv
      obtain ⟨b, _, rfl⟩ := List.mem_map.1 hv
      rfl
  · cases hx

theorem objR_grown {P : Program} {ρ : Ren} {r ex : Nat} {c hid : List Value} {e : TypeId} (hh : hid.length = ex * P.cellsOf e) :
    objR P ρ ⟨r, ex, 0⟩ (.cells c e false) (.cells (c.map (ren ρ) ++ hid).toArray e) := by
  refine ⟨rfl, ?_, [], hid, by simp, rfl, hh, ?_⟩
  · intro h; cases h
  · intro i _ h; simp at h

theorem zeroCells_list (z : List Value) (n : Nat) : ∃ l : List Value, Builtin.zeroCells z.toArray n = l.toArray ∧ l.length = n * z.length :=
  ⟨(Builtin.zeroCells z.toArray n).toList, by simp, by simp [Builtin.zeroCells]⟩

set_option maxHeartbeats 1000000 in
/-- append where there is no room: the elder cells and the new ones, and what else. -/
theorem run_append_grows {P : Program} {w : World} {t t1 ty e : TypeId} {d1 : TypeDesc} {i : TypeInfo} {z : Value} (hu : P.underlying t = some (.slice e)) (hu1 : P.underlying t1 = some d1) (hd : isIntD d1 = false)
    (hi : P.info? e = some i) (hz : i.zero = some z) {b : Option Addr} {sLen c n : Nat} {y : Value} (hn : (Builtin.lenOf y).run P w = .ok n w) {olds news : List Value}
    (ho : (Builtin.firstCells i.size sLen (.slice b sLen c)).run P w.drew = .ok olds.toArray w.drew) (hw : (Builtin.firstCells i.size n y).run P w.drew = .ok news.toArray w.drew)
    (hc : ¬ (sLen + n ≤ c)) (hb : (sLen + n) * i.bytes ≤ 140737488355328) (h63 : sLen + n ≤ 9223372036854775807) :
    (Builtin.append_ #[t, t1] ty #[.slice b sLen c, y]).run P w =
      .ok (.slice (some ⟨w.heap.size, 0, none⟩) (sLen + n) (grownCap w (sLen + n) c e))
        (w.drew.alloc (.cells (olds.toArray ++ news.toArray ++ Builtin.zeroCells z.cells (grownCap w (sLen + n) c e - (sLen + n))) e)) := by
  have hfit := growslice_fits (need := sLen + n) (old := c) (bytes := i.bytes) (by omega) hb
  have h63' : ¬ (9223372036854775807 < ((sLen : Int) + (n : Int))) := by omega
  have h48' : ¬ (281474976710656 < Builtin.nextslicecap (sLen + n) c * i.bytes) := by omega
  cases d1 <;> first
    | (cases hd; done)
    | (simp [Builtin.append_, run_underlying hu, run_underlying hu1, sizeOf, typeInfo, zeroValue, hi, hz, hn, hc, h63', h48', Question.forced, ho, hw, newRow, grownCap]
       congr 2
       apply Array.ext'
       simp [List.append_assoc])

theorem grownCap_le (w : World) (need old : Nat) (e : TypeId) : need ≤ grownCap w need old e := by
  simp only [grownCap, Question.cut]; omega

theorem run_append_room {P : Program} {w w' : World} {t t1 ty e : TypeId} {d1 : TypeDesc} {size : Nat} (hu : P.underlying t = some (.slice e)) (hu1 : P.underlying t1 = some d1) (hd : isIntD d1 = false)
    (hz : asz P e = some size) {b : Option Addr} {sLen c n : Nat} {y : Value} (hn : (Builtin.lenOf y).run P w = .ok n w) {news : List Value}
    (hw : (Builtin.firstCells size n y).run P w = .ok news.toArray w) (hc : sLen + n ≤ c)
    (hst : (match b with | some a => storeCells (a.add (sLen * size)) news 0 | none => pure () : Sem Unit).run P w = .ok () w') :
    (Builtin.append_ #[t, t1] ty #[.slice b sLen c, y]).run P w = .ok (.slice b (sLen + n) c) w' := by
  cases d1 <;> first
    | (cases hd; done)
    | (cases b with
       | none =>
         simp at hst; subst hst
         simp [Builtin.append_, run_underlying hu, run_underlying hu1, run_sizeOf hz, hn, hc, hw]
       | some a =>
         simp only at hst
         simp [Builtin.append_, run_underlying hu, run_underlying hu1, run_sizeOf hz, hn, hc, hw, hst])
end Go.Tm
