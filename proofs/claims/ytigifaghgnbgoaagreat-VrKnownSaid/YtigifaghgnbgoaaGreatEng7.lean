/- The engine, seventh part: operations on memory, and the run of code. (Definitions.) -/
import Derived.Test.YtigifaghgnbgoaaGreatEng6
namespace Go.Tm

def acells (E : Env) (h : Heap) (a : Addr) (n : Nat) : Option (List Value) :=
  match a.spot with
  | some _ => none
  | none =>
    if a.block < E.base then
      match E.ro a.block with
      | some (.cells c _ _) => if a.off + n ≤ c.size ∧ clL E.base ((c.toList.drop a.off).take n) = true then some ((c.toList.drop a.off).take n) else none
      | _ => none
    else match h.get a.block with
      | some (.cells c _ _) => if a.off + n ≤ c.length then some ((c.drop a.off).take n) else none
      | _ => none

def aload (E : Env) (h : Heap) (t : TypeId) (x : Value) : Option Value :=
  match x with
  | .pointer (some a) =>
    match aagg E.P t, asz E.P t with
    | some true, some n => (acells E h a n).map fun l => .agg l.toArray
    | some false, _ => (acells E h a 1).bind fun l => l[0]?
    | _, _ => none
  | _ => none

def acan (h : Heap) (a : Addr) (n : Nat) : Bool :=
  match a.spot with
  | some _ => false
  | none => match h.get a.block with
    | some (.cells c _ _) => decide (a.off + n ≤ c.length)
    | _ => false

def awrite (h : Heap) (a : Addr) (vs : List Value) : Option Heap :=
  match a.spot with
  | some _ => none
  | none => match h.get a.block with
    | some (.cells c e fx) => if a.off + vs.length ≤ c.length ∧ vs.all Value.oneCell' = true then some (h.put a.block (.cells (splice c a.off vs) e fx)) else none
    | _ => none

def astore (E : Env) (h : Heap) (t : TypeId) (x v : Value) : Option Heap :=
  match x with
  | .pointer (some a) => if asz E.P t = some (vcells v).length then awrite h a (vcells v) else none
  | _ => none

def anew (h : Heap) : Addr := ⟨h.next, 0, none⟩

def arep : Nat → List Value → List Value
  | 0, _ => []
  | n + 1, z => z ++ arep n z

/-- New memory: the value, and what is laid. -/
def aalloc (P : Program) (ev : Operand → Value) : Op → Option ((Nat → Value) × AObj)
  | .alloc e => (azero P e).map fun z => (fun b => .pointer (some ⟨b, 0, none⟩), .cells (vcells z) e true)
  | .box e x => some (fun b => .pointer (some ⟨b, 0, none⟩), .cells (vcells (ev x)) e true)
  | .buildSlice t len parts =>
    match P.underlying t with
    | some (.slice e) =>
      match asz P e, azero P e with
      | some (size + 1), some z =>
        if len * (size + 1) ≤ 16777216 ∧ (vcells z).length = size + 1 then
          (afill (fun i => some (i * (size + 1), size + 1)) (arep len (vcells z)) (parts.toList.map fun p => (p.1, ev p.2))).map fun l =>
            (fun b => .slice (some ⟨b, 0, none⟩) len len, .cells l e true)
        else none
      | _, _ => none
    | _ => none
  | .makeSlice t l c =>
    match P.underlying t, ev l, ev c with
    | some (.slice e), .int _ l, .int _ c =>
      match P.info? e, azero P e with
      | some i, some z =>
        if 0 ≤ l ∧ l ≤ c ∧ c ≤ 9223372036854775807 ∧ (i.bytes : Int) * c ≤ 281474976710656 ∧ (vcells z).length = i.size ∧ 0 < i.size then
          some (fun b => .slice (some ⟨b, 0, none⟩) l.toNat c.toNat, .cells (arep c.toNat (vcells z)) e true)
        else none
      | _, _ => none
    | _, _, _ => none
  | .makeMap _ none => some (fun b => .map (some b), .map [] 0)
  | .range t x =>
    match P.underlying t, ev x with
    | some .string, .string s => some (fun b => .pointer (some ⟨b, 0, none⟩), .iter s 0)
    | _, _ => none
  | _ => none

def afindKey (k : Value) : List MapEntry → Option Nat
  | [] => none
  | e :: es =>
    match k, e.key with
    | .int _ a, .int _ b => if a = b then some 0 else (afindKey k es).map (· + 1)
    | .string a, .string b => if a.data.toList == b.data.toList then some 0 else (afindKey k es).map (· + 1)
    | _, _ => none

def akeyOk (P : Program) (kt : TypeId) (k : Value) (es : List MapEntry) : Bool :=
  match P.underlying kt, k with
  | some (.int _), .int j _ => es.all fun e => match e.key with | .int j' _ => decide (j' = j) | _ => false
  | some .string, .string _ => es.all fun e => match e.key with | .string _ => true | _ => false
  | _, _ => false

def isU8 (P : Program) (e : TypeId) : Bool :=
  match P.underlying e with
  | some (.int .u8) => true
  | _ => false

def ament (h : Heap) (m : Value) : Option (List MapEntry) :=
  match m with
  | .map none => some []
  | .map (some r) => match h.get r with
    | some (.map es _) => some es
    | _ => none
  | _ => none

def alookup (E : Env) (h : Heap) (t : TypeId) (m k : Value) (ok : Bool) : Option Value :=
  match E.P.underlying t, ament h m with
  | some (.map kt et), some es =>
    if akeyOk E.P kt k es then
      match afindKey k es with
      | some i => match es[i]? with
        | some e => some (if ok then .tuple #[e.val, .bool true] else e.val)
        | none => none
      | none => match azero E.P et with
        | some z => some (if ok then .tuple #[z, .bool false] else z)
        | none => none
    else none
  | _, _ => none

/-- What is read. -/
def aread (E : Env) (h : Heap) (ev : Operand → Value) : Op → Option Value
  | .load t a => aload E h t (ev a)
  | .lookup t m k ok => alookup E h t (ev m) (ev k) ok
  | .convert s d x =>
    match E.P.underlying s, E.P.underlying d, ev x with
    | some (.slice e), some .string, .slice none _ _ => if isU8 E.P e = true then some (.string .empty) else none
    | some (.slice e), some .string, .slice (some a) n _ =>
      if isU8 E.P e = true then
        match acells E h a n with
        | some l => if l.all (fun | .int .u8 _ => true | _ => false) then some (.string ⟨(l.map fun | .int _ b => UInt8.ofNat b.toNat | _ => 0).toArray⟩) else none
        | none => none
      else none
    | _, _, _ => none
  | _ => none

inductive Eff where
  | val (v : Value) (h : Heap)
  | enter (f : FuncId) (args : List Value)

/-- The cells that are appended or copied. -/
def asrc (E : Env) (h : Heap) (size : Nat) (x : Value) (n : Nat) : Option (List Value) :=
  match x with
  | .slice none _ _ => if n = 0 then some [] else none
  | .slice (some a) _ _ => if n * size = 0 then some [] else acells E h a (n * size)
  | .string s => some ((s.data.toList.take n).map fun b => .int .u8 b.toNat)
  | _ => none
def alenOf : Value → Option Nat
  | .slice _ n _ => some n
  | .string s => some s.size
  | _ => none

def isIntD : TypeDesc → Bool
  | .slice _ => false
  | .string => false
  | _ => true

def aend (a : Addr) : Nat :=
  match a.spot with
  | none => a.off
  | some d => a.off + d

/- More than there is room for. -/
def agrow (E : Env) (h : Heap) (e : TypeId) (i : TypeInfo) (base : Option Addr) (sLen sCap n : Nat) (news : List Value) : Option (Value × Heap) :=
  if (sLen + n) * i.bytes ≤ 140737488355328 ∧ news.length = n * i.size ∧ 0 < i.size ∧ sLen + n ≤ 9223372036854775807 ∧ news.all Value.oneCell' = true then
    match azero E.P e with
    | none => none
    | some z => if (vcells z).length = i.size then
        match base with
        | none => if sLen = 0 ∧ sCap = 0 then some (.slice (some (anew h)) n n, h.push (.cells news e false)) else none
        | some a =>
          match h.get a.block with
          | some (.cells c e' fx) =>
            if e' = e ∧ aend a + sCap * i.size = c.length ∧ (a.spot.isSome = true → sLen = 0 ∧ sCap = 0) ∧ sLen ≤ sCap then
              if fx then some (.slice (some (anew h)) (sLen + n) (sLen + n), h.push (.cells ((c.drop a.off).take (sLen * i.size) ++ news) e false))
              else some (.slice (some (anew h)) (sLen + n) (sLen + n), (h.kill a.block).push (.cells ((c.drop a.off).take (sLen * i.size) ++ news) e false))
            else none
          | _ => none
      else none
  else none

def aappendE (E : Env) (h : Heap) (e : TypeId) (i : TypeInfo) (base : Option Addr) (sLen sCap n : Nat) (x : Value) : Option (Value × Heap) :=
  if n = 0 ∧ sLen ≤ sCap then some (.slice base sLen sCap, h) else
  match asrc E h i.size x n with
  | none => none
  | some news =>
    if sLen + n ≤ sCap then
      match base with
      | none => none
      | some a => match a.spot with
        | some _ => none
        | none => (awrite h (addo a (sLen * i.size)) news).map fun h' => (.slice base (sLen + n) sCap, h')
    else agrow E h e i base sLen sCap n news

def aappend (E : Env) (h : Heap) (t t1 : TypeId) (s x : Value) : Option (Value × Heap) :=
  match E.P.underlying t, E.P.underlying t1, s, alenOf x with
  | some (.slice e), some d1, .slice base sLen sCap, some n =>
    if isIntD d1 then none else
    match E.P.info? e with
    | none => none
    | some i => aappendE E h e i base sLen sCap n x
  | _, _, _, _ => none

def acopy (E : Env) (h : Heap) (t : TypeId) (d x : Value) : Option (Value × Heap) :=
  match E.P.underlying t, d, alenOf x with
  | some (.slice e), .slice base dLen _, some sn =>
    match asz E.P e with
    | none => none
    | some size =>
      let n := Nat.min sn dLen
      if n = 0 then some (.int .i64 0, h) else
      match asrc E h size x n, base with
      | some l, some a => if l.length = n * size then (awrite h a l).map fun h' => (.int .i64 n, h') else none
      | _, _ => none
  | _, _, _ => none

def aclear (E : Env) (h : Heap) (t : TypeId) (x : Value) : Option Heap :=
  match E.P.underlying t, x with
  | some (.slice _), .slice (some _) 0 _ => some h
  | some (.slice _), .slice none _ _ => some h
  | some (.slice e), .slice (some a) (n + 1) _ =>
    match azero E.P e with
    | some z => awrite h a (arep (n + 1) (vcells z))
    | none => none
  | _, _ => none

def aupdate (E : Env) (h : Heap) (t : TypeId) (m k v : Value) : Option Heap :=
  match E.P.underlying t, m with
  | some (.map kt _), .map (some r) =>
    match h.get r with
    | some (.map es clock) =>
      if akeyOk E.P kt k es then
        match afindKey k es with
        | some i => some (h.put r (.map (es.modify i fun e => { e with key := k, val := v }) clock))
        | none => some (h.put r (.map (es ++ [{ key := k, val := v, born := clock }]) (clock + 1)))
      else none
    | _ => none
  | _, _ => none

def adelete (E : Env) (h : Heap) (t : TypeId) (m k : Value) : Option Heap :=
  match E.P.underlying t, m with
  | some (.map kt _), .map (some r) =>
    match h.get r with
    | some (.map es clock) =>
      if akeyOk E.P kt k es then
        match afindKey k es with
        | some i => some (h.put r (.map (es.eraseIdx i) clock))
        | none => some h
      else none
    | _ => none
  | _, _ => none

def anext (h : Heap) (it : Value) (isS : Bool) : Option (Value × Heap) :=
  match it, isS with
  | .pointer (some ⟨b, 0, none⟩), true =>
    match h.get b with
    | some (.iter s pos) =>
      if pos < s.size then
        let x := Utf8.decode s pos
        some (.tuple #[.bool true, .int .i64 pos, .int .i32 x.1], h.put b (.iter s (pos + x.2)))
      else some (.tuple #[.bool false], h)
    | _ => none
  | _, _ => none

/-- What an operation that may write does. -/
def aeff (E : Env) (h : Heap) (ev : Operand → Value) : Op → Option Eff
  | .store t a v => (astore E h t (ev a) (ev v)).map (.val undef)
  | .next it isS => (anext h (ev it) isS).map fun p => .val p.1 p.2
  | .insert t m k v => (aupdate E h t (ev m) (ev k) (ev v)).map (.val undef)
  | .mapUpdate t m k v => (aupdate E h t (ev m) (ev k) (ev v)).map (.val undef)
  | .call { callee := .builtin b, args, argTypes } =>
    match b, args.toList, argTypes.toList with
    | .append, [s, x], [t, t1] => (aappend E h t t1 (ev s) (ev x)).map fun p => .val p.1 p.2
    | .copy, [d, x], [t, _] => (acopy E h t (ev d) (ev x)).map fun p => .val p.1 p.2
    | .clear, [x], [t] => (aclear E h t (ev x)).map (.val (.tuple #[]))
    | _, _, _ => none
  | .call { callee := .value f, args, argTypes := _ } =>
    match ev f with
    | .func (.func g) first cap => some (.enter g (first.toList ++ args.toList.map ev ++ cap.toList))
    | _ => none
  | .call { callee := .invoke r name, args, argTypes := _ } =>
    match ev r with
    | .iface t v =>
      match E.P.info? t with
      | none => none
      | some i => match i.methods.toList.find? (·.name == name) with
        | some m => match m.path.toList, m.func, E.P.underlying t with
          | [], some (f, true), some (.pointer _) => some (.enter f (v :: args.toList.map ev))
          | _, _, _ => none
        | none => none
    | _ => none
  | _ => none

inductive Ex where
  | normal
  | ret
  | exit (id : Nat)
  | goto (l : Nat)

structure St where
  tm : Tr Value
  h : Heap

def fget (tm : Tr Value) (t : Nat) : Value :=
  match tm.get t with
  | some v => v
  | none => undef

def opd (tm : Tr Value) : Operand → Value
  | .tmp t => fget tm t
  | .const v => v
  | .global g => .pointer (some ⟨g, 0, none⟩)
  | .func f => .func (.func f) #[] #[]

def aput (tm : Tr Value) (d : Option Nat) (v : Value) : Tr Value :=
  match d with
  | some d => tm.set d (some v)
  | none => tm

def afrom : Nat → List Value → Tr Value → Tr Value
  | _, [], tm => tm
  | k, v :: l, tm => afrom (k + 1) l (tm.set k (some v))

inductive Kind where
  | pure
  | read
  | alloc
  | eff

def kindOf (P : Program) : Op → Kind
  | .alloc _ | .box _ _ | .buildSlice _ _ _ | .makeSlice _ _ _ | .makeMap _ _ | .range _ _ => .alloc
  | .load _ _ | .lookup _ _ _ _ => .read
  | .store _ _ _ | .mapUpdate _ _ _ _ | .insert _ _ _ _ | .next _ _ => .eff
  | .convert s _ _ => match P.underlying s with
    | some (.slice _) => .read
    | _ => .pure
  | .call { callee := .builtin .len, argTypes, .. } => match argTypes.toList with
    | [t] => match P.underlying t with
      | some (.map _ _) => .read
      | _ => .pure
    | _ => .pure
  | .call { callee := .builtin .max, .. } | .call { callee := .builtin .min, .. } => .pure
  | .call _ => .eff
  | _ => .pure

def awanted (ops : List Oper) (tm : Tr Value) (o : Oper) : Bool :=
  match o.guard with
  | none => true
  | some (j, want) => match (ops[j]?).bind (·.dst) with
    | some d => match fget tm d with
      | .bool b => b == want
      | _ => false
    | none => false

abbrev Caller := FuncId → List Value → Heap → Option (Value × Heap)

/- One operation; a call by what is handed in. -/
def aop (E : Env) (call : Caller) (op : Op) (s : St) : Option (Value × Heap) :=
  match kindOf E.P op with
  | .pure => (apure E.P (opd s.tm) op).map fun v => (v, s.h)
  | .read => (aread E s.h (opd s.tm) op).map fun v => (v, s.h)
  | .alloc => (aalloc E.P (opd s.tm) op).map fun p => (p.1 s.h.next, s.h.push p.2)
  | .eff => match aeff E s.h (opd s.tm) op with
    | some (.val v h) => some (v, h)
    | some (.enter f args) => call f args s.h
    | none => none

def aop1 (E : Env) (call : Caller) (ops : List Oper) (o : Oper) (s : St) : Option St :=
  if awanted ops s.tm o then
    match aop E call o.op s with
    | some (v, h) => some ⟨aput s.tm o.dst v, h⟩
    | none => none
  else some ⟨aput s.tm o.dst undef, s.h⟩

def aops (E : Env) (call : Caller) (ops : List Oper) : List Oper → St → Option St
  | [], s => some s
  | o :: l, s => match aop1 E call ops o s with
    | some s' => aops E call ops l s'
    | none => none

def arounds (body : St → Option (Ex × St)) : Nat → St → Option (Ex × St)
  | 0, _ => none
  | n + 1, s => match body s with
    | some (.normal, s') => arounds body n s'
    | r => r

def aresults (E : Env) (s : St) : List ResultVar → Option (List Value)
  | [] => some []
  | .tmp t :: l => (aresults E s l).map (fget s.tm t :: ·)
  | .cell a t :: l => match aload E s.h t (fget s.tm a), aresults E s l with
    | some v, some r => some (v :: r)
    | _, _ => none

def aret : List Value → Value
  | [v] => v
  | l => .tuple l.toArray

/- A scope: a jump to a label of its own goes on there. -/
def ascope (run : Code → St → Option (Ex × St)) (body : Code) : Nat → Code → St → Option (Ex × St)
  | 0, _, _ => none
  | n + 1, c, s => match run c s with
    | some (.goto l, s') => match findLabel body l with
      | some rest => ascope run body n rest s'
      | none => none
    | r => r

def aleave (E : Env) (fn : Func) : Option (Ex × St) → Option (Value × Heap)
  | some (.normal, s') => (aresults E s' fn.results.toList).map fun l => (aret l, s'.h)
  | some (.ret, s') => (aresults E s' fn.results.toList).map fun l => (aret l, s'.h)
  | _ => none

def acallBy (E : Env) (run : Code → St → Option (Ex × St)) (f : FuncId) (args : List Value) (h : Heap) : Option (Value × Heap) :=
  match E.P.funcs.toList[f]? with
  | some fn => match fn.body with
    | some b => if args.length ≤ fn.ntmps ∧ (fn.name == "runtime.NumGoroutine") = false then aleave E fn (run b ⟨afrom 0 args .leaf, h⟩) else none
    | none => none
  | none => none

end Go.Tm
