/- Part 1: Eng7 Eng8 Eng9 Eng10 Eng11 Eng12 EngM Eng13. -/
import Derived.Test.YthbjaiilnkakcaaGreatDoorG00
import Derived.Laws.RangeAny
import Derived.Laws.BytesString
set_option linter.all false
set_option maxRecDepth 10000
set_option maxHeartbeats 8000000
namespace Go.Tm
variable{w:World}{B n off r size:Nat}{o:Oper}{fr:Nat×Nat}{E:Env}{ρ:Ren}{h h':ag}{a:Addr}{hid l vs:List Value}{kt t t1:TypeId}{k m v:Value}{P:Program}{fx:Bool}{ev:Operand->Value}{d1:TypeDesc}{f:FuncId}
def cg(E:Env)(h:ag)(a:Addr)(n:Nat):Option (List Value) :=
 match a.spot with
 |some _=>none
 | none =>
   if a.block<E.base then
    match E.ro a.block with
    |some (.cells c _ _)=>if a.off+n<=c.size/\((c.toList.drop a.off).take n).all (cl1 E.base)=true then some (((c.toList.drop a.off).take n).map ue) else none
    |_=>none
   else match h.get a.block with
    |some (.cells c _ _)=>if a.off+n<=c.length then some ((c.drop a.off).take n) else none
    |_=>none
def kd(E:Env)(h:ag)(t:TypeId)(x:Value):Option Value :=
 match x with
 | .pointer (some a) =>
   match Ge E.P t,asz E.P t with
   |some true,some n=>(cg E h a n).map λl=>.agg l.toArray
   |some false,_=>(cg E h a 1).bind λl=>l[0]?
   |_,_=>none
 |_=>none
def bQ(h:ag)(a:Addr)(vs:List Value):Option ag :=
 match a.spot with
 |some _=>none
 | none=>match h.get a.block with
   |some (.cells c e fx)=>if a.off+vs.length<=c.length/\vs.all Value.oneCell'=true then some (h.put a.block (.cells (bJ c a.off vs) e fx)) else none
   |_=>none
def jB(E:Env)(h:ag)(t:TypeId)(x v:Value):Option ag :=
 match x with
 |.pointer (some a)=>if asz E.P t=some (aM v).length then bQ h a (aM v) else none
 |_=>none
def fE(h:ag):Addr:=⟨h.next,0,none⟩
def bR:Nat->List Value->List Value
 |0,_=>[]
 |n+1,z=>z++bR n z
def bW(P:Program)(ev:Operand->Value):Op->Option ((Nat->Value)×bz)
 |.alloc e=>(dw P e).map λz=>(λb=>.pointer (some ⟨b,0,none⟩),.cells (aM z) e true)
 |.box e x=>some (λb=>.pointer (some ⟨b,0,none⟩),.cells (aM (ev x)) e true)
 | .buildSlice t len parts =>
   match P.underlying t with
   | some (.slice e) =>
     match asz P e,dw P e with
     | some (size+1),some z =>
       if len*(size+1)<=16777216/\(aM z).length=size+1 then
        (dP (λi=>some (i*(size+1),size+1)) (bR len (aM z)) (parts.toList.map λp=>(p.1,ev p.2))).map λl =>
         (λb=>.slice (some ⟨b,0,none⟩) len len,.cells l e true)
       else none
     |_,_=>none
   |_=>none
 | .makeSlice t l c =>
   match P.underlying t,ev l,ev c with
   | some (.slice e),.int _ l,.int _ c =>
     match P.info? e,dw P e with
     | some i,some z =>
       if 0<=l/\l<=c/\c<=9223372036854775807/\(i.bytes:Int)*c<=281474976710656/\(aM z).length=i.size/\0<i.size then
        some (λb=>.slice (some ⟨b,0,none⟩) l.toNat c.toNat,.cells (bR c.toNat (aM z)) e true)
       else none
     |_,_=>none
   |_,_,_=>none
 |.makeMap _ none=>some (λb=>.map (some b),.map [] 0)
 | .range t x =>
   match P.underlying t,ev x with
   |some .string,.string s=>some (λb=>.pointer (some ⟨b,0,none⟩),.iter s 0)
   |_,_=>none
 |_=>none
def cE(k:Value):List MapEntry->Option Nat
 |[]=>none
 | e::es =>
   match k,e.key with
   |.int _ a,.int _ b=>if a=b then some 0 else(cE k es).map (·+1)
   |.string a,.string b=>if a.data.toList==b.data.toList then some 0 else(cE k es).map (·+1)
   |_,_=>none
def fg(P:Program)(kt:TypeId)(k:Value)(es:List MapEntry):Bool :=
 match P.underlying kt,k with
 |some (.int _),.int j _=>es.all λe=>match e.key with| .int j' _=>decide (j'=j)|_=>false
 |some .string,.string _=>es.all λe=>match e.key with| .string _=>true|_=>false
 |_,_=>false
def HQ(P:Program)(e:TypeId):Bool :=
 match P.underlying e with
 |some (.int .u8)=>true
 |_=>false
def nI(h:ag)(m:Value):Option (List MapEntry) :=
 match m with
 |.map none=>some []
 | .map (some r)=>match h.get r with
   |some (.map es _)=>some es
   |_=>none
 |_=>none
def fe(E:Env)(h:ag)(t:TypeId)(m k:Value)(ok:Bool):Option Value :=
 match E.P.underlying t,nI h m with
 | some (.map kt et),some es =>
   if fg E.P kt k es then
    match cE k es with
    | some i=>match es[i]? with
      |some e=>some (if ok then .tuple #[e.val,.bool true] else e.val)
      |none=>none
    | none=>match dw E.P et with
      |some z=>some (if ok then .tuple #[z,.bool false] else z)
      |none=>none
   else none
 |_,_=>none
def mI(E:Env)(h:ag)(t:TypeId)(m:Value):Option Value :=
 match E.P.underlying t,nI h m with
 |some (.map _ _),some es=>some (.int .i64 es.length)
 |_,_=>none
def cC(E:Env)(h:ag)(ev:Operand->Value):Op->Option Value
 |.load t a=>kd E h t (ev a)
 |.lookup t m k ok=>fe E h t (ev m) (ev k) ok
 | .convert s d x =>
   match E.P.underlying s,E.P.underlying d,ev x with
   |some (.slice e),some .string,.slice none _ _=>if HQ E.P e=true then some (.string .empty) else none
   | some (.slice e),some .string,.slice (some a) n _ =>
     if HQ E.P e=true then
      match cg E h a n with
      |some l=>if l.all (λ| .int .u8 _=>true|_=>false) then some (.string ⟨(l.map λ| .int _ b=>UInt8.ofNat b.toNat|_=>0).toArray⟩) else none
      |none=>none
     else none
   |_,_,_=>none
 | .call { callee:=.builtin .len,args,argTypes }=>match args.toList,argTypes.toList with
   |[x],[t]=>mI E h t (ev x)
   |_,_=>none
 |_=>none
inductive Eff where
 |val (v:Value) (h:ag)
 |enter (f:FuncId) (args:List Value)
def lj(E:Env)(h:ag)(size:Nat)(x:Value)(n:Nat):Option (List Value) :=
 match x with
 |.slice none _ _=>if n=0 then some [] else none
 |.slice (some a) _ _=>if n*size=0 then some [] else cg E h a (n*size)
 |.string s=>some ((s.data.toList.take n).map λb=>.int .u8 b.toNat)
 |_=>none
def iZ:Value->Option Nat
 |.slice _ n _=>some n
 |.string s=>some s.size
 |_=>none
def kT:TypeDesc->Bool
 |.slice _=>false
 |.string=>false
 |_=>true
def lF(a:Addr):Nat :=
 match a.spot with
 |none=>a.off
 |some d=>a.off+d/2
def Il(a:Addr):Bool :=
 match a.spot with
 |none=>true
 |some d=>!(d%2==1)
def ib(E:Env)(h:ag)(e:TypeId)(i:TypeInfo)(base:Option Addr)(sLen sCap n:Nat)(news:List Value):Option (Value×ag) :=
 if (sLen+n)*i.bytes<=140737488355328/\news.length=n*i.size/\0<i.size/\sLen+n<=9223372036854775807/\news.all Value.oneCell'=true then
  match dw E.P e with
  |none=>none
  |some z=>if (aM z).length=i.size then
   match base with
   |none=>if sLen=0/\sCap=0 then some (.slice (some (fE h)) n n,h.push (.cells news e false)) else none
   | some a =>
     if a.spot=some 0/\0<sLen then
      match h.get a.block with
      |some (.cells c e' _) =>if e'=e/\a.off+sLen*i.size<=c.length/\sCap=sLen then some (.slice (some (fE h)) (sLen+n) (sLen+n),h.push (.cells ((c.drop a.off).take (sLen*i.size)++news) e false)) else none
      |_=>none
     else
     match h.get a.block with
     | some (.cells c e' fx) =>
       if e'=e/\lF a+sCap*i.size=c.length/\(a.spot.isSome=true->sLen=0/\sCap=0/\Il a=true)/\sLen<=sCap then
        if fx then some (.slice (some (fE h)) (sLen+n) (sLen+n),h.push (.cells ((c.drop a.off).take (sLen*i.size)++news) e false))
        else some (.slice (some (fE h)) (sLen+n) (sLen+n),(h.kill a.block).push (.cells ((c.drop a.off).take (sLen*i.size)++news) e false))
       else none
     |_=>none
    else none
 else none
def eA(E:Env)(h:ag)(e:TypeId)(i:TypeInfo)(base:Option Addr)(sLen sCap n:Nat)(x:Value):Option (Value×ag) :=
 if n=0/\sLen<=sCap then some (.slice base sLen sCap,h) else
 match lj E h i.size x n with
 |none=>none
 | some news =>
   if sLen+n<=sCap then
    match base with
    |none=>none
    | some a=>match a.spot with
      |some _=>none
      |none=>(bQ h (fQ a (sLen*i.size)) news).map λh'=>(.slice base (sLen+n) sCap,h')
   else ib E h e i base sLen sCap n news
def cI(E:Env)(h:ag)(t t1:TypeId)(s x:Value):Option (Value×ag) :=
 match E.P.underlying t,E.P.underlying t1,s,iZ x with
 | some (.slice e),some d1,.slice base sLen sCap,some n =>
   if kT d1 then none else
   match E.P.info? e with
   |none=>none
   |some i=>eA E h e i base sLen sCap n x
 |_,_,_,_=>none
def wy(E:Env)(h:ag)(t:TypeId)(d x:Value):Option (Value×ag) :=
 match E.P.underlying t,d,iZ x with
 | some (.slice e),.slice base dLen _,some sn =>
   match asz E.P e with
   |none=>none
   | some size =>
     let n:=Nat.min sn dLen
     if n=0 then some (.int .i64 0,h) else
     match lj E h size x n,base with
     |some l,some a=>if l.length=n*size then(bQ h a l).map λh'=>(.int .i64 n,h') else none
     |_,_=>none
 |_,_,_=>none
def rh(E:Env)(h:ag)(t:TypeId)(x:Value):Option ag :=
 match E.P.underlying t,x with
 |some (.slice _),.slice (some _) 0 _=>some h
 |some (.slice _),.slice none _ _=>some h
 | some (.slice e),.slice (some a) (n+1) _ =>
   match dw E.P e with
   |some z=>bQ h a (bR (n+1) (aM z))
   |none=>none
 |_,_=>none
def eK(E:Env)(h:ag)(t:TypeId)(m k v:Value):Option ag :=
 match E.P.underlying t,m with
 | some (.map kt _),.map (some r) =>
   match h.get r with
   | some (.map es clock) =>
     if fg E.P kt k es then
      match cE k es with
      |some i=>some (h.put r (.map (es.modify i λe=>{e with key:=k,val:=v}) clock))
      |none=>some (h.put r (.map (es++[{key:=k,val:=v,born:=clock}]) (clock+1)))
     else none
   |_=>none
 |_,_=>none
def Av(h:ag)(it:Value)(isS:Bool):Option (Value×ag) :=
 match it,isS with
 | .pointer (some ⟨b,0,none⟩),true =>
   match h.get b with
   | some (.iter s pos) =>
     if pos<s.size then
      let x:=Utf8.decode s pos
      some (.tuple #[.bool true,.int .i64 pos,.int .i32 x.1],h.put b (.iter s (pos+x.2)))
     else some (.tuple #[.bool false],h)
   |_=>none
 |_,_=>none
def jL(E:Env)(h:ag)(t:TypeId)(x:Value):Option (Value×ag) :=
 match E.P.underlying t,x with
 | some (.map _ _),.map (some m) =>
   match h.get m with
   |some (.map _ k)=>some (.pointer (some ⟨h.next,0,none⟩),h.push (.miter m k))
   |_=>none
 |_,_=>none
def iE(E:Env)(h:ag)(ev:Operand->Value):Op->Option Eff
 |.store t a v=>(jB E h t (ev a) (ev v)).map (.val undef)
 |.next it isS=>(Av h (ev it) isS).map λp=>.val p.1 p.2
 |.range t x=>(jL E h t (ev x)).map λp=>.val p.1 p.2
 |.insert t m k v=>(eK E h t (ev m) (ev k) (ev v)).map (.val undef)
 |.mapUpdate t m k v=>(eK E h t (ev m) (ev k) (ev v)).map (.val undef)
 | .call { callee:=.builtin b,args,argTypes } =>
   match b,args.toList,argTypes.toList with
   |.append,[s,x],[t,t1]=>(cI E h t t1 (ev s) (ev x)).map λp=>.val p.1 p.2
   |.copy,[d,x],[t,_]=>(wy E h t (ev d) (ev x)).map λp=>.val p.1 p.2
   |.clear,[x],[t]=>(rh E h t (ev x)).map (.val (.tuple #[]))
   |_,_,_=>none
 | .call { callee:=.value f,args,argTypes:=_ } =>
   match ev f with
   |.func (.func g) first cap=>some (.enter g (first.toList++args.toList.map ev++cap.toList))
   |_=>none
 | .call { callee:=.invoke r name,args,argTypes:=_ } =>
   match ev r with
   | .iface t v =>
     match E.P.info? t with
     |none=>none
     | some i=>match i.methods.toList.find? (·.name==name) with
       | some m=>match m.path.toList,m.func,E.P.underlying t with
         |[],some (f,true),some (.pointer _)=>some (.enter f (v::args.toList.map ev))
         |_,_,_=>none
       |none=>none
   |_=>none
 |_=>none
inductive Ex where
 |normal
 |ret
 |exit (id:Nat)
 |goto (l:Nat)
structure St where
 tm:Tr Value
 h:ag
def aj(tm:Tr Value)(t:Nat):Value :=
 match tm.get t with
 |some v=>v
 |none=>undef
def opd(tm:Tr Value):Operand->Value
 |.tmp t=>aj tm t
 |.const v=>v
 |.global g=>.pointer (some ⟨g,0,none⟩)
 |.func f=>.func (.func f) #[] #[]
def du(tm:Tr Value)(d:Option Nat)(v:Value):Tr Value :=
 match d with
 |some d=>tm.set d (some v)
 |none=>tm
def mK:Nat->List Value->Tr Value->Tr Value
 |_,[],tm=>tm
 |k,v::l,tm=>mK (k+1) l (tm.set k (some v))
inductive Kind where
 |pure
 |read
 |alloc
 |eff
def kindOf(P:Program):Op->Kind
 |.alloc _ | .box _ _ | .buildSlice _ _ _ | .makeSlice _ _ _ | .makeMap _ _=>.alloc
 | .range t _=>match P.underlying t with
   |some (.map _ _)=>.eff
   |_=>.alloc
 |.load _ _ | .lookup _ _ _ _=>.read
 |.store _ _ _ | .mapUpdate _ _ _ _ | .insert _ _ _ _ | .next _ _=>.eff
 | .convert s _ _=>match P.underlying s with
   |some (.slice _)=>.read
   |_=>.pure
 | .call { callee:=.builtin .len,argTypes,.. }=>match argTypes.toList with
   | [t]=>match P.underlying t with
     |some (.map _ _)=>.read
     |_=>.pure
   |_=>.pure
 |.call {callee:=.builtin .max,..} | .call {callee:=.builtin .min,..}=>.pure
 |.call _=>.eff
 |_=>.pure
def bf(ops:List Oper)(tm:Tr Value)(o:Oper):Bool :=
 match o.guard with
 |none=>true
 | some (j,want)=>match (ops[j]?).bind (·.dst) with
   | some d=>match aj tm d with
     |.bool b=>b==want
     |_=>false
   |none=>false
abbrev di:=FuncId->List Value->ag->Option (Value×ag)
def aop(E:Env)(call:di)(op:Op)(s:St):Option (Value×ag) :=
 match kindOf E.P op with
 |.pure=>(cu E.P (opd s.tm) op).map λv=>(v,s.h)
 |.read=>(cC E s.h (opd s.tm) op).map λv=>(v,s.h)
 |.alloc=>(bW E.P (opd s.tm) op).map λp=>(p.1 s.h.next,s.h.push p.2)
 | .eff=>match iE E s.h (opd s.tm) op with
   |some (.val v h)=>some (v,h)
   |some (.enter f args)=>call f args s.h
   |none=>none
def jk(E:Env)(call:di)(ops:List Oper)(o:Oper)(s:St):Option St :=
 if bf ops s.tm o then
  match aop E call o.op s with
  |some (v,h)=>some ⟨du s.tm o.dst v,h⟩
  |none=>none
 else some ⟨du s.tm o.dst undef,s.h⟩
def qW(E:Env)(call:di)(ops:List Oper):List Oper->St->Option St
 |[],s=>some s
 | o::l,s=>match jk E call ops o s with
   |some s'=>qW E call ops l s'
   |none=>none
def iH(body:St->Option (Ex×St)):Nat->St->Option (Ex×St)
 |0,_=>none
 | n+1,s=>match body s with
   |some (.normal,s')=>iH body n s'
   |r=>r
def cW(E:Env)(s:St):List ResultVar->Option (List Value)
 |[]=>some []
 |.tmp t::l=>(cW E s l).map (aj s.tm t::·)
 | .cell a t::l=>match kd E s.h t (aj s.tm a),cW E s l with
   |some v,some r=>some (v::r)
   |_,_=>none
def jU:List Value->Value
 |[v]=>v
 |l=>.tuple l.toArray
def jT(run:Code->St->Option (Ex×St))(body:Code):Nat->Code->St->Option (Ex×St)
 |0,_,_=>none
 | n+1,c,s=>match run c s with
   | some (.goto l,s')=>match findLabel body l with
     |some rest=>jT run body n rest s'
     |none=>none
   |r=>r
def xX(E:Env)(fn:Func):Option (Ex×St)->Option (Value×ag)
 |some (.normal,s')=>(cW E s' fn.results.toList).map λl=>(jU l,s'.h)
 |some (.ret,s')=>(cW E s' fn.results.toList).map λl=>(jU l,s'.h)
 |_=>none
def nh(E:Env)(run:Code->St->Option (Ex×St))(f:FuncId)(args:List Value)(h:ag):Option (Value×ag) :=
 match E.P.funcs.toList[f]? with
 | some fn=>match fn.body with
   |some b => if args.length <= fn.ntmps /\ (fn.name == "runtime.NumGoroutine") = false then xX E fn (run b ⟨mK 0 args .leaf, h⟩) else none
   |none=>none
 |none=>none
def dW(E:Env)(run:Code->St->Option (Ex×St))(f:FuncId)(args:List Value)(h:ag):Option (Value×ag) :=
 match E.known f args with
 |some v=>some (v,h)
 |none=>nh E run f args h
theorem Da{o:Nat}{c:List Value}{e:TypeId}(h:w.heap[r]? = some (.cells c.toArray e fr)):w.cell? ⟨r,o,none⟩=c[o]? := by simp[World.cell?,h]
theorem fF(H:HR E B ρ h w)(hl:cg E h a n=some l) :
 (∀j v,(l.map (ren ρ))[j]? = some v->w.cell? ((fm ρ a).add j)=some v)/\l.length=n/\(∀v,v∈l->sc h.next v=true)/\a.spot=none:=by
 unfold cg at hl;split at hl
 ·cases hl
 ·rename_i hsp;have hadd:∀j,(fm ρ a).add j=⟨(ρ a.block).r,a.off+(ρ a.block).sh+j,none⟩:=λj=>by rw[j7 hsp,vQ]
  split at hl
  ·rename_i hb;split at hl
   ·rename_i c e fr hro;split at hl
    ·rename_i hc;injection hl with hl;obtain⟨h1,h2⟩:=hc;have hw:=H.ro _ _ hb hro;have hx:=H.fix _ hb;rw[List.all_eq_true]at h2;have hid:∀v,v∈l->sc h.next v=true:=by intro v hv;rw[<-hl]at hv;obtain⟨u,hu,rfl⟩:=List.mem_map.1 hv;exact eJ _ _ H.cj _ (pg _ u (h2 u hu))
     refine⟨?_,by rw[<-hl];simp;omega,λv hv=>hid v hv,hsp⟩;intro j v hj;rw[hadd,hx];have hm:l.map (ren ρ)=(c.toList.drop a.off).take n:=by
      rw[<-hl,List.map_map]
      conv=>rhs;rw[<-List.map_id ((c.toList.drop a.off).take n)]
      exact List.map_congr_left λv hv=>lT ρ E.base H.fix v (h2 v hv)
     rw[hm,List.getElem?_take]at hj;split at hj
     ·rw[List.getElem?_drop]at hj;simp[World.cell?,hw];simpa using hj
     ·cases hj
    ·cases hl
   ·cases hl
  ·split at hl
   ·rename_i c e fx hg;split at hl
    ·rename_i hc;injection hl with hl;obtain⟨_,_,_,hs,c',hw,ho⟩:=H.live _ _ hg;cases c'<;>simp only[fT]at ho;rename_i c' e' fr;obtain⟨rfl,_,pre,hid,rfl,hp,_,_⟩:=ho;refine⟨?_,by rw[<-hl];simp;omega,λv hv=>hs v (by rw[<-hl]at hv;exact List.mem_of_mem_drop (List.mem_of_mem_take hv)),hsp⟩;intro j v hj;rw[hadd,Da hw];rw[<-hl,List.map_take,List.map_drop,List.getElem?_take]at hj;split at hj
     ·rename_i hjn;rw[List.getElem?_drop]at hj;rw[List.append_assoc,List.getElem?_append_right Nr,List.getElem?_append_left Nu];rw[<-hj];congr 1;omega
     ·cases hj
    ·cases hl
   ·cases hl
theorem qy(H:HR E B ρ h w){x:Value}(hl:kd E h t x=some v) :
 (Instr.loadAt t (ren ρ x)).run E.P w=.ok (ren ρ v) w/\sc h.next v=true/\∃a,x=.pointer (some a):=by
 unfold kd at hl;split at hl
 ·rename_i a;refine⟨?_,?_,_,rfl⟩
  ·split at hl
   ·rename_i n ha hz
    cases hc:cg E h a n with
    |none=>simp[hc]at hl
    |some l =>simp[hc]at hl;subst hl;obtain⟨h1,h2,_,_⟩:=fF H hc;simp only[Instr.loadAt,ren,Instr.sureAddr,Sem.run_bind,Sem.run_pure,Result.andThen_ok,loadVar,mR ha,if_true,run_sizeOf hz];have:=run_loadCells_list (P:=E.P) w (fm ρ a) (l.map (ren ρ)) h1;rw[List.length_map,h2]at this;rw[this];simp[nV,CJ]
   ·rename_i ha
    cases hc:cg E h a 1 with
    |none=>simp[hc]at hl
    |some l =>simp[hc]at hl;obtain⟨h1,h2,_,_⟩:=fF H hc;simp only[Instr.loadAt,ren,Instr.sureAddr,Sem.run_bind,Sem.run_pure,Result.andThen_ok,loadVar,mR ha];have:=h1 0 (ren ρ v) PC;rw[Addr.add_zero']at this;simp[this]
   ·cases hl
  ·split at hl
   ·rename_i n ha hz
    cases hc:cg E h a n with
    |none=>simp[hc]at hl
    |some l =>simp[hc]at hl;subst hl;obtain⟨_,_,h3,_⟩:=fF H hc;simp only[sc,scA,fJ];exact h3
   ·cases hc:cg E h a 1 with
    |none=>simp[hc]at hl
    |some l =>simp[hc]at hl;exact(fF H hc).2.2.1 v (List.mem_of_getElem? hl)
   ·cases hl
 ·cases hl
theorem rK(ρ:Ren)(v:Value):(ren ρ v).oneCell'=v.oneCell':=by
 cases v with
 |pointer a=>cases a<;>rfl
 |slice a l c=>cases a<;>rfl
 |map a=>cases a<;>rfl
 |chan a=>cases a<;>rfl
 |_=>rfl
theorem yF{c:List Value}(h:off+(vs.length+1)<=c.length):bJ (c.set off v) (off+1) vs=bJ c off (v::vs):=by have:=ot vs (c.set off v) off 1 OK;rw[<-this];have h2:=ot (v::vs) c off 0 (by rw[List.length_cons];omega);rw[Nat.add_zero]at h2;rw[<-h2];simp[List.zipIdx_cons]
theorem tw{o:Nat}{c:List Value}{e:TypeId}{v:Value}(h:w.heap[r]? = some (.cells c.toArray e fr)) :
 w.setCell ⟨r,o,none⟩ v=dh w r (.cells (c.set o v).toArray e fr):=by
 unfold World.setCell dh;congr 1;apply Array.ext_getElem?;intro j;rw[Array.getElem?_modify,Array.getElem?_setIfInBounds];have hr:r<w.heap.size:=by
  rcases Nat.lt_or_ge r w.heap.size with h'|h'
  ·exact h'
  ·simp[Array.getElem?_eq_none h']at h
 by_cases e:r=j
 ·subst e;rw[if_pos rfl,if_pos rfl,if_pos hr,h];simp
 ·simp[e]
theorem yH{c:Obj}(h:w.heap[r]? = some c):dh w r c=w:=by
 unfold dh;have:w.heap.setIfInBounds r c=w.heap:=by
  apply Array.ext_getElem?;intro j;rw[Array.getElem?_setIfInBounds];by_cases e:r=j
  ·subst e;have hr:r<w.heap.size:=by
    rcases Nat.lt_or_ge r w.heap.size with h'|h'
    ·exact h'
    ·simp[Array.getElem?_eq_none h']at h
   rw[if_pos rfl,if_pos hr,h]
  ·simp[e]
 rw[this]
theorem uL{c d:Obj}:dh (dh w r c) r d=dh w r d:=by unfold dh;simp
theorem gg{P:Program}{r off:Nat}{e:TypeId}{fr:Nat×Nat}:∀(vs:List Value) (w:World) (c:List Value) (k:Nat),w.heap[r]? = some (.cells c.toArray e fr) ->
 (∀i,i<c.length->¬(fr.1<=i/\i<fr.2))->off+k+vs.length<=c.length->vs.all Value.oneCell'=true ->
 (storeCells ⟨r,off,none⟩ vs k).run P w=.ok () (dh w r (.cells (bJ c (off+k) vs).toArray e fr))
 | [],w,c,k,hw,_,_,_=>by
   simp only[storeCells,Sem.run_pure];have:bJ c (off+k) []=c:=by simp[bJ]
   rw[this,yH hw]
 | v::vs,w,c,k,hw,hf,hl,ho=>by
   simp only[List.length_cons]at hl;simp only[List.all_cons,Bool.and_eq_true]at ho;have hcell:w.cell? ⟨r,off+k,none⟩=c[off+k]? := Da hw;have hlt:off+k<c.length:=Nr;have hfz:w.frozen? ⟨r,off+k,none⟩=false:=by have:=hf (off+k) hlt;simp[World.frozen?,hw];intro h1;have:=λh2=>this ⟨h1,h2⟩;omega
   simp only[storeCells,Sem.run_bind];rw[show(Addr.add ⟨r,off,none⟩ k)=⟨r,off+k,none⟩ from Addr.add_lit r off k,run_store _ _ _ _ _ ho.1,hcell,List.getElem?_eq_getElem hlt];simp only[hfz,Bool.false_eq_true,if_false,Result.andThen_ok];rw[tw hw];have hr:r<w.heap.size:=by
    rcases Nat.lt_or_ge r w.heap.size with h'|h'
    ·exact h'
    ·simp[Array.getElem?_eq_none h']at hw
   rw[gg (e:=e) (fr:=fr) vs _ (c.set (off+k) v) (k+1) (by rw[dm _ _ _ _ hr];simp) (by simpa using hf) OK ho.2];rw[uL,show off+(k+1)=off+k+1 by omega,yF Nr]
theorem A0{pre c:List Value}(h:off+vs.length<=c.length):bJ (pre++c++hid) (pre.length+off) vs=pre++bJ c off vs++hid:=by unfold bJ;rw[List.append_assoc pre c hid,List.take_length_add_append,Nat.add_assoc,List.drop_length_add_append];rw[List.take_append_of_le_length Nr,List.drop_append_of_le_length Nr];simp
theorem Bu(f:Value->Value)(c vs:List Value)(off:Nat):(bJ c off vs).map f=bJ (c.map f) off (vs.map f):=by simp[bJ,List.map_take,List.map_drop]
theorem kr(H:HR E B ρ h w)(hw:bQ h a vs=some h')(hs:∀v,v∈vs->sc h.next v=true) :
 ∃w',(storeCells (fm ρ a) (vs.map (ren ρ)) 0).run E.P w=.ok () w'/\Step E B ρ h w ρ h' w':=by
 unfold bQ at hw;split at hw
 ·cases hw
 ·rename_i hsp;split at hw
  ·rename_i c e fx hg;split at hw
   ·rename_i hc;injection hw with hw;subst hw;obtain⟨hlen,hone⟩:=hc;obtain⟨_,_,_,hsc,c',hblk,ho⟩:=H.live _ _ hg;cases c'<;>simp only[fT]at ho;rename_i c' e' fr;obtain⟨rfl,hfx,pre,hid,rfl,hp,hh,hfr⟩:=ho;have hra:fm ρ a=⟨(ρ a.block).r,pre.length+a.off,none⟩:=by simp[fm,hsp,hp];omega
    refine⟨_,by
     rw[hra];refine gg (vs.map (ren ρ)) w (pre++c.map (ren ρ)++hid) 0 hblk (λi hi=>hfr i Pn) Nu ?_;rw[List.all_eq_true]at hone|-;intro x hx;obtain⟨y,hy,rfl⟩:=List.mem_map.1 hx
     rw[rK];exact hone y hy,?_⟩
    rw[Nat.add_zero,A0 (by simpa using hlen)];refine Step.put H hg (vE hsc hs) ?_;refine⟨rfl,hfx,pre,hid,by rw[Bu],hp,hh,?_⟩;intro i hi;refine hfr i ?_;have:(bJ (List.map (ren ρ) c) a.off (List.map (ren ρ) vs)).length=c.length:=by rw[fj (by simpa using hlen)];simp
    simp only[List.size_toArray,List.length_append,this,List.length_map]at hi|-;exact hi
   ·cases hw
  ·cases hw
theorem Be(H:HR E B ρ h w){x:Value}(hw:jB E h t x v=some h')(hs:sc h.next v=true) :
 ∃w',(Instr.storeAt t (ren ρ x) (ren ρ v)).run E.P w=.ok () w'/\Step E B ρ h w ρ h' w':=by
 unfold jB at hw;split at hw
 ·rename_i a;split at hw
  ·rename_i hz;obtain⟨w',r1,r2⟩:=kr H hw (fI hs);refine⟨w',?_,r2⟩;have hl:(ren ρ v).cells.size=(aM v).length:=by rw[fB,fu];simp
   have hl2:(ren ρ v).cells.toList=(aM v).map (ren ρ):=by rw[fB,fu]
   simp only[Instr.storeAt,ren,Instr.sureAddr,Sem.run_bind,Sem.run_pure,Result.andThen_ok,storeVar,run_sizeOf hz,hl];simp[hl2,r1]
  ·cases hw
 ·cases hw
theorem Au(n:Nat)(z:List Value):(bR n z).length=n*z.length:=by
 induction n with
 |zero=>simp[bR]
 |succ n ih=>simp[bR,ih,Nat.succ_mul];omega
theorem IC(z:List Value)(_:0<z.length):∀(n i:Nat),i<n*z.length->(bR n z)[i]? = z[i%z.length]? := by
 intro n
 induction n with
 |zero=>intro i h;simp at h
 | succ n ih =>
   intro i h;simp only[bR];by_cases hi:i<z.length
   ·rw[List.getElem?_append_left hi,Nat.mod_eq_of_lt hi]
   ·rw[List.getElem?_append_right Nr,ih _ (by rw[Nat.succ_mul]at h;omega)];rw[Nat.mod_eq_sub_mod (by omega:i>=z.length)]
theorem oM(z:List Value)(hz:0<z.length)(n:Nat):((Array.range (n*z.length)).map (λi=>z.toArray[i%z.toArray.size]!))=(bR n z).toArray:=by
 apply Array.ext_getElem?;intro i;by_cases hi:i<n*z.length
 ·have hm:i%z.length<z.length:=Nat.mod_lt _ hz;have e:(bR n z).toArray[i]? = z[i%z.length]? := by rw[<-IC z hz n i hi];simp
  rw[e];simp[hi,hm]
 ·have e:(bR n z).toArray[i]? = none:=by rw[show(bR n z).toArray[i]? = (bR n z)[i]? by simp,List.getElem?_eq_none (by rw[Au];omega)]
  rw[e];simp[hi]
theorem uw(f:Value->Value)(n:Nat)(z:List Value):(bR n z).map f=bR n (z.map f):=by
 induction n with
 |zero=>rfl
 |succ n ih=>simp[bR,ih]
theorem mH{z:List Value}{x:Value}(h:x∈bR n z):x∈z:=by
 induction n with
 |zero=>simp[bR]at h
 | succ n ih =>
   simp only[bR,List.mem_append]at h;rcases h with h|h
   ·exact h
   ·exact ih h
theorem Cq{n:Int}(h:0<=n)(h2:n<=9223372036854775807):IntKind.i64.wrap n=n:=by have e:n%(18446744073709551616:Int)=n:=Int.emod_eq_of_lt h Nr;simp[IntKind.wrap,IntKind.bits,IntKind.signed,e];omega
theorem kJ{c:List Value}{e:TypeId}:fT P ρ ⟨r,0,0⟩ (.cells c e fx) (.cells (c.map (ren ρ)).toArray e) :=
 ⟨rfl,λ_=>rfl,[],[],Nw,rfl,Nw,λi _ h=>N7⟩
theorem AF{z:Value}(h:dw P t=some z):z.cells=((aM z).map (ren ρ)).toArray:=by rw[<-fu,(dM (ρ:=ρ) h).1,fB]
theorem qU{z:Value}(h:dw P t=some z):(aM z).map (ren ρ)=aM z:=by rw[<-fu,(dM (ρ:=ρ) h).1]
theorem tG{P:Program}{ρ:Ren}{n:Nat}{w:World}{ev:Operand->Value}{o:Oper}{mk:Nat->Value}{ob:bz}
 (hs:∀x,x∈o.op.operands->sc n (ev x)=true) (h:bW P ev o.op=some (mk,ob)) :
 ∃c,(execOp (λx=>ren ρ (ev x)) o).run P w=.ok (.value (ren (upd ρ n ⟨w.heap.size,0,0⟩) (mk n))) (w.alloc c)/\fT P ρ ⟨w.heap.size,0,0⟩ ob c/\scO n ob/\sc (n+1) (mk n)=true:=by
 obtain⟨dst,op,ty,pos,after,guard⟩:=o;simp only at h hs;unfold bW at h;split at h
 ·rename_i e
  cases hz:dw P e with
  |none=>simp[hz]at h
  |some z =>simp[hz]at h;obtain⟨rfl,rfl⟩:=h;refine⟨_,?_,kJ,λv hv=>fI ((dM (ρ:=ρ) hz).2 n) v hv,PV⟩;simp only[execOp,Instr.alloc,Sem.run_bind,(gv hz w).1,Result.andThen_ok,newVar,newRow,AF (ρ:=ρ) hz];simp[ren,fm]
 ·rename_i e x;simp at h;obtain⟨rfl,rfl⟩:=h;have hx:=hs x Nx;refine⟨_,?_,kJ,λv hv=>fI hx v hv,PV⟩;have:(ren ρ (ev x)).cells=((aM (ev x)).map (ren ρ)).toArray:=by rw[fB,fu]
  simp only[execOp,Instr.box,Sem.run_bind,newVar,newRow,this];simp[ren,fm]
 ·rename_i t len parts;split at h
  ·rename_i e hu;split at h
   ·rename_i size z hz hzz;split at h
    ·rename_i hc
     cases hf:dP (λi=>some (i*(size+1),size+1)) (bR len (aM z)) (parts.toList.map λp=>(p.1,ev p.2)) with
     |none=>simp[hf]at h
     | some l =>
       simp[hf]at h;obtain⟨rfl,rfl⟩:=h;have hzl:=hc.2;have rf:=mT (ρ:=ρ) _ _ _ hf;rw[uw,qU hzz]at rf;refine⟨_,?_,kJ,?_,PV⟩
       ·have e1:(parts.map λ(x:Nat×Operand)=>match x with|(i,x)=>(i,ren ρ (ev x))).toList=List.map (λp=>(p.1,ren ρ p.2)) (List.map (λp=>(p.1,ev p.2)) parts.toList):=Nw;have e2:z.cells=(aM z).toArray:=fB z;simp only[execOp,Instr.buildSlice,Sem.run_bind,run_underlying hu,Result.andThen_ok,run_sizeOf hz];rw[if_neg (by have:=hc.1;simp only[Nat.succ_eq_add_one]at *;omega)];by_cases hl0:len*(size+1)=0
        ·have:len=0:=by
          rcases Nat.eq_zero_or_pos len with h0|h0
          ·exact h0
          ·have:=Nat.mul_pos h0 (Nat.succ_pos size);simp only[Nat.succ_eq_add_one]at *;omega
         subst this;simp only[bR]at rf;simp only[Nat.zero_mul,if_true,Sem.run_pure,Result.andThen_ok,Sem.run_bind];rw[e1];simp only[Array.range_zero',Array.map_empty];rw[show(#[]:Array Value)=([]:List Value).toArray from rfl,rf];simp[newRow,ren,gJ,iy]
        ·simp only[if_neg hl0,Sem.run_bind,(gv hzz w).1,Result.andThen_ok,Sem.run_pure];rw[e1,e2];have:=oM (aM z) Nr len;rw[hzl]at this;rw[this,rf];simp[newRow,ren,gJ,iy]
       ·refine pj _ _ _ hf (λx hx=>fI ((dM (ρ:=ρ) hzz).2 n) x (mH hx)) ?_;intro p hp;simp only[List.mem_map]at hp;obtain⟨q,hq,rfl⟩:=hp;refine hs q.2 ?_;simp only[Op.operands,List.mem_toArray,List.mem_map];exact⟨q,hq,rfl⟩
    ·cases h
   ·cases h
  ·cases h
 ·rename_i t l c;split at h
  ·rename_i e k1 l' k2 c' hu hl hc;split at h
   ·rename_i i z hi hz;split at h
    ·rename_i hcond;obtain⟨h1,h2,h3,h4,h5,h6⟩:=hcond;simp at h;obtain⟨rfl,rfl⟩:=h;refine⟨.cells (bR c'.toNat ((aM z).map (ren ρ))).toArray e,?_,by rw[<-uw];exact kJ,λv hv=>fI ((dM (ρ:=ρ) hz).2 n) v (mH hv),PV⟩;have w1:IntKind.i64.wrap l'=l':=Cq h1 Nr;have w2:IntKind.i64.wrap c'=c':=Cq Nr h3;have hsz:asz P e=some i.size:=by simp[asz,hi]
     simp only[execOp,hl,hc,ren,Instr.makeSlice,Sem.run_bind,run_underlying hu,Result.andThen_ok,asInt,asIntOf,Sem.run_pure,typeInfo,run_program,hi,w1,w2];have hb:¬((c'<0||(decide ((i.bytes:Int)*c'>2^48)))||decide (l'<0)||decide (l'>c'))=true:=by simp;omega
     rw[if_neg hb];simp only[Sem.run_bind,run_askRoom,Result.andThen_ok,run_sizeOf hsz];have e2:z.cells=(aM z).toArray:=fB z;have ez:=qU (ρ:=ρ) hz;by_cases hn0:c'.toNat*i.size=0
     ·have:c'.toNat=0:=by
       rcases Nat.eq_zero_or_pos c'.toNat with h0|h0
       ·exact h0
       ·have:=Nat.mul_pos h0 h6;omega
      simp[this,newRow,bR,gJ,iy,Array.range_zero']
     ·simp only[if_neg hn0,Sem.run_bind,(gv hz w).1,Result.andThen_ok,Sem.run_pure];have:=oM (aM z) Nr c'.toNat;rw[h5]at this;rw[e2,this,ez];simp[newRow,gJ,iy]
    ·cases h
   ·cases h
  ·cases h
 ·simp at h;obtain⟨rfl,rfl⟩:=h;refine⟨.map #[] 0,?_,⟨rfl,rfl⟩,(λe he=>by simp at he),PV⟩;simp[execOp,Instr.makeMap,ren]
 ·rename_i t x;split at h
  ·rename_i s hu hx;simp at h;obtain⟨rfl,rfl⟩:=h;refine⟨.stringIter s 0,?_,⟨rfl,rfl,rfl⟩,trivial,PV⟩;simp only[execOp,hx,ren,Instr.range,Sem.run_bind,run_underlying hu,Result.andThen_ok];simp[fm]
  ·cases h
 ·cases h
theorem qv{x:Value}(h:iZ x=some n)(w:World):(Builtin.lenOf (ren ρ x)).run P w=.ok n w:=by
 unfold iZ at h;split at h
 ·rename_i a n' c;injection h with h;subst h;cases a<;>simp[ren,Builtin.lenOf]
 ·injection h with h;subst h;simp[ren,Builtin.lenOf]
 ·cases h
theorem py(H:HR E B ρ h w){x:Value}(hx:lj E h size x n=some l) :
 (Builtin.firstCells size n (ren ρ x)).run E.P w=.ok (l.map (ren ρ)).toArray w/\∀v,v∈l->sc h.next v=true:=by
 unfold lj at hx;split at hx
 ·split at hx
  ·injection hx with hx;subst hx;exact⟨by simp[ren,Builtin.firstCells],Nw⟩
  ·cases hx
 ·rename_i a _ _;split at hx
  ·rename_i h0;injection hx with hx;subst hx;refine⟨?_,Nw⟩;simp only[ren,Builtin.firstCells,h0];simp[loadCells,loadCellsFrom]
  ·obtain⟨h1,h2,h3,hsp⟩:=fF H hx;refine⟨?_,h3⟩;simp only[ren,Builtin.firstCells,fK hsp];have:=run_loadCells_list (P:=E.P) w (fm ρ a) (l.map (ren ρ)) h1;rw[List.length_map,h2]at this;exact this
 ·rename_i s;injection hx with hx;subst hx;constructor
  ·simp only[ren,Builtin.firstCells,Sem.run_pure];congr 1;apply Array.ext';have e:(s.extract 0 n).data.toList=s.data.toList.take n:=by simp[ByteArray.data_extract]
   simp only[Array.toList_map,e,List.map_map];rfl
  ·intro v hv;obtain⟨b,_,rfl⟩:=List.mem_map.1 hv;rfl
 ·cases hx
theorem kz{ρ:Ren}{r ex:Nat}{c:List Value}{e:TypeId}(hh:hid.length=ex*P.cellsOf e) :
 fT P ρ ⟨r,ex,0⟩ (.cells c e false) (.cells (c.map (ren ρ)++hid).toArray e):=by
 refine⟨rfl,?_,[],hid,Nw,rfl,hh,?_⟩
 ·intro h;cases h
 ·intro i _ h;simp at h
theorem jl(z:List Value)(n:Nat):∃l:List Value,Builtin.zeroCells z.toArray n=l.toArray/\l.length=n*z.length :=
 ⟨(Builtin.zeroCells z.toArray n).toList,Nw,by simp[Builtin.zeroCells]⟩
theorem ik{w:World}{ty e:TypeId}{i:TypeInfo}{z:Value}(hu:P.underlying t=some (.slice e))(hu1:P.underlying t1=some d1)(hd:kT d1=false)
 (hi:P.info? e=some i) (hz:i.zero=some z) {b:Option Addr} {sLen c n:Nat} {y:Value} (hn:(Builtin.lenOf y).run P w=.ok n w) {olds news:List Value}
 (ho:(Builtin.firstCells i.size sLen (.slice b sLen c)).run P w.drew=.ok olds.toArray w.drew) (hw:(Builtin.firstCells i.size n y).run P w.drew=.ok news.toArray w.drew)
 (hc:¬(sLen+n<=c)) (hb:(sLen+n)*i.bytes<=140737488355328) (h63:sLen+n<=9223372036854775807) :
 (Builtin.append_ #[t,t1] ty #[.slice b sLen c,y]).run P w =
  .ok (.slice (some ⟨w.heap.size,0,none⟩) (sLen+n) (grownCap w (sLen+n) c e))
   (w.drew.alloc (.cells (olds.toArray++news.toArray++Builtin.zeroCells z.cells (grownCap w (sLen+n) c e-(sLen+n))) e)):=by
 have hfit:=growslice_fits (need:=sLen+n) (old:=c) (bytes:=i.bytes) Nr hb;have h63':¬(9223372036854775807<((sLen:Int)+(n:Int))):=Nr;have h48':¬(281474976710656<Builtin.nextslicecap (sLen+n) c*i.bytes):=Nr
 cases d1<;>first
  |(cases hd;done)
  | (simp [Builtin.append_,run_underlying hu,run_underlying hu1,sizeOf,typeInfo,zeroValue,hi,hz,hn,hc,h63',h48',Question.forced,ho,hw,newRow,grownCap]
     congr 2;apply Array.ext'
     simp[List.append_assoc])
theorem grownCap_le(w:World)(need old:Nat)(e:TypeId):need<=grownCap w need old e:=by simp only[grownCap,Question.cut];omega
theorem run_append_room{w w':World}{ty e:TypeId}{size:Nat}(hu:P.underlying t=some (.slice e))(hu1:P.underlying t1=some d1)(hd:kT d1=false)
 (hz:asz P e=some size) {b:Option Addr} {sLen c n:Nat} {y:Value} (hn:(Builtin.lenOf y).run P w=.ok n w) {news:List Value}
 (hw:(Builtin.firstCells size n y).run P w=.ok news.toArray w) (hc:sLen+n<=c)
 (hst:(match b with|some a=>storeCells (a.add (sLen*size)) news 0|none=>pure ():Sem Unit).run P w=.ok () w') :
 (Builtin.append_ #[t,t1] ty #[.slice b sLen c,y]).run P w=.ok (.slice b (sLen+n) c) w':=by
 cases d1<;>first
  |(cases hd;done)
  | (cases b with
     |none =>simp at hst;subst hst;simp[Builtin.append_,run_underlying hu,run_underlying hu1,run_sizeOf hz,hn,hc,hw]
     | some a =>
       simp only at hst
       simp[Builtin.append_,run_underlying hu,run_underlying hu1,run_sizeOf hz,hn,hc,hw,hst])
def App(E:Env)(B:Nat)(ρ:Ren)(h:ag)(w:World)(t t1 ty:TypeId)(s x v:Value)(h':ag):Prop :=
 ∃ρ' w',(Builtin.append_ #[t,t1] ty #[ren ρ s,ren ρ x]).run E.P w=.ok (ren ρ' v) w'/\Step E B ρ h w ρ' h' w'/\sc h'.next v=true
theorem rN(H:HR E B ρ h w){c:List Value}{e:TypeId}(hg:h.get a.block=some (.cells c e fx))(hsp:a.spot=none)(hn:a.off+n<=c.length) :
 cg E h a n=some ((c.drop a.off).take n):=by
 unfold cg;have:=(H.live _ _ hg).1;rw[hsp];simp only[hg];rw[if_neg Nr,if_pos hn]
theorem DW{h':ag}(H:HR E B ρ h w){ty e:TypeId}{i:TypeInfo}(hu:E.P.underlying t=some (.slice e))(hu1:E.P.underlying t1=some d1)(hd:kT d1=false)
 (hi:E.P.info? e=some i) {base:Option Addr} {sLen sCap n:Nat} {x v:Value} {news:List Value} (hn:iZ x=some n) (hsrc:lj E h i.size x n=some news) (hlt:¬(sLen+n<=sCap))
 (hx:ib E h e i base sLen sCap n news=some (v,h')):App E B ρ h w t t1 ty (.slice base sLen sCap) x v h':=by
 have hsz:asz E.P e=some i.size:=by simp[asz,hi]
 have hcell:E.P.cellsOf e=i.size:=by simp[Program.cellsOf,hi]
 have hlen:=qv (P:=E.P) (ρ:=ρ) hn w;obtain⟨hf,hnews⟩:=py H hsrc;obtain⟨hf2,_⟩:=py H.drew hsrc;unfold ib at hx;split at hx
 ·rename_i hc;obtain⟨hb,hnl,hpos,h63,hone⟩:=hc;split at hx
  ·cases hx
  ·rename_i z hz;split at hx
   ·rename_i hzl;have hz0:i.zero=some z:=by have:=(gv hz w).2.2;rw[hi]at this;simpa using this
    have hzc:z.cells=(aM z).toArray:=fB z;split at hx
    ·split at hx
     ·rename_i h0;obtain⟨rfl,rfl⟩:=h0;simp only[Option.some.injEq,Prod.mk.injEq]at hx;obtain⟨rfl,rfl⟩:=hx;have hg:=ik (w:=w) (ty:=ty) hu hu1 hd hi hz0 (b:=none) (sLen:=0) (c:=0) hlen (olds:=[]) (by simp[Builtin.firstCells]) hf2 Nr hb h63;obtain⟨hid,e1,e2⟩:=jl (aM z) (grownCap w (0+n) 0 e-(0+n));refine⟨_,_,?_,(Step.drew H).trans (Step.alloc H.drew (ex:=grownCap w (0+n) 0 e-(0+n)) (sh:=0) (c:=.cells (news.map (ren ρ)++hid).toArray e) hnews (kz PJ)),by simp[sc,fE]⟩;have hle:=grownCap_le w (0+n) 0 e;simp only[ren];rw[hg,hzc,e1];simp only[gJ,fE,c9,fM];congr 2
      ·omega
      ·simp at hle|-;omega
      ·simp
     ·cases hx
    ·rename_i a;split at hx
     ·rename_i hex0;obtain⟨hsp,hs0⟩:=hex0;split at hx
      ·rename_i c e' fx hg;split at hx
       ·rename_i hcond;obtain⟨rfl,hol2,rfl⟩:=hcond;injection hx with hx;injection hx with hx1 hx2;subst hx1;subst hx2;obtain⟨hb1,hb2,hb3,hsc,cc,hblk,hobj⟩:=H.live _ _ hg;have hcx:iy ρ a sCap sCap=sCap:=by unfold iy;rw[if_pos ⟨hsp,by omega⟩]
        have hac:=rN H (a:=⟨a.block,a.off,none⟩) hg rfl hol2;have hra:gJ ρ a=fm ρ ⟨a.block,a.off,none⟩:=by unfold gJ fm;rw[hsp];simp
        have key:∀W,HR E B ρ h W->(Builtin.firstCells i.size sCap (ren ρ (.slice (some a) sCap sCap))).run E.P W=.ok (((c.drop a.off).take (sCap*i.size)).map (ren ρ)).toArray W:=by intro W HW;obtain⟨h1,h2,_,_⟩:=fF HW hac;have:=run_loadCells_list (P:=E.P) W (fm ρ ⟨a.block,a.off,none⟩) _ h1;rw[List.length_map,h2]at this;simp only[ren,Builtin.firstCells,hra];exact this
        have hallsc:∀v,v∈(c.drop a.off).take (sCap*i.size)++news->sc h.next v=true:=by
         intro v hv;rcases List.mem_append.1 hv with hv|hv
         ·exact hsc v (List.mem_of_mem_drop (List.mem_of_mem_take hv))
         ·exact hnews v hv
        have hg2:=ik (w:=w) (ty:=ty) hu hu1 hd hi hz0 (b:=some (gJ ρ a)) (sLen:=sCap) (c:=sCap) hlen (by have:=key w.drew H.drew;simpa only[ren,hcx] using this) hf2 hlt hb h63;obtain⟨hid2,e1,e2⟩:=jl (aM z) (grownCap w (sCap+n) sCap e'-(sCap+n));have hle:=grownCap_le w (sCap+n) sCap e'
        have hval:∀ρ',ρ' h.next=⟨w.heap.size,grownCap w (sCap+n) sCap e'-(sCap+n),0⟩ ->
         (Builtin.append_ #[t,t1] ty #[ren ρ (.slice (some a) sCap sCap),ren ρ x]).run E.P w =
          .ok (ren ρ' (.slice (some (fE h)) (sCap+n) (sCap+n))) (w.drew.alloc (.cells (((c.drop a.off).take (sCap*i.size)++news).map (ren ρ)++hid2).toArray e')):=by
         intro ρ' hρ;simp only[ren,gJ,fE,hρ,hcx,fM];have:=hg2;simp only[gJ]at this;rw[this,hzc,e1];congr 2
         ·omega
         ·simp
        exact⟨_,_,hval _ (c9 _ _ _),(Step.drew H).trans (Step.alloc H.drew hallsc (kz PJ)),by simp[sc,fE]⟩
       ·cases hx
      ·cases hx
     split at hx
     ·rename_i c e' fx hg;split at hx
      ·rename_i hcond;obtain⟨rfl,hend,htail,hsl⟩:=hcond;obtain⟨hb1,hb2,hb3,hsc,cc,hblk,hobj⟩:=H.live _ _ hg;cases cc<;>simp only[fT]at hobj;rename_i cc ee fr;obtain⟨rfl,hfx,pre,hid,rfl,hpre,hhid,hfr⟩:=hobj;rw[hcell]at hhid;have hcx:iy ρ a sLen sCap=sCap+(ρ a.block).ex:=by
        unfold iy;split
        ·rename_i hh;exact absurd (htail (by rw[hh.1];rfl)).1 hh.2
        ·rfl
       have holen:((c.drop a.off).take (sLen*i.size)).length=sLen*i.size/\a.off+sLen*i.size<=c.length\/sLen*i.size=0:=by
        by_cases hs0:a.spot=none
        ·left;simp only[lF,hs0]at hend;have:=Nat.mul_le_mul_right i.size hsl;constructor
         ·simp;omega
         ·omega
        ·right;have:a.spot.isSome=true:=by cases h1:a.spot<;>simp_all
         rw[(htail this).1];simp
       have holds:(Builtin.firstCells i.size sLen (ren ρ (.slice (some a) sLen sCap))).run E.P w=.ok (((c.drop a.off).take (sLen*i.size)).map (ren ρ)).toArray w /\
        (Builtin.firstCells i.size sLen (ren ρ (.slice (some a) sLen sCap))).run E.P w.drew=.ok (((c.drop a.off).take (sLen*i.size)).map (ren ρ)).toArray w.drew:=by
        rcases holen with⟨hol,hol2⟩|h0
        ·by_cases hs0:a.spot=none
         ·have hac:=rN H hg hs0 hol2;have key:∀W,HR E B ρ h W->(Builtin.firstCells i.size sLen (ren ρ (.slice (some a) sLen sCap))).run E.P W=.ok (((c.drop a.off).take (sLen*i.size)).map (ren ρ)).toArray W:=by intro W HW;obtain⟨h1,h2,_,_⟩:=fF HW hac;have:=run_loadCells_list (P:=E.P) W (fm ρ a) _ h1;rw[List.length_map,h2]at this;simp only[ren,Builtin.firstCells,fK hs0];exact this
          exact⟨key w H,key w.drew H.drew⟩
         ·have:a.spot.isSome=true:=by cases h1:a.spot<;>simp_all
          have h0:=(htail this).1;subst h0;simp[ren,Builtin.firstCells,loadCells,loadCellsFrom]
        ·simp[ren,Builtin.firstCells,h0,loadCells,loadCellsFrom]
       have hosc:∀v,v∈(c.drop a.off).take (sLen*i.size)->sc h.next v=true:=λv hv=>hsc v (List.mem_of_mem_drop (List.mem_of_mem_take hv));have hallsc:∀v,v∈(c.drop a.off).take (sLen*i.size)++news->sc h.next v=true:=by
        intro v hv;rcases List.mem_append.1 hv with hv|hv
        ·exact hosc v hv
        ·exact hnews v hv
       by_cases hroom:sLen+n<=sCap+(ρ a.block).ex
       ·-- in place
        have hex:0<(ρ a.block).ex:=Nr;have hfxf:fx=false:=by
         cases fx
         ·rfl
         ·have:=hfx rfl;omega
        subst hfxf;simp only[Bool.false_eq_true,if_false,Option.some.injEq,Prod.mk.injEq]at hx;obtain⟨rfl,rfl⟩:=hx;have hra:gJ ρ a=⟨(ρ a.block).r,pre.length+lF a,none⟩:=by
         unfold gJ lF
         cases hsp:a.spot with
         |none=>simp[hpre];omega
         | some d =>
           have hev:=(htail (by rw[hsp];rfl)).2.2;have hod:¬(d%2=1):=by unfold Il at hev;rw[hsp]at hev;simpa using hev
           simp[hpre,Nat.ne_of_gt hex,hod];omega
        have hmul:=Nat.mul_le_mul_right i.size hroom;rw[Nat.add_mul,Nat.add_mul]at hmul;have hrowlen:(pre++c.map (ren ρ)++hid).length=pre.length+lF a+sCap*i.size+(ρ a.block).ex*i.size:=Nu
        have hstore:=gg (P:=E.P) (r:=(ρ a.block).r) (off:=pre.length+lF a+sLen*i.size) (e:=ee) (fr:=fr) (news.map (ren ρ)) w (pre++c.map (ren ρ)++hid) 0 hblk
         (λj hj=>hfr j (by simpa using hj)) (by rw[hrowlen];simp;omega) (by
          rw[List.all_eq_true]at hone|-;intro x hx;obtain⟨y,hy,rfl⟩:=List.mem_map.1 hx
          rw[rK];exact hone y hy)
        have happ:=run_append_room (ty:=ty) hu hu1 hd hsz (b:=some (gJ ρ a)) (sLen:=sLen) (c:=sCap+(ρ a.block).ex) hlen hf hroom (w':=_) (by
         simp only;rw[hra,Addr.add_lit]
         exact hstore)
        have hobj':fT E.P ρ ⟨(ρ a.block).r,sCap+(ρ a.block).ex-(sLen+n),pre.length+lF a⟩ (.cells ((c.drop a.off).take (sLen*i.size)++news) ee false)
         (.cells (bJ (pre++c.map (ren ρ)++hid) (pre.length+lF a+sLen*i.size+0) (news.map (ren ρ))).toArray ee fr):=by
         refine⟨rfl,λh=>(by cases h),(pre++c.map (ren ρ)++hid).take (pre.length+lF a),(pre++c.map (ren ρ)++hid).drop (pre.length+lF a+(sLen+n)*i.size),?_,?_,?_,?_⟩
         ·congr 1;unfold bJ;simp only[Nat.add_zero,List.length_map,hnl,List.map_append];have e1:(pre++c.map (ren ρ)++hid).take (pre.length+lF a+sLen*i.size)=(pre++c.map (ren ρ)++hid).take (pre.length+lF a)++((c.drop a.off).take (sLen*i.size)).map (ren ρ):=by
           rw[List.take_add];congr 1;rw[List.append_assoc,List.drop_length_add_append];rcases holen with⟨hol,hol2⟩|h0
           ·by_cases hs0:a.spot=none
            ·have hae:lF a=a.off:=by simp[lF,hs0]
             rw[hae,List.drop_append_of_le_length Nu,List.take_append_of_le_length Nu];simp[List.map_take,List.map_drop]
            ·have:a.spot.isSome=true:=by cases h1:a.spot<;>simp_all
             simp[(htail this).1]
           ·simp[h0]
          rw[e1];simp only[List.append_assoc];congr 3;rw[Nat.add_mul,<-Nat.add_assoc]
         ·rw[List.length_take,hrowlen];simp only;omega
         ·rw[List.length_drop,hrowlen,hcell];simp only;rw[Nat.sub_mul,Nat.add_mul,Nat.add_mul];omega
         ·intro j hj;refine hfr j ?_;have:=fj (c:=pre++c.map (ren ρ)++hid) (vs:=news.map (ren ρ)) (off:=pre.length+lF a+sLen*i.size+0) (by rw[hrowlen];simp;omega);simp only[List.size_toArray]at hj|-;rw[this]at hj;exact hj
        refine⟨_,_,?_,Step.move H hg hallsc hobj',by simp[sc,fE]⟩;simp only[ren,hcx];rw[happ,hra];simp only[gJ,fE,c9,fM];congr 2
        ·simp
        ·omega
       ·-- a new array
        have hg2:=ik (w:=w) (ty:=ty) hu hu1 hd hi hz0 (b:=some (gJ ρ a)) (sLen:=sLen) (c:=sCap+(ρ a.block).ex) hlen (by have:=holds.2;simpa only[ren,hcx] using this) hf2 hroom hb h63;obtain⟨hid2,e1,e2⟩:=jl (aM z) (grownCap w (sLen+n) (sCap+(ρ a.block).ex) ee-(sLen+n));have hle:=grownCap_le w (sLen+n) (sCap+(ρ a.block).ex) ee
        have hval:∀ρ',ρ' h.next=⟨w.heap.size,grownCap w (sLen+n) (sCap+(ρ a.block).ex) ee-(sLen+n),0⟩ ->
         (Builtin.append_ #[t,t1] ty #[ren ρ (.slice (some a) sLen sCap),ren ρ x]).run E.P w =
          .ok (ren ρ' (.slice (some (fE h)) (sLen+n) (sLen+n))) (w.drew.alloc (.cells (((c.drop a.off).take (sLen*i.size)++news).map (ren ρ)++hid2).toArray ee)):=by
         intro ρ' hρ;simp only[ren,gJ,fE,hρ,hcx,fM];have:=hg2;simp only[gJ]at this;rw[this,hzc,e1];congr 2
         ·omega
         ·simp
        cases fx with
        |true =>simp only[if_true,Option.some.injEq,Prod.mk.injEq]at hx;obtain⟨rfl,rfl⟩:=hx;refine⟨_,_,hval _ (c9 _ _ _),(Step.drew H).trans (Step.alloc H.drew hallsc (kz PJ)),by simp[sc,fE]⟩
        |false =>simp only[Bool.false_eq_true,if_false,Option.some.injEq,Prod.mk.injEq]at hx;obtain⟨rfl,rfl⟩:=hx;refine⟨_,_,hval _ (c9 _ _ _),(Step.drew H).trans ((HR.kill H.drew a.block).trans (Step.alloc (HR.kill H.drew a.block).hr hallsc (kz PJ))),by simp[sc,fE]⟩
      ·cases hx
     ·cases hx
   ·cases hx
 ·cases hx
theorem yW(H:HR E B ρ h w){ty:TypeId}{s x:Value}(hx:cI E h t t1 s x=some (v,h'))
 (hs:sc h.next s=true):App E B ρ h w t t1 ty s x v h':=by
 unfold cI at hx;split at hx
 ·rename_i e d1 base sLen sCap n hu hu1 hn;split at hx
  ·cases hx
  ·rename_i hd;simp only[Bool.not_eq_true]at hd;split at hx
   ·cases hx
   ·rename_i i hi;have hsz:asz E.P e=some i.size:=by simp[asz,hi]
    have hlen:=qv (P:=E.P) (ρ:=ρ) hn w;unfold eA at hx;split at hx
    ·rename_i h0;obtain⟨rfl,hle⟩:=h0;simp only[Option.some.injEq,Prod.mk.injEq]at hx;obtain⟨rfl,rfl⟩:=hx;refine⟨ρ,w,?_,Step.refl H,hs⟩;have hf:(Builtin.firstCells i.size 0 (ren ρ x)).run E.P w=.ok ([]:List Value).toArray w:=by
      unfold iZ at hn;split at hn
      ·rename_i a _ _;cases a<;>simp[ren,Builtin.firstCells,loadCells,loadCellsFrom]
      ·simp[ren,Builtin.firstCells]
      ·cases hn
     cases base with
     |none =>have:=run_append_room (ty:=ty) (w':=w) hu hu1 hd hsz (b:=none) (sLen:=sLen) (c:=sCap) hlen hf Nr rfl;simpa only[ren,Nat.add_zero] using this
     |some a =>have:=run_append_room (ty:=ty) (w':=w) hu hu1 hd hsz (b:=some (gJ ρ a)) (sLen:=sLen) (c:=iy ρ a sLen sCap) hlen hf (by have:=xj ρ a sLen sCap;omega) rfl;simpa only[ren,Nat.add_zero] using this
    ·split at hx
     ·cases hx
     ·rename_i news hsrc;obtain⟨hf,hnews⟩:=py H hsrc;split at hx
      ·rename_i hle;split at hx
       ·cases hx
       ·rename_i a;split at hx
        ·cases hx
        ·rename_i hsp
         cases hw:bQ h (fQ a (sLen*i.size)) news with
         |none=>simp[hw]at hx
         | some h2 =>
           simp[hw]at hx;obtain⟨rfl,rfl⟩:=hx;obtain⟨w',r1,r2⟩:=kr H hw hnews;refine⟨ρ,w',?_,r2,?_⟩
           ·have ha:(fm ρ a).add (sLen*i.size)=fm ρ (fQ a (sLen*i.size)):=j7 hsp _;have:=run_append_room (ty:=ty) (w':=w') hu hu1 hd hsz (b:=some (fm ρ a)) (sLen:=sLen) (c:=sCap+(ρ a.block).ex) hlen hf Nr (by simp only;rw[ha];exact r1);simpa only[ren,fK hsp,fM _ _ _ _ hsp] using this
           ·have:=r2.le;simp only[sc,decide_eq_true_eq]at hs|-;omega
      ·rename_i hlt;exact DW H hu hu1 hd hi hn hsrc hlt hx
 ·cases hx
theorem DX(H:HR E B ρ h w){ts:Array TypeId}{ty:TypeId}(hts:ts[0]? = some t){d x:Value}(hx:wy E h t d x=some (v,h')) :
 ∃w',(Builtin.copy_ ts ty #[ren ρ d,ren ρ x]).run E.P w=.ok v w'/\Step E B ρ h w ρ h' w'/\∃k n,v=.int k n:=by
 unfold wy at hx;split at hx
 ·rename_i e base dLen dCap sn hu hn;split at hx
  ·cases hx
  ·rename_i size hz;have hlen:=qv (P:=E.P) (ρ:=ρ) hn w;obtain⟨b',c',hren⟩:∃b' c',ren ρ (.slice base dLen dCap)=.slice b' dLen c':=by cases base<;>exact⟨_,_,rfl⟩
   simp only at hx;split at hx
   ·rename_i h0;simp only[Option.some.injEq,Prod.mk.injEq]at hx;obtain⟨rfl,rfl⟩:=hx;refine⟨w,?_,Step.refl H,_,_,rfl⟩;have hf:(Builtin.firstCells size 0 (ren ρ x)).run E.P w=.ok #[] w:=by
     unfold iZ at hn;split at hn
     ·rename_i a _ _;cases a<;>simp[ren,Builtin.firstCells,loadCells,loadCellsFrom]
     ·simp[ren,Builtin.firstCells]
     ·cases hn
    rw[hren];cases b'<;>simp[Builtin.copy_,hts,run_underlying hu,run_sizeOf hz,hlen,h0,hf,storeCells,goInt]
   ·split at hx
    ·rename_i l a hsrc;split at hx
     ·rename_i hl
      cases hw:bQ h a l with
      |none=>simp[hw]at hx
      | some h2 =>
        simp[hw]at hx;obtain⟨rfl,rfl⟩:=hx;obtain⟨hf,hnews⟩:=py H hsrc;obtain⟨w',r1,r2⟩:=kr H hw hnews;have hsp:a.spot=none:=by
         unfold bQ at hw;split at hw
         ·cases hw
         ·assumption
        refine⟨w',?_,r2,_,_,rfl⟩;simp only[ren,fK hsp];simp[Builtin.copy_,hts,run_underlying hu,run_sizeOf hz,hlen,hf,r1,goInt]
     ·cases hx
    ·cases hx
 ·cases hx
theorem Bh(H:HR E B ρ h w){ty:TypeId}{x:Value}(hx:rh E h t x=some h') :
 ∃w',(Builtin.clear_ #[t] ty #[ren ρ x]).run E.P w=.ok (.tuple #[]) w'/\Step E B ρ h w ρ h' w':=by
 unfold rh at hx;split at hx
 ·rename_i hu;injection hx with hx;subst hx;exact⟨w,by simp[Builtin.clear_,run_underlying hu,ren],Step.refl H⟩
 ·rename_i hu;injection hx with hx;subst hx;exact⟨w,by simp[Builtin.clear_,run_underlying hu,ren],Step.refl H⟩
 ·rename_i e a n c hu;split at hx
  ·rename_i z hz;obtain⟨w',r1,r2⟩:=kr H hx (λv hv=>fI ((dM (ρ:=ρ) hz).2 h.next) v (mH hv));have hsp:a.spot=none:=by
    unfold bQ at hx;split at hx
    ·cases hx
    ·assumption
   refine⟨w',?_,r2⟩;have hzc:(Builtin.zeroCells z.cells (n+1)).toList=(bR (n+1) (aM z)).map (ren ρ):=by
    rw[uw,qU hz,fB];by_cases h0:(aM z).length=0
    ·have:aM z=[]:=List.length_eq_zero_iff.1 h0;have e2:∀m,bR m ([]:List Value)=[]:=by
      intro m;induction m with
      |zero=>rfl
      |succ m ih=>simp[bR,ih]
     rw[this,e2];simp[Builtin.zeroCells]
    ·have:=oM (aM z) Nr (n+1);simp only[Builtin.zeroCells];rw[show(aM z).toArray.size=(aM z).length by simp]at *;rw[this]
   simp only[ren,fK hsp,fM _ _ _ _ hsp];have e1:(Builtin.clear_ #[t] ty #[.slice (some (fm ρ a)) (n+1) (c+(ρ a.block).ex)]).run E.P w=((do storeCells (fm ρ a) (Builtin.zeroCells z.cells (n+1)).toList:Sem Unit).run E.P w).andThen λ_ w'=>.ok (.tuple #[]) w':=by simp[Builtin.clear_,run_underlying hu,(gv hz w).1]
   rw[e1,hzc,r1];rfl
  ·cases hx
 ·cases hx
theorem DU(H:HR E B ρ h w){it:Value}{isS:Bool}{ty:TypeId}(hx:Av h it isS=some (v,h')) :
 ∃w',(Instr.next (ren ρ it) isS ty).run E.P w=.ok (ren ρ v) w'/\Step E B ρ h w ρ h' w'/\sc h'.next v=true:=by
 unfold Av at hx;split at hx
 ·rename_i b;split at hx
  ·rename_i s pos hg;obtain⟨_,_,_,_,c,hc,ho⟩:=H.live _ _ hg;cases c<;>simp only[fT]at ho;rename_i s' p';obtain⟨rfl,rfl,hsh⟩:=ho;have hr:ren ρ (.pointer (some ⟨b,0,none⟩))=.pointer (some ⟨(ρ b).r,0,none⟩):=by simp[ren,fm,hsh]
   have hget:(getObj (ρ b).r).run E.P w=.ok (.stringIter s' p') w:=by simp[getObj,Sem.run,hc]
   rw[hr];split at hx
   ·rename_i hp;simp only[Option.some.injEq,Prod.mk.injEq]at hx;obtain⟨rfl,rfl⟩:=hx;have hset:∀o,(setObj (ρ b).r o).run E.P w=.ok () (dh w (ρ b).r o):=by intro o;simp[setObj,Sem.run,hc,dh]
    refine⟨dh w (ρ b).r (.stringIter s' (p'+(Utf8.decode s' p').2)),?_,Step.put H hg trivial ⟨rfl,rfl,hsh⟩,by simp[sc,scA,scL]⟩;simp only[Instr.next,Sem.run_bind,hget,Result.andThen_ok,if_pos hp,hset,Sem.run_pure];simp[ren,dz,goInt]
   ·rename_i hp;simp only[Option.some.injEq,Prod.mk.injEq]at hx;obtain⟨rfl,rfl⟩:=hx;refine⟨w,?_,Step.refl H,by simp[sc,scA,scL]⟩;simp only[Instr.next,Sem.run_bind,hget,Result.andThen_ok,if_neg hp,Sem.run_pure];simp[ren,dz]
  ·cases hx
 ·cases hx
theorem Ax{es:List MapEntry}(h:fg P kt k es=true):ren ρ k=k:=by
 unfold fg at h;split at h
 ·rfl
 ·rfl
 ·cases h
theorem JM{es:List MapEntry}(h:fg P kt k es=true):sc n k=true:=by
 unfold fg at h;split at h
 ·rfl
 ·rfl
 ·cases h
theorem run_checkKey{es:List MapEntry}{b:Bool}(h:fg P kt k es=true):(Instr.checkKey b 10000 kt k).run P w=.ok () w:=by
 unfold fg at h;split at h
 ·rename_i hu;show(Instr.checkKey b (9999+1) kt _).run P w=_;rw[Instr.checkKey];simp only[Sem.run_bind,run_underlying hu,Result.andThen_ok];rfl
 ·rename_i hu;show(Instr.checkKey b (9999+1) kt _).run P w=_;rw[Instr.checkKey];simp only[Sem.run_bind,run_underlying hu,Result.andThen_ok];rfl
 ·cases h
theorem rT{ρ:Ren}{k0 j:IntKind}{a:Int}:∀(es:List MapEntry) (i:Nat),(es.all λe=>match e.key with| .int j' _=>decide (j'=j)|_=>false)=true ->
 Instr.findNow (.int k0) (.int j a) (es.map (dO ρ)) i=some ((cE (.int j a) es).bind λn=>(es[n]?).map λe=>(i+n,ren ρ e.val))
 |[],i,_=>rfl
 | e::es,i,h=>by
   simp only[List.all_cons,Bool.and_eq_true]at h;obtain⟨h1,h2⟩:=h;have ih:=rT (ρ:=ρ) (k0:=k0) (a:=a) es (i+1) h2;split at h1
   ·rename_i j' b hk;simp only[decide_eq_true_eq]at h1;subst h1;simp only[List.map_cons,Instr.findNow,dO,hk,ren,Instr.sameNow,if_true,cE];by_cases e1:a=b
    ·subst e1;simp
    ·simp only[beq_eq_false_iff_ne.2 e1,if_neg e1];rw[ih]
     cases cE (.int j' a) es with
     |none=>rfl
     |some n=>simp[Nat.add_assoc,Nat.add_comm 1]
   ·cases h1
theorem bytes_beq(a b:ByteArray):(a==b)=(a.data.toList==b.data.toList):=by
 cases a with|mk a=>cases b with|mk b =>
 show(a==b)=_;rw[Bool.eq_iff_iff];simp only[beq_iff_eq,<-Array.toList_inj]
theorem rS{ρ:Ren}{a:ByteArray}:∀(es:List MapEntry) (i:Nat),(es.all λe=>match e.key with| .string _=>true|_=>false)=true ->
 Instr.findNow .string (.string a) (es.map (dO ρ)) i=some ((cE (.string a) es).bind λn=>(es[n]?).map λe=>(i+n,ren ρ e.val))
 |[],i,_=>rfl
 | e::es,i,h=>by
   simp only[List.all_cons,Bool.and_eq_true]at h;obtain⟨h1,h2⟩:=h;have ih:=rS (ρ:=ρ) (a:=a) es (i+1) h2;split at h1
   ·rename_i b hk;simp only[List.map_cons,Instr.findNow,dO,hk,ren,Instr.sameNow,cE,bytes_beq]
    cases hb:(a.data.toList==b.data.toList) with
    |true=>simp
    | false =>
      simp only[Bool.false_eq_true,if_false];rw[ih]
      cases cE (.string a) es with
      |none=>rfl
      |some n=>simp[Nat.add_assoc,Nat.add_comm 1]
   ·cases h1
theorem run_findKey{ρ:Ren}{w:World}{es:List MapEntry}(h:fg P kt k es=true) :
 (Instr.findKey kt k (es.map (dO ρ))).run P w=.ok ((cE k es).bind λn=>(es[n]?).map λe=>(n,ren ρ e.val)) w:=by
 unfold fg at h;split at h
 ·rename_i _ hu;simp only[Instr.findKey,Sem.run_bind,run_underlying hu,Result.andThen_ok,rT es 0 h,Nat.zero_add,Sem.run_pure]
 ·rename_i hu;simp only[Instr.findKey,Sem.run_bind,run_underlying hu,Result.andThen_ok,rS es 0 h,Nat.zero_add,Sem.run_pure]
 ·cases h
theorem sm{k:Value}:∀(es:List MapEntry) (n:Nat),cE k es=some n->n<es.length
 |[],n,h=>by simp[cE]at h
 | e::es,n,h=>by
   have ih:=sm (k:=k) es;unfold cE at h;split at h
   ·split at h
    ·injection h with h;subst h;simp
    ·rw[Option.map_eq_some_iff]at h;obtain⟨m,hm,rfl⟩:=h;have:=ih m hm;simp;omega
   ·split at h
    ·injection h with h;subst h;simp
    ·rw[Option.map_eq_some_iff]at h;obtain⟨m,hm,rfl⟩:=h;have:=ih m hm;simp;omega
   ·cases h
theorem vK(H:HR E B ρ h w){es:List MapEntry}(hm:nI h m=some es) :
 (∀e,e∈es->sc h.next e.key=true/\sc h.next e.val=true) /\
 ((m=.map none/\es=[])\/∃r c,m=.map (some r)/\h.get r=some (.map es c)/\w.heap[(ρ r).r]? = some (.map (es.map (dO ρ)).toArray c)):=by
 unfold nI at hm;split at hm
 ·injection hm with hm;subst hm;exact⟨λe he=>by simp at he,.inl ⟨rfl,rfl⟩⟩
 ·rename_i r;split at hm
  ·rename_i es' c hg;injection hm with hm;subst hm;obtain⟨_,_,_,hs,o,hw,ho⟩:=H.live _ _ hg;cases o<;>simp only[fT]at ho;obtain⟨rfl,rfl⟩:=ho;exact⟨hs,.inr ⟨r,_,rfl,hg,hw⟩⟩
  ·cases hm
 ·cases hm
theorem jn{es:Array MapEntry}{c:Nat}(h:w.heap[r]? = some (.map es c)):(getObj r).run P w=.ok (.map es c) w:=by simp[getObj,Sem.run,h]
theorem yU(H:HR E B ρ h w){ok:Bool}(hx:fe E h t m k ok=some v) :
 (Instr.lookup t (ren ρ m) (ren ρ k) ok).run E.P w=.ok (ren ρ v) w/\sc h.next v=true:=by
 unfold fe at hx;split at hx
 ·rename_i kt et es hu hm;split at hx
  ·rename_i hk;obtain⟨hs,hcase⟩:=vK H hm;have hkr:=Ax (ρ:=ρ) hk;have tail:∀x,(Instr.lookup t (ren ρ m) k ok).run E.P w=x->(Instr.lookup t (ren ρ m) (ren ρ k) ok).run E.P w=x:=by rw[hkr];exact λ_ h=>h
   have body:(Instr.lookup t (ren ρ m) k ok).run E.P w=(do
    let (v,ok') <- match ((cE k es).bind λn=>(es[n]?).map λe=>(n,ren ρ e.val)) with
     |some (_,v)=>pure (v,true)
     |none=>pure (<- zeroValue et,false)
    pure (if ok then .tuple #[v,.bool ok'] else v):Sem Value).run E.P w:=by
    rcases hcase with⟨rfl,rfl⟩|⟨r,c,rfl,hg,hw⟩
    ·simp only[Instr.lookup,ren,Sem.run_bind,run_underlying hu,Result.andThen_ok,Sem.run_pure,run_checkKey hk];have:=run_findKey (P:=E.P) (ρ:=ρ) (w:=w) hk;simp only[List.map_nil]at this;rw[this];simp only[Result.andThen_ok];rfl
    ·simp only[Instr.lookup,ren,Sem.run_bind,run_underlying hu,Result.andThen_ok,Sem.run_pure,jn hw,run_checkKey hk,run_findKey (P:=E.P) (ρ:=ρ) (w:=w) hk];rfl
   refine⟨tail _ (body.trans ?_),?_⟩
   ·split at hx
    ·rename_i i hi;split at hx
     ·rename_i e he;injection hx with hx;subst hx;cases ok<;>simp[hi,he,ren,dz]
     ·cases hx
    ·rename_i hi;split at hx
     ·rename_i z hz;injection hx with hx;subst hx;have e0:=(dM (ρ:=ρ) hz).1;cases ok<;>simp[hi,(gv hz w).1,ren,dz,e0]
     ·cases hx
   ·split at hx
    ·split at hx
     ·rename_i e he;have hv:=(hs e (List.mem_of_getElem? he)).2;injection hx with hx;subst hx;cases ok<;>simp[sc,scA,scL,hv]
     ·cases hx
    ·split at hx
     ·rename_i z hz;injection hx with hx;subst hx;have e0:=(dM (ρ:=ρ) hz).2 h.next;cases ok<;>simp[sc,scA,scL,e0]
     ·cases hx
  ·cases hx
 ·cases hx
theorem tC{es:Array MapEntry}{c:Nat}{o':Obj}(h:w.heap[r]? = some (.map es c)):(setObj r o').run P w=.ok () (dh w r o'):=by simp[setObj,Sem.run,h,dh]
def pJ(k k':Value):Prop :=
 match k,k' with
 |.int j _,.int j' _=>j'=j
 |.string _,.string _=>True
 |_,_=>False
theorem pw{k:Value}(ρ:Ren):∀(es:List MapEntry) (n:Nat),cE k es=some n->∀e,es[n]? = some e->(∀e,e∈es->pJ k e.key)->Instr.sameBits 10000 (ren ρ e.key) k=true
 |[],n,h=>by simp[cE]at h
 | e0::es,n,hn=>by
   intro e he hall;have ih:=pw (k:=k) ρ es;have hall':∀e,e∈es->pJ k e.key:=λe h=>hall e (List.mem_cons_of_mem _ h);have h0:=hall e0 Nw;unfold cE at hn;split at hn
   ·rename_i hk;simp only[hk,pJ]at h0;subst h0;split at hn
    ·rename_i hab;injection hn with hn;subst hn;simp only[List.getElem?_cons_zero,Option.some.injEq]at he;subst he;simp[hk,ren,Instr.sameBits,hab]
    ·rw[Option.map_eq_some_iff]at hn;obtain⟨m,hm,rfl⟩:=hn;simp only[List.getElem?_cons_succ]at he;exact ih m hm e he hall'
   ·rename_i a b hk;split at hn
    ·rename_i hab;injection hn with hn;subst hn;simp only[List.getElem?_cons_zero,Option.some.injEq]at he;subst he;rw[<-bytes_beq]at hab;simp only[hk,ren,Instr.sameBits];rw[bytes_beq]at hab|-;simp only[beq_iff_eq]at hab|-;exact hab.symm
    ·rw[Option.map_eq_some_iff]at hn;obtain⟨m,hm,rfl⟩:=hn;simp only[List.getElem?_cons_succ]at he;exact ih m hm e he hall'
   ·cases hn
theorem wU{es:List MapEntry}(h:fg P kt k es=true){e:MapEntry}(hn:cE k es=some n)(he:es[n]? = some e)(ρ:Ren):Instr.sameBits 10000 (ren ρ e.key) k=true:=by
 refine pw ρ es n hn e he ?_;intro e he;unfold fg at h;split at h
 ·rw[List.all_eq_true]at h;have:=h e he;split at this
  ·rename_i hk;simp only[hk,pJ];simpa using this
  ·cases this
 ·rw[List.all_eq_true]at h;have:=h e he;split at this
  ·rename_i hk;simp only[hk,pJ]
  ·cases this
 ·cases h
theorem ry(H:HR E B ρ h w)(hx:eK E h t m k v=some h')(hv:sc h.next v=true) :
 ∃w',(Instr.mapUpdate t (ren ρ m) (ren ρ k) (ren ρ v)).run E.P w=.ok () w'/\Step E B ρ h w ρ h' w':=by
 unfold eK at hx;split at hx
 ·rename_i kt et r hu;split at hx
  ·rename_i es c hg;split at hx
   ·rename_i hk;obtain⟨_,_,_,hs,o,hw,ho⟩:=H.live _ _ hg;cases o<;>simp only[fT]at ho;obtain⟨rfl,hc⟩:=ho;rw[hc]at hw;have hkr:=Ax (ρ:=ρ) hk;have hks:=JM (n:=h.next) hk;rw[hkr];split at hx
    ·rename_i i hi;injection hx with hx;subst hx;have hlt:=sm _ _ hi;have he:es[i]? = some es[i]:=List.getElem?_eq_getElem hlt;refine⟨_,?_,Step.put (o:=.map (es.modify i λe=>{e with key:=k,val:=v}) c) (c:=.map ((es.map (dO ρ)).toArray.modify i λe=>{e with key:=k,val:=ren ρ v}) c) H hg ?_ ⟨?_,rfl⟩⟩
     ·have e1:((es.map (dO ρ)).toArray[i]?).map (·.key)=some (ren ρ es[i].key):=by simp[hlt,dO]
      simp only[Instr.mapUpdate,ren,Sem.run_bind,run_underlying hu,Result.andThen_ok,jn hw,run_checkKey hk,run_findKey (P:=E.P) (ρ:=ρ) (w:=w) hk,hi,he,Option.bind_some,Option.map_some,e1,Option.getD_some,Instr.keyThatStays,wU hk hi he ρ,if_true,Sem.run_pure,tC hw]
     ·intro e he;rw[List.mem_iff_getElem?]at he;obtain⟨j,hj⟩:=he;rw[List.getElem?_modify]at hj
      cases hej:es[j]? with
      |none=>simp[hej]at hj
      | some e' =>
        have:=hs e' (List.mem_of_getElem? hej);simp only[hej,Option.map_eq_map,Option.map_some,Option.some.injEq]at hj;subst hj;split
        ·exact⟨hks,hv⟩
        ·exact this
     ·apply Array.ext';rw[Array.toList_modify];simp only;apply List.ext_getElem?;intro j;rw[List.getElem?_modify,List.getElem?_map,List.getElem?_map,List.getElem?_modify]
      cases es[j]? with
      |none=>rfl
      |some e =>simp only[Option.map_eq_map,Option.map_some,Option.some.injEq];split<;>simp[dO,hkr]
    ·rename_i hi;injection hx with hx;subst hx;refine⟨_,?_,Step.put (o:=.map (es++[{key:=k,val:=v,born:=c}]) (c+1)) (c:=.map ((es.map (dO ρ)).toArray.push {key:=k,val:=ren ρ v,born:=c}) (c+1)) H hg ?_ ⟨?_,rfl⟩⟩
     ·simp only[Instr.mapUpdate,ren,Sem.run_bind,run_underlying hu,Result.andThen_ok,jn hw,run_checkKey hk,run_findKey (P:=E.P) (ρ:=ρ) (w:=w) hk,hi,Option.bind_none,tC hw]
     ·intro e he;simp only[List.mem_append,List.mem_singleton]at he;rcases he with he|rfl
      ·exact hs e he
      ·exact⟨hks,hv⟩
     ·simp[dO,hkr]
   ·cases hx
  ·cases hx
 ·cases hx
theorem GX{op:Op}(h:cu P ev op=some v)(hs:∀x,x∈op.operands->sc n (ev x)=true):sc n v=true:=by
 unfold cu at h;split at h
 ·rename_i x;injection h with h;subst h;exact hs x Nx
 ·rename_i x;injection h with h;subst h;exact hs x Nx
 ·rename_i c a b;split at h
  ·rename_i t _;injection h with h;subst h;cases t
   ·exact hs b Nx
   ·exact hs a Nx
  ·cases h
 ·rename_i t parts;refine DN h ?_;intro p hp;simp only[List.mem_map]at hp;obtain⟨q,hq,rfl⟩:=hp;refine hs q.2 ?_;simp only[Op.operands,List.mem_toArray,List.mem_map];exact⟨q,hq,rfl⟩
 ·rename_i x;have hx:=hs x Nx
  split at h<;>first
   |(rename_i e;injection h with h;subst h;rw[e]at hx;exact hx)
   |(cases h;done)
 ·exact(wg h (λb=>⟨b,0,0⟩) n).2
 ·unfold aun at h;split at h<;>first|(injection h with h;subst h;rfl)|(cases h;done)
 ·unfold sq at h;split at h<;>first|(injection h with h;subst h;rfl)|(cases h;done)
 ·rename_i t x;have hx:=hs x Nx;split at h
  ·cases h
  ·injection h with h;subst h;simpa[sc] using hx
  ·cases h
 ·rename_i f first cap
  injection h with h;subst h;simp only[sc,Bool.and_eq_true,scA,fJ,List.mem_map];constructor
  ·rintro v ⟨x,hx,rfl⟩;exact hs x (by simp[Op.operands];left;simpa using hx)
  ·rintro v ⟨x,hx,rfl⟩;exact hs x (by simp[Op.operands];right;simpa using hx)
 ·rename_i t x lo hi;have hx:=hs x Nx;unfold asl at h;split at h
  ·split at h
   ·cases h
   ·split at h
    ·cases h
    ·injection h with h;subst h;rfl
  ·rename_i e a len cap hu hv;rw[hv]at hx;split at h
   ·split at h
    ·cases h
    ·split at h
     ·injection h with h;subst h;rfl
     ·split at h
      ·split at h
       ·injection h with h;subst h;simp only[sc]at hx|-;exact hx
       ·split at h
        ·injection h with h;subst h;simpa[sc] using hx
        ·cases h
      ·split at h
       ·injection h with h;subst h;simpa[sc] using hx
       ·cases h
   ·cases h
  ·cases h
 ·rename_i t x lo hi m;have hx:=hs x Nx;unfold Ca at h;split at h
  ·rename_i e a len cap k hh k2 m hu hv _ _ _;rw[hv]at hx;split at h
   ·split at h
    ·injection h with h;subst h;simpa[sc] using hx
    ·cases h
   ·cases h
  ·cases h
 ·rename_i t x f;have hx:=hs x Nx;unfold gp at h;split at h
  ·rename_i fields a hu hv;rw[hv]at hx;split at h
   ·split at h
    ·injection h with h;subst h;simp only[sc]at hx|-;exact hx
    ·cases h
   ·cases h
  ·cases h
 ·rename_i t x f;have hx:=hs x Nx;unfold xY at h;split at h
  ·rename_i fields cs hu hv;rw[hv]at hx;split at h
   ·refine yL h ?_;cases cs with|mk l=>simpa[sc,scA,fJ] using hx
   ·cases h
  ·cases h
 ·rename_i t x i;have hx:=hs x Nx;unfold cA at h;split at h
  ·rename_i hv _;rw[hv]at hx;split at h
   ·split at h
    ·injection h with h;subst h;simp only[sc]at hx|-;exact hx
    ·injection h with h;subst h;simp only[sc]at hx|-;exact hx
    ·cases h
   ·cases h
  ·rename_i hv _;rw[hv]at hx;split at h
   ·split at h
    ·injection h with h;subst h;simp only[sc]at hx|-;exact hx
    ·cases h
   ·cases h
  ·cases h
 ·rename_i t x i;have hx:=hs x Nx;unfold oP at h;split at h
  ·split at h
   ·split at h
    ·injection h with h;subst h;rfl
    ·cases h
   ·cases h
  ·rename_i cs _ _ hu hv _;rw[hv]at hx;split at h
   ·split at h
    ·refine yL h ?_;cases cs with|mk l=>simpa[sc,scA,fJ] using hx
    ·cases h
   ·cases h
  ·cases h
 ·rename_i x i;have hx:=hs x Nx;unfold gY at h;split at h
  ·rename_i vs hv;rw[hv]at hx
   cases vs with|mk l =>
   simp only[sc,scA,fJ]at hx;exact hx v (List.mem_of_getElem? h)
  ·cases h
 ·split at h
  ·unfold re at h;split at h<;>first|(injection h with h;subst h;rfl)|(cases h;done)
  ·cases h
 ·obtain⟨k,m,rfl⟩:=pP h;rfl
 ·obtain⟨k,m,rfl⟩:=pP h;rfl
 ·cases h
theorem foldl_push:∀(ns:List Int) (b:ByteArray),ns.foldl (λr n=>r.push (UInt8.ofNat n.toNat)) b=⟨b.data++(ns.map λn=>UInt8.ofNat n.toNat).toArray⟩
 |[],b=>Nw
 | n::ns,b=>by
   simp only[List.foldl_cons];rw[foldl_push ns];simp[ByteArray.push]
theorem DV(H:HR E B ρ h w){ty:TypeId}{x:Value}(hx:mI E h t x=some v) :
 (Builtin.len_ #[t] ty #[ren ρ x]).run E.P w=.ok v w/\ren ρ v=v/\sc h.next v=true:=by
 unfold mI at hx;split at hx
 ·rename_i kt et es hu hm;injection hx with hx;subst hx;refine⟨?_,rfl,rfl⟩;obtain⟨_,hcase⟩:=vK H hm;rcases hcase with⟨rfl,rfl⟩|⟨r,c,rfl,hg,hw⟩
  ·simp[Builtin.len_,run_underlying hu,ren,goInt]
  ·simp[Builtin.len_,run_underlying hu,ren,goInt,jn hw]
 ·cases hx
theorem vH(H:HR E B ρ h w)(hx:cC E h ev o.op=some v) :
 (execOp (λx=>ren ρ (ev x)) o).run E.P w=.ok (.value (ren ρ v)) w/\sc h.next v=true:=by
 obtain⟨dst,op,ty,pos,after,guard⟩:=o;simp only at hx;unfold cC at hx;split at hx
 ·obtain⟨h1,h2,_⟩:=qy H hx;exact⟨by simp only[execOp,Sem.run_bind,h1];rfl,h2⟩
 ·obtain⟨h1,h2⟩:=yU H hx;exact⟨by simp only[execOp,Sem.run_bind,h1];rfl,h2⟩
 ·rename_i s d x;split at hx
  ·rename_i e a b hs hd hv;split at hx
   ·rename_i hu;injection hx with hx;subst hx;have he:E.P.underlying e=some (.int .u8):=by
     unfold HQ at hu;split at hu
     ·assumption
     ·cases hu
    refine⟨?_,rfl⟩;simp only[execOp,hv,ren,Sem.run_bind,run_convert_bytes_string w s d e _ _ _ hs he hd];simp[Conv.bytesToString]
   ·cases hx
  ·rename_i e a n c hs hd hv;split at hx
   ·rename_i hu;have he:E.P.underlying e=some (.int .u8):=by
     unfold HQ at hu;split at hu
     ·assumption
     ·cases hu
    split at hx
    ·rename_i l hl;split at hx
     ·rename_i hall;injection hx with hx;subst hx;refine⟨?_,rfl⟩;obtain⟨h1,h2,h3,hsp⟩:=fF H hl;have hns:∃ns:List Int,l=ns.map (Value.int .u8):=by
       clear hl h1 h2 h3
       induction l with
       |nil=>exact⟨[],rfl⟩
       | cons x l ih =>
         simp only[List.all_cons,Bool.and_eq_true]at hall;obtain⟨ns,rfl⟩:=ih hall.2;have:=hall.1;split at this
         ·rename_i b;exact⟨b::ns,rfl⟩
         ·cases this
      obtain⟨ns,rfl⟩:=hns;have hm:(ns.map (Value.int .u8)).map (ren ρ)=ns.map (Value.int .u8):=PT;have hlc:=run_loadCells_list (P:=E.P) w (fm ρ a) _ h1;rw[hm,List.length_map,<-List.length_map (f:=Value.int .u8),h2]at hlc;simp only[execOp,hv,ren,fK hsp,Sem.run_bind,run_convert_bytes_string w s d e _ _ _ hs he hd,run_bytesToString w (fm ρ a) n _ ns hlc,foldl_push];simp[Function.comp_def]
     ·cases hx
    ·cases hx
   ·cases hx
  ·cases hx
 ·rename_i args argTypes;split at hx
  ·rename_i x t hxa ht;obtain⟨args⟩:=args;obtain⟨argTypes⟩:=argTypes;simp only at hxa ht;subst hxa ht;obtain⟨hl,hf,hsc⟩:=DV (ty:=ty) H hx;exact⟨by simp[execOp,resolve,invoke,builtin,hl,hf],hsc⟩
  ·cases hx
 ·cases hx
theorem yT(H:HR E B ρ h w){x:Value}{p:Value×ag}(hx:jL E h t x=some p) :
 ∃ρ' w',(Instr.range t (ren ρ x)).run E.P w=.ok (ren ρ' p.1) w'/\Step E B ρ h w ρ' p.2 w'/\sc p.2.next p.1=true:=by
 unfold jL at hx;split at hx
 ·rename_i kt et m hu;split at hx
  ·rename_i es k hg;injection hx with hx;subst hx;obtain⟨_,hlt,_,_,o,hw,ho⟩:=H.live _ _ hg;cases o<;>simp only[fT]at ho;obtain⟨_,hk⟩:=ho;rw[hk]at hw;refine⟨upd ρ h.next ⟨w.heap.size,0,0⟩,_,?_,Step.alloc (ex:=0) (sh:=0) H (o:=.miter m k) (c:=.mapIter (some (ρ m).r) k #[] k) hlt ⟨rfl,rfl,rfl,rfl,rfl⟩,PV⟩;simp[Instr.range,ren,run_underlying hu,jn hw,fm,c9]
  ·cases hx
 ·cases hx
theorem Hh(H:HR E B ρ h w)(hs:∀x,x∈o.op.operands->sc h.next (ev x)=true)(hx:iE E h ev o.op=some (.val v h')) :
 ∃ρ' w',((execOp (λx=>ren ρ (ev x)) o).run E.P w=.ok (.value (ren ρ' v)) w'\/(v=undef/\(execOp (λx=>ren ρ (ev x)) o).run E.P w=.ok .skip w'))/\Step E B ρ h w ρ' h' w'/\sc h'.next v=true:=by
 obtain⟨dst,op,ty,pos,after,guard⟩:=o;simp only at hx hs;unfold iE at hx;split at hx
 ·rename_i t a x
  cases hw:jB E h t (ev a) (ev x) with
  |none=>simp[hw]at hx
  |some h2 =>simp[hw]at hx;obtain⟨rfl,rfl⟩:=hx;obtain⟨w',r1,r2⟩:=Be H hw (hs x Nx);refine⟨ρ,w',.inr ⟨rfl,?_⟩,r2,rfl⟩;simp only[execOp,Sem.run_bind,r1,Result.andThen_ok];rfl
 ·rename_i it isS
  cases hw:Av h (ev it) isS with
  |none=>simp[hw]at hx
  |some p =>simp[hw]at hx;obtain⟨rfl,rfl⟩:=hx;obtain⟨w',r1,r2,r3⟩:=DU (ty:=ty) H hw;refine⟨ρ,w',.inl ?_,r2,r3⟩;simp only[execOp,Sem.run_bind,r1,Result.andThen_ok];rfl
 ·rename_i t x
  cases hw:jL E h t (ev x) with
  |none=>simp[hw]at hx
  |some p =>simp[hw]at hx;obtain⟨rfl,rfl⟩:=hx;obtain⟨ρ',w',r1,r2,r3⟩:=yT H hw;refine⟨ρ',w',.inl ?_,r2,r3⟩;simp only[execOp,Sem.run_bind,r1,Result.andThen_ok];rfl
 ·rename_i t m k x
  cases hw:eK E h t (ev m) (ev k) (ev x) with
  |none=>simp[hw]at hx
  |some h2 =>simp[hw]at hx;obtain⟨rfl,rfl⟩:=hx;obtain⟨w',r1,r2⟩:=ry H hw (hs x Nx);refine⟨ρ,w',.inr ⟨rfl,?_⟩,r2,rfl⟩;simp only[execOp,Sem.run_bind,r1,Result.andThen_ok];rfl
 ·rename_i t m k x
  cases hw:eK E h t (ev m) (ev k) (ev x) with
  |none=>simp[hw]at hx
  |some h2 =>simp[hw]at hx;obtain⟨rfl,rfl⟩:=hx;obtain⟨w',r1,r2⟩:=ry H hw (hs x Nx);refine⟨ρ,w',.inr ⟨rfl,?_⟩,r2,rfl⟩;simp only[execOp,Sem.run_bind,r1,Result.andThen_ok];rfl
 ·rename_i b args argTypes;split at hx
  ·rename_i s x t t1 ha ht;obtain⟨args⟩:=args;obtain⟨argTypes⟩:=argTypes;simp only at ha ht;subst ha ht
   cases hw:cI E h t t1 (ev s) (ev x) with
   |none=>simp[hw]at hx
   |some p =>simp[hw]at hx;obtain⟨rfl,rfl⟩:=hx;obtain⟨ρ',w',r1,r2,r3⟩:=yW (ty:=ty) H hw (hs s NQ);refine⟨ρ',w',.inl ?_,r2,r3⟩;simp[execOp,resolve,invoke,builtin,r1]
  ·rename_i d x t t1 ha ht;obtain⟨args⟩:=args;obtain⟨argTypes⟩:=argTypes;simp only at ha ht;subst ha ht
   cases hw:wy E h t (ev d) (ev x) with
   |none=>simp[hw]at hx
   | some p =>
     simp[hw]at hx;obtain⟨rfl,rfl⟩:=hx;obtain⟨w',r1,r2,k,m,hkm⟩:=DX (ts:=#[t,t1]) (ty:=ty) H Nw hw;refine⟨ρ,w',.inl ?_,r2,by rw[hkm];rfl⟩;have:ren ρ p.1=p.1:=by rw[hkm];rfl
     simp[execOp,resolve,invoke,builtin,r1,this]
  ·rename_i x t ha ht;obtain⟨args⟩:=args;obtain⟨argTypes⟩:=argTypes;simp only at ha ht;subst ha ht
   cases hw:rh E h t (ev x) with
   |none=>simp[hw]at hx
   |some p =>simp[hw]at hx;obtain⟨rfl,rfl⟩:=hx;obtain⟨w',r1,r2⟩:=Bh (ty:=ty) H hw;refine⟨ρ,w',.inl ?_,r2,rfl⟩;simp[execOp,resolve,invoke,builtin,r1,ren,dz]
  ·cases hx
 ·split at hx<;>simp at hx
 ·split at hx
  ·split at hx
   ·simp at hx
   ·split at hx
    ·split at hx<;>simp at hx
    ·simp at hx
  ·simp at hx
 ·cases hx
theorem Ie(a:Value)(b:Array Value):(#[a]++b)[0]? = some a:=by simp[Array.getElem?_append]
theorem kq{w:World} {fn : Func} {b : Code} {args : Array Value} (hf : P.funcs[f]? = some fn) (hb : fn.body = some b) (hn : (fn.name == "runtime.NumGoroutine") = false) :
 (callFunc f args).run P w=.ok (.enter f args) w:=by
 have hn' : ¬fn.name = "runtime.NumGoroutine" := by simpa using hn
 simp[callFunc,hf,hb,hn']
theorem DR(_:HR E B ρ h w){args:List Value}(hs:∀x,x∈o.op.operands->sc h.next (ev x)=true)(hx:iE E h ev o.op=some (.enter f args))
 {fn : Func} {b : Code} (hf : E.P.funcs[f]? = some fn) (hb : fn.body = some b) (hn : (fn.name == "runtime.NumGoroutine") = false) :
 (execOp (λx=>ren ρ (ev x)) o).run E.P w=.ok (.enter f (args.map (ren ρ)).toArray) w/\∀v,v∈args->sc h.next v=true:=by
 obtain⟨dst,op,ty,pos,after,guard⟩:=o;simp only at hx hs;unfold iE at hx;split at hx
 ·rename_i t a x;cases hw:jB E h t (ev a) (ev x)<;>simp[hw]at hx
 ·rename_i it isS;cases hw:Av h (ev it) isS<;>simp[hw]at hx
 ·rename_i t x;cases hw:jL E h t (ev x)<;>simp[hw]at hx
 ·rename_i t m k x;cases hw:eK E h t (ev m) (ev k) (ev x)<;>simp[hw]at hx
 ·rename_i t m k x;cases hw:eK E h t (ev m) (ev k) (ev x)<;>simp[hw]at hx
 ·split at hx
  ·rename_i s x t t1 _ _;cases hw:cI E h t t1 (ev s) (ev x)<;>simp[hw]at hx
  ·rename_i d x t t1 _ _;cases hw:wy E h t (ev d) (ev x)<;>simp[hw]at hx
  ·rename_i x t _ _;cases hw:rh E h t (ev x)<;>simp[hw]at hx
  ·cases hx
 ·rename_i g args' argTypes;split at hx
  ·rename_i g' first cap hv
   simp only[Option.some.injEq,Eff.enter.injEq]at hx;obtain⟨rfl,rfl⟩:=hx;have hg:=hs g NQ;rw[hv]at hg;simp only[sc,Bool.and_eq_true,wS]at hg;constructor
   ·simp only[execOp,resolve,hv,ren,Deferred.ofValue,Sem.run_bind,Sem.run_pure,Result.andThen_ok,invoke];rw[kq hf hb hn];congr 2;apply Array.ext';simp[dz,Function.comp_def]
   ·intro v hv2;simp only[List.mem_append,List.mem_map]at hv2;rcases hv2 with(hv2|⟨x,hx,rfl⟩)|hv2
    ·exact hg.1 v (by simpa using hv2)
    ·exact hs x O4
    ·exact hg.2 v (by simpa using hv2)
  ·cases hx
 ·rename_i r name args' argTypes;split at hx
  ·rename_i t x hv;split at hx
   ·cases hx
   ·rename_i i hi;split at hx
    ·rename_i m hm;split at hx
     ·rename_i f' e hp hmf hu;simp only[Option.some.injEq,Eff.enter.injEq]at hx;obtain⟨rfl,rfl⟩:=hx;have hg:=hs r NQ;rw[hv]at hg;simp only[sc]at hg;constructor
      ·have hm':i.methods.find? (λm=>m.name==name)=some m:=by rw[<-Array.find?_toList];exact hm
       have hpath:m.path=#[]:=by cases hpp:m.path with|mk l=>rw[hpp]at hp;simp at hp;simp[hp]
       have hmeth:(method ((E.P).types.size+Made.depth) t (ren ρ x) name).run E.P w=.ok (f',ren ρ x) w:=by generalize hd:(E.P).types.size+Made.depth=d;obtain⟨d',rfl⟩:∃d',d=d'+1:=⟨(E.P).types.size+99,by rw[<-hd];rfl⟩;simp only[method,Sem.run_bind,typeInfo,run_program,Result.andThen_ok,hi,Sem.run_pure,hm',hpath,follow,hmf,receiverAt,run_underlying hu,Place.get]
       simp only[execOp,resolve,hv,ren,Sem.run_bind,Sem.run_pure,Result.andThen_ok,invoke];rw[Ie];simp[callMethod,hmeth,kq hf hb hn];rw[List.take_of_length_le Nw];rfl
      ·intro v hv2;simp only[List.mem_cons,List.mem_map]at hv2;rcases hv2 with rfl|⟨y,hy,rfl⟩
       ·exact hg
       ·exact hs y (by simp[Op.operands,Call.operands];right;simpa using hy)
     ·cases hx
    ·cases hx
  ·cases hx
 ·cases hx
end Go.Tm
