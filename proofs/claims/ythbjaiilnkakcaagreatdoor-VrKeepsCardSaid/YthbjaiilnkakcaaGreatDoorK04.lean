/- Part 4: Fin L1 L2 L3 L4 L5 P1 L6 L7 L8 L9 L10. -/
import Derived.Test.YthbjaiilnkakcaaGreatDoorK03
import Derived.RowKit3
import Derived.IntWalk
import Derived.Laws.Bits64
import Derived.Laws.Bits64b
import Derived.Lib.Zigzag
import Derived.Lib.ValidU
set_option linter.all false
set_option maxRecDepth 10000
set_option maxHeartbeats 8000000
namespace Go.Tm
open Go.RowKit (Below)
variable{E:Env}
theorem Ic{W:World}(hb:∀b o,b<E.base->E.ro b=some o->b<W.heap.size)(hro:∀b o,b<E.base->E.ro b=some o->W.heap[b]? = some o):HR E W.heap.size (λb=>⟨b,0,0⟩) ⟨E.base,.leaf⟩ W where
 cj:=Nat.le_refl _
 fS:=hb
 fG:=Nat.le_refl _
 fix:=λ_ _=>rfl
 ro:=hro
 live:=λb o h=>by simp[ag.get,Tr.mv]at h
 inj:=λb b' o o' h=>by simp[ag.get,Tr.mv]at h
theorem qR(hp:jq E=true)(hkn:td E)(hit:yg E)(hm:E.P.follows .mixedOrders=true){k:Nat}{f:FuncId}{args vs:List Value}{v:Value}{h':ag}(h:Mu E k f args ⟨E.base,.leaf⟩=some (v,h'))(ha:∀x,x∈args->sc E.base x=true)(hvs:args.map (ren λb=>⟨b,0,0⟩)=vs)(hv:∀ρ,ren ρ v=v)
 {W:World} (hb:∀b o,b<E.base->E.ro b=some o->b<W.heap.size) (hro:∀b o,b<E.base->E.ro b=some o->W.heap[b]? = some o):Calls E.P f vs.toArray W λe W'=>e=.returned v/\Below W.heap.size W W':=by
 obtain⟨fn,b,_,_,_,hc⟩:=pZ hp hkn (λn=>JC hp hkn hit hm (B:=W.heap.size) k n) f args _ v h' h;have:=hc (λb=>⟨b,0,0⟩) W (Ic hb hro) ha;rw[hvs]at this;refine this.mono ?_;rintro e w' ⟨ρ',rfl,st,_⟩;refine⟨by rw[hv],⟨st.os,st.tape,st.output,st.size,λi hi=>st.frame i hi (λb o h=>by simp[ag.get,Tr.mv]at h)⟩⟩
end Go.Tm
namespace Go.Tm
variable{f:FuncId}{args cs xs zs:List Value}{P:Program}{s:St}{b:Code}{y:Operand}{rs:List ResultVar}{by_ i j m:Nat}{a:Addr}{ops:Array Oper}{d:Option Nat}{v w:Value}{et kt t:TypeId}{o o':bz}{ps:Array (Nat×Operand)}{hi:Option Operand}{ts:Array TypeId}{u:TypeDesc}{h' h1 h2:ag}{k:IntKind}{ev:Operand->Value}{q:Nat->Bool}{fx:Bool}
def af(E:Env)(f:FuncId)(args:List Value)(h:ag)(Q:Value->ag->Prop):Prop :=
 ∃v h' k,Q v h'/\∀j,k<=j->dW E (cf E j) f args h=some (v,h')
theorem af.mono{E:Env}{h:ag}{Q Q':Value->ag->Prop}(H:af E f args h Q)(m:∀v h',Q v h'->Q' v h'):af E f args h Q':=by obtain⟨v,h',k,hq,hk⟩:=H;exact⟨v,h',k,m _ _ hq,hk⟩
abbrev bl:=Tr Value->ag->Prop
abbrev cY:=Ex->Tr Value->ag->Prop
def dT(E:Env)(op:Op)(tm:Tr Value)(h:ag)(K:Value->ag->Prop):Prop :=
 match kindOf E.P op with
 |.pure=>∃v,cu E.P (opd tm) op=some v/\K v h
 |.read=>∃v,cC E h (opd tm) op=some v/\K v h
 |.alloc=>∃p,bW E.P (opd tm) op=some p/\K (p.1 h.next) (h.push p.2)
 | .eff=>∃ r,iE E h (opd tm) op=some r∧match r with
   |.val v h'=>K v h'
   |.enter f args=>af E f args h K
def dS(tm:Tr Value)(d:Option Nat)(R:bl):Value->ag->Prop:=λv h=>R (du tm d v) h
def wpo(E:Env)(O:List Oper):List Oper->bl->bl
 |[],Q=>Q
 | o::l,Q=>fun tm h =>
   match o.guard with
   |none=>dT E o.op tm h (dS tm o.dst (wpo E O l Q))
   |some _=>(bf O tm o=true->dT E o.op tm h (dS tm o.dst (wpo E O l Q)))/\(bf O tm o=false->wpo E O l Q (du tm o.dst undef) h)
theorem te{E:Env}{op:Op}{tm:Tr Value}{h:ag}{K:Value->ag->Prop}(H:dT E op tm h K) :
 ∃v h' k,K v h'/\∀j,k<=j->aop E (dW E (cf E j)) op ⟨tm,h⟩=some (v,h'):=by
 unfold dT at H;unfold aop;split at H
 ·rename_i hk;obtain⟨v,hv,hK⟩:=H;exact⟨v,h,0,hK,λj _=>by simp[hk,hv]⟩
 ·rename_i hk;obtain⟨v,hv,hK⟩:=H;exact⟨v,h,0,hK,λj _=>by simp[hk,hv]⟩
 ·rename_i hk;obtain⟨p,hv,hK⟩:=H;exact⟨_,_,0,hK,λj _=>by simp[hk,hv]⟩
 ·rename_i hk;obtain⟨r,hv,hK⟩:=H
  cases r with
  |val v h'=>exact⟨v,h',0,hK,λj _=>by simp[hk,hv]⟩
  |enter f args =>obtain⟨v,h',k,hq,hh⟩:=hK;exact⟨v,h',k,hq,λj hj=>by simp[hk,hv,hh j hj]⟩
theorem mM{E:Env}{O:List Oper}:∀(l:List Oper) (Q:bl) (tm:Tr Value) (h:ag),wpo E O l Q tm h ->
 ∃tm' h' k,Q tm' h'/\∀j,k<=j->qW E (dW E (cf E j)) O l ⟨tm,h⟩=some ⟨tm',h'⟩
 |[],Q,tm,h,H=>⟨tm,h,0,H,λj _=>rfl⟩
 | o::l,Q,tm,h,H=>by
   have key:bf O tm o=true->dT E o.op tm h (dS tm o.dst (wpo E O l Q))->∃tm' h' k,Q tm' h'/\∀j,k<=j->qW E (dW E (cf E j)) O (o::l) ⟨tm,h⟩=some ⟨tm',h'⟩:=by intro ha hw;obtain⟨v,h1,k1,hK,hk1⟩:=te hw;obtain⟨tm',h',k2,hq,hk2⟩:=mM l Q _ _ hK;refine⟨tm',h',max k1 k2,hq,λj hj=>?_⟩;simp only[qW,jk,ha,if_true,hk1 j Nr,hk2 j Nr]
   have key2:bf O tm o=false->wpo E O l Q (du tm o.dst undef) h->∃tm' h' k,Q tm' h'/\∀j,k<=j->qW E (dW E (cf E j)) O (o::l) ⟨tm,h⟩=some ⟨tm',h'⟩:=by intro ha hw;obtain⟨tm',h',k2,hq,hk2⟩:=mM l Q _ _ hw;refine⟨tm',h',k2,hq,λj hj=>?_⟩;simp only[qW,jk,ha,Bool.false_eq_true,if_false,hk2 j hj]
   simp only[wpo]at H;split at H
   ·rename_i hg;exact key (by simp[bf,hg]) H
   ·cases ha:bf O tm o with
    |true=>exact key ha (H.1 ha)
    |false=>exact key2 ha (H.2 ha)
def rn(P:Program)(O:List Oper)(M:List Nat):List (Nat×Nat) :=
 (O.zipIdx.filter λx=>isR P x.1).flatMap λx=>((O.zipIdx.filter λx=>isE P x.1).filter λy=>!(bef M x.2 y.2||bef M y.2 x.2)).map λy=>(x.2,y.2)
def calm(P:Program)(O:List Oper):Bool :=
 jc P O (bh O []) none&&(match iV P O (bh O []) with|none=>true|some _=>false)&&(rn P O (bh O [])).isEmpty
def wpt(E:Env)(O:List Oper):List Oper->List St->(List St->Prop)->bl
 |[],tr,Q=>λtm h=>Q (tr++[⟨tm,h⟩])
 | o::l,tr,Q=>fun tm h =>
   match o.guard with
   |none=>dT E o.op tm h (dS tm o.dst (wpt E O l (tr++[⟨tm,h⟩]) Q))
   |some _=>(bf O tm o=true->dT E o.op tm h (dS tm o.dst (wpt E O l (tr++[⟨tm,h⟩]) Q)))/\(bf O tm o=false->wpt E O l (tr++[⟨tm,h⟩]) Q (du tm o.dst undef) h)
def xE(E:Env)(O:List Oper)(s:St)(tr:List St):Bool :=
 (jc E.P O (bh O []) (iV E.P O (bh O []))&&BU E O (bh O []) (iV E.P O (bh O [])) (cT tr s)) ||
 (!jc E.P O (bh O []) (iV E.P O (bh O []))&&(kY E.P O (bh O [])&&Aj E O (bh O []) (cT tr s)))
def tn(E:Env)(O:List Oper)(Q:bl):bl:=λtm h =>
 (calm E.P O=true/\wpo E O O Q tm h)\/wpt E O O [] (λtr=>xE E O ⟨tm,h⟩ tr=true/\Q (cT tr ⟨tm,h⟩ O.length).tm (cT tr ⟨tm,h⟩ O.length).h) tm h
def aF(E:Env)(O:List Oper)(Q:bl):bl:=tn E (swL E.P O) Q
theorem tk{E:Env}{O:List Oper}{Q:bl}{tm:Tr Value}{h:ag}(hs:wM E.P O=none)(H:tn E O Q tm h):aF E O Q tm h:=by unfold aF swL;rw[hs];exact H
theorem pa{E:Env}{O:List Oper}{Q:bl}{tm:Tr Value}{h:ag}(y:Nat)(hs:wM E.P O=some y)(H:tn E (fO y O) Q tm h):aF E O Q tm h:=by unfold aF swL;rw[hs];exact H
theorem Cy{O:List Oper}(h:jc P O (bh O []) (iV P O (bh O []))=true\/kY P O (bh O [])=true):wM P O=none:=by unfold wM;rw[if_pos Ot]
theorem Cz{O:List Oper}(hd:jc P O (bh O []) none=true)(h2:(match iV P O (bh O []) with|none=>true|some _=>false)=true):wM P O=none:=by
 have hsp:iV P O (bh O [])=none:=by
  cases hx:iV P O (bh O []) with
  |none=>rfl
  |some p=>simp[hx]at h2
 exact Cy (.inl (by rw[hsp];exact hd))
def xk(R:bl)(Q:cY):cY:=λe tm h =>
 match e with
 |.normal=>R tm h
 |e=>Q e tm h
def kS(id:Nat)(Q:cY):cY:=λe tm h =>
 match e with
 |.exit i=>if i=id then Q .normal tm h else Q (.exit i) tm h
 |e=>Q e tm h
def rO(I:Nat->bl)(n:Nat)(Q:cY):cY:=λe tm h =>
 match e with
 |.normal=>∃m,m<n/\I m tm h
 |e=>Q e tm h
def qG(b:Code)(I:Nat->Code->bl)(n:Nat)(Q:cY):cY:=λe tm h =>
 match e with
 |.goto l=>∃m c,m<n/\findLabel b l=some c/\I m c tm h
 |e=>Q e tm h
def uE(E:Env)(c:Code)(Q:cY)(tm:Tr Value)(h:ag):Prop :=
 ∃e s' k,Q e s'.tm s'.h/\∀j,k<=j->cf E j c ⟨tm,h⟩=some (e,s')
theorem uE.mono{E:Env}{c:Code}{Q Q':cY}{tm:Tr Value}{h:ag}(H:uE E c Q tm h)(m:∀e tm h,Q e tm h->Q' e tm h):uE E c Q' tm h:=by obtain⟨e,s',k,hq,hk⟩:=H;exact⟨e,s',k,m _ _ _ hq,hk⟩
def kif(_E:Env)(v:Value)(x y:cY->bl)(Q:cY)(tm:Tr Value)(h:ag):Prop :=
 match v with
 |.bool true=>x Q tm h
 |.bool false=>y Q tm h
 |_=>False
def JY(tm0:Tr Value)(I:Nat->Nat->ag->Prop)(n i:Nat)(Q:cY):cY:=λe _ h =>
 match e with
 |.normal=>∃m,m<n/\I m (i+1) h
 |e=>Q e tm0 h
def HL(assign body:cY->bl)(p:Nat)(tm:Tr Value)(K Q:cY)(o:Option Value)(h:ag):Prop :=
 match o with
 |none=>Q .normal tm h
 |some v=>assign (xk (body K) (λ_ _ _=>False)) (tm.set p (some v)) h
def Kt(E:Env)(g:Operand)(ps:Array Tmp)(fl:Bool)(assign body:cY->bl)(Q:cY):bl:=λtm h =>
 fl=true/\∃it p,De E (opd tm g)=some it/\ps.toList=[p]/\∃(I:Nat->Nat->ag->Prop) (n:Nat),I n 0 h /\
  ∀n i h,I n i h->∃o,it h i=some o/\HL assign body p tm (JY tm I n i Q) Q o h
def wpc(E:Env):Code->cY->bl
 |.skip,Q=>Q .normal
 |.label _,Q=>Q .normal
 |.ret,Q=>Q .ret
 |.exit id,Q=>Q (.exit id)
 |.goto l,Q=>Q (.goto l)
 |.seq a b,Q=>wpc E a (xk (wpc E b Q) Q)
 |.cond c x y,Q=>λtm h=>kif E (opd tm c) (wpc E x) (wpc E y) Q tm h
 |.block id b,Q=>wpc E b (kS id Q)
 |.loop b,Q=>λtm h=>(gQ b=false/\∃(I:Nat->bl) (n:Nat),I n tm h/\∀n tm h,I n tm h->wpc E b (rO I n Q) tm h)\/(gQ b=true/\∃id tm' h',E.lY b tm h=some (id,tm',h')/\Q (.exit id) tm' h')
 |.scope b,Q=>λtm h=>∃(I:Nat->Code->bl) (n:Nat),I n b tm h/\∀n c tm h,I n c tm h->uE E c (qG b I n Q) tm h
 |.region _ ops false,Q=>wpo E ops.toList ops.toList (Q .normal)
 |.region _ ops true,Q=>aF E ops.toList (Q .normal)
 |.rangeFunc g ps x y,Q=>Kt E g ps (flat x&&flat y) (wpc E x) (wpc E y) Q
 |_,_=>λ_ _=>False
theorem qj{E:Env}{O:List Oper}:∀(l:List Oper) (tr:List St) (Q:List St->Prop) (tm:Tr Value) (h:ag),wpt E O l tr Q tm h ->
 ∃tr' k,Q (tr++tr')/\∀j,k<=j->trace E (dW E (cf E j)) O l ⟨tm,h⟩=some tr'
 |[],tr,Q,tm,h,H=>⟨[⟨tm,h⟩],0,H,λj _=>rfl⟩
 | o::l,tr,Q,tm,h,H=>by
   have key:bf O tm o=true->dT E o.op tm h (dS tm o.dst (wpt E O l (tr++[⟨tm,h⟩]) Q))->∃tr' k,Q (tr++tr')/\∀j,k<=j->trace E (dW E (cf E j)) O (o::l) ⟨tm,h⟩=some tr':=by intro ha hw;obtain⟨v,h1,k1,hK,hk1⟩:=te hw;obtain⟨tr',k2,hq,hk2⟩:=qj l _ Q _ _ hK;refine⟨⟨tm,h⟩::tr',max k1 k2,by simpa using hq,λj hj=>?_⟩;simp only[trace,jk,ha,if_true,hk1 j Nr,hk2 j Nr,Option.map_some]
   have key2:bf O tm o=false->wpt E O l (tr++[⟨tm,h⟩]) Q (du tm o.dst undef) h->∃tr' k,Q (tr++tr')/\∀j,k<=j->trace E (dW E (cf E j)) O (o::l) ⟨tm,h⟩=some tr':=by intro ha hw;obtain⟨tr',k2,hq,hk2⟩:=qj l _ Q _ _ hw;refine⟨⟨tm,h⟩::tr',k2,by simpa using hq,λj hj=>?_⟩;simp only[trace,jk,ha,Bool.false_eq_true,if_false,hk2 j hj,Option.map_some]
   simp only[wpt]at H;split at H
   ·rename_i hg;exact key (by simp[bf,hg]) H
   ·cases ha:bf O tm o with
    |true=>exact key ha (H.1 ha)
    |false=>exact key2 ha (H.2 ha)
theorem vm{E:Env}{call:di}{O:List Oper}:∀(l:List Oper) (s s':St),qW E call O l s=some s'->∃tr,trace E call O l s=some tr/\∀d,cT tr d l.length=s'
 | [],s,s',h=>by
   simp only[qW,Option.some.injEq]at h;subst h;exact⟨[s],rfl,λd=>rfl⟩
 | o::l,s,s',h=>by
   simp only[qW]at h
   cases ha:jk E call O o s with
   |none=>simp[ha]at h
   |some s1 =>simp only[ha]at h;obtain⟨tr,h1,h2⟩:=vm l s1 s' h;refine⟨s::tr,by simp only[trace,ha,h1,Option.map_some],λd=>?_⟩;have:=h2 d;simpa[cT] using this
theorem Dx{O:List Oper}{M:List Nat}(h:(rn P O M).isEmpty=true):∀x,x∈O.zipIdx.filter (λx=>isR P x.1)->∀y,y∈O.zipIdx.filter (λx=>isE P x.1)->(bef M x.2 y.2||bef M y.2 x.2)=true:=by
 intro x hx y hy
 cases hb:(bef M x.2 y.2||bef M y.2 x.2) with
 |true=>rfl
 | false =>
   have:(x.2,y.2)∈rn P O M:=by unfold rn;rw[List.mem_flatMap];refine⟨x,hx,List.mem_map.2 ⟨y,List.mem_filter.2 ⟨hy,NN⟩,rfl⟩⟩
   rw[List.isEmpty_iff]at h;rw[h]at this;simp at this
theorem FX{E:Env}{O:List Oper}(hc:calm E.P O=true){call:di}{s':St}(h:qW E call O O s=some s'):oQ E call O s=some s':=by
 obtain⟨tr,h1,h2⟩:=vm O s s' h;unfold calm at hc;simp only[Bool.and_eq_true]at hc;obtain⟨⟨c1,c2⟩,c3⟩:=hc;have hsp:iV E.P O (bh O [])=none:=by
  cases hx:iV E.P O (bh O []) with
  |none=>rfl
  |some p=>simp[hx]at c2
 unfold oQ;simp only[h1,hsp,c1,if_true];rw[if_pos,h2];simp only[BU,Bool.and_eq_true,List.all_eq_true,and_true];intro x hx y hy;have:=Dx c3 x hx y hy;simp only[Bool.or_eq_true]at this|-;rcases this with h|h
 ·exact .inl h
 ·exact .inr (.inl h)
theorem wI{E:Env}{O:List Oper}{Q:bl}{tm:Tr Value}{h:ag}(H:tn E O Q tm h) :
 ∃tm' h' k,Q tm' h'/\∀j,k<=j->oQ E (dW E (cf E j)) O ⟨tm,h⟩=some ⟨tm',h'⟩:=by
 rcases H with⟨hc,H⟩|H
 ·obtain⟨tm',h',k,hq,hk⟩:=mM _ _ _ _ H;exact⟨tm',h',k,hq,λj hj=>FX hc (hk j hj)⟩
 ·obtain⟨tr,k,⟨hd,hq⟩,hk⟩:=qj _ _ _ _ _ H;simp only[List.nil_append]at hd hq;refine⟨_,_,k,hq,λj hj=>?_⟩;unfold xE at hd;unfold oQ;simp only[hk j hj];simp only[Bool.or_eq_true,Bool.and_eq_true,Bool.not_eq_true']at hd;rcases hd with⟨d1,d2⟩|⟨d1,d2⟩
  ·rw[if_pos d1,if_pos d2]
  ·rw[if_neg (by rw[d1];simp),if_pos d2]
theorem yp{E:Env}{O:List Oper}{Q:bl}{tm:Tr Value}{h:ag}(H:aF E O Q tm h) :
 ∃tm' h' k,Q tm' h'/\∀j,k<=j->uA E (dW E (cf E j)) O ⟨tm,h⟩=some ⟨tm',h'⟩:=wI H
theorem Bv{E:Env}{I:Nat->bl}{Q:cY}(hb:∀n tm h,I n tm h->uE E b (rO I n Q) tm h) :
 ∀(n:Nat) (tm:Tr Value) (h:ag),I n tm h->∃e s' k,Q e s'.tm s'.h/\∀j,k<=j->∀r,k<=r->iH (cf E j b) r ⟨tm,h⟩=some (e,s'):=by
 intro n
 induction n using Nat.strongRecOn with
 | ind n ih =>
   intro tm h hI;obtain⟨e,s1,k1,hq,hk⟩:=hb n tm h hI
   cases e with
   |normal =>obtain⟨m,hm,hI'⟩:=hq;obtain⟨e,s',k2,hq,hk2⟩:=ih m hm s1.tm s1.h hI';refine⟨e,s',max k1 k2+1,hq,λj hj r hr=>?_⟩;obtain⟨r,rfl⟩:∃r',r=r'+1:=⟨r-1,Nr⟩;simp only[iH,hk j Nr];exact hk2 j Nr r Nr
   |ret =>refine⟨_,s1,k1+1,hq,λj hj r hr=>?_⟩;obtain⟨r,rfl⟩:∃r',r=r'+1:=⟨r-1,Nr⟩;simp only[iH,hk j Nr]
   |exit id =>refine⟨_,s1,k1+1,hq,λj hj r hr=>?_⟩;obtain⟨r,rfl⟩:∃r',r=r'+1:=⟨r-1,Nr⟩;simp only[iH,hk j Nr]
   |goto l =>refine⟨_,s1,k1+1,hq,λj hj r hr=>?_⟩;obtain⟨r,rfl⟩:∃r',r=r'+1:=⟨r-1,Nr⟩;simp only[iH,hk j Nr]
theorem yI{E:Env}{I:Nat->Code->bl}{Q:cY}(hb:∀n c tm h,I n c tm h->uE E c (qG b I n Q) tm h) :
 ∀(n:Nat) (c:Code) (tm:Tr Value) (h:ag),I n c tm h->∃e s' k,Q e s'.tm s'.h/\∀j,k<=j->∀r,k<=r->jT (cf E j) b r c ⟨tm,h⟩=some (e,s'):=by
 intro n
 induction n using Nat.strongRecOn with
 | ind n ih =>
   intro c tm h hI;obtain⟨e,s1,k1,hq,hk⟩:=hb n c tm h hI
   cases e with
   |goto l =>obtain⟨m,c',hm,hf,hI'⟩:=hq;obtain⟨e,s',k2,hq,hk2⟩:=ih m hm c' s1.tm s1.h hI';refine⟨e,s',max k1 k2+1,hq,λj hj r hr=>?_⟩;obtain⟨r,rfl⟩:∃r',r=r'+1:=⟨r-1,Nr⟩;simp only[jT,hk j Nr,hf];exact hk2 j Nr r Nr
   |ret =>refine⟨_,s1,k1+1,hq,λj hj r hr=>?_⟩;obtain⟨r,rfl⟩:∃r',r=r'+1:=⟨r-1,Nr⟩;simp only[jT,hk j Nr]
   |exit id =>refine⟨_,s1,k1+1,hq,λj hj r hr=>?_⟩;obtain⟨r,rfl⟩:∃r',r=r'+1:=⟨r-1,Nr⟩;simp only[jT,hk j Nr]
   |normal =>refine⟨_,s1,k1+1,hq,λj hj r hr=>?_⟩;obtain⟨r,rfl⟩:∃r',r=r'+1:=⟨r-1,Nr⟩;simp only[jT,hk j Nr]
theorem zg{E:Env}{x y:Code}{it:ag->Nat->Option (Option Value)}{p:Nat}{tm:Tr Value}{I:Nat->Nat->ag->Prop}{Q:cY}
 (hx:∀(Q:cY) (tm:Tr Value) (h:ag),wpc E x Q tm h->uE E x Q tm h) (hy:∀(Q:cY) (tm:Tr Value) (h:ag),wpc E y Q tm h->uE E y Q tm h)
 (hb:∀n i h,I n i h->∃o,it h i=some o/\HL (wpc E x) (wpc E y) p tm (JY tm I n i Q) Q o h) :
 ∀(n i:Nat) (h:ag),I n i h->∃e s' k,Q e s'.tm s'.h/\∀j,k<=j->∀r,k<=r->fP (cf E j) it p x y tm r i h=some (e,s'):=by
 intro n
 induction n using Nat.strongRecOn with
 | ind n ih =>
   intro i h hI;obtain⟨o,ho,hk⟩:=hb n i h hI
   cases o with
   |none =>refine⟨.normal,⟨tm,h⟩,1,hk,λj hj r hr=>?_⟩;obtain⟨r,rfl⟩:∃r',r=r'+1:=⟨r-1,Nr⟩;simp only[fP,ho]
   | some v =>
     obtain⟨ea,sa,k1,hq,hk1⟩:=hx _ _ _ hk
     cases ea with
     |ret=>exact hq.elim
     |exit id=>exact hq.elim
     |goto l=>exact hq.elim
     | normal =>
       obtain⟨eb,sb,k2,hq,hk2⟩:=hy _ _ _ hq
       cases eb with
       |normal =>obtain⟨m,hm,hI'⟩:=hq;obtain⟨e,s',k3,hq,hk3⟩:=ih m hm (i+1) sb.h hI';refine⟨e,s',max (max k1 k2) k3+1,hq,λj hj r hr=>?_⟩;obtain⟨r,rfl⟩:∃r',r=r'+1:=⟨r-1,Nr⟩;simp only[fP,ho,hk1 j Nr,hk2 j Nr];exact hk3 j Nr r Nr
       |ret =>refine⟨.ret,⟨tm,sb.h⟩,max k1 k2+1,hq,λj hj r hr=>?_⟩;obtain⟨r,rfl⟩:∃r',r=r'+1:=⟨r-1,Nr⟩;simp only[fP,ho,hk1 j Nr,hk2 j Nr]
       |exit id =>refine⟨.exit id,⟨tm,sb.h⟩,max k1 k2+1,hq,λj hj r hr=>?_⟩;obtain⟨r,rfl⟩:∃r',r=r'+1:=⟨r-1,Nr⟩;simp only[fP,ho,hk1 j Nr,hk2 j Nr]
       |goto l =>refine⟨.goto l,⟨tm,sb.h⟩,max k1 k2+1,hq,λj hj r hr=>?_⟩;obtain⟨r,rfl⟩:∃r',r=r'+1:=⟨r-1,Nr⟩;simp only[fP,ho,hk1 j Nr,hk2 j Nr]
theorem Gk{E:Env}:∀(c:Code) (Q:cY) (tm:Tr Value) (h:ag),wpc E c Q tm h->uE E c Q tm h:=by
 have one:∀{c:Code} {Q:cY} {tm:Tr Value} {h:ag} (e:Ex),Q e tm h->(∀j s,cf E (j+1) c s=some (e,s))->uE E c Q tm h:=by intro c Q tm h e hq hs;refine⟨e,⟨tm,h⟩,1,hq,λj hj=>?_⟩;obtain⟨j,rfl⟩:∃j',j=j'+1:=⟨j-1,Nr⟩;exact hs j _
 intro c
 induction c with
 |skip=>intro Q tm h H;exact one .normal H λ_ _=>rfl
 |label l=>intro Q tm h H;exact one .normal H λ_ _=>rfl
 |ret=>intro Q tm h H;exact one .ret H λ_ _=>rfl
 |exit id=>intro Q tm h H;exact one (.exit id) H λ_ _=>rfl
 |goto l=>intro Q tm h H;exact one (.goto l) H λ_ _=>rfl
 | seq a b iha ihb =>
   intro Q tm h H;obtain⟨e,s1,k1,hq,hk⟩:=iha _ _ _ H
   cases e with
   |normal =>obtain⟨e,s',k2,hq,hk2⟩:=ihb _ _ _ hq;refine⟨e,s',max k1 k2+1,hq,λj hj=>?_⟩;obtain⟨j,rfl⟩:∃j',j=j'+1:=⟨j-1,Nr⟩;simp only[cf,hk j Nr];exact hk2 j Nr
   |ret =>refine⟨_,s1,k1+1,hq,λj hj=>?_⟩;obtain⟨j,rfl⟩:∃j',j=j'+1:=⟨j-1,Nr⟩;simp only[cf,hk j Nr]
   |exit id =>refine⟨_,s1,k1+1,hq,λj hj=>?_⟩;obtain⟨j,rfl⟩:∃j',j=j'+1:=⟨j-1,Nr⟩;simp only[cf,hk j Nr]
   |goto l =>refine⟨_,s1,k1+1,hq,λj hj=>?_⟩;obtain⟨j,rfl⟩:∃j',j=j'+1:=⟨j-1,Nr⟩;simp only[cf,hk j Nr]
 | cond c x y ihx ihy =>
   intro Q tm h H;simp only[wpc,kif]at H;split at H
   ·rename_i hc;obtain⟨e,s',k,hq,hk⟩:=ihx _ _ _ H;refine⟨e,s',k+1,hq,λj hj=>?_⟩;obtain⟨j,rfl⟩:∃j',j=j'+1:=⟨j-1,Nr⟩;simp only[cf,hc,hk j Nr]
   ·rename_i hc;obtain⟨e,s',k,hq,hk⟩:=ihy _ _ _ H;refine⟨e,s',k+1,hq,λj hj=>?_⟩;obtain⟨j,rfl⟩:∃j',j=j'+1:=⟨j-1,Nr⟩;simp only[cf,hc,hk j Nr]
   ·exact H.elim
 | block id b ih =>
   intro Q tm h H;obtain⟨e,s1,k1,hq,hk⟩:=ih _ _ _ H
   cases e with
   | exit i =>
     simp only[kS]at hq;by_cases hi:i=id
     ·rw[if_pos hi]at hq;refine⟨_,s1,k1+1,hq,λj hj=>?_⟩;obtain⟨j,rfl⟩:∃j',j=j'+1:=⟨j-1,Nr⟩;simp only[cf,hk j Nr,hi,if_true]
     ·rw[if_neg hi]at hq;refine⟨_,s1,k1+1,hq,λj hj=>?_⟩;obtain⟨j,rfl⟩:∃j',j=j'+1:=⟨j-1,Nr⟩;simp only[cf,hk j Nr,hi,if_false]
   |normal =>refine⟨_,s1,k1+1,hq,λj hj=>?_⟩;obtain⟨j,rfl⟩:∃j',j=j'+1:=⟨j-1,Nr⟩;simp only[cf,hk j Nr]
   |ret =>refine⟨_,s1,k1+1,hq,λj hj=>?_⟩;obtain⟨j,rfl⟩:∃j',j=j'+1:=⟨j-1,Nr⟩;simp only[cf,hk j Nr]
   |goto l =>refine⟨_,s1,k1+1,hq,λj hj=>?_⟩;obtain⟨j,rfl⟩:∃j',j=j'+1:=⟨j-1,Nr⟩;simp only[cf,hk j Nr]
 | loop b ih =>
   intro Q tm h H;rcases H with⟨hml,I,n,hI,hb⟩|⟨hml,id,tm',h',hx,hq⟩
   rotate_left
   ·refine⟨.exit id,⟨tm',h'⟩,1,hq,λj hj=>?_⟩;obtain⟨j,rfl⟩:∃j',j=j'+1:=⟨j-1,Nr⟩;simp only[cf,if_pos hml,hx,Option.map_some]
   obtain⟨e,s',k,hq,hk⟩:=Bv (λn tm h hh=>ih _ _ _ (hb n tm h hh)) n tm h hI;refine⟨e,s',k+1,hq,λj hj=>?_⟩;obtain⟨j,rfl⟩:∃j',j=j'+1:=⟨j-1,Nr⟩;simp only[cf,hml,Bool.false_eq_true,if_false];exact hk j Nr j Nr
 |scope b _ =>intro Q tm h H;obtain⟨I,n,hI,hb⟩:=H;obtain⟨e,s',k,hq,hk⟩:=yI hb n b tm h hI;refine⟨e,s',k+1,hq,λj hj=>?_⟩;obtain⟨j,rfl⟩:∃j',j=j'+1:=⟨j-1,Nr⟩;simp only[cf];exact hk j Nr j Nr
 | region id ops draw =>
   intro Q tm h H
   cases draw with
   |false =>obtain⟨tm',h',k,hq,hk⟩:=mM _ _ _ _ H;refine⟨.normal,⟨tm',h'⟩,k+1,hq,λj hj=>?_⟩;obtain⟨j,rfl⟩:∃j',j=j'+1:=⟨j-1,Nr⟩;simp only[cf,hk j Nr,Option.map_some]
   |true =>obtain⟨tm',h',k,hq,hk⟩:=yp H;refine⟨.normal,⟨tm',h'⟩,k+1,hq,λj hj=>?_⟩;obtain⟨j,rfl⟩:∃j',j=j'+1:=⟨j-1,Nr⟩;simp only[cf,hk j Nr,Option.map_some]
 |rangeFunc g ps x y ihx ihy =>intro Q tm h H;obtain⟨hfl,it,p,hai,hps,I,n,h0,hI⟩:=H;simp only[Bool.and_eq_true]at hfl;obtain⟨e,s',k,hq,hk⟩:=zg ihx ihy hI n 0 h h0;refine⟨e,s',k+1,hq,λj hj=>?_⟩;obtain⟨j,rfl⟩:∃j',j=j'+1:=⟨j-1,Nr⟩;simp only[cf,hai,hps,hfl,and_self,if_true];exact hk j Nr j Nr
 |refuse _=>intro Q tm h H;exact H.elim
def xm(E:Env)(rs:List ResultVar)(Q:Value->ag->Prop):cY:=λe tm h =>
 match e with
 |.normal=>∃l,cW E ⟨tm,h⟩ rs=some l/\Q (jU l) h
 |.ret=>∃l,cW E ⟨tm,h⟩ rs=some l/\Q (jU l) h
 |_=>False
theorem ve{E : Env} {fn : Func} (hf : E.P.funcs[f]? = some fn) (hb : fn.body = some b) (hkn : E.known f args = none) (hl : args.length <= fn.ntmps) (hn : (fn.name == "runtime.NumGoroutine") = false) (hrs : fn.results.toList = rs)
 {h:ag} {Q:Value->ag->Prop} (H:uE E b (xm E rs Q) (mK 0 args .leaf) h):af E f args h Q:=by
 subst hrs;obtain⟨e,s',k,hq,hk⟩:=H;have hf':E.P.funcs.toList[f]? = some fn:=by rw[Array.getElem?_toList];exact hf
 cases e with
 |normal =>obtain⟨l,hl',hq⟩:=hq;refine⟨_,_,k,hq,λj hj=>?_⟩;simp only[dW,hkn,nh,hf',hb];rw[if_pos ⟨hl,hn⟩,hk j hj];simp only[xX];rw[show s'=⟨s'.tm,s'.h⟩ from rfl,hl'];rfl
 |ret =>obtain⟨l,hl',hq⟩:=hq;refine⟨_,_,k,hq,λj hj=>?_⟩;simp only[dW,hkn,nh,hf',hb];rw[if_pos ⟨hl,hn⟩,hk j hj];simp only[xX];rw[show s'=⟨s'.tm,s'.h⟩ from rfl,hl'];rfl
 |exit id=>exact hq.elim
 |goto l=>exact hq.elim
section
variable{E:Env}{Q:cY}{tm:Tr Value}{h:ag}
theorem Gj:wpc E .skip Q tm h=Q .normal tm h:=rfl
theorem IW:wpc E .ret Q tm h=Q .ret tm h:=rfl
theorem Gm:wpc E (.exit i) Q tm h=Q (.exit i) tm h:=rfl
theorem Gl:wpc E (.goto i) Q tm h=Q (.goto i) tm h:=rfl
theorem IV{a:Code}:wpc E (.seq a b) Q tm h=wpc E a (xk (wpc E b Q) Q) tm h:=rfl
theorem Gq{c:Operand}{x y:Code}:wpc E (.cond c x y) Q tm h=kif E (opd tm c) (wpc E x) (wpc E y) Q tm h:=rfl
theorem eM:wpc E (.block i b) Q tm h=wpc E b (kS i Q) tm h:=rfl
theorem AI:wpc E (.region i ops false) Q tm h=wpo E ops.toList ops.toList (Q .normal) tm h:=rfl
theorem Gn:wpc E (.region i ops true) Q tm h=aF E ops.toList (Q .normal) tm h:=rfl
theorem zJ{R:bl}:xk R Q .normal tm h=R tm h:=rfl
theorem HK{R:bl}:xk R Q .ret tm h=Q .ret tm h:=rfl
theorem Fh{R:bl}:xk R Q (.exit i) tm h=Q (.exit i) tm h:=rfl
theorem Fg{R:bl}:xk R Q (.goto i) tm h=Q (.goto i) tm h:=rfl
theorem uS:kS i Q .normal tm h=Q .normal tm h:=rfl
theorem BG:kS i Q .ret tm h=Q .ret tm h:=rfl
theorem zN:kS i Q (.exit j) tm h=if j=i then Q .normal tm h else Q (.exit j) tm h:=rfl
theorem zM:kS i Q (.goto j) tm h=Q (.goto j) tm h:=rfl
theorem xl{I:Nat->bl}{n:Nat}:rO I n Q .normal tm h=∃m,m<n/\I m tm h:=rfl
theorem Fk{I:Nat->bl}{n:Nat}:rO I n Q .ret tm h=Q .ret tm h:=rfl
theorem BC{I:Nat->bl}{n:Nat}:rO I n Q (.exit i) tm h=Q (.exit i) tm h:=rfl
theorem BB{I:Nat->bl}{n:Nat}:rO I n Q (.goto i) tm h=Q (.goto i) tm h:=rfl
theorem uP{I:Nat->Code->bl}{n:Nat}:qG b I n Q .normal tm h=Q .normal tm h:=rfl
theorem By{I:Nat->Code->bl}{n:Nat}:qG b I n Q .ret tm h=Q .ret tm h:=rfl
theorem zL{I:Nat->Code->bl}{n:Nat}:qG b I n Q (.exit i) tm h=Q (.exit i) tm h:=rfl
theorem zK{I:Nat->Code->bl}{n l:Nat}:qG b I n Q (.goto l) tm h=∃m c,m<n/\findLabel b l=some c/\I m c tm h:=rfl
theorem HN{x y:cY->bl}:kif E (.bool true) x y Q tm h=x Q tm h:=rfl
theorem Fl{x y:cY->bl}:kif E (.bool false) x y Q tm h=y Q tm h:=rfl
theorem eT{x y:cY->bl}{b:Bool}(h1:b=true->x Q tm h)(h2:b=false->y Q tm h):kif E (.bool b) x y Q tm h:=by
 cases b
 ·exact h2 rfl
 ·exact h1 rfl
end
section
variable{E:Env}{O l:List Oper}{Q:bl}{tm:Tr Value}{h:ag}{K:Value->ag->Prop}{ty:TypeId}{pos:String}{aft:Array Edge}
def dL(v:Value)(want:Bool)(A B:bl):bl:=λtm h =>
 match v with
 |.bool b=>(b=want->A tm h)/\(b=!want->B tm h)
 |_=>B tm h
def sx(O:List Oper)(j:Nat)(tm:Tr Value):Value :=
 match (O[j]?).bind (·.dst) with
 |some d=>aj tm d
 |none=>undef
def cr(E:Env)(op:Op)(d:Option Nat)(R:bl):bl:=λtm h=>dT E op tm h (dS tm d R)
def lI(d:Option Nat)(R:bl):bl:=λtm h=>R (du tm d undef) h
theorem IT:wpo E O [] Q tm h=Q tm h:=rfl
theorem Gi{op:Op}:wpo E O (⟨d,op,ty,pos,aft,none⟩::l) Q tm h=cr E op d (wpo E O l Q) tm h:=rfl
theorem Dm{op:Op}{b:Bool}:wpo E O (⟨d,op,ty,pos,aft,some (j,b)⟩::l) Q tm h=dL (sx O j tm) b (cr E op d (wpo E O l Q)) (lI d (wpo E O l Q)) tm h:=by
 simp only[wpo,dL,bf,sx,cr,lI]
 cases hj:(O[j]?).bind (·.dst) with
 |none=>simp[undef]
 | some d' =>
   simp only
   cases hv:aj tm d' with
   |bool c=>cases c<;>cases b<;>simp
   |_=>simp
theorem Fm{A B:bl}:dL (.bool true) true A B tm h=A tm h:=by simp[dL]
theorem Fq{A B:bl}:dL (.bool false) false A B tm h=A tm h:=by simp[dL]
theorem Fo{A B:bl}:dL (.bool true) false A B tm h=B tm h:=by simp[dL]
theorem Fp{A B:bl}:dL (.bool false) true A B tm h=B tm h:=by simp[dL]
theorem Fi{d:Nat}{R:bl}:dS tm (some d) R v h=R (tm.set d (some v)) h:=rfl
theorem Fj{R:bl}:dS tm none R v h=R tm h:=rfl
theorem AG{d:Nat}{R:bl}:lI (some d) R tm h=R (tm.set d (some undef)) h:=rfl
theorem AH{R:bl}:lI none R tm h=R tm h:=rfl
theorem xy{t d:Nat}:aj (tm.set d (some v)) t=if d=t then v else aj tm t:=by exact bZ _ _ _ _
theorem Jn{t:Nat}:opd tm (.tmp t)=aj tm t:=rfl
theorem Fb:opd tm (.const v)=v:=rfl
theorem Ht{f:Nat}:opd tm (.func f)=.func (.func f) #[] #[]:=rfl
theorem Bp{g:Nat}:opd tm (.global g)=.pointer (some ⟨g,0,none⟩):=rfl
theorem BD{K:Value->ag->Prop}:xm E rs K .ret tm h=∃l,cW E ⟨tm,h⟩ rs=some l/\K (jU l) h:=rfl
theorem uQ{K:Value->ag->Prop}:xm E rs K .normal tm h=∃l,cW E ⟨tm,h⟩ rs=some l/\K (jU l) h:=rfl
theorem mQ{α:Type}(x y:Option α):∀(p:List Bool) (t:Tr α),Tr.ni y p (Tr.ni x p t)=Tr.ni y p t
 |[],t=>by cases t<;>rfl
 | b::p,t=>by
   cases t with
   |leaf=>cases b<;>simp[Tr.ni,mQ x y p]
   |node v l r=>cases b<;>simp[Tr.ni,mQ x y p]
theorem tL:(h.push o).put h.next o'=h.push o':=by simp only[ag.put,ag.push,Tr.set,mQ]
theorem Jl{b:Nat}:(h.put b o).put b o'=h.put b o':=by simp only[ag.put,Tr.set,mQ]
theorem IB:jU [v]=v:=rfl
theorem F8:jU []=.tuple #[]:=rfl
theorem IA:jU [v,w]=.tuple #[v,w]:=rfl
theorem Cb{x:Value}:jU [v,w,x]=.tuple #[v,w,x]:=rfl
theorem F9{x y:Value}:jU [v,w,x,y]=.tuple #[v,w,x,y]:=rfl
theorem Gt{x:Operand}{R:bl}:cr E (.move x) d R tm h↔R (du tm d (opd tm x)) h:=by simp[cr,dT,kindOf,cu,dS]
theorem AM{x:Operand}{R:bl}:cr E (.assign x) d R tm h↔R (du tm d (opd tm x)) h:=by simp[cr,dT,kindOf,cu,dS]
def bY(o:Option Value)(d:Option Nat)(R:bl):bl:=λtm h=>∃v,o=some v/\R (du tm d v) h
theorem ab{R:bl}:bY (some v) d R tm h↔R (du tm d v) h:=by simp[bY]
def IF:Value->Option Value
 |.pointer (some a)=>some (.pointer (some a))
 |.func (.func f) x y=>some (.func (.func f) x y)
 |.iface t v=>some (.iface t v)
 |_=>none
def ID(c a b:Value):Option Value :=
 match c with
 |.bool t=>some (if t then a else b)
 |_=>none
theorem Gs{c x:Operand}{R:bl}:cr E (.pick c x y) d R tm h=bY (ID (opd tm c) (opd tm x) (opd tm y)) d R tm h:=by simp only[cr,dT,kindOf,cu,dS,bY,ID];rfl
theorem wF{x:Operand}{R:bl}:cr E (.nilCheck x) d R tm h=bY (IF (opd tm x)) d R tm h:=by simp only[cr,dT,kindOf,cu,dS,bY,IF];rfl
theorem Du{op:BinOp}{t':TypeId}{x:Operand}{R:bl}:cr E (.binOp op t x y t') d R tm h=bY (ye E.P (isConst x||isConst y) op t (opd tm x) (opd tm y)) d R tm h:=by simp only[cr,dT,kindOf,cu,dS,bY]
theorem Gr{op:UnOp}{x:Operand}{R:bl}:cr E (.unOp op t x) d R tm h=bY (aun op (opd tm x)) d R tm h:=by simp only[cr,dT,kindOf,cu,dS,bY]
theorem oY{x:Operand}{R:bl}:cr E (.makeInterface t x) d R tm h=bY (match E.P.underlying t with
 |some (.interface _)=>none
 |some _=>some (.iface t (opd tm x))
 |none=>none) d R tm h:=by
 simp only[cr,dT,kindOf,cu,dS,bY];rfl
theorem wG{x y:Array Operand}{R:bl}:cr E (.makeFunc (.func f) x y) d R tm h=bY (some (.func (.func f) (x.toList.map (opd tm)).toArray (y.toList.map (opd tm)).toArray)) d R tm h:=by simp only[cr,dT,kindOf,cu,dS,bY]
theorem Dt{R:bl}:cr E (.build t ps) d R tm h=bY (cZ E.P t (ps.toList.map λp=>(p.1,opd tm p.2))) d R tm h:=by simp only[cr,dT,kindOf,cu,dS,bY]
theorem AJ{x m:Operand}{lo:Option Operand}{R:bl}:cr E (.slice t x lo hi (some m)) d R tm h=bY (Ca E.P t (opd tm x) (lo.map (opd tm)) (hi.map (opd tm)) (opd tm m)) d R tm h:=by simp only[cr,dT,kindOf,cu,dS,bY]
theorem Dq{x:Operand}{lo:Option Operand}{R:bl}:cr E (.slice t x lo hi none) d R tm h=bY (asl E.P t (opd tm x) (lo.map (opd tm)) (hi.map (opd tm))) d R tm h:=by simp only[cr,dT,kindOf,cu,dS,bY]
theorem uJ{x:Operand}{f:Nat}{R:bl}:cr E (.fieldAddr t x f) d R tm h=bY (gp E.P t (opd tm x) f) d R tm h:=by simp only[cr,dT,kindOf,cu,dS,bY]
theorem uI{x i:Operand}{R:bl}:cr E (.indexAddr t x i) d R tm h=bY (cA E.P t (opd tm x) (opd tm i)) d R tm h:=by simp only[cr,dT,kindOf,cu,dS,bY]
theorem Dr{x i:Operand}{R:bl}:cr E (.index t x i) d R tm h=bY (oP E.P t (opd tm x) (opd tm i)) d R tm h:=by simp only[cr,dT,kindOf,cu,dS,bY]
theorem ym{x:Operand}{R:bl}:cr E (.extract x i) d R tm h=bY (gY (opd tm x) i) d R tm h:=by simp only[cr,dT,kindOf,cu,dS,bY]
theorem IZ{asx:Array Operand}{R:bl}:cr E (.call ⟨.builtin .max,asx,ts⟩) d R tm h=bY (amm FG (asx.toList.map (opd tm))) d R tm h:=by simp only[cr,dT,kindOf,cu,dS,bY]
theorem IY{asx:Array Operand}{R:bl}:cr E (.call ⟨.builtin .min,asx,ts⟩) d R tm h=bY (amm FF (asx.toList.map (opd tm))) d R tm h:=by simp only[cr,dT,kindOf,cu,dS,bY]
theorem I0{x:Operand}{R:bl}(hu:E.P.underlying t=some u)(hm:(match u with| .map _ _=>false|_=>true)=true):cr E (.call ⟨.builtin .len,#[x],#[t]⟩) d R tm h=bY (re E.P t (opd tm x)) d R tm h:=by cases u<;>first|(simp only[cr,dT,kindOf,cu,dS,bY,hu];done)|cases hm
theorem Gv{x:Operand}{R:bl}(hu:E.P.underlying t=some (.map kt et)):cr E (.call ⟨.builtin .len,#[x],#[t]⟩) d R tm h=bY (mI E h t (opd tm x)) d R tm h:=by simp only[cr,dT,kindOf,cC,dS,bY,hu]
theorem yo{s:TypeId}{x:Operand}{R:bl}(hu:E.P.underlying s=some u)(hm:(match u with| .slice _=>false|_=>true)=true):cr E (.convert s t x) d R tm h=bY (sq E.P s t (opd tm x)) d R tm h:=by cases u<;>first|(simp only[cr,dT,kindOf,cu,dS,bY,hu];done)|cases hm
theorem wH{s e:TypeId}{x:Operand}{R:bl}(hu:E.P.underlying s=some (.slice e)):cr E (.convert s t x) d R tm h=bY (cC E h (opd tm) (.convert s t x)) d R tm h:=by simp only[cr,dT,kindOf,dS,bY,hu]
theorem Gu{x:Operand}{R:bl}:cr E (.load t x) d R tm h=bY (kd E h t (opd tm x)) d R tm h:=by simp only[cr,dT,kindOf,cC,dS,bY]
theorem AK{x i:Operand}{ok:Bool}{R:bl}:cr E (.lookup t x i ok) d R tm h=bY (fe E h t (opd tm x) (opd tm i) ok) d R tm h:=by simp only[cr,dT,kindOf,cC,dS,bY]
def iX(o:Option ((Nat->Value)×bz))(d:Option Nat)(R:bl):bl:=λtm h=>∃p,o=some p/\R (du tm d (p.1 h.next)) (h.push p.2)
theorem aR{p:Nat->Value}{R:bl}:iX (some (p,o)) d R tm h↔R (du tm d (p h.next)) (h.push o):=by simp[iX]
theorem Dv{R:bl}:cr E (.alloc t) d R tm h=iX (bW E.P (opd tm) (.alloc t)) d R tm h:=by simp only[cr,dT,kindOf,dS,iX]
theorem I2{x:Operand}{R:bl}:cr E (.box t x) d R tm h↔R (du tm d (.pointer (some ⟨h.next,0,none⟩))) (h.push (.cells (aM (opd tm x)) t true)):=by simp[cr,dT,kindOf,dS,bW]
def mL(P:Program)(t:TypeId)(len:Nat)(parts:List (Nat×Value)):Option ((Nat->Value)×bz) :=
 match P.underlying t with
 | some (.slice e) =>
   match asz P e,dw P e with
   | some (size+1),some z =>
     if len*(size+1)<=16777216/\(aM z).length=size+1 then
      (dP (λi=>some (i*(size+1),size+1)) (bR len (aM z)) parts).map λl =>
       (λb=>.slice (some ⟨b,0,none⟩) len len,.cells l e true)
     else none
   |_,_=>none
 |_=>none
def amk(P:Program)(t:TypeId)(l c:Value):Option ((Nat->Value)×bz) :=
 match P.underlying t,l,c with
 | some (.slice e),.int _ l,.int _ c =>
   match P.info? e,dw P e with
   | some i,some z =>
     if 0<=l/\l<=c/\c<=9223372036854775807/\(i.bytes:Int)*c<=281474976710656/\(aM z).length=i.size/\0<i.size then
      some (λb=>.slice (some ⟨b,0,none⟩) l.toNat c.toNat,.cells (bR c.toNat (aM z)) e true)
     else none
   |_,_=>none
 |_,_,_=>none
theorem ti{n:Nat}{R:bl}:cr E (.buildSlice t n ps) d R tm h=iX (mL E.P t n (ps.toList.map λp=>(p.1,opd tm p.2))) d R tm h:=by simp only[cr,dT,kindOf,dS,iX];rfl
theorem uH{x:Operand}{R:bl}:cr E (.makeSlice t x y) d R tm h=iX (amk E.P t (opd tm x) (opd tm y)) d R tm h:=by simp only[cr,dT,kindOf,dS,iX];rfl
theorem yk{R:bl}:cr E (.makeMap t none) d R tm h↔R (du tm d (.map (some h.next))) (h.push (.map [] 0)):=by simp[cr,dT,kindOf,dS,bW]
def kwr(o:Option ag)(v:Value)(d:Option Nat)(R:bl):bl:=λtm _=>∃h',o=some h'/\R (du tm d v) h'
theorem ey{R:bl}:kwr (some h') v d R tm h↔R (du tm d v) h':=by simp[kwr]
def kwv(o:Option (Value×ag))(d:Option Nat)(R:bl):bl:=λtm _=>∃p,o=some p/\R (du tm d p.1) p.2
theorem zH{R:bl}:kwv (some (v,h')) d R tm h↔R (du tm d v) h':=by simp[kwv]
theorem Dp{a x:Operand}{R:bl}:cr E (.store t a x) d R tm h↔kwr (jB E h t (opd tm a) (opd tm x)) undef d R tm h:=by
 simp only[cr,dT,kindOf,iE,dS,kwr,Option.map_eq_some_iff];constructor
 ·rintro⟨r,⟨h',h1,rfl⟩,h2⟩;exact⟨h',h1,h2⟩
 ·rintro⟨h',h1,h2⟩;exact⟨_,⟨h',h1,rfl⟩,h2⟩
theorem uG{m k x:Operand}{R:bl}:cr E (.mapUpdate t m k x) d R tm h↔kwr (eK E h t (opd tm m) (opd tm k) (opd tm x)) undef d R tm h:=by
 simp only[cr,dT,kindOf,iE,dS,kwr,Option.map_eq_some_iff];constructor
 ·rintro⟨r,⟨h',h1,rfl⟩,h2⟩;exact⟨h',h1,h2⟩
 ·rintro⟨h',h1,h2⟩;exact⟨_,⟨h',h1,rfl⟩,h2⟩
theorem th{x:Operand}{R:bl}(hu:E.P.underlying t=some (.map kt et)):cr E (.range t x) d R tm h↔kwv (jL E h t (opd tm x)) d R tm h:=by
 simp only[cr,dT,kindOf,hu,iE,dS,kwv,Option.map_eq_some_iff];constructor
 ·rintro⟨r,⟨h',h1,rfl⟩,h2⟩;exact⟨h',h1,h2⟩
 ·rintro⟨h',h1,h2⟩;exact⟨_,⟨h',h1,rfl⟩,h2⟩
theorem AN{s x:Operand}{t1:TypeId}{R:bl}:cr E (.call ⟨.builtin .append,#[s,x],#[t,t1]⟩) d R tm h↔kwv (cI E h t t1 (opd tm s) (opd tm x)) d R tm h:=by
 simp only[cr,dT,kindOf,iE,dS,kwv,Option.map_eq_some_iff];constructor
 ·rintro⟨r,⟨h',h1,rfl⟩,h2⟩;exact⟨h',h1,h2⟩
 ·rintro⟨h',h1,h2⟩;exact⟨_,⟨h',h1,rfl⟩,h2⟩
theorem Gw{asx:Array Operand}{R:bl}:cr E (.call ⟨.value (.func f),asx,ts⟩) d R tm h↔af E f (asx.toList.map (opd tm)) h (dS tm d R):=by simp[cr,dT,kindOf,iE,opd]
def HP(E:Env)(v:Value)(asx:List Value)(d:Option Nat)(R:bl):bl:=λtm h =>
 match v with
 |.func (.func g) x y=>af E g (x.toList++asx++y.toList) h (dS tm d R)
 |_=>False
theorem Ds{x:Nat}{asx:Array Operand}{R:bl}:cr E (.call ⟨.value (.tmp x),asx,ts⟩) d R tm h↔HP E (aj tm x) (asx.toList.map (opd tm)) d R tm h:=by
 simp only[cr,dT,kindOf,iE,opd,HP]
 cases hv:aj tm x with
 |func f y z=>cases f<;>simp
 |_=>simp
theorem ju{g:FuncId}{x y:Array Value}{asx:List Value}{R:bl}:HP E (.func (.func g) x y) asx d R tm h=af E g (x.toList++asx++y.toList) h (dS tm d R):=rfl
end
structure WF(E:Env)(h:ag):Prop where
 base:E.base<=h.next
 live:∀b o,h.get b=some o->E.base<=b/\b<h.next
structure gu(h h':ag):Prop where
 get:∀b o,h.get b=some o->h'.get b=some o
 next:h.next<=h'.next
theorem gu.refl(h:ag):gu h h:=⟨λ_ _ x=>x,Nat.le_refl _⟩
theorem gu.trans{h:ag}(a:gu h h1)(b:gu h1 h2):gu h h2:=⟨λx o y=>b.get x o (a.get x o y),Nat.le_trans a.next b.next⟩
theorem gu.push{E:Env}{h h1:ag}{o:bz}(hw:WF E h1)(a:gu h h1):gu h (h1.push o):=⟨λx p y=>by
 have:=a.get x p y
 rw[ah,if_neg (by have:=(hw.live x p this).2;omega)];exact this,by have:=a.next;simp;omega⟩
theorem WF.push{E:Env}{h:ag}(hw:WF E h)(o:bz):WF E (h.push o):=⟨by have:=hw.base;simp;omega,λb p hb=>by
 rw[ah]at hb;by_cases e:h.next=b
 ·subst e;exact⟨hw.base,Nw⟩
 ·rw[if_neg e]at hb;obtain⟨h1,h2⟩:=hw.live b p hb
  exact⟨h1,Nu⟩⟩
theorem WF.put{E:Env}{h:ag}(hw:WF E h){b:Nat}{o o':bz}(hb:h.get b=some o'):WF E (h.put b o):=⟨hw.base,λj p hj=>by
 rw[ai]at hj;by_cases e:b=j
 ·subst e;exact hw.live _ _ hb
 ·rw[if_neg e]at hj;exact hw.live _ _ hj⟩
theorem WF.kill{E:Env}{h:ag}(hw:WF E h){b:Nat}:WF E (h.kill b):=⟨hw.base,λj p hj=>by
 rw[dC]at hj;by_cases e:b=j
 ·simp[e]at hj
 ·rw[if_neg e]at hj;exact hw.live _ _ hj⟩
theorem WF.nb{E:Env}{h:ag}(hw:WF E h)(k:Nat):(h.next+k<E.base)=False:=by have:=hw.base;simp;omega
theorem WF.nb0{E:Env}{h:ag}(hw:WF E h):(h.next<E.base)=False:=by have:=hw.base;simp;omega
theorem WF.ne{E:Env}{h:ag}(hw:WF E h){b:Nat}{o:bz}(hb:h.get b=some o):(h.next=b)=False:=by have:=(hw.live b o hb).2;simp;omega
theorem WF.nlt{E:Env}{h:ag}(hw:WF E h){b:Nat}{o:bz}(hb:h.get b=some o):(b<E.base)=False:=by have:=(hw.live b o hb).1;simp;omega
abbrev Mem:=Nat->Option (List Value)
def eo(E:Env)(G:Mem)(a:Addr)(n:Nat):Option (List Value) :=
 if a.block<E.base then cg E ⟨0,.leaf⟩ a n else
 match a.spot with
 |some _=>none
 | none=>match G a.block with
   |some c=>if a.off+n<=c.length then some ((c.drop a.off).take n) else none
   |none=>none
def Frz(_E:Env)(G:Mem)(h:ag):Prop:=∀b c,G b=some c->∃e fx,h.get b=some (.cells c e fx)
def Sub(G G':Mem):Prop:=∀b c,G b=some c->G' b=some c
theorem Sub.refl(G:Mem):Sub G G:=λ_ _ h=>h
theorem Sub.trans{G G1 G2:Mem}(a:Sub G G1)(b:Sub G1 G2):Sub G G2:=λx c h=>b x c (a x c h)
theorem Frz.aK{E:Env}{G:Mem}{h h':ag}(f:Frz E G h)(k:gu h h'):Frz E G h':=λb c hb=>by
 obtain⟨e,fx,hh⟩:=f b c hb;exact⟨e,fx,k.get _ _ hh⟩
theorem Frz.none(E:Env)(h:ag):Frz E (λ_=>Option.none) h:=λ_ _ h=>by cases h
theorem fX{E:Env}{G:Mem}{h:ag}(f:Frz E G h){n:Nat}{l:List Value}(hg:eo E G a n=some l):cg E h a n=some l:=by
 unfold eo at hg;split at hg
 ·rename_i hb;unfold cg at hg|-;split
  ·rename_i hs;simp[hs]at hg
  ·rename_i hs;simp only[hs,if_pos hb]at hg|-;exact hg
 ·rename_i hb;split at hg
  ·cases hg
  ·rename_i hs;unfold cg;simp only[hs,if_neg hb];split at hg
   ·rename_i c hc;obtain⟨e,fx,hh⟩:=f _ _ hc;simp only[hh];exact hg
   ·cases hg
theorem tX{E:Env}{G G':Mem}(s:Sub G G'){n:Nat}{l:List Value}(hg:eo E G a n=some l):eo E G' a n=some l:=by
 unfold eo at hg|-;split
 ·rename_i hb;rw[if_pos hb]at hg;exact hg
 ·rename_i hb;rw[if_neg hb]at hg;split at hg
  ·cases hg
  ·split at hg
   ·rename_i c hc;simp only[s _ _ hc];exact hg
   ·cases hg
theorem rP{E:Env}{G:Mem}{n:Nat}{l:List Value}(hg:eo E G a n=some l)(h:i+m<=n):eo E G ⟨a.block,a.off+i,none⟩ m=some ((l.drop i).take m):=by
 have key:∀c:List Value,a.off+n<=c.length->(c.drop (a.off+i)).take m=(((c.drop a.off).take n).drop i).take m:=by intro c hc;rw[List.drop_take,List.drop_drop,List.take_take,Nat.min_eq_left Nr]
 unfold eo at hg|-;split at hg
 ·rename_i hb;simp only[if_pos hb];unfold cg at hg|-;split at hg
  ·cases hg
  ·simp only[if_pos hb]at hg|-;split at hg
   ·rename_i c e fr hro;split at hg
    ·rename_i hc;injection hg with hg;subst hg;have hk:=key c.toList (by simpa using hc.1);rw[<-List.map_drop,<-List.map_take,<-hk,if_pos];refine⟨Nr,?_⟩;rw[hk,List.all_eq_true];intro v hv;exact(List.all_eq_true.1 hc.2) v (List.mem_of_mem_drop (List.mem_of_mem_take hv))
    ·cases hg
   ·cases hg
 ·rename_i hb;simp only[if_neg hb];split at hg
  ·cases hg
  ·split at hg
   ·rename_i c hc;split at hg
    ·rename_i hle;injection hg with hg;subst hg;rw[if_pos Nr,key c hle]
    ·cases hg
   ·cases hg
theorem tY{E:Env}{G:Mem}{n:Nat}{l:List Value}(hg:eo E G a n=some l):l.length=n/\a.spot=none:=by
 unfold eo at hg;split at hg
 ·rename_i hb;unfold cg at hg;split at hg
  ·cases hg
  ·rename_i hs;simp only[if_pos hb]at hg;split at hg
   ·rename_i c e fr hro;split at hg
    ·rename_i hc;injection hg with hg;subst hg;have:=hc.1;exact⟨Nu,hs⟩
    ·cases hg
   ·cases hg
 ·split at hg
  ·cases hg
  ·rename_i hs;split at hg
   ·split at hg
    ·injection hg with hg;subst hg;exact⟨Nu,hs⟩
    ·cases hg
   ·cases hg
def Sl(E:Env)(G:Mem)(z n:Nat)(cs:List Value)(v:Value):Prop :=
 ∃a c,v=.slice a n c/\n<=c/\c<=9223372036854775807/\((a=none->c=0)/\∀b,a=some b->b.block<E.base\/∃g,G b.block=some g)/\((n=0/\cs=[])\/∃b,a=some b/\eo E G b (n*z)=some cs)
theorem Sl.sub{E:Env}{G G':Mem}(s:Sub G G'){z n:Nat}{cs:List Value}{v:Value}(h:Sl E G z n cs v):Sl E G' z n cs v:=by
 obtain⟨a,c,h1,h2,h3,h4,h5⟩:=h;refine⟨a,c,h1,h2,h3,⟨h4.1,λb e=>(h4.2 b e).imp id λ⟨g,hg⟩=>⟨g,s _ _ hg⟩⟩,?_⟩;rcases h5 with h5|⟨b,h5,h6⟩
 ·exact .inl h5
 ·exact .inr ⟨b,h5,tX s h6⟩
structure gq(lo:Nat)(h h':ag):Prop where
 get:∀b o,b<lo->h.get b=some o->h'.get b=some o
 next:h.next<=h'.next
theorem gq.refl(lo:Nat)(h:ag):gq lo h h:=⟨λ_ _ _ x=>x,Nat.le_refl _⟩
theorem gq.trans{lo:Nat}{h:ag}(a:gq lo h h1)(b:gq lo h1 h2):gq lo h h2:=⟨λx o l y=>b.get x o l (a.get x o l y),Nat.le_trans a.next b.next⟩
theorem gu.lo{lo:Nat}{h h':ag}(k:gu h h'):gq lo h h':=⟨λb o _ x=>k.get b o x,k.next⟩
theorem gq.aK{E:Env}{lo:Nat}{h h':ag}(hw:WF E h)(k:gq lo h h')(hl:h.next<=lo):gu h h':=⟨λb o x=>k.get b o (by have:=(hw.live b o x).2;omega) x,k.next⟩
theorem gq.push{lo:Nat}{h h1:ag}{o:bz}(a:gq lo h h1)(hl:lo<=h1.next):gq lo h (h1.push o):=⟨λx p l y=>by
 rw[ah,if_neg Nr];exact a.get x p l y,by have:=a.next;simp;omega⟩
def Own(h:ag)(e z lo n:Nat)(cs:List Value)(v:Value):Prop :=
 (v=.slice none 0 0/\n=0/\cs=[])\/∃b cap rest fx,v=.slice (some ⟨b,0,none⟩) n cap/\h.get b=some (.cells (cs++rest) e fx)/\cs.length=n*z/\rest.length=(cap-n)*z/\n<=cap/\lo<=b/\cap<=9223372036854775807
theorem Own.nil(h:ag)(e z lo:Nat):Own h e z lo 0 [] (.slice none 0 0):=.inl ⟨rfl,rfl,rfl⟩
theorem tu{rest:List Value}(h:xs.length<=rest.length):bJ (cs++rest) cs.length xs=(cs++xs)++rest.drop xs.length:=by unfold bJ;rw[List.take_left,List.drop_length_add_append]
structure jW(E:Env)(t e z by_:Nat):Prop where
 und:E.P.underlying t=some (.slice e)
 info:(E.P.info? e).map (λi=>(i.size,i.bytes))=some (z,by_)
 zero:∃v,dw E.P e=some v/\(aM v).length=z
 pos:0<z
theorem Ce{E:Env}{h:ag}{t e z lo n m:Nat}{xs:List Value}{x:Value}(T:jW E t e z by_)(hW:WF E h)(hlo:lo<=h.next)(H:Own h e z lo n cs v)
 (hm:iZ x=some m) (h0:0<m) (hx:lj E h z x m=some xs) (hl:xs.length=m*z) (ho:xs.all Value.oneCell'=true)
 (hb:(n+m)*by_<=140737488355328) (hn:n+m<=9223372036854775807) :
 ∃v' h',cI E h t t v x=some (v',h')/\Own h' e z lo (n+m) (cs++xs) v'/\gq lo h h'/\WF E h' /\
  (∀b o,h.get b=some o->(∀c,∀a k,v=.slice (some a) k c->a.block≠b)->h'.get b=some o):=by
 obtain⟨i,hi,hiz⟩:∃i,E.P.info? e=some i/\(i.size,i.bytes)=(z,by_):=by have:=T.info;rw[Option.map_eq_some_iff]at this;exact this
 injection hiz with hz1 hz2;subst hz1;subst hz2;obtain⟨zv,hzv,hzl⟩:=T.zero;have hpos:=T.pos;have main:∀base sCap,v=.slice base n sCap->cI E h t t v x=eA E h e i base n sCap m x:=by intro base sCap hv;subst hv;simp only[cI,T.und,hm,kT,Bool.false_eq_true,if_false,hi]
 have none':∀base sCap,n+m>sCap->eA E h e i base n sCap m x=ib E h e i base n sCap m xs:=by intro base sCap hc;unfold eA;rw[if_neg Nr];simp only[hx];rw[if_neg Nr]
 rcases H with⟨rfl,rfl,rfl⟩|⟨b,cap,rest,fx,rfl,hg,hc1,hc2,hc3,hc4,hc5⟩
 ·refine⟨_,_,?_,.inr ⟨h.next,m,[],false,rfl,?_,by simpa using hl,Nw,Nr,hlo,Nr⟩,(gq.refl lo h).push (o:=.cells xs e false) hlo,hW.push _,?_⟩
  ·rw[main none 0 rfl,none' none 0 Nr];unfold ib;rw[if_pos ⟨Nr,hl,hpos,Nr,ho⟩];simp only[hzv];rw[if_pos hzl];simp[fE]
  ·simp[ah]
  ·intro j o hj _;rw[ah,if_neg Pl];exact hj
 ·by_cases hroom:n+m<=cap
  ·have hlen:cs.length+xs.length<=(cs++rest).length:=by simp only[List.length_append];rw[hc2,hl];have:m*i.size<=(cap-n)*i.size:=Nat.mul_le_mul_right _ Nr;omega
   refine⟨.slice (some ⟨b,0,none⟩) (n+m) cap,h.put b (.cells ((cs++xs)++rest.drop xs.length) e fx),?_,.inr ⟨b,cap,rest.drop xs.length,fx,rfl,?_,?_,?_,hroom,hc4,hc5⟩,⟨?_,Nw⟩,hW.put hg,?_⟩
   ·rw[main _ cap rfl];unfold eA;rw[if_neg Nr];simp only[hx];rw[if_pos hroom];simp only[fQ,Nat.zero_add,bQ,hg];rw[if_pos ⟨by rw[<-hc1];exact hlen,ho⟩];simp only[Option.map_some]
    rw[<-hc1,tu (by
     have:m*i.size<=(cap-n)*i.size:=Nat.mul_le_mul_right _ Nr
     omega)]
   ·rw[ai,if_pos rfl,List.append_assoc]
   ·simp only[List.length_append,hc1,hl];rw[Nat.add_mul]
   ·rw[List.length_drop,hc2,hl,<-Nat.sub_mul];congr 1;omega
   ·intro j o hj hgj;rw[ai,if_neg Nr];exact hgj
   ·intro j o hgj hne;rw[ai,if_neg (hne cap ⟨b,0,none⟩ n rfl)];exact hgj
  ·have hd:(List.drop 0 (cs++rest)).take (n*i.size)=cs:=by rw[List.drop_zero,<-hc1,List.take_left]
   have hgr:∀(h2:ag),h2.next=h.next->ib E h e i (some ⟨b,0,none⟩) n cap m xs=(if fx then some (.slice (some (fE h)) (n+m) (n+m),h.push (.cells (cs++xs) e false)) else some (.slice (some (fE h)) (n+m) (n+m),(h.kill b).push (.cells (cs++xs) e false))):=by intro _ _;unfold ib;rw[if_pos ⟨hb,hl,hpos,Nr,ho⟩];simp only[hzv];rw[if_pos hzl];simp only[hg,hd,reduceCtorEq,false_and,if_false];rw[if_pos ⟨trivial,by simp only[lF,List.length_append,hc1,hc2];rw[Nat.zero_add,<-Nat.add_mul];congr 1;omega,Nw,Nr⟩]
   have hg2:=hgr h rfl
   cases fx with
   | true =>
     refine⟨_,_,by rw[main _ cap rfl,none' _ cap (by omega),hg2];rfl,.inr ⟨h.next,n+m,[],false,rfl,?_,?_,Nw,Nr,hlo,hn⟩,(gq.refl lo h).push hlo,hW.push _,?_⟩
     ·simp[ah]
     ·simp only[List.length_append,hc1,hl];rw[Nat.add_mul]
     ·intro j o hj _;rw[ah,if_neg Pl];exact hj
   | false =>
     refine⟨_,_,by rw[main _ cap rfl,none' _ cap (by omega),hg2];rfl,.inr ⟨h.next,n+m,[],false,rfl,?_,?_,Nw,Nr,hlo,hn⟩,⟨?_,Nw⟩,(hW.kill (b:=b)).push _,?_⟩
     ·simp[ah]
     ·simp only[List.length_append,hc1,hl];rw[Nat.add_mul]
     ·intro j o hj hgj;rw[ah,gw,if_neg Nr,dC,if_neg Nr];exact hgj
     ·intro j o hj hne;rw[ah,gw,if_neg Pl,dC,if_neg (hne cap ⟨b,0,none⟩ n rfl)];exact hj
theorem Own.aK{h h':ag}{e z lo n:Nat}{cs:List Value}{v:Value}(H:Own h e z lo n cs v)(k:gu h h'):Own h' e z lo n cs v:=by
 rcases H with H|⟨b,cap,rest,fx,h1,h2,h3⟩
 ·exact .inl H
 ·exact .inr ⟨b,cap,rest,fx,h1,k.get _ _ h2,h3⟩
theorem fL{E:Env}{t e z:Nat}(T:jW E t e z by_)(hz:∃v,dw E.P e=some v/\aM v=zs){k k':IntKind}{l c:Int}(h0:0<=l)(h1:l<=c)(h2:(by_:Int)*c<=281474976710656)(h3:c<=9223372036854775807) :
 amk E.P t (.int k l) (.int k' c)=some (λb=>.slice (some ⟨b,0,none⟩) l.toNat c.toNat,.cells (bR c.toNat zs) e true):=by
 obtain⟨i,hi,hiz⟩:∃i,E.P.info? e=some i/\(i.size,i.bytes)=(z,by_):=by have:=T.info;rw[Option.map_eq_some_iff]at this;exact this
 injection hiz with hz1 hz2;subst hz1;subst hz2;obtain⟨v,hv,rfl⟩:=hz;obtain⟨v',hv',hl⟩:=T.zero;rw[hv]at hv';injection hv' with hv';subst hv';simp only[amk,T.und,hi,hv];rw[if_pos ⟨h0,h1,h3,h2,hl,T.pos⟩]
theorem ka(n:Nat)(z:List Value):(bR n z).length=n*z.length:=by
 induction n with
 |zero=>simp[bR]
 |succ n ih=>simp[bR,ih,Nat.add_mul];omega
theorem Own.made{h:ag}{e z lo c:Nat}{zs:List Value}(hz:zs.length=z)(hl:lo<=h.next)(hc:c<=9223372036854775807):Own (h.push (.cells (bR c zs) e true)) e z lo 0 [] (.slice (some ⟨h.next,0,none⟩) 0 c) :=
 .inr ⟨h.next,c,bR c zs,true,rfl,by simp[ah],Nw,by rw[ka,hz];simp,Nr,hl,hc⟩
theorem ax{E:Env}{O:List Oper}{Q:bl}{tm:Tr Value}{h:ag}(hc:calm E.P O=true)(H:wpo E O O Q tm h):aF E O Q tm h:=tk (by
 unfold calm at hc;simp only[Bool.and_eq_true]at hc
 exact Cz hc.1.1 hc.1.2) (.inl ⟨hc,H⟩)
theorem fC{E:Env}{t e z:Nat}(T:jW E t e z by_)(hl:(aM v).length=z)(hz:z<=16777216):mL E.P t 1 [(0,v)]=some (λb=>.slice (some ⟨b,0,none⟩) 1 1,.cells (aM v) e true):=by
 obtain⟨i,hi,hiz⟩:∃i,E.P.info? e=some i/\(i.size,i.bytes)=(z,by_):=by have:=T.info;rw[Option.map_eq_some_iff]at this;exact this
 injection hiz with hz1 hz2;subst hz1;subst hz2;obtain⟨zv,hzv,hzl⟩:=T.zero;obtain⟨z',hz'⟩:∃z',i.size=z'+1:=⟨i.size-1,by have:=T.pos;omega⟩;have hs:asz E.P e=some (z'+1):=by simp[asz,hi,hz']
 simp only[mL,T.und,hs,hzv];rw[if_pos ⟨Nr,by rw[hzl,hz']⟩];have harep:bR 1 (aM zv)=aM zv:=by simp[bR]
 simp only[dP,harep,Option.map_eq_some_iff];rw[if_neg (by rw[hl,hzl,hz'];simp)];have:bJ (aM zv) (0*(z'+1)) (aM v)=aM v:=by unfold bJ;simp[hl,hzl]
 simp only[this];exact⟨_,rfl,rfl⟩
structure Ext(E:Env)(G:Mem)(h:ag)(G':Mem)(h':ag):Prop where
 sub:Sub G G'
 frz:Frz E G' h'
 new:∀b c,G' b=some c->G b=some c\/h.next<=b
 aK:gu h h'
 wf:WF E h'
theorem Ext.same{E:Env}{G:Mem}{h h':ag}(hG:Frz E G h)(k:gu h h')(w:WF E h'):Ext E G h G h':=⟨Sub.refl _,hG.aK k,λb c x=>.inl x,k,w⟩
theorem Own.freeze{E:Env}{G:Mem}{h:ag}{e z lo n:Nat}(hW:WF E h)(hG:Frz E G h)(hl:h.next<=lo)(k:gu h h')(hw:WF E h')(H:Own h' e z lo n cs v):∃G',Sl E G' z n cs v/\Ext E G h G' h':=by
 have hlt:∀b c,G b=some c->b<h.next:=λb c hb=>by
  obtain⟨e',fx,hh⟩:=hG b c hb;exact(hW.live _ _ hh).2
 rcases H with⟨rfl,rfl,rfl⟩|⟨b,cap,rest,fx,rfl,hg,hc1,hc2,hc3,hc4,hc5⟩
 ·exact⟨G,⟨none,0,rfl,Nr,Nr,⟨λ_=>rfl,λ_ x=>Oy⟩,.inl ⟨rfl,rfl⟩⟩,Ext.same hG k hw⟩
 ·refine⟨λj=>if j=b then some (cs++rest) else G j,⟨some ⟨b,0,none⟩,cap,rfl,hc3,hc5,⟨λx=>Oy,λb' e=>.inr ⟨cs++rest,On⟩⟩,.inr ⟨_,rfl,?_⟩⟩,?_,?_,?_,k,hw⟩
  ·unfold eo;rw[if_neg (by have:=hw.nlt hg;simpa using this)];simp only[if_true];rw[if_pos PO];simp[<-hc1]
  ·intro j c hj;show(if j=b then some (cs++rest) else G j)=some c;rw[if_neg (by have:=hlt j c hj;omega)];exact hj
  ·intro j c hj;replace hj:(if j=b then some (cs++rest) else G j)=some c:=hj;split at hj
   ·rename_i e1;subst e1;injection hj with hj;subst hj;exact⟨_,_,hg⟩
   ·exact hG.aK k j c hj
  ·intro j c hj;replace hj:(if j=b then some (cs++rest) else G j)=some c:=hj;split at hj
   ·rename_i e1;right;omega
   ·exact .inl hj
theorem bG{E:Env}{Q:cY}{tm:Tr Value}{h:ag}(I:Nat->bl)(n:Nat)(h0:I n tm h)(h1:∀n tm h,I n tm h->wpc E b (rO I n Q) tm h)(hm:gQ b=false:=by rfl):wpc E (.loop b) Q tm h:=.inl ⟨hm,I,n,h0,h1⟩
theorem Dn{E:Env}{Q:cY}{tm tm':Tr Value}{h:ag}{id:Nat}(hm:gQ b=true)(hx:E.lY b tm h=some (id,tm',h'))(hq:Q (.exit id) tm' h'):wpc E (.loop b) Q tm h:=.inr ⟨hm,id,tm',h',hx,hq⟩
theorem Sl.elem{E:Env}{G:Mem}{h:ag}(hG:Frz E G h){z n:Nat}(H:Sl E G z n cs v)(hi:i<n):∃a c,v=.slice (some a) n c/\a.spot=none/\cg E h ⟨a.block,a.off+i*z,none⟩ z=some ((cs.drop (i*z)).take z):=by
 obtain⟨a,c,rfl,_,_,_,h5⟩:=H;rcases h5 with⟨h5,_⟩|⟨b,rfl,h6⟩
 ·omega
 ·refine⟨b,c,rfl,(tY h6).2,fX hG (rP h6 ?_)⟩
  calc i*z+z=(i+1)*z:=by rw[Nat.add_mul];omega
   _<=n*z:=Nat.mul_le_mul_right _ hi
theorem Sl.slice{E:Env}{G:Mem}{z n:Nat}{cs:List Value}{v:Value}(H:Sl E G z n cs v):∃a c,v=.slice a n c/\n<=c/\c<=9223372036854775807:=by obtain⟨a,c,rfl,h1,h2,_⟩:=H;exact⟨a,c,rfl,h1,h2⟩
theorem jX{E:Env}{op:Op}{tm:Tr Value}{h:ag}{K K':Value->ag->Prop}(H:dT E op tm h K)(m:∀v h',K v h'->K' v h'):dT E op tm h K':=by
 unfold dT at H|-;split at H
 ·rename_i hk;obtain⟨v,h1,h2⟩:=H;exact⟨v,h1,m _ _ h2⟩
 ·rename_i hk;obtain⟨v,h1,h2⟩:=H;exact⟨v,h1,m _ _ h2⟩
 ·rename_i hk;obtain⟨v,h1,h2⟩:=H;exact⟨v,h1,m _ _ h2⟩
 ·rename_i hk;obtain⟨r,h1,h2⟩:=H;refine⟨r,h1,?_⟩
  cases r with
  |val v h'=>exact m _ _ h2
  |enter f args=>exact af.mono h2 m
theorem tg{E:Env}{O:List Oper}{Q Q':bl}(m:∀tm h,Q tm h->Q' tm h):∀(l:List Oper) (tm:Tr Value) (h:ag),wpo E O l Q tm h->wpo E O l Q' tm h
 |[],tm,h,H=>m tm h H
 | o::l,tm,h,H=>by
   have ih:=tg (E:=E) (O:=O) m l;simp only[wpo]at H|-;split at H
   ·exact jX H λv h'=>ih _ _
   ·exact⟨λa=>jX (H.1 a) λv h'=>ih _ _,λa=>ih _ _ (H.2 a)⟩
theorem lJ{E:Env}{O:List Oper}{Q Q':List St->Prop}(m:∀tr,Q tr->Q' tr):∀(l:List Oper) (tr:List St) (tm:Tr Value) (h:ag),wpt E O l tr Q tm h->wpt E O l tr Q' tm h
 |[],tr,tm,h,H=>m _ H
 | o::l,tr,tm,h,H=>by
   have ih:=lJ (E:=E) (O:=O) m l;simp only[wpt]at H|-;split at H
   ·exact jX H λv h'=>ih _ _ _
   ·exact⟨λa=>jX (H.1 a) λv h'=>ih _ _ _,λa=>ih _ _ _ (H.2 a)⟩
theorem AO{E:Env}{O:List Oper}{Q Q':bl}(m:∀tm h,Q tm h->Q' tm h){tm:Tr Value}{h:ag}(H:aF E O Q tm h):aF E O Q' tm h:=by
 unfold aF at H|-;rcases H with⟨a,b⟩|H
 ·exact .inl ⟨a,tg m _ _ _ b⟩
 ·exact .inr (lJ (λtr ht=>⟨ht.1,m _ _ ht.2⟩) _ _ _ _ H)
theorem oX{E:Env}:∀(c:Code) {Q Q':cY},(∀e tm h,Q e tm h->Q' e tm h)->∀(tm:Tr Value) (h:ag),wpc E c Q tm h->wpc E c Q' tm h:=by
 intro c
 induction c with
 |skip=>intro Q Q' m tm h H;exact m _ _ _ H
 |label l=>intro Q Q' m tm h H;exact m _ _ _ H
 |ret=>intro Q Q' m tm h H;exact m _ _ _ H
 |exit id=>intro Q Q' m tm h H;exact m _ _ _ H
 |goto l=>intro Q Q' m tm h H;exact m _ _ _ H
 | seq a b iha ihb =>
   intro Q Q' m tm h H;refine iha ?_ tm h H;intro e tm h he
   cases e with
   |normal=>exact ihb m _ _ he
   |ret=>exact m _ _ _ he
   |exit i=>exact m _ _ _ he
   |goto l=>exact m _ _ _ he
 | cond c x y ihx ihy =>
   intro Q Q' m tm h H;simp only[wpc,kif]at H|-;split at H
   ·exact ihx m _ _ H
   ·exact ihy m _ _ H
   ·exact H.elim
 | block id b ih =>
   intro Q Q' m tm h H;refine ih ?_ tm h H;intro e tm h he
   cases e with
   | exit i =>
     simp only[kS]at he|-;split
     ·rename_i hi;rw[if_pos hi]at he;exact m _ _ _ he
     ·rename_i hi;rw[if_neg hi]at he;exact m _ _ _ he
   |normal=>exact m _ _ _ he
   |ret=>exact m _ _ _ he
   |goto l=>exact m _ _ _ he
 | loop b ih =>
   intro Q Q' m tm h H;rcases H with⟨hm,I,n,h0,h1⟩|⟨hm,id,tm',h',hx,hq⟩
   rotate_left
   ·exact .inr ⟨hm,id,tm',h',hx,m _ _ _ hq⟩
   refine .inl ⟨hm,I,n,h0,λn tm h hI=>ih ?_ tm h (h1 n tm h hI)⟩;intro e tm h he
   cases e with
   |normal=>exact he
   |exit i=>exact m _ _ _ he
   |ret=>exact m _ _ _ he
   |goto l=>exact m _ _ _ he
 | scope b _ =>
   intro Q Q' m tm h H;obtain⟨I,n,h0,h1⟩:=H;refine⟨I,n,h0,λn c tm h hI=>(h1 n c tm h hI).mono ?_⟩;intro e tm h he
   cases e with
   |normal=>exact m _ _ _ he
   |exit i=>exact m _ _ _ he
   |ret=>exact m _ _ _ he
   |goto l=>exact he
 | region id ops draw =>
   intro Q Q' m tm h H
   cases draw with
   |false=>exact tg (m .normal) _ _ _ H
   |true=>exact AO (m .normal) H
 | rangeFunc g ps x y ihx ihy =>
   intro Q Q' m tm h H;obtain⟨hfl,it,p,hai,hps,I,n,h0,hI⟩:=H;refine⟨hfl,it,p,hai,hps,I,n,h0,λn i h hh=>?_⟩;obtain⟨o,ho,hk⟩:=hI n i h hh;refine⟨o,ho,?_⟩
   cases o with
   |none=>exact m _ _ _ hk
   | some v =>
     refine ihx ?_ _ _ hk;intro e tm1 h1 he
     cases e with
     | normal =>
       refine ihy ?_ _ _ he;intro e2 tm2 h2 he2
       cases e2 with
       |normal=>exact he2
       |ret=>exact m _ _ _ he2
       |exit i=>exact m _ _ _ he2
       |goto l=>exact m _ _ _ he2
     |ret=>exact he.elim
     |exit i=>exact he.elim
     |goto l=>exact he.elim
 |refuse _=>intro Q Q' m tm h H;exact H.elim
theorem IX{E:Env}{c:Code}{Q:cY}{tm:Tr Value}{h:ag}(P:cY)(m:∀e tm h,P e tm h->Q e tm h)(H:wpc E c P tm h):wpc E c Q tm h:=oX c m tm h H
theorem cx{x:Int}(h1:-9223372036854775808<=x)(h2:x<=9223372036854775807):IntKind.i64.wrap x=x:=Go.IntWalk.i64_in x ⟨h1,h2⟩
theorem oU{x:Int}(h1:0<=x)(h2:x<=18446744073709551615):IntKind.u64.wrap x=x:=Go.IntWalk.u64_in x ⟨h1,h2⟩
def Kj:List ByteArray->Bool
 |a::b::r=>FZ a.data.toList b.data.toList&&Kj (b::r)
 |_=>true
theorem uR{b:Bool}{A B:bl}{tm:Tr Value}{h:ag}(h1:b=true->A tm h)(h2:b=false->B tm h):dL (.bool b) true A B tm h:=⟨h1,h2⟩
theorem cH{b:Bool}{A B:bl}{tm:Tr Value}{h:ag}:dL undef b A B tm h=B tm h:=by simp[dL,undef]
theorem aY{E:Env}{h:ag}{n:Nat}{l:List Value}(hg:cg E h a n=some l)(i m:Nat)(hm:i+m<=n):cg E h ⟨a.block,a.off+i,none⟩ m=some ((l.drop i).take m):=by
 have key:∀c:List Value,a.off+n<=c.length->(c.drop (a.off+i)).take m=(((c.drop a.off).take n).drop i).take m:=by intro c hc;rw[List.drop_take,List.drop_drop,List.take_take,Nat.min_eq_left Nr]
 unfold cg at hg|-;split at hg
 ·cases hg
 ·split at hg
  ·rename_i hb;simp only[if_pos hb];split at hg
   ·rename_i c e fr hro;split at hg
    ·rename_i hc;injection hg with hg;subst hg;have hk:=key c.toList (by simpa using hc.1);rw[<-List.map_drop,<-List.map_take,<-hk,if_pos];refine⟨Nr,?_⟩;rw[hk,List.all_eq_true];intro v hv;exact(List.all_eq_true.1 hc.2) v (List.mem_of_mem_drop (List.mem_of_mem_take hv))
    ·cases hg
   ·cases hg
  ·rename_i hb;simp only[if_neg hb];split at hg
   ·rename_i c e fx hc;split at hg
    ·rename_i hle;injection hg with hg;subst hg;rw[if_pos Nr,key c hle]
    ·cases hg
   ·cases hg
theorem Ii(x y:Int):FG x y=max x y:=by unfold FG;split<;>omega
theorem Ih(x y:Int):FF x y=min x y:=by unfold FF;split<;>omega
def tN(E:Env)(O:List Oper)(tr:List St)(d:St)(x y:Nat):Prop :=
 match O[x]? with
 |some o=>bf O (cT tr d x).tm o=true->∃u,cC E (cT tr d x).h (opd (cT tr d x).tm) o.op=some u/\cC E (cT tr d y).h (opd (cT tr d x).tm) o.op=some u/\cC E (cT tr d (y+1)).h (opd (cT tr d x).tm) o.op=some u/\veq u u=true
 |none=>True
theorem aB{E:Env}{O:List Oper}{Q:bl}{tm:Tr Value}{h:ag}(prs:List (Nat×Nat))(h1:jc E.P O (bh O []) none=true)(h2:(match iV E.P O (bh O []) with|none=>true|some _=>false)=true)(h3:rn E.P O (bh O [])=prs)
 (H:wpt E O O [] (λtr=>(∀p,p∈prs->tN E O tr ⟨tm,h⟩ p.1 p.2)/\Q (cT tr ⟨tm,h⟩ O.length).tm (cT tr ⟨tm,h⟩ O.length).h) tm h):aF E O Q tm h:=by
 have hsp:iV E.P O (bh O [])=none:=by
  cases hx:iV E.P O (bh O []) with
  |none=>rfl
  |some p=>simp[hx]at h2
 refine tk (Cz h1 h2) (.inr (lJ ?_ _ _ _ _ H));rintro tr ⟨hp,hq⟩;refine⟨?_,hq⟩;unfold xE;rw[hsp,h1];simp only[Bool.true_and,Bool.not_true,Bool.false_and,Bool.or_false];unfold BU;simp only[Bool.and_true,List.all_eq_true];intro x hx y hy;simp only[Bool.or_eq_true,Bool.not_eq_true']
 cases hb:(bef (bh O []) x.2 y.2||bef (bh O []) y.2 x.2) with
 | true =>
   simp only[Bool.or_eq_true]at hb;rcases hb with hb|hb
   ·exact .inl hb
   ·exact .inr (.inl hb)
 | false =>
   have hm:(x.2,y.2)∈prs:=by rw[<-h3];unfold rn;rw[List.mem_flatMap];exact⟨x,hx,List.mem_map.2 ⟨y,List.mem_filter.2 ⟨hy,NN⟩,rfl⟩⟩
   have hpo:=hp _ hm;right;right
   cases ha:bf O (cT tr ⟨tm,h⟩ x.2).tm x.1 with
   |false=>exact .inl rfl
   | true =>
     right;have hox:O[x.2]? = some x.1:=by have:=(List.mem_filter.1 hx).1;rw[<-List.mk_mem_zipIdx_iff_getElem?];exact this
     unfold tN at hpo;simp only[hox]at hpo;obtain⟨u,e1,e2,e3,e4⟩:=hpo ha;simp only[e1,e2,e3,e4,Bool.and_self]
section
variable{E:Env}{O l:List Oper}{tr:List St}{Q:List St->Prop}{tm:Tr Value}{h:ag}{ty:TypeId}{pos:String}{aft:Array Edge}
theorem IS:wpt E O [] tr Q tm h=Q (tr++[⟨tm,h⟩]):=rfl
theorem yi{op:Op}:wpt E O (⟨d,op,ty,pos,aft,none⟩::l) tr Q tm h=cr E op d (wpt E O l (tr++[⟨tm,h⟩]) Q) tm h:=rfl
theorem vj{op:Op}{b:Bool}:wpt E O (⟨d,op,ty,pos,aft,some (j,b)⟩::l) tr Q tm h=dL (sx O j tm) b (cr E op d (wpt E O l (tr++[⟨tm,h⟩]) Q)) (lI d (wpt E O l (tr++[⟨tm,h⟩]) Q)) tm h:=by
 simp only[wpt,dL,bf,sx,cr,lI]
 cases hj:(O[j]?).bind (·.dst) with
 |none=>simp[undef]
 | some d' =>
   simp only
   cases hv:aj tm d' with
   |bool c=>cases c<;>cases b<;>simp
   |_=>simp
end
theorem Jv{E:Env}{a:Code}{Q:cY}{tm:Tr Value}{h:ag}(P:cY)(m:∀e tm h,P e tm h->Q e tm h)(H:kif E v (wpc E a) (wpc E b) P tm h):kif E v (wpc E a) (wpc E b) Q tm h:=by
 unfold kif at H|-;split at H
 ·exact oX a m _ _ H
 ·exact oX b m _ _ H
 ·exact H.elim
theorem dJ{E:Env}{a:Code}{Q:cY}{tm:Tr Value}{h:ag}(P:bl)(m:∀tm h,P tm h->Q .normal tm h)(H:kif E v (wpc E a) (wpc E b) (λe tm h=>e=.normal/\P tm h) tm h):kif E v (wpc E a) (wpc E b) Q tm h :=
 Jv _ (λe tm h he=>by obtain⟨rfl,hp⟩:=he;exact m _ _ hp) H
theorem xP{O:List Oper}{tm:Tr Value}{op:Op}{ty:TypeId}{pos:String}{aft:Array Edge}:bf O tm ⟨d,op,ty,pos,aft,none⟩=true:=rfl
theorem cX{E:Env}{h:ag}{x:Operand}:cC E h ev (.load t x)=kd E h t (ev x):=rfl
theorem xT{E:Env}{h:ag}{x i:Operand}{ok:Bool}:cC E h ev (.lookup t x i ok)=fe E h t (ev x) (ev i) ok:=rfl
theorem Ga{E:Env}{h:ag}{x:Operand}:cC E h ev (.call ⟨.builtin .len,#[x],#[t]⟩)=mI E h t (ev x):=rfl
theorem dq{s:ByteArray}:veq (.string s) (.string s)=true:=by simp[veq]
theorem aV{n:Int}:veq (.int k n) (.int k n)=true:=by simp[veq]
theorem bn{b:Bool}:veq (.bool b) (.bool b)=true:=by simp[veq]
theorem iF{a:Option Addr}:veq (.pointer a) (.pointer a)=true:=by cases a<;>simp[veq]
theorem aU{a:Option Addr}{n c:Nat}:veq (.slice a n c) (.slice a n c)=true:=by cases a<;>simp[veq]
theorem bp{l:List Value}:veq (.agg ⟨l⟩) (.agg ⟨l⟩)=su l l:=by simp[veq,wJ]
theorem ba:su [] []=true:=rfl
theorem aW{l m:List Value}:su (v::l) (w::m)=(veq v w&&su l m):=rfl
theorem Kg{d:St}{l:List St}:cT (s::l) d 0=s:=rfl
theorem Kf{d:St}{l:List St}{n:Nat}:cT (s::l) d (n+1)=cT l d n:=by simp[cT]
attribute [push_cast] Gn IV Gq AI IW Gm Gj Gl zJ HK Fh Fg uS BG zN zM HN Fl xl Fk BC BB uP By zL zK IT Gi Dm Fm Fq Fo Fp sx Fi Fj AG AH du xy Jn Fb Ht Bp Gt AM Gs wF Du Gr oY wG Dt Dq AJ uJ uI Dr ym Gu Dv I2 uH ti yk th AN uG AK Dp Gw Ds IZ IY ab aR ey zH ju IF ID gY List.getElem?_cons_zero List.getElem?_cons_succ if_true if_false ite_true ite_false List.map_cons List.map_nil List.length_cons List.length_nil List.drop_succ_cons List.drop_zero List.take_succ_cons List.take_zero Option.bind_some Option.map_some Option.bind_none Option.map_none Option.some.injEq ye IK Iz aun sq bU dI ah ai cg aM Nat.zero_add Nat.add_zero Bool.not_true Bool.not_false beq_self_eq_true bne_self_eq_false Bool.or_true Bool.or_false Bool.true_or Bool.false_or Bool.and_true Bool.and_false isConst BD uQ cW IB F8 IA Cb F9 exists_eq_left' qM tL Jl bJ List.all_cons List.all_nil Value.oneCell' Bool.and_self and_self Nat.le_refl List.cons_append List.append_nil not_true_eq_false not_false_eq_true Nat.add_eq_left Nat.left_eq_add Nat.add_left_cancel_iff Bool.false_eq_true true_and and_true Nat.succ_ne_self ne_eq Option.map_eq_map mK decide_true decide_false Int.toNat_natCast List.take_nil List.drop_nil List.nil_append cH Bool.true_and Bool.false_and amm qe Ii Ih IS yi vj Kg Kf dq aV bn iF aU bp ba aW xP cX xT Ga List.mem_cons List.not_mem_nil or_false forall_eq_or_imp forall_eq tN forall_const true_implies eq_self dP ne_eq not_true_eq_false false_or gt_iff_lt Nat.lt_irrefl Nat.mul_one
theorem gz:(∀(a b:Nat) (l:List Nat),a∈b::l↔a=b\/a∈l)/\(∀a:Nat,¬a∈([]:List Nat))/\(∀p:Prop,p\/False↔p)/\(∀(a:Nat) (p q:Nat->Prop),(∀x,x=a\/q x->p x)↔p a/\∀x,q x->p x)/\(∀(a:Nat) (p:Nat->Prop),(∀x,x=a->p x)↔p a) :=
 ⟨λ_ _ _=>List.mem_cons,λ_=>List.not_mem_nil,λ_=>Nw,λ_ _ _=>Nw,λ_ _=>Nw⟩
def Hl(P:Program)(O:List Oper)(M:List Nat):List (Nat×List Nat):=(O.zipIdx.filter λx=>isR P x.1).map λx =>
 (x.2,(0::(((O.zipIdx.filter λy=>isF P y.1).filter λe=>!bef M x.2 e.2).map λe=>e.2+1)).filter λp=>!((O.zipIdx.filter λy=>isF P y.1).any λe=>bef M e.2 x.2&&!decide (e.2<p)))
def Ij(P:Program)(O:List Oper):List Nat:=(O.zipIdx.filter λx=>isF P x.1||isA P x.1).map (·.2)
def J4(P:Program)(O:List Oper)(M:List Nat):List (Nat×List Nat):=(O.zipIdx.filter λx=>isA P x.1).map λx=>(x.2,xM M x.2)
def dList(O:List Oper)(M:List Nat):List (Nat×Nat×List Nat):=O.zipIdx.filterMap λx=>x.1.dst.map λd=>(x.2,d,x.2::xM M x.2)
def jo(E:Env)(O:List Oper)(tr:List St)(s:St)(q:Nat×List Nat):Prop :=
 match O[q.1]? with
 |some o=>bf O (cT tr s q.1).tm o=true->∀p,p∈q.2->∃u,cC E (cT tr s p).h (opd (cT tr s q.1).tm) o.op=some u/\cC E (cT tr s q.1).h (opd (cT tr s q.1).tm) o.op=some u/\veq u u=true
 |none=>True
def jx(O:List Oper)(tr:List St)(s:St)(i:Nat):Prop :=
 match O[i]? with
 |some o=>bf O (cT tr s i).tm o=true->∀y,y∈o.op.operands.toList->sc (cT tr s i).h.next (opd (cT tr s i).tm y)=true
 |none=>True
def aOk(E:Env)(O:List Oper)(tr:List St)(s:St)(q:Nat×List Nat):Prop :=
 match O[q.1]? with
 |some o=>bf O (cT tr s q.1).tm o=true->∃p,bW E.P (opd (cT tr s q.1).tm) o.op=some p/\jH (live (cT tr s) q.2) p.2=true
 |none=>True
def dOk(tr:List St)(s:St)(q:Nat×Nat×List Nat):Prop:=scQ (live (cT tr s) q.2.2) (aj (cT tr s (q.1+1)).tm q.2.1)=true
theorem BH{O:List Oper}{x:Oper×Nat}(h:x∈O.zipIdx):O[x.2]? = some x.1:=by rw[<-List.mk_mem_zipIdx_iff_getElem?];exact h
theorem jm{E:Env}{O:List Oper}{Q:bl}{tm:Tr Value}{h:ag}(RS:List (Nat×List Nat))(FL:List Nat)(AS:List (Nat×List Nat))(DS:List (Nat×Nat×List Nat))(NS:List Nat)
 (h0:jc E.P O (bh O []) (iV E.P O (bh O []))=false) (h1:kY E.P O (bh O [])=true)
 (hR:Hl E.P O (bh O [])=RS) (hF:Ij E.P O=FL) (hA:J4 E.P O (bh O [])=AS) (hD:dList O (bh O [])=DS) (hN:O.zipIdx.map (·.2)=NS)
 (H:wpt E O O [] (λtr=>((∀i,i∈NS->(cT tr ⟨tm,h⟩ i).h.next<=(cT tr ⟨tm,h⟩ (i+1)).h.next)/\(∀q,q∈RS->jo E O tr ⟨tm,h⟩ q)/\(∀i,i∈FL->jx O tr ⟨tm,h⟩ i)/\(∀q,q∈AS->aOk E O tr ⟨tm,h⟩ q)/\(∀q,q∈DS->dOk tr ⟨tm,h⟩ q)) /\
  Q (cT tr ⟨tm,h⟩ O.length).tm (cT tr ⟨tm,h⟩ O.length).h) tm h):tn E O Q tm h:=by
 refine .inr (lJ ?_ _ _ _ _ H);rintro tr ⟨⟨hn,hr,hf,ha,hd⟩,hq⟩;refine⟨?_,hq⟩;unfold xE;rw[h0,h1];simp only[Bool.false_and,Bool.false_or,Bool.not_false,Bool.true_and];unfold Aj;simp only[Bool.and_eq_true,List.all_eq_true];refine⟨⟨⟨⟨?_,?_⟩,?_⟩,?_⟩,?_⟩
 ·intro x hx;have hm:=(List.mem_filter.1 hx).1;have:=hr (x.2,_) (by rw[<-hR];exact List.mem_map.2 ⟨x,hx,rfl⟩);unfold jo at this;simp only[BH hm]at this
  cases hw:bf O (cT tr ⟨tm,h⟩ x.2).tm x.1 with
  |false=>rfl
  | true =>
    simp only[Bool.not_true,Bool.false_or];unfold w9;rw[List.all_eq_true];intro p hp
    cases hany:((O.zipIdx.filter λy=>isF E.P y.1).any λe=>bef (bh O []) e.2 x.2&&!decide (e.2<p)) with
    |true=>rfl
    |false =>obtain⟨u,e1,e2,e3⟩:=this hw p (List.mem_filter.2 ⟨hp,by rw[hany];rfl⟩);simp only[e1,e2,e3,Bool.false_or]
 ·intro x hx;have:=hn x.2 (by rw[<-hN];exact List.mem_map.2 ⟨x,hx,rfl⟩);simpa using this
 ·intro x hx;have hm:=(List.mem_filter.1 hx).1;have:=hf x.2 (by rw[<-hF];exact List.mem_map.2 ⟨x,hx,rfl⟩);unfold jx at this;simp only[BH hm]at this
  cases hw:bf O (cT tr ⟨tm,h⟩ x.2).tm x.1 with
  |false=>rfl
  |true =>simp only[Bool.not_true,Bool.false_or];rw[List.all_eq_true];exact this hw
 ·intro x hx
  cases hds:x.1.dst with
  |none=>rfl
  |some d =>have:=hd (x.2,d,x.2::xM (bh O []) x.2) (by rw[<-hD];exact List.mem_filterMap.2 ⟨x,hx,by rw[hds];rfl⟩);exact this
 ·intro x hx;have hm:=(List.mem_filter.1 hx).1;have:=ha (x.2,_) (by rw[<-hA];exact List.mem_map.2 ⟨x,hx,rfl⟩);unfold aOk at this;simp only[BH hm]at this
  cases hw:bf O (cT tr ⟨tm,h⟩ x.2).tm x.1 with
  |false=>rfl
  |true =>simp only[Bool.not_true,Bool.false_or];obtain⟨p,e1,e2⟩:=this hw;simp only[e1,e2]
theorem dE{E:Env}{O:List Oper}{Q:bl}{tm:Tr Value}{h:ag}(RS:List (Nat×List Nat))(FL:List Nat)(AS:List (Nat×List Nat))(DS:List (Nat×Nat×List Nat))(NS:List Nat)
 (h0:jc E.P O (bh O []) (iV E.P O (bh O []))=false) (h1:kY E.P O (bh O [])=true)
 (hR:Hl E.P O (bh O [])=RS) (hF:Ij E.P O=FL) (hA:J4 E.P O (bh O [])=AS) (hD:dList O (bh O [])=DS) (hN:O.zipIdx.map (·.2)=NS)
 (H:wpt E O O [] (λtr=>((∀i,i∈NS->(cT tr ⟨tm,h⟩ i).h.next<=(cT tr ⟨tm,h⟩ (i+1)).h.next)/\(∀q,q∈RS->jo E O tr ⟨tm,h⟩ q)/\(∀i,i∈FL->jx O tr ⟨tm,h⟩ i)/\(∀q,q∈AS->aOk E O tr ⟨tm,h⟩ q)/\(∀q,q∈DS->dOk tr ⟨tm,h⟩ q)) /\
  Q (cT tr ⟨tm,h⟩ O.length).tm (cT tr ⟨tm,h⟩ O.length).h) tm h):aF E O Q tm h:=tk (Cy (.inr h1)) (jm RS FL AS DS NS h0 h1 hR hF hA hD hN H)
theorem wz{x:Operand}:bW P ev (.makeSlice t x y)=amk P t (ev x) (ev y):=rfl
theorem CB{n:Nat}{i:Int}{e:TypeId}:jH q (.cells (bR n [.int k i]) e fx)=true:=by simp only[jH,List.all_eq_true];intro v hv;have:=mH hv;simp at this;subst this;rfl
theorem xi{c:Nat->St}{D:List Nat}{b:Nat}:live c D b=(decide (b<(c 0).h.next)||D.any λk=>qI c k b):=rfl
def CU(J:Nat->Nat->bl)(n:Nat)(Q:cY):cY:=λe tm h =>
 match e with
 |.goto l=>∃m,m<n/\J l m tm h
 |e=>Q e tm h
section
variable{J:Nat->Nat->bl}{n:Nat}{Q:cY}{tm:Tr Value}{h:ag}
theorem BE{l:Nat}:CU J n Q (.goto l) tm h=∃m,m<n/\J l m tm h:=rfl
theorem xn:CU J n Q .normal tm h=Q .normal tm h:=rfl
theorem Fs:CU J n Q .ret tm h=Q .ret tm h:=rfl
theorem BF:CU J n Q (.exit i) tm h=Q (.exit i) tm h:=rfl
end
def slB:Value->List Nat
 |.slice (some a) _ _=>[a.block]
 |_=>[]
theorem Cf{E:Env}{h h':ag}{t e z lo n:Nat}{x v':Value}(T:jW E t e z by_)(hW:WF E h)(H:Own h e z lo n cs v)(hm:iZ x=some m)(h0:0<m)(hx:lj E h z x m=some xs)
 (ha:cI E h t t v x=some (v',h')):∀b,b∈slB v'->b∈slB v\/h.next<=b:=by
 obtain⟨i,hi,hiz⟩:∃i,E.P.info? e=some i/\(i.size,i.bytes)=(z,by_):=by have:=T.info;rw[Option.map_eq_some_iff]at this;exact this
 injection hiz with hz1 hz2;subst hz1;subst hz2;have main:∀base sCap,v=.slice base n sCap->cI E h t t v x=eA E h e i base n sCap m x:=by intro base sCap hv;subst hv;simp only[cI,T.und,hm,kT,Bool.false_eq_true,if_false,hi]
 have grow:∀base sCap,ib E h e i base n sCap m xs=some (v',h')->∀b,b∈slB v'->h.next<=b:=by
  intro base sCap hg;unfold ib at hg;split at hg
  ·split at hg
   ·cases hg
   ·split at hg
    ·cases base with
     | none =>
       simp only at hg;split at hg
       ·injection hg with hg;injection hg with hg _;subst hg;intro b hb;simp only[slB,fE,List.mem_singleton]at hb;omega
       ·cases hg
     | some a =>
       simp only at hg;split at hg
       ·split at hg
        ·split at hg
         ·injection hg with hg;injection hg with hg _;subst hg;intro b hb;simp only[slB,fE,List.mem_singleton]at hb;omega
         ·cases hg
        ·cases hg
       split at hg
       ·split at hg
        ·split at hg
         ·injection hg with hg;injection hg with hg _;subst hg;intro b hb;simp only[slB,fE,List.mem_singleton]at hb;omega
         ·injection hg with hg;injection hg with hg _;subst hg;intro b hb;simp only[slB,fE,List.mem_singleton]at hb;omega
        ·cases hg
       ·cases hg
    ·cases hg
  ·cases hg
 have hs:∃base sCap,v=.slice base n sCap:=by
  rcases H with⟨rfl,rfl,rfl⟩|⟨b,cap,rest,fx,rfl,_⟩
  ·exact⟨_,_,rfl⟩
  ·exact⟨_,_,rfl⟩
 obtain⟨base,sCap,rfl⟩:=hs;rw[main _ _ rfl]at ha;unfold eA at ha;rw[if_neg Nr]at ha;simp only[hx]at ha;split at ha
 ·cases base with
  |none=>cases ha
  | some a =>
    simp only at ha;split at ha
    ·cases ha
    ·simp only[Option.map_eq_some_iff]at ha;obtain⟨h2,_,e⟩:=ha;injection e with e _;subst e;intro b hb;left;exact hb
 ·intro b hb;right;exact grow _ _ ha b hb
theorem Own.last{E:Env}{h:ag}{e z lo n:Nat}{cs xs ys:List Value}{v:Value}(hW:WF E h)(H:Own h e z lo (n+1) (cs++xs) v)(hc:cs.length=n*z)(hy:ys.length=z)(ho:ys.all Value.oneCell'=true) :
 ∃b cap h',v=.slice (some ⟨b,0,none⟩) (n+1) cap/\n+1<=cap/\bQ h ⟨b,n*z,none⟩ ys=some h'/\Own h' e z lo (n+1) (cs++ys) v/\(∀j o,j≠b->h.get j=some o->h'.get j=some o)/\h'.next=h.next/\WF E h':=by
 rcases H with⟨_,h1,_⟩|⟨b,cap,rest,fx,rfl,hg,h1,h2,h3,h4,h5⟩
 ·omega
 ·have hx:xs.length=z:=by
   have:(n+1)*z=n*z+z:=by rw[Nat.add_mul];omega
   simp at h1;omega
  refine⟨b,cap,h.put b (.cells ((cs++ys)++rest) e fx),rfl,h3,?_,.inr ⟨b,cap,rest,fx,rfl,ND,by simp[hc,hy,Nat.add_mul],h2,h3,h4,h5⟩,?_,rfl,hW.put hg⟩
  ·simp only[bQ,hg];rw[if_pos ⟨by simp[hc,hx,hy],ho⟩];have:bJ (cs++xs++rest) (n*z) ys=cs++ys++rest:=by unfold bJ;rw[<-hc,List.append_assoc cs xs rest,List.take_left,List.drop_length_add_append,hy,<-hx,List.drop_left]
   rw[this]
  ·intro j o hj hgj;rw[ai,if_neg Nr];exact hgj
theorem Own.add{E:Env}{G:Mem}{h:ag}{e z lo n:Nat}{cs:List Value}{v:Value}(hW:WF E h)(hG:Frz E G h)(H:Own h e z lo n cs v)(hb:∀b,b∈slB v->G b=none) :
 ∃G',Sl E G' z n cs v/\Sub G G'/\Frz E G' h/\∀b c,G' b=some c->G b=some c\/(b∈slB v/\lo<=b):=by
 rcases H with⟨rfl,rfl,rfl⟩|⟨b,cap,rest,fx,rfl,hg,hc1,hc2,hc3,hc4,hc5⟩
 ·exact⟨G,⟨none,0,rfl,Nr,Nr,⟨λ_=>rfl,λ_ x=>Oy⟩,.inl ⟨rfl,rfl⟩⟩,Sub.refl _,hG,λb c h=>.inl h⟩
 ·have hGb:G b=none:=hb b OA;refine⟨λj=>if j=b then some (cs++rest) else G j,⟨some ⟨b,0,none⟩,cap,rfl,hc3,hc5,⟨λx=>Oy,λb' e=>.inr ⟨cs++rest,On⟩⟩,.inr ⟨_,rfl,?_⟩⟩,?_,?_,?_⟩
  ·unfold eo;rw[if_neg Oh];simp only[if_true];rw[if_pos PO];simp[<-hc1]
  ·intro j c hj;show(if j=b then some (cs++rest) else G j)=some c;rw[if_neg (by intro e;subst e;rw[hGb]at hj;cases hj)];exact hj
  ·intro j c hj;replace hj:(if j=b then some (cs++rest) else G j)=some c:=hj;split at hj
   ·rename_i e1;subst e1;injection hj with hj;subst hj;exact⟨_,_,hg⟩
   ·exact hG j c hj
  ·intro j c hj;replace hj:(if j=b then some (cs++rest) else G j)=some c:=hj;split at hj
   ·rename_i e1;right;subst e1;exact⟨OA,hc4⟩
   ·exact .inl hj
theorem Own.lt{E:Env}{h:ag}{e z lo n:Nat}{cs:List Value}{v:Value}(hW:WF E h)(H:Own h e z lo n cs v):∀b,b∈slB v->lo<=b/\b<h.next:=by
 rcases H with⟨rfl,rfl,rfl⟩|⟨b,cap,rest,fx,rfl,hg,hc1,hc2,hc3,hc4,hc5⟩
 ·intro b hb;simp[slB]at hb
 ·intro j hj;simp only[slB,List.mem_singleton]at hj;subst hj;exact⟨hc4,(hW.live _ _ hg).2⟩
theorem Own.but{h h':ag}{e z lo n:Nat}{cs:List Value}{v:Value}(H:Own h e z lo n cs v)(k:∀b o,b∈slB v->h.get b=some o->h'.get b=some o):Own h' e z lo n cs v:=by
 rcases H with H|⟨b,cap,rest,fx,rfl,h2,h3⟩
 ·exact .inl H
 ·exact .inr ⟨b,cap,rest,fx,rfl,k _ _ OA h2,h3⟩
theorem Frz.but{E:Env}{G:Mem}{h h':ag}(f:Frz E G h)(k:∀b o,(G b).isSome=true->h.get b=some o->h'.get b=some o):Frz E G h':=λb c hb=>by
 obtain⟨e,fx,hh⟩:=f b c hb;exact⟨e,fx,k _ _ (by rw[hb];rfl) hh⟩
theorem Sl.sc{E:Env}{G:Mem}{h:ag}(hW:WF E h)(hG:Frz E G h){z n:Nat}{cs:List Value}{v:Value}(H:Sl E G z n cs v):Go.Tm.sc h.next v=true:=by
 obtain⟨a,c,rfl,h1,h2,h3,h4⟩:=H
 cases a with
 |none=>rfl
 | some a =>
   simp only[Go.Tm.sc,decide_eq_true_eq];rcases h3.2 a rfl with h5|⟨g,h5⟩
   ·have:=hW.base;omega
   ·obtain⟨e,fx,h6⟩:=hG _ _ h5;exact(hW.live _ _ h6).2
theorem Sl.whole{E:Env}{G:Mem}{b z n:Nat}{c:List Value}(hb:¬b<E.base)(hG:G b=some c)(hl:c.length=n*z)(hn:n<=9223372036854775807):Sl E G z n c (.slice (some ⟨b,0,none⟩) n n):=by refine⟨some ⟨b,0,none⟩,n,rfl,Nat.le_refl _,hn,⟨λx=>Oy,λb' e=>.inr ⟨c,by injection e with e;subst e;exact hG⟩⟩,.inr ⟨_,rfl,?_⟩⟩;unfold eo;rw[if_neg hb];simp only[hG,Nat.zero_add];rw[if_pos Nr,List.drop_zero,List.take_of_length_le Nr]
theorem tx{n:Nat}(hz:zs.all (scQ q)=true){e:TypeId}:jH q (.cells (bR n zs) e fx)=true:=by simp only[jH,List.all_eq_true]at hz|-;intro v hv;exact hz v (mH hv)
attribute [push_cast] BE xn Fs BF
theorem Own.Gd{E:Env}{G:Mem}{h:ag}{e z lo n:Nat}{cs:List Value}{v:Value}(hW:WF E h)(hG:Frz E G h)(H:Own h e z lo n cs v) :
 ∃G',Sl E G' z n cs v/\Sub G G'/\Frz E G' h/\∀b c,G' b=some c->G b=some c\/(b∈slB v/\lo<=b):=by
 rcases H with⟨rfl,rfl,rfl⟩|⟨b,cap,rest,fx,rfl,hg,hc1,hc2,hc3,hc4,hc5⟩
 ·exact⟨G,⟨none,0,rfl,Nr,Nr,⟨λ_=>rfl,λ_ x=>Oy⟩,.inl ⟨rfl,rfl⟩⟩,Sub.refl _,hG,λb c h=>.inl h⟩
 ·refine⟨λj=>if j=b then some (cs++rest) else G j,⟨some ⟨b,0,none⟩,cap,rfl,hc3,hc5,⟨λx=>Oy,λb' e=>.inr ⟨cs++rest,On⟩⟩,.inr ⟨_,rfl,?_⟩⟩,?_,?_,?_⟩
  ·unfold eo;rw[if_neg Oh];simp only[if_true];rw[if_pos PO];simp[<-hc1]
  ·intro j c hj;show(if j=b then some (cs++rest) else G j)=some c;split
   ·rename_i e1;subst e1;obtain⟨e2,fx2,hh⟩:=hG j c hj;rw[hg]at hh;injection hh with hh;injection hh with hh;rw[hh]
   ·exact hj
  ·intro j c hj;replace hj:(if j=b then some (cs++rest) else G j)=some c:=hj;split at hj
   ·rename_i e1;subst e1;injection hj with hj;subst hj;exact⟨_,_,hg⟩
   ·exact hG j c hj
  ·intro j c hj;replace hj:(if j=b then some (cs++rest) else G j)=some c:=hj;split at hj
   ·rename_i e1;right;subst e1;exact⟨OA,hc4⟩
   ·exact .inl hj
end Go.Tm
