/- Part 2: Eng14 Eng15 Eng17 Eng18 Eng19 Eng20 Eng21 Eng16 Eng23. -/
import Derived.Test.YthbjaiilnkakcaaGreatDoorK01
import Derived.CallsIn
set_option linter.all false
set_option maxRecDepth 10000
set_option maxHeartbeats 8000000
namespace Go.Tm
variable{B i j:Nat}{ds:List Deferred}{ρ:Ren}{h h' hp:ag}{w:World}{tm tm':Tr Value}{a:Operand}{s s':St}{f g:Operand->Value}{o:Oper}{v:Value}{ops:Array Oper}{r:Value×ag}{P:Program}{b:Builtin}{u:List Value}{D:List Nat}{t:TypeId}{q:Nat->Bool}
structure Ns where
 n:Nat
 hid:List Nat
def Ns.has(m:Ns)(t:Nat):Bool:=decide (t<m.n)&&!m.hid.contains t
theorem Ns.lt{m:Ns}{t:Nat}(h:m.has t=true):t<m.n:=by simp only[Ns.has,Bool.and_eq_true,decide_eq_true_eq]at h;exact h.1
structure FR(ρ:Ren)(n:Ns)(ds:List Deferred)(tm:Tr Value)(a:Act):Prop where
 defers:a.defers=ds
 size:a.tmps.size=n.n
 val:∀t,n.has t=true->a.tmps.getD t undef=ren ρ (aj tm t)
def Sc(s:St):Prop:=∀t,sc s.h.next (aj s.tm t)=true
def eG(base:Nat)(n:Ns):Operand->Bool
 |.tmp t=>n.has t
 |.const v=>cl 0 v
 |.global g=>decide (g<base)
 |.func _=>true
def Ai(n:Ns):Option Nat->Bool
 |some d=>n.has d
 |none=>true
def lX(base:Nat)(n:Ns)(o:Oper):Bool:=o.op.operands.toList.all (eG base n)&&Ai n o.dst
def nw(base:Nat)(n:Ns)(ops:Array Oper):Bool:=ops.toList.all (lX base n)
theorem my{E:Env}{n:Ns}{a:Act}(H:HR E B ρ h w)(F:FR ρ n ds tm a){x:Operand}(hx:eG E.base n x=true):a.eval x=ren ρ (opd tm x):=by
 cases x with
 |tmp t=>exact F.val t hx
 |const v=>simp only[eG]at hx;exact(tJ ρ 0 (λ_ hb=>by omega) v hx).symm
 |global g =>simp only[eG,decide_eq_true_eq]at hx;have:=H.fix g hx;simp[Act.eval,opd,ren,fm,this]
 |func f=>simp[Act.eval,opd,ren,dz]
theorem A9{E:Env}{n:Ns}(hb:E.base<=s.h.next)(S:Sc s){x:Operand}(hx:eG E.base n x=true):sc s.h.next (opd s.tm x)=true:=by
 cases x with
 |tmp t=>exact S t
 |const v=>simp only[eG]at hx;exact eJ 0 _ (Nat.zero_le _) v (lP 0 v hx)
 |global g=>simp only[eG,decide_eq_true_eq]at hx;simp only[opd,sc,decide_eq_true_eq];omega
 |func f=>rfl
def qB:Op->Bool
 |.select _ _=>false
 |_=>true
theorem execOp_congr(hsel:qB o.op=true)(h:∀x,x∈o.op.operands->f x=g x):execOp f o=execOp g o:=by
 obtain⟨dst,op,ty,pos,after,guard⟩:=o;simp only at h;have am:∀(l:Array Operand),(∀x,x∈l->f x=g x)->l.map f=l.map g:=λl hl=>Array.map_congr_left hl
 cases op with
 |move x=>simp only[execOp,h x Nx]
 |assign x=>simp only[execOp,h x Nx]
 |pick c a b=>simp only[execOp,h c Nx,h a Nx,h b Nx]
 |alloc e=>rfl
 |box e x=>simp only[execOp,h x Nx]
 | build t ps =>
   have:(ps.map λ(x:Nat×Operand)=>match x with|(i,x)=>(i,f x))=ps.map λ(x:Nat×Operand)=>match x with|(i,x)=>(i,g x) :=
    Array.map_congr_left λp hp=>by
     have:=h p.2 Oq;simp only[this]
   simp only[execOp,this]
 | buildSlice t l ps =>
   have:(ps.map λ(x:Nat×Operand)=>match x with|(i,x)=>(i,f x))=ps.map λ(x:Nat×Operand)=>match x with|(i,x)=>(i,g x) :=
    Array.map_congr_left λp hp=>by
     have:=h p.2 Oq;simp only[this]
   simp only[execOp,this]
 |insert t m k v=>simp only[execOp,h m Nx,h k Nx,h v Nx]
 |load t x=>simp only[execOp,h x Nx]
 |store t x v=>simp only[execOp,h x Nx,h v Nx]
 |ready g=>rfl
 |waits g=>rfl
 |nilCheck x=>simp only[execOp,h x Nx]
 |binOp op t x y yt=>simp only[execOp,h x Nx,h y Nx]
 |unOp op t x=>simp only[execOp,h x Nx]
 |convert s d x=>simp only[execOp,h x Nx]
 |sliceToArrayPointer d x=>simp only[execOp,h x Nx]
 |makeInterface t x=>simp only[execOp,h x Nx]
 |makeFunc fn a b =>simp only[execOp,am a (λx hx=>h x Pp),am b (λx hx=>h x Pp)]
 | makeMap t r=>cases r with
   |none=>rfl
   |some x=>simp only[execOp,Option.map_some,h x Nx]
 |makeChan t x=>simp only[execOp,h x Nx]
 |makeSlice t l c=>simp only[execOp,h l Nx,h c Nx]
 | slice t x lo hi mx =>
   have h1:lo.map f=lo.map g:=by cases lo<;>simp;exact h _ (by simp[Op.operands])
   have h2:hi.map f=hi.map g:=by cases hi<;>simp;exact h _ (by simp[Op.operands])
   have h3:mx.map f=mx.map g:=by cases mx<;>simp;exact h _ (by simp[Op.operands])
   simp only[execOp,h x Nx,h1,h2,h3]
 |fieldAddr t x k=>simp only[execOp,h x Nx]
 |field t x k=>simp only[execOp,h x Nx]
 |indexAddr t x i=>simp only[execOp,h x Nx,h i Nx]
 |index t x i=>simp only[execOp,h x Nx,h i Nx]
 |lookup t x i ok=>simp only[execOp,h x Nx,h i Nx]
 |mapUpdate t m k v=>simp only[execOp,h m Nx,h k Nx,h v Nx]
 |mapEntry t m k=>simp only[execOp,h m Nx,h k Nx]
 |entryStore t m k v=>simp only[execOp,h m Nx,h k Nx,h v Nx]
 |range t x=>simp only[execOp,h x Nx]
 |next x b=>simp only[execOp,h x Nx]
 |entry x=>simp only[execOp,h x Nx]
 |typeAssert x t a ok=>simp only[execOp,h x Nx]
 |extract x i=>simp only[execOp,h x Nx]
 |panic x=>simp only[execOp,h x Nx]
 |recv t x ok=>simp only[execOp,h x Nx]
 |send c x=>simp only[execOp,h c Nx,h x Nx]
 | call c =>
   obtain⟨callee,args,ats⟩:=c;have ha:args.map f=args.map g:=am args λx hx=>h x OE
   cases callee with
   |value y=>simp only[execOp,resolve,ha,h y NQ]
   |invoke y name=>simp only[execOp,resolve,ha,h y NQ]
   |builtin b=>simp only[execOp,resolve,ha]
 | go c =>
   obtain⟨callee,args,ats⟩:=c;have ha:args.map f=args.map g:=am args λx hx=>h x OE
   cases callee with
   |value y=>simp only[execOp,resolve,ha,h y NQ]
   |invoke y name=>simp only[execOp,resolve,ha,h y NQ]
   |builtin b=>simp only[execOp,resolve,ha]
 | defer c =>
   obtain⟨callee,args,ats⟩:=c;have ha:args.map f=args.map g:=am args λx hx=>h x OE
   cases callee with
   |value y=>simp only[execOp,resolve,ha,h y NQ]
   |invoke y name=>simp only[execOp,resolve,ha,h y NQ]
   |builtin b=>simp only[execOp,resolve,ha]
 |select cs b=>simp[qB]at hsel
theorem bZ(tm:Tr Value)(d t:Nat)(v:Value):aj (tm.set d (some v)) t=if d=t then v else aj tm t:=by unfold aj;rw[Tr.sY];by_cases e:d=t<;>simp[e]
theorem FR.put{ρ ρ':Ren}{n:Ns}{m:Nat}{ds:List Deferred}{tm:Tr Value}{a:Act}(F:FR ρ n ds tm a)(hext:∀b,b<m->ρ' b=ρ b)(hs:∀t,sc m (aj tm t)=true){d:Option Nat}(hd:Ai n d=true)(v:Value) :
 FR ρ' n ds (du tm d v) (a.put d (ren ρ' v)):=by
 cases d with
 |none =>refine⟨F.defers,F.size,λt ht=>?_⟩;simp only[du,Act.put];rw[F.val t ht,dY ρ ρ' m hext _ (hs t)]
 | some d =>
   have hd:=Ns.lt hd;refine⟨F.defers,by simp[Act.put,F.size],λt ht=>?_⟩;simp only[du,Act.put,bZ];by_cases e:d=t
   ·subst e;simp[Array.getD,F.size,hd]
   ·rw[if_neg e];have:=F.val t ht;rw[dY ρ ρ' m hext _ (hs t),<-this];rw[Array.getD_eq_getD_getElem?,Array.getD_eq_getD_getElem?,Array.getElem?_setIfInBounds_ne e]
theorem ph{m m':Nat}(hs:∀t,sc m (aj tm t)=true)(hle:m<=m'){d:Option Nat}(hv:sc m' v=true):∀t,sc m' (aj (du tm d v) t)=true:=by
 intro t
 cases d with
 |none=>exact eJ _ _ hle _ (hs t)
 | some d =>
   simp only[du,bZ];by_cases e:d=t
   ·rw[if_pos e];exact hv
   ·rw[if_neg e];exact eJ _ _ hle _ (hs t)
theorem vk{n:Ns}{a:Act}(F:FR ρ n ds tm a)(hd:∀o,o∈ops->Ai n o.dst=true)(o:Oper) :
 Region.wanted o (yielded ops a.tmps)=bf ops.toList tm o:=by
 unfold Region.wanted bf
 cases o.guard with
 |none=>rfl
 | some g =>
   obtain⟨j,want⟩:=g;simp only;unfold yielded;have e:ops.toList[j]? = ops[j]? := by simp
   rw[e]
   cases ho:ops[j]? with
   |none=>rfl
   | some o' =>
     simp only[Option.bind_some];have hdst:=hd o' (Array.mem_of_getElem? ho)
     cases hdd:o'.dst with
     |none=>rfl
     | some d =>
       rw[hdd]at hdst;have hv:=F.val d hdst;have hdst:=Ns.lt hdst;have hg:a.tmps[d]? = some (ren ρ (aj tm d)):=by rw[<-hv];simp[Array.getD,F.size,hdst]
       simp only[Option.bind_some,hg]
       cases aj tm d with
       |bool b=>simp[ren]
       |pointer p=>cases p<;>rfl
       |slice p l c=>cases p<;>rfl
       |map p=>cases p<;>rfl
       |chan p=>cases p<;>rfl
       |_=>rfl
theorem jV{E:Env}{call:di}{op:Op}(h:aop E call op s=some r):qB op=true:=by
 cases op<;>first|rfl|skip
 simp[aop,kindOf,cu]at h
def Wd(rd:Option Nat):Fence:={Fence.wide with round:=rd}
theorem Iv{f:FuncId}{args:Array Value}{R:Ending->World->Prop}(rd:Option Nat){n:Nat}(h:Calls P f args w R):CallsIn (Wd rd) n P f args w R :=
 (callsIn_wide (n:=n)).2 h
theorem qd{E:Env}{call:di}{op:Op}(h:aop E call op s=some r):∀c,op≠.defer c:=by rintro c rfl;simp[aop,kindOf,cu]at h
def yh(E:Env)(B:Nat)(call:di):Prop :=
 ∀f args h v h', call f args h = some (v, h') -> ∃fn b, E.P.funcs[f]? = some fn /\ fn.body = some b /\ (fn.name == "runtime.NumGoroutine") = false /\
  ∀ρ w,HR E B ρ h w->(∀x,x∈args->sc h.next x=true) ->
   Calls E.P f (args.map (ren ρ)).toArray w λe w'=>∃ρ',e=.returned (ren ρ' v)/\Step E B ρ h w ρ' h' w'/\sc h'.next v=true
theorem wV{E:Env}{call:di}(hcall:yh E B call)(hx:aop E call o.op s=some (v,h'))(H:HR E B ρ s.h w)
 (hs:∀x,x∈o.op.operands->sc s.h.next (opd s.tm x)=true) {a:Act} (ha:execOp a.eval o=execOp (λx=>ren ρ (opd s.tm x)) o) {next:Act->World->Prop} {Q:Exit->Act->World->Prop}
 (hn:∀ρ' w',Step E B ρ s.h w ρ' h' w'->sc h'.next v=true->next (a.put o.dst (ren ρ' v)) w') (rd:Option Nat):o.wpIn (Wd rd) 0 E.P a w next Q:=by
 refine⟨λ_ _=>trivial,?_⟩;have hro:(Wd rd).round=rd:=rfl;rw[hro,Oper.semAt_eq rd a.eval o (qd hx),ha];unfold aop at hx;split at hx
 ·cases hp:cu E.P (opd s.tm) o.op with
  |none=>simp[hp]at hx
  |some v' =>simp[hp]at hx;obtain⟨rfl,rfl⟩:=hx;rw[vI (ρ:=ρ) hp w];exact hn ρ w (Step.refl H) (GX hp hs)
 ·cases hp:cC E s.h (opd s.tm) o.op with
  |none=>simp[hp]at hx
  |some v' =>simp[hp]at hx;obtain⟨rfl,rfl⟩:=hx;obtain⟨h1,h2⟩:=vH H hp;rw[h1];exact hn ρ w (Step.refl H) h2
 ·cases hp:bW E.P (opd s.tm) o.op with
  |none=>simp[hp]at hx
  |some p =>obtain⟨mk,ob⟩:=p;simp[hp]at hx;obtain⟨rfl,rfl⟩:=hx;obtain⟨c,h1,h2,h3,h4⟩:=tG (ρ:=ρ) (w:=w) hs hp;rw[h1];exact hn _ _ (Step.alloc H h3 h2) (by simpa using h4)
 ·split at hx
  ·rename_i v' h2 hp;simp only[Option.some.injEq,Prod.mk.injEq]at hx;obtain⟨rfl,rfl⟩:=hx;obtain⟨ρ',w',h1,h2,h3⟩:=Hh H hs hp;rcases h1 with h1|⟨rfl,h1⟩
   ·rw[h1];exact hn _ _ h2 h3
   ·rw[h1];have:=hn _ _ h2 h3;simpa[Oper.uponIn,undef,ren,dz] using this
  ·rename_i f args hp;obtain⟨fn,b,hf,hb,hnm,hc⟩:=hcall _ _ _ _ _ hx;obtain⟨h1,h2⟩:=DR (ρ:=ρ) H hs hp hf hb hnm;rw[h1];refine⟨λh=>Bool.noConfusion h,(Iv rd (hc ρ w H h2)).mono ?_⟩;rintro e w' ⟨ρ',rfl,h3,h4⟩;exact hn _ _ h3 h4
  ·cases hx
def nH(E:Env)(call:di)(ops:Array Oper):List Nat->St->Option St
 |[],s=>some s
 | i::l,s=>match ops[i]? with
   |none=>none
   | some o=>match jk E call ops.toList o s with
     |some s'=>nH E call ops l s'
     |none=>none
theorem sS{E:Env}{B:Nat}{n:Ns}{ds:List Deferred}{rd:Option Nat}{call:di}(hcall:yh E B call){ops:Array Oper}(hok:nw E.base n ops=true){Q:Exit->Act->World->Prop} :
 ∀(l:List Nat) (s s':St) (ρ:Ren) (w:World) (a:Act),nH E call ops l s=some s'->HR E B ρ s.h w->FR ρ n ds s.tm a->Sc s ->
  (∀ρ' a' w',Step E B ρ s.h w ρ' s'.h w'->FR ρ' n ds s'.tm a'->Sc s'->Q .normal a' w')->wpOpsIn (Wd rd) 0 E.P ops Q l a w
 | [],s,s',ρ,w,a,hx,H,F,S,hq=>by
   simp only[nH,Option.some.injEq]at hx;subst hx;exact hq ρ a w (Step.refl H) F S
 | i::l,s,s',ρ,w,a,hx,H,F,S,hq=>by
   simp only[nH]at hx
   cases ho:ops[i]? with
   |none=>simp[ho]at hx
   | some o =>
     simp only[ho]at hx;have hall:∀o,o∈ops->lX E.base n o=true:=by intro o ho;simp only[nw,List.all_eq_true]at hok;exact hok o (by simpa using ho)
     have hoo:=hall o (Array.mem_of_getElem? ho);simp only[lX,Bool.and_eq_true,List.all_eq_true]at hoo;have hopd:∀x,x∈o.op.operands->eG E.base n x=true:=λx hx=>hoo.1 x NW;have hw:=vk F (ops:=ops) (λo ho=>by have:=hall o ho;simp only[lX,Bool.and_eq_true]at this;exact this.2) o
     simp only[wpOpsIn,ho,hw];unfold jk at hx;split at hx
     ·rename_i heq;split at heq
      ·rename_i hwt;rw[hwt];simp only[if_true]
       cases hop:aop E call o.op s with
       |none=>simp[hop]at heq
       |some r =>obtain⟨v,h'⟩:=r;simp only[hop,Option.some.injEq]at heq;subst heq;refine wV hcall hop H (λx hx=>A9 H.cj S (hopd x hx)) (execOp_congr (jV hop) λx hx=>my H F (hopd x hx)) ?_ rd;intro ρ' w' hst hv;refine sS hcall hok l _ _ ρ' w' _ hx hst.hr (F.put hst.ext S hoo.2 v) (ph S hst.le hv) ?_;intro ρ'' a' w'' hst' F' S';exact hq ρ'' a' w'' (hst.trans hst') F' S'
      ·rename_i hwt;simp only[Bool.not_eq_true]at hwt;simp only[Option.some.injEq]at heq;subst heq;rw[hwt];simp only[Bool.false_eq_true,if_false];have F':=F.put (ρ':=ρ) (m:=s.h.next) (λ_ _=>rfl) S hoo.2 undef;have e:ren ρ undef=undef:=by simp[undef,ren,dz]
       rw[e]at F';exact⟨λ_ _=>trivial,sS hcall hok l _ _ ρ w _ hx H F' (ph (v:=undef) S (Nat.le_refl _) rfl) hq⟩
     ·cases hx
theorem Dc{E:Env}{call:di}{ops:Array Oper}:∀(l:List Oper) (k:Nat) (s:St),ops.toList.drop k=l->qW E call ops.toList l s=nH E call ops ((List.range' k l.length)) s
 |[],k,s,_=>rfl
 | o::l,k,s,h=>by
   have ho:ops[k]? = some o:=by
    have:(ops.toList.drop k)[0]? = some o:=by rw[h];rfl
    rw[List.getElem?_drop]at this;simpa using this
   have hl:ops.toList.drop (k+1)=l:=by
    have:(ops.toList.drop k).drop 1=l:=by rw[h];rfl
    rw[List.drop_drop]at this;exact this
   simp only[qW,List.length_cons,List.range'_succ,nH,ho]
   cases jk E call ops.toList o s with
   |none=>rfl
   |some s'=>exact Dc l (k+1) s' hl
theorem sk{op:Op}(h:∀x,x∈op.operands->f x=g x):cu P f op=cu P g op:=by
 have am:∀(l:Array Operand),(∀x,x∈l->f x=g x)->l.toList.map f=l.toList.map g:=λl hl=>List.map_congr_left λx hx=>hl x NW
 cases op with
 |move x=>simp only[cu,h x Nx]
 |assign x=>simp only[cu,h x Nx]
 |pick c a b=>simp only[cu,h c Nx,h a Nx,h b Nx]
 | build t ps =>
   have:(ps.toList.map λp=>(p.1,f p.2))=ps.toList.map λp=>(p.1,g p.2):=List.map_congr_left λp hp=>by
    rw[h p.2 OF]
   simp only[cu,this]
 |nilCheck x=>simp only[cu,h x Nx]
 |binOp op t x y yt=>simp only[cu,h x Nx,h y Nx]
 |unOp op t x=>simp only[cu,h x Nx]
 |convert s d x=>simp only[cu,h x Nx]
 |makeInterface t x=>simp only[cu,h x Nx]
 |makeFunc fn a b =>have h1:=am a (λx hx=>h x Pp);have h2:=am b (λx hx=>h x Pp);cases fn<;>simp only[cu,h1,h2]
 | slice t x lo hi mx =>
   have h1:lo.map f=lo.map g:=by cases lo<;>simp;exact h _ (by simp[Op.operands])
   have h2:hi.map f=hi.map g:=by cases hi<;>simp;exact h _ (by simp[Op.operands])
   have h3:=h x Nx
   cases mx with
   |none=>simp only[cu,h1,h2,h3]
   |some m=>simp only[cu,h1,h2,h3,h m Nx]
 |fieldAddr t x k=>simp only[cu,h x Nx]
 |field t x k=>simp only[cu,h x Nx]
 |indexAddr t x i=>simp only[cu,h x Nx,h i Nx]
 |index t x i=>simp only[cu,h x Nx,h i Nx]
 |extract x i=>simp only[cu,h x Nx]
 | call c =>
   obtain⟨callee,args,ats⟩:=c;have ha:=am args λx hx=>h x OE
   cases callee with
   |value y=>rfl
   |invoke y name=>rfl
   | builtin b =>
     cases b<;>try rfl
     ·have hl:∀(l:List Operand) (ts:List TypeId),(∀x,x∈l->f x=g x)->(match l,ts with
       |[x],[t]=>re P t (f x)
       |_,_=>none)=match l,ts with
       |[x],[t]=>re P t (g x)
       |_,_=>none:=by
       intro l ts hl;split
       ·rw[hl _ Nw]
       ·rfl
      exact hl args.toList ats.toList λx hx=>h x OH
     ·simp only[cu,ha]
     ·simp only[cu,ha]
 |_=>rfl
theorem sj{E:Env}{op:Op}(h:∀x,x∈op.operands->f x=g x):cC E hp f op=cC E hp g op:=by
 cases op with
 |load t x=>simp only[cC,h x Nx]
 |lookup t x i ok=>simp only[cC,h x Nx,h i Nx]
 |convert s d x=>simp only[cC,h x Nx]
 | call c =>
   obtain⟨callee,args,ats⟩:=c
   cases callee with
   |value y=>rfl
   |invoke y name=>rfl
   | builtin b =>
     cases b<;>try rfl
     have hl:∀(l:List Operand) (ts:List TypeId),(∀x,x∈l->f x=g x)->(match l,ts with
      |[x],[t]=>mI E hp t (f x)
      |_,_=>none)=match l,ts with
      |[x],[t]=>mI E hp t (g x)
      |_,_=>none:=by
      intro l ts hl;split
      ·rw[hl _ Nw]
      ·rfl
     exact hl args.toList ats.toList λx hx=>h x OH
 |_=>rfl
theorem yf{op:Op}(h:∀x,x∈op.operands->f x=g x):bW P f op=bW P g op:=by
 cases op with
 |box e x=>simp only[bW,h x Nx]
 | buildSlice t l ps =>
   have:(ps.toList.map λp=>(p.1,f p.2))=ps.toList.map λp=>(p.1,g p.2):=List.map_congr_left λp hp=>by
    rw[h p.2 OF]
   simp only[bW,this]
 |makeSlice t l c=>simp only[bW,h l Nx,h c Nx]
 |makeMap t r=>cases r<;>rfl
 |range t x=>simp only[bW,h x Nx]
 |_=>rfl
def Df(E:Env)(h:ag)(ev:Operand->Value)(b:Builtin)(args:List Operand)(ts:List TypeId):Option Eff :=
 match b,args,ts with
 |.append,[s,x],[t,t1]=>(cI E h t t1 (ev s) (ev x)).map λp=>.val p.1 p.2
 |.copy,[d,x],[t,_]=>(wy E h t (ev d) (ev x)).map λp=>.val p.1 p.2
 |.clear,[x],[t]=>(rh E h t (ev x)).map (.val (.tuple #[]))
 |_,_,_=>none
theorem Ay{E:Env}{args:List Operand}{ts:List TypeId}(h:∀x,x∈args->f x=g x):Df E hp f b args ts=Df E hp g b args ts:=by
 unfold Df;split
 ·rw[h _ Nw,h _ Nw]
 ·rw[h _ Nw,h _ Nw]
 ·rw[h _ Nw]
 ·rfl
theorem qf{E:Env}{args:Array Operand}{ts:Array TypeId}:iE E hp f (.call {callee:=.builtin b,args,argTypes:=ts})=Df E hp f b args.toList ts.toList:=rfl
theorem Ci{E:Env}{op:Op}(h:∀x,x∈op.operands->f x=g x):iE E hp f op=iE E hp g op:=by
 cases op with
 |store t x v=>simp only[iE,h x Nx,h v Nx]
 |next x b=>simp only[iE,h x Nx]
 |range t x=>simp only[iE,h x Nx]
 |insert t x k v=>simp only[iE,h x Nx,h k Nx,h v Nx]
 |mapUpdate t x k v=>simp only[iE,h x Nx,h k Nx,h v Nx]
 | call c =>
   obtain⟨callee,args,ats⟩:=c;have ha:args.toList.map f=args.toList.map g:=List.map_congr_left λx hx=>h x O4
   cases callee with
   |value y=>simp only[iE,ha,h y NQ]
   |invoke y name=>simp only[iE,ha,h y NQ]
   |builtin b =>rw[qf,qf];exact Ay λx hx=>h x OH
 |_=>rfl
theorem qX{E:Env}{call:di}{op:Op}(he:∀x,x∈op.operands->opd tm x=opd tm' x):aop E call op ⟨tm,h⟩=aop E call op ⟨tm',h⟩:=by simp only[aop,sk he,sj he,yf he,Ci he]
mutual
def veq:Value->Value->Bool
 |.bool a,.bool b=>a==b
 |.int k a,.int j b=>decide (k=j)&&decide (a=b)
 |.string a,.string b=>a.data.toList==b.data.toList
 |.pointer none,.pointer none=>true
 |.pointer (some a),.pointer (some b)=>decide (a=b)
 |.slice none l c,.slice none m d=>decide (l=m)&&decide (c=d)
 |.slice (some a) l c,.slice (some b) m d=>decide (a=b)&&(decide (l=m)&&decide (c=d))
 |.map none,.map none=>true
 |.map (some a),.map (some b)=>decide (a=b)
 |.nilFunc,.nilFunc=>true
 |.nilIface,.nilIface=>true
 |.func f x y,.func g u v=>decide (f=g)&&(wJ x u&&wJ y v)
 |.iface t v,.iface u w=>decide (t=u)&&veq v w
 |.agg x,.agg y=>wJ x y
 |.tuple x,.tuple y=>wJ x y
 |_,_=>false
def wJ:Array Value->Array Value->Bool
 |⟨l⟩,⟨m⟩=>su l m
def su:List Value->List Value->Bool
 |[],[]=>true
 |v::l,w::m=>veq v w&&su l m
 |_,_=>false
end
mutual
theorem tp:∀a b,veq a b=true->a=b
 |.bool a,b,h=>Pj
 |.int k a,b,h=>Pj
 | .string a,b,h=>by
   cases b<;>simp only[veq]at h<;>first|(cases h;done)|skip
   rename_i b;have:a.data.toList=b.data.toList:=Ot;congr 1;cases a;cases b;congr 1;exact Array.ext' this
 | .pointer none,b,h=>by cases b with
   |pointer q=>cases q<;>simp_all[veq]
   |_=>simp[veq]at h
 | .pointer (some a),b,h=>by cases b with
   |pointer q=>cases q<;>simp_all[veq]
   |_=>simp[veq]at h
 | .slice none l c,b,h=>by cases b with
   |slice q m d=>cases q<;>simp_all[veq]
   |_=>simp[veq]at h
 | .slice (some a) l c,b,h=>by cases b with
   |slice q m d=>cases q<;>simp_all[veq]
   |_=>simp[veq]at h
 | .map none,b,h=>by cases b with
   |map q=>cases q<;>simp_all[veq]
   |_=>simp[veq]at h
 | .map (some a),b,h=>by cases b with
   |map q=>cases q<;>simp_all[veq]
   |_=>simp[veq]at h
 |.nilFunc,b,h=>Pj
 |.nilIface,b,h=>Pj
 | .func f x y,b,h=>by
   cases b<;>simp only[veq]at h<;>first|(cases h;done)|skip
   simp only[Bool.and_eq_true,decide_eq_true_eq]at h;rw[h.1,sJ _ _ h.2.1,sJ _ _ h.2.2]
 | .iface t v,b,h=>by
   cases b<;>simp only[veq]at h<;>first|(cases h;done)|skip
   simp only[Bool.and_eq_true,decide_eq_true_eq]at h;rw[h.1,tp _ _ h.2]
 | .agg x,b,h=>by
   cases b<;>simp only[veq]at h<;>first|(cases h;done)|skip
   rw[sJ _ _ h]
 | .tuple x,b,h=>by
   cases b<;>simp only[veq]at h<;>first|(cases h;done)|skip
   rw[sJ _ _ h]
 |.float k a,b,h=>by simp[veq]at h
 |.complex k a c,b,h=>by simp[veq]at h
 |.chan a,b,h=>by simp[veq]at h
theorem sJ:∀a b,wJ a b=true->a=b
 |⟨l⟩,⟨m⟩,h=>by simp only[wJ]at h;rw[Cs l m h]
theorem Cs:∀l m,su l m=true->l=m
 |[],m,h=>by cases m<;>simp_all[su]
 | v::l,m,h=>by
   cases m with
   |nil=>simp[su]at h
   |cons w m =>simp only[su,Bool.and_eq_true]at h;rw[tp v w h.1,Cs l m h.2]
end
def sH(h h':ag):Prop:=h.next=h'.next/\∀b,h.get b=h'.get b
theorem sH.refl(h:ag):sH h h:=⟨rfl,λ_=>rfl⟩
theorem HR.same{E:Env}(H:HR E B ρ h w)(s:sH h h'):HR E B ρ h' w where
 cj:=s.1▸H.cj
 fS:=H.fS
 fG:=H.fG
 fix:=H.fix
 ro:=H.ro
 live:=λb o hb=>by rw[<-s.2]at hb;rw[<-s.1];exact H.live b o hb
 inj:=λb b' o o' h1 h2=>by rw[<-s.2]at h1 h2;exact H.inj b b' o o' h1 h2
theorem Step.same{E:Env}{B:Nat}{ρ ρ':Ren}{h h1 h2:ag}{w w':World}(t:Step E B ρ h w ρ' h1 w')(s:sH h1 h2):Step E B ρ h w ρ' h2 w' where
 hr:=t.hr.same s
 ext:=t.ext
 le:=s.1▸t.le
 frame:=t.frame
 range:=λb o hb=>by rw[<-s.2]at hb;exact t.range b o hb
 size:=t.size
 os:=t.os
 tape:=t.tape
 output:=t.output
def xU(a:Addr)(n:Nat)(b:Addr)(m:Nat):Bool:=decide (a.block≠b.block\/a.off+n<=b.off\/b.off+m<=a.off)
theorem yG{c v:List Value}(hi:i+u.length<=c.length)(hj:j+v.length<=c.length)(h:i+u.length<=j\/j+v.length<=i):bJ (bJ c i u) j v=bJ (bJ c j v) i u:=by apply List.ext_getElem?;intro k;rw[ig (by rw[fj hi];exact hj),ig hi,ig (by rw[fj hj];exact hi),ig hj];by_cases h1:k<j<;>by_cases h2:k<j+v.length<;>by_cases h3:k<i<;>by_cases h4:k<i+u.length<;>simp[h1,h2,h3,h4]<;>omega
theorem At{h1 h2:ag}{a b:Addr}{v:List Value}(hu:bQ h a u=some h1)(hv:bQ h1 b v=some h2)(hap:xU a u.length b v.length=true) :
 ∃h3 h4,bQ h b v=some h3/\bQ h3 a u=some h4/\sH h4 h2:=by
 unfold bQ at hu;split at hu
 ·cases hu
 ·rename_i hsa;split at hu
  ·rename_i c e fx hg;split at hu
   ·rename_i hc;injection hu with hu;subst hu;unfold bQ at hv;split at hv
    ·cases hv
    ·rename_i hsb;simp only[ai]at hv;simp only[xU,decide_eq_true_eq]at hap;by_cases hb:a.block=b.block
     ·rw[if_pos hb]at hv;simp only at hv;split at hv
      ·rename_i hc2;injection hv with hv;subst hv;rw[fj hc.1]at hc2;have hg2:h.get b.block=some (.cells c e fx):=hb▸hg;refine⟨h.put b.block (.cells (bJ c b.off v) e fx),(h.put b.block (.cells (bJ c b.off v) e fx)).put a.block (.cells (bJ (bJ c b.off v) a.off u) e fx),?_,?_,?_⟩
       ·unfold bQ;rw[hsb];simp only[hg2];rw[if_pos hc2]
       ·unfold bQ;rw[hsa];simp only[ai,hb,if_true];rw[fj hc2.1,if_pos hc]
       ·refine⟨rfl,λk=>?_⟩;simp only[ai,hb];by_cases hk:b.block=k
        ·simp only[if_pos hk];rw[yG hc2.1 hc.1 Nr]
        ·simp only[if_neg hk]
      ·cases hv
     ·rw[if_neg hb]at hv;split at hv
      ·rename_i c2 e2 fx2 hg2;split at hv
       ·rename_i hc2;injection hv with hv;subst hv;refine⟨h.put b.block (.cells (bJ c2 b.off v) e2 fx2),(h.put b.block (.cells (bJ c2 b.off v) e2 fx2)).put a.block (.cells (bJ c a.off u) e fx),?_,?_,?_⟩
        ·unfold bQ;rw[hsb];simp only[hg2];rw[if_pos hc2]
        ·unfold bQ;rw[hsa];simp only[ai,if_neg (λx=>hb (Eq.symm x)),hg];rw[if_pos hc]
        ·refine⟨rfl,λk=>?_⟩;simp only[ai];by_cases hk:a.block=k<;>by_cases hk2:b.block=k<;>simp[hk,hk2];exact absurd (hk.trans hk2.symm) hb
       ·cases hv
      ·cases hv
   ·cases hu
  ·cases hu
def eQ(o:Oper):List Nat:=(o.after.toList.filter (Region.binds .any)).map (·.on)
def nX(acc:List Nat):List Nat->Nat
 |[]=>0
 |p::l=>(2^p ||| acc.getD p 0) ||| nX acc l
def bh:List Oper->List Nat->List Nat
 |[],acc=>acc
 |o::l,acc=>bh l (acc++[nX acc (eQ o)])
def bef(M:List Nat)(j i:Nat):Bool:=(M.getD i 0).testBit j
theorem lM{acc:List Nat}{j:Nat}:∀{ps:List Nat},(nX acc ps).testBit j=true->∃p,p∈ps/\(j=p\/(acc.getD p 0).testBit j=true)
 |[],h=>by simp[nX]at h
 | p::l,h=>by
   simp only[nX,Nat.testBit_or,Bool.or_eq_true]at h;rcases h with(h|h)|h
   ·rw[Nat.testBit_two_pow]at h;exact⟨p,Nw,.inl (by simpa[eq_comm] using h)⟩
   ·exact⟨p,Nw,.inr h⟩
   ·obtain⟨q,hq,h⟩:=lM h;exact⟨q,by simp[hq],h⟩
theorem kK:∀(l:List Oper) (acc:List Nat) (k:Nat),k<acc.length->(bh l acc).getD k 0=acc.getD k 0
 |[],acc,k,_=>rfl
 | o::l,acc,k,h=>by
   simp only[bh];rw[kK l _ k Nu];simp[List.getD,List.getElem?_append_left h]
theorem zB:∀(l:List Oper) (acc:List Nat) (k:Nat) (o:Oper),l[k]? = some o ->
 ∃acc':List Nat,acc'.length=acc.length+k/\(∀p,p<acc.length+k->acc'.getD p 0=(bh l acc).getD p 0)/\(bh l acc).getD (acc.length+k) 0=nX acc' (eQ o)
 |[],acc,k,o,h=>N7
 | u::l,acc,0,o,h=>by
   simp at h;subst h;refine⟨acc,Nw,λp hp=>?_,?_⟩
   ·simp only[bh];rw[kK l _ p (by simp at hp|-;omega)];simp at hp;simp[List.getD,List.getElem?_append_left hp]
   ·simp only[bh];rw[kK l _ _ Nw];simp[List.getD]
 | u::l,acc,k+1,o,h=>by
   simp at h;obtain⟨acc',h1,h2,h3⟩:=zB l (acc++[nX acc (eQ u)]) k o h;simp only[List.length_append,List.length_cons,List.length_nil,Nat.zero_add]at h1 h2 h3;refine⟨acc',Nr,λp hp=>?_,?_⟩
   ·simp only[bh];exact h2 p Nr
   ·simp only[bh];rw[<-h3];congr 1;omega
theorem pG:∀(l:List Oper) (acc:List Nat),(bh l acc).length=acc.length+l.length
 |[],acc=>rfl
 |o::l,acc=>by simp only[bh];rw[pG];simp;omega
theorem uu{O:List Oper}(h:bef (bh O []) j i=true):∃o,O[i]? = some o/\∃p,p∈eQ o/\(j=p\/(p<i/\bef (bh O []) j p=true)):=by
 have hi:i<O.length:=by
  rcases Nat.lt_or_ge i O.length with h'|h'
  ·exact h'
  ·have e:(bh O [])[i]? = none:=List.getElem?_eq_none (by rw[pG];simpa using h');simp[bef,List.getD,e]at h
 have ho:O[i]? = some O[i]:=List.getElem?_eq_getElem hi;obtain⟨acc',h1,h2,h3⟩:=zB O [] i _ ho;simp only[List.length_nil,Nat.zero_add]at h1 h2 h3;unfold bef at h;rw[h3]at h;obtain⟨p,hp,hj⟩:=lM h;refine⟨_,ho,p,hp,?_⟩;rcases hj with hj|hj
 ·exact .inl hj
 ·right;have hpi:p<i:=by
   rcases Nat.lt_or_ge p i with h'|h'
   ·exact h'
   ·have e:acc'[p]? = none:=List.getElem?_eq_none Nr;simp[List.getD,e]at hj
  exact⟨hpi,by unfold bef;rw[<-h2 p hpi];exact hj⟩
def fR(O:List Oper)(D:List Nat):Prop:=∀i o,i∈D->O[i]? = some o->∀p,p∈eQ o->p∈D
theorem fY{O:List Oper}(hD:fR O D):∀(i j:Nat),i∈D->bef (bh O []) j i=true->j∈D:=by
 intro i
 induction i using Nat.strongRecOn with
 | _ i ih =>
   intro j hi h;obtain⟨o,ho,p,hp,hj⟩:=uu h;have hpD:=hD i o hi ho p hp;rcases hj with rfl|⟨hlt,hj⟩
   ·exact hpD
   ·exact ih p hlt j hpD hj
theorem dF{O:List Oper}(hD:fR O D)(hr:∀o,O[i]? = some o->∀p,p∈eQ o->p∈D)(h:bef (bh O []) j i=true):j∈D:=by
 obtain⟨o,ho,p,hp,hj⟩:=uu h;rcases hj with rfl|⟨_,hj⟩
 ·exact hr o ho _ hp
 ·exact fY hD p j (hr o ho p hp) hj
def Down(O:List Oper):Prop:=∀i o,O[i]? = some o->∀p,p∈eQ o->p<i
theorem iC{O:List Oper}(hO:Down O):∀(i j:Nat),bef (bh O []) j i=true->j<i:=by
 intro i
 induction i using Nat.strongRecOn with
 | _ i ih =>
   intro j h;obtain⟨o,ho,p,hp,hj⟩:=uu h;have hpi:=hO i o ho p hp;rcases hj with rfl|⟨hlt,hj⟩
   ·exact hpi
   ·have:=ih p hlt j hj;omega
def uD(O:List Oper):List Nat->List Nat->Prop
 |D,[]=>∀i,i<O.length->i∈D
 |D,i::r=>i<O.length/\i∉D/\(∀o,O[i]? = some o->∀p,p∈eQ o->p∈D)/\uD O (i::D) r
theorem zw:∀(n:Nat) (l:List Nat),l.Nodup->(∀x,x∈l->x<n)->l.length<=n
 | 0,l,_,h=>by
   cases l with
   |nil=>simp
   |cons x l=>have:=h x Nw;omega
 | n+1,l,hn,h=>by
   have h1:=zw n (l.erase n) (hn.erase n) (λx hx=>by
    have hx2:=(hn.mem_erase_iff).1 hx
    have:=h x hx2.2;have:=hx2.1;omega)
   have:=List.length_erase (a:=n) (l:=l);split at this<;>omega
theorem vV:∀(n:Nat) (l:List Nat),(∀i,i<n->i∈l)->n<=l.length
 |0,_,_=>Nat.zero_le _
 | n+1,l,h=>by
   have h1:=vV n (l.erase n) (λi hi=>(List.mem_erase_of_ne Nr).2 (h i Nr));rw[List.length_erase_of_mem (h n Nr)]at h1;have:0<l.length:=List.length_pos_of_mem (h n Nr);omega
theorem vU(P:Nat->Prop):∀n,P n->∃i,i<=n/\P i/\∀j,j<i->¬P j:=by
 intro n
 induction n using Nat.strongRecOn with
 | _ n ih =>
   intro h;by_cases hx:∃j,j<n/\P j
   ·obtain⟨j,hj,hP⟩:=hx;obtain⟨i,h1,h2,h3⟩:=ih j hj hP;exact⟨i,Nr,h2,h3⟩
   ·exact⟨n,Nat.le_refl _,h,λj hj hP=>hx ⟨j,hj,hP⟩⟩
theorem zX{ops:Array Oper}(hO:Down ops.toList):∀(fuel t:Nat) (listed:Array Bool) (acc:List Nat),listed.size=ops.size->(∀i,i<ops.size->(listed.getD i true=true↔i∈acc)) ->
 (∀i,i∈acc->i<ops.size)->acc.Nodup->acc.length+fuel=ops.size->∃r,Region.linearise.go .any ops fuel t listed acc=acc.reverse++r/\uD ops.toList acc r
 | 0,t,listed,acc,hs,hl,hb,hn,hf=>by
   refine⟨[],by simp[Region.linearise.go],λi hi=>?_⟩;apply Classical.byContradiction;intro hni
   have:=zw ops.size (i::acc) (List.nodup_cons.2 ⟨hni,hn⟩) (λx hx=>by
    simp only[List.mem_cons]at hx;rcases hx with rfl|hx
    ·simpa using hi
    ·exact hb x hx)
   simp only[List.length_cons]at this;omega
 | fuel+1,t,listed,acc,hs,hl,hb,hn,hf=>by
   have hdec:∃i,i<ops.size/\i∉acc/\∀j,j<i->j∈acc:=by
    have hex:∃i,i<ops.size/\i∉acc:=by apply Classical.byContradiction;intro hne;have:=vV ops.size acc (λi hi=>Classical.byContradiction λh=>hne ⟨i,hi,h⟩);omega
    obtain⟨i,hi,hni⟩:=hex;obtain⟨k,h1,h2,h3⟩:=vU (λi=>i<ops.size/\i∉acc) i ⟨hi,hni⟩;exact⟨k,h2.1,h2.2,λj hj=>Classical.byContradiction λh=>h3 j hj ⟨Nr,h⟩⟩
   obtain⟨k,hk,hka,hkl⟩:=hdec;simp only[Region.linearise.go];generalize hrs:(List.filter (λi=>!listed.getD i true&&((ops[i]?).map (λo=>o.after.all λe=>!Region.binds .any e||listed.getD e.on false)).getD false) (List.range ops.size))=rs;have hlf:∀i,i<ops.size->listed.getD i false=listed.getD i true:=by intro i hi;simp[Array.getD,hs,hi]
   have hkr:k∈rs:=by
    rw[<-hrs,List.mem_filter];refine⟨by simpa using hk,?_⟩;have h1:listed.getD k true=false:=by
     cases hh:listed.getD k true with
     |false=>rfl
     |true=>exact absurd ((hl k hk).1 hh) hka
    simp only[h1,Bool.not_false,Bool.true_and];rw[Array.getElem?_eq_getElem hk];simp only[Option.map_some,Option.getD_some];rw[Array.all_eq_true'];intro e he
    cases hb2:Region.binds .any e with
    |false=>rfl
    | true =>
      simp only[Bool.not_true,Bool.false_or]
      have hp:e.on<k:=hO k ops[k] NC e.on (by
       simp only[eQ,List.mem_map,List.mem_filter]
       exact⟨e,⟨by simpa using he,hb2⟩,rfl⟩)
      rw[hlf _ Nr];exact(hl e.on Nr).2 (hkl _ hp)
   have hpos:0<rs.length:=List.length_pos_of_mem hkr;have hm:t%rs.length<rs.length:=Nat.mod_lt _ hpos;rw[List.getElem?_eq_getElem hm];simp only;have hir:rs[t%rs.length]∈rs:=List.getElem_mem hm;generalize rs[t%rs.length]=i at hir;rw[<-hrs,List.mem_filter]at hir;obtain⟨hi1,hi2⟩:=hir;have hi:i<ops.size:=by simpa using hi1
   simp only[Bool.and_eq_true,Bool.not_eq_true']at hi2;have hia:i∉acc:=λh=>by have:=(hl i hi).2 h;rw[hi2.1]at this;cases this
   obtain⟨r,hr1,hr2⟩:=zX hO fuel (t/rs.length) (listed.setIfInBounds i true) (i::acc) (by simpa using hs) (by
    intro j hj;by_cases e:i=j
    ·subst e;simp[Array.getD,hs,hj]
    ·have h0:(listed.setIfInBounds i true).getD j true=listed.getD j true:=by rw[Array.getD_eq_getD_getElem?,Array.getD_eq_getD_getElem?,Array.getElem?_setIfInBounds_ne e]
     rw[h0,hl j hj];simp only[List.mem_cons];constructor
     ·exact .inr
     ·rintro(h|h)
      ·exact absurd h.symm e
      ·exact h) (by
    intro j hj;simp only[List.mem_cons]at hj;rcases hj with rfl|hj
    ·exact hi
    ·exact hb j hj) (List.nodup_cons.2 ⟨hia,hn⟩) (by simp only[List.length_cons];omega)
   refine⟨i::r,by rw[hr1];simp,Pn,hia,?_,hr2⟩;intro o ho p hp;rw[Array.getElem?_toList]at ho;rw[ho]at hi2;simp only[Option.map_some,Option.getD_some,Array.all_eq_true']at hi2;simp only[eQ,List.mem_map,List.mem_filter]at hp;obtain⟨e,⟨he,hbi⟩,rfl⟩:=hp;have:=hi2.2 e (by simpa using he);rw[hbi]at this;simp only[Bool.not_true,Bool.false_or]at this;have hlt:e.on<ops.size:=by have:=hO i o (by rw[Array.getElem?_toList];exact ho) e.on (by simp only[eQ,List.mem_map,List.mem_filter];exact⟨e,⟨he,hbi⟩,rfl⟩);omega
   rw[hlf _ hlt]at this;exact(hl _ hlt).1 this
theorem iW(hO:Down ops.toList)(t:Nat):uD ops.toList [] (Region.linearise .any ops t):=by obtain⟨r,h1,h2⟩:=zX hO ops.size t (Array.replicate ops.size false) [] Nw (by intro i hi;simp[Array.getD,hi]) Nw List.nodup_nil Nw;unfold Region.linearise;rw[h1];simpa using h2
def isE(P:Program)(o:Oper):Bool :=
 match kindOf P o.op with
 |.eff=>true
 |.alloc=>true
 |_=>false
def isR(P:Program)(o:Oper):Bool :=
 match kindOf P o.op with
 |.read=>true
 |_=>false
def KT:Operand->Option Nat
 |.tmp t=>some t
 |_=>none
def jO(O:List Oper)(o:Oper):List Nat :=
 (o.op.operands.toList.filterMap KT) ++
  (match o.guard with
   | some (j,_)=>match (O[j]?).bind (·.dst) with
     |some d=>[d]
     |none=>[]
   |none=>[])
def eY(o:Oper):Option (TypeId×Operand×Operand) :=
 match o.guard,o.op with
 |none,.store t a v=>some (t,a,v)
 |_,_=>none
structure lq(E:Env)(call:di)(O:List Oper)(sp:Option (Nat×Nat))(c:Nat->St):Prop where
 run:∀(i:Nat) (o:Oper),O[i]? = some o->jk E call O o (c i)=some (c (i+1))
 down:Down O
 qO:∀(i j:Nat) (o o':Oper) (d:Nat),O[i]? = some o->O[j]? = some o'->o.dst=some d->o'.dst=some d->i=j
 rds:∀(i:Nat) (o:Oper) (t j:Nat) (o':Oper),O[i]? = some o->t∈jO O o->O[j]? = some o'->o'.dst=some t->bef (bh O []) j i=true\/bef (bh O []) i j=true\/i=j
 mE:∀(a b:Nat) (o o':Oper),a<b->O[a]? = some o->O[b]? = some o'->isE E.P o=true->isE E.P o'=true->bef (bh O []) a b=true\/sp=some (a,b)
 GW:∀(i e:Nat) (o o':Oper),O[i]? = some o->O[e]? = some o'->isR E.P o=true->isE E.P o'=true->bef (bh O []) i e=true\/bef (bh O []) e i=true \/
  (bf O (c i).tm o=true->cC E (c e).h (opd (c i).tm) o.op=cC E (c i).h (opd (c i).tm) o.op/\cC E (c (e+1)).h (opd (c i).tm) o.op=cC E (c i).h (opd (c i).tm) o.op)
 sp1:∀(y z:Nat),sp=some (y,z)->y<z/\∃(oy oz:Oper),O[y]? = some oy/\O[z]? = some oz/\isE E.P oy=true/\isE E.P oz=true/\∃ty ay vy tz az vz,eY oy=some (ty,ay,vy)/\eY oz=some (tz,az,vz) /\
  ∀a b,opd (c y).tm ay=.pointer (some a)->opd (c z).tm az=.pointer (some b)->xU a (aM (opd (c y).tm vy)).length b (aM (opd (c z).tm vz)).length=true
 sp2:∀(y z:Nat),sp=some (y,z)->∀(e:Nat) (o:Oper),O[e]? = some o->isE E.P o=true->e=y\/e=z\/(bef (bh O []) e y=true/\bef (bh O []) e z=true)
 sp3:∀(y z:Nat),sp=some (y,z)->∀(i:Nat) (o:Oper),O[i]? = some o->isR E.P o=true->(bef (bh O []) i y=true/\bef (bh O []) i z=true)\/(bef (bh O []) y i=true/\bef (bh O []) z i=true)
def Fr(O:List Oper)(c:Nat->St)(D:List Nat)(tm:Tr Value):Prop :=
 ∀t,(∀j o,j∈D->O[j]? = some o->o.dst=some t->aj tm t=aj (c (j+1)).tm t)/\((∀j o,j∈D->O[j]? = some o->o.dst≠some t)->aj tm t=aj (c 0).tm t)
section
variable{E:Env}{call:di}{O:List Oper}{sp:Option (Nat×Nat)}{c:Nat->St}
theorem jj(h:jk E call O o s=some s'):∃v,s'.tm=du s.tm o.dst v/\((bf O s.tm o=true/\aop E call o.op s=some (v,s'.h))\/(bf O s.tm o=false/\v=undef/\s'.h=s.h)):=by
 unfold jk at h;split at h
 ·rename_i hw;split at h
  ·rename_i v h' ha;injection h with h;subst h;exact⟨v,rfl,.inl ⟨hw,ha⟩⟩
  ·cases h
 ·rename_i hw;injection h with h;subst h;exact⟨undef,rfl,.inr ⟨by simpa using hw,rfl,rfl⟩⟩
theorem dQ(tm:Tr Value)(d:Option Nat)(v:Value)(t:Nat):aj (du tm d v) t=if d=some t then v else aj tm t:=by
 cases d with
 |none=>simp[du]
 |some d=>simp only[du,bZ];by_cases e:d=t<;>simp[e]
theorem lq.canon(W:lq E call O sp c):∀i,i<=O.length->Fr O c (List.range i) (c i).tm
 |0,_=>λt=>⟨λj o hj=>by simp at hj,λ_=>rfl⟩
 | i+1,hi=>by
   have ih:=W.canon i Nr;have ho:O[i]? = some O[i]:=List.getElem?_eq_getElem Nr;obtain⟨v,hv,_⟩:=jj (W.run i _ ho);intro t;rw[hv];constructor
   ·intro j o hj hjo hd;rw[dQ];by_cases e:j=i
    ·subst e;rw[ho]at hjo;injection hjo with hjo;subst hjo;rw[hv,dQ]
    ·have hji:j<i:=by simp at hj;omega
     have:¬(O[i].dst=some t):=λh=>e (W.qO j i o _ t hjo ho hd h);rw[if_neg this];exact(ih t).1 j o (by simpa using hji) hjo hd
   ·intro hn;rw[dQ,if_neg (hn i _ Nw ho)];exact(ih t).2 λj o hj hjo=>hn j o (by simp at hj|-;omega) hjo
theorem lq.IM(W:lq E call O sp c){D:List Nat}(hD:fR O D){tm:Tr Value}(F:Fr O c D tm){i:Nat}{o:Oper}(ho:O[i]? = some o)(hi:i∉D)(hr:∀o,O[i]? = some o->∀p,p∈eQ o->p∈D) :
 ∀t,t∈jO O o->aj tm t=aj (c i).tm t:=by
 intro t ht;have hlen:i<O.length:=(List.getElem?_eq_some_iff.1 ho).1;have C:=W.canon i Nr;by_cases hx:∃(j:Nat) (o':Oper),O[j]? = some o'/\o'.dst=some t
 ·obtain⟨j,o',hj,hd⟩:=hx;rcases W.rds i o t j o' ho ht hj hd with h|h|h
  ·have h1:=dF hD hr h;have h2:=iC W.down i j h;rw[(F t).1 j o' h1 hj hd,(C t).1 j o' PN hj hd]
  ·have h1:j∉D:=λhjD=>hi (fY hD j i hjD h);have h2:=iC W.down j i h
   rw[(F t).2 (λk ok hk hok hdk=>by have:=W.qO j k o' ok t hj hok hd hdk;subst this;exact h1 hk),
    (C t).2 (λk ok hk hok hdk=>by have:=W.qO j k o' ok t hj hok hd hdk;subst this;simp at hk;omega)]
  ·subst h
   rw[(F t).2 (λk ok hk hok hdk=>by have:=W.qO i k o' ok t hj hok hd hdk;subst this;exact hi hk),
    (C t).2 (λk ok hk hok hdk=>by have:=W.qO i k o' ok t hj hok hd hdk;subst this;simp at hk)]
 ·have hn:∀(D':List Nat) (j:Nat) (o':Oper),j∈D'->O[j]? = some o'->o'.dst≠some t:=λ_ j o' _ hj hd=>hx ⟨j,o',hj,hd⟩;rw[(F t).2 (hn D),(C t).2 (hn _)]
theorem vR(h:∀t,t∈jO O o->aj tm t=aj tm' t):∀x,x∈o.op.operands->opd tm x=opd tm' x:=by
 intro x hx
 cases x with
 |tmp t =>refine h t ?_;unfold jO;refine List.mem_append_left _ ?_;rw[List.mem_filterMap];exact⟨.tmp t,NW,rfl⟩
 |_=>rfl
theorem nF(h:∀t,t∈jO O o->aj tm t=aj tm' t):bf O tm o=bf O tm' o:=by
 unfold bf
 cases hg:o.guard with
 |none=>rfl
 | some g =>
   obtain⟨j,want⟩:=g;simp only
   cases hd:(O[j]?).bind (·.dst) with
   |none=>rfl
   |some d =>simp only;rw[h d (by unfold jO;rw[hg];simp only[hd];simp)]
theorem pB(hE:isE E.P o=false)(h:jk E call O o s=some s'):s'.h=s.h:=by
 obtain⟨v,_,h|h⟩:=jj h
 ·have ha:=h.2;unfold aop at ha;unfold isE at hE;cases hk:kindOf E.P o.op<;>simp only[hk]at ha hE
  ·cases hp:cu E.P (opd s.tm) o.op<;>simp[hp]at ha;exact ha.2.symm
  ·cases hp:cC E s.h (opd s.tm) o.op<;>simp[hp]at ha;exact ha.2.symm
  ·cases hE
  ·cases hE
 ·exact h.2.2
theorem lq.flat(W:lq E call O sp c):∀(k a:Nat),a+k<=O.length->(∀e o,a<=e->e<a+k->O[e]? = some o->isE E.P o=false)->(c (a+k)).h=(c a).h
 |0,a,_,_=>rfl
 | k+1,a,hl,hn=>by
   have ih:=W.flat k a Nr λe o h1 h2=>hn e o h1 Nr;have ho:O[a+k]? = some O[a+k]:=List.getElem?_eq_getElem Nr;rw[<-ih];exact pB (hn (a+k) _ Nr Nr ho) (W.run (a+k) _ ho)
theorem lq.ub(W:lq E call O sp c){a b:Nat}(hab:a<=b)(hb:b<=O.length)(hn:∀e o,a<=e->e<b->O[e]? = some o->isE E.P o=false):(c b).h=(c a).h:=by obtain⟨k,rfl⟩:∃k,b=a+k:=⟨b-a,Nr⟩;exact W.flat k a hb hn
def HB(E:Env)(O:List Oper)(c:Nat->St)(D:List Nat)(h:ag):Prop :=
 (∀e o,O[e]? = some o->isE E.P o=true->e∉D->(∀e' o',e'<e->O[e']? = some o'->isE E.P o'=true->e'∈D)->h=(c e).h) /\
 ((∀e o,O[e]? = some o->isE E.P o=true->e∈D)->h=(c O.length).h)
theorem lq.span(W:lq E call O sp c){D:List Nat}(hD:fR O D){i:Nat}{o:Oper}(ho:O[i]? = some o)(hR:isR E.P o=true)(hi:i∉D)(hw:bf O (c i).tm o=true) :
 ∀k,i+k<=O.length->(∀e o',i<=e->e<i+k->O[e]? = some o'->isE E.P o'=true->e∈D)->cC E (c (i+k)).h (opd (c i).tm) o.op=cC E (c i).h (opd (c i).tm) o.op
 |0,_,_=>rfl
 | k+1,hl,hn=>by
   have ih:=W.span hD ho hR hi hw k Nr λe o' h1 h2=>hn e o' h1 Nr;have hk:O[i+k]? = some O[i+k]:=List.getElem?_eq_getElem Nr
   cases hE:isE E.P O[i+k] with
   |false =>have:=pB hE (W.run (i+k) _ hk);rw[show i+(k+1)=i+k+1 by omega,this];exact ih
   | true =>
     have hd:=hn (i+k) _ Nr Nr hk hE;rcases W.GW i (i+k) o _ ho hk hR hE with h|h|h
     ·exact absurd (fY hD _ _ hd h) hi
     ·have:=iC W.down _ _ h;omega
     ·rw[show i+(k+1)=i+k+1 by omega];exact(h hw).2
theorem lq.CK(W:lq E call O sp c){D:List Nat}(hD:fR O D){h:ag}(hb:HB E O c D h){i:Nat}{o:Oper}(ho:O[i]? = some o)(hR:isR E.P o=true)(hi:i∉D)
 (hr:∀o,O[i]? = some o->∀p,p∈eQ o->p∈D) (hw:bf O (c i).tm o=true):cC E h (opd (c i).tm) o.op=cC E (c i).h (opd (c i).tm) o.op:=by
 have hlen:i<O.length:=(List.getElem?_eq_some_iff.1 ho).1;by_cases hx:∃(e:Nat) (o':Oper),O[e]? = some o'/\isE E.P o'=true/\e∉D
 ·obtain⟨e0,he0⟩:=hx;obtain⟨e,_,⟨o',he,hE,heD⟩,hmin⟩:=vU (λe=>∃o',O[e]? = some o'/\isE E.P o'=true/\e∉D) e0 he0;have hfirst:∀e' o',e'<e->O[e']? = some o'->isE E.P o'=true->e'∈D:=λe' o' hlt h1 h2=>Classical.byContradiction λh3=>hmin e' hlt ⟨o',h1,h2,h3⟩;rw[hb.1 e o' he hE heD hfirst];rcases W.GW i e o o' ho he hR hE with h|h|h
  ·have hlt:=iC W.down _ _ h;have hel:e<O.length:=(List.getElem?_eq_some_iff.1 he).1;have:=W.span hD ho hR hi hw (e-i) Nr λe' o'' h1 h2 h3 h4=>hfirst e' o'' Nr h3 h4;rwa[show i+(e-i)=e by omega]at this
  ·exact absurd (dF hD hr h) heD
  ·exact(h hw).1
 ·have hall:∀e o',O[e]? = some o'->isE E.P o'=true->e∈D:=λe o' h1 h2=>Classical.byContradiction λh3=>hx ⟨e,o',h1,h2,h3⟩;rw[hb.2 hall];have:=W.span hD ho hR hi hw (O.length-i) Nr λe' o'' h1 h2 h3 h4=>hall e' o'' h3 h4;rwa[show i+(O.length-i)=O.length by omega]at this
theorem HB.quiet(hb:HB E O c D h)(ho:O[i]? = some o)(hE:isE E.P o=false):HB E O c (i::D) h:=by
 have hne:∀e o',O[e]? = some o'->isE E.P o'=true->e≠i:=by intro e o' h1 h2 h3;subst h3;rw[ho]at h1;injection h1 with h1;subst h1;rw[hE]at h2;cases h2
 constructor
 ·intro e o' he hE' heD hf;refine hb.1 e o' he hE' (λhh=>heD (List.mem_cons_of_mem _ hh)) λe' o'' hlt h1 h2=>?_;have:=hf e' o'' hlt h1 h2;simp only[List.mem_cons]at this;rcases this with h3|h3
  ·exact absurd h3 (hne e' o'' h1 h2)
  ·exact h3
 ·intro hall;refine hb.2 λe o' h1 h2=>?_;have:=hall e o' h1 h2;simp only[List.mem_cons]at this;rcases this with h3|h3
  ·exact absurd h3 (hne e o' h1 h2)
  ·exact h3
theorem lq.pU(W:lq E call O sp c){D:List Nat}{h:ag}(hb:HB E O c D h){i:Nat}{o:Oper}(ho:O[i]? = some o)(hE:isE E.P o=true)(hi:i∉D)
 (hlo:∀e o',e<i->O[e]? = some o'->isE E.P o'=true->e∈D) (hhi:∀e o',i<e->O[e]? = some o'->isE E.P o'=true->e∉D):h=(c i).h/\HB E O c (i::D) (c (i+1)).h:=by
 have hlen:i<O.length:=(List.getElem?_eq_some_iff.1 ho).1;refine⟨hb.1 i o ho hE hi hlo,?_,?_⟩
 ·intro e o' he hE' heD hf;have hel:e<O.length:=(List.getElem?_eq_some_iff.1 he).1;simp only[List.mem_cons,not_or]at heD;have hie:i<e:=by
   rcases Nat.lt_trichotomy e i with h1|h1|h1
   ·exact absurd (hlo e o' h1 he hE') heD.2
   ·exact absurd h1 heD.1
   ·exact h1
  refine(W.ub Nr Nr ?_).symm;intro e' o'' h1 h2 h3
  cases h4:isE E.P o'' with
  |false=>rfl
  | true =>
    have:=hf e' o'' h2 h3 h4;simp only[List.mem_cons]at this;rcases this with h5|h5
    ·omega
    ·exact absurd h5 (hhi e' o'' Nr h3 h4)
 ·intro hall;refine(W.ub Nr (Nat.le_refl _) ?_).symm;intro e' o'' h1 h2 h3
  cases h4:isE E.P o'' with
  |false=>rfl
  | true =>
    have:=hall e' o'' h3 h4;simp only[List.mem_cons]at this;rcases this with h5|h5
    ·omega
    ·exact absurd h5 (hhi e' o'' Nr h3 h4)
def HI(E:Env)(O:List Oper)(sp:Option (Nat×Nat))(c:Nat->St)(D:List Nat)(h:ag):Prop :=
 match sp with
 |none=>HB E O c D h
 |some (y,z)=>(z∉D->HB E O c D h) /\
  (z∈D->y∉D->∀oz tz az vz a,O[z]? = some oz->eY oz=some (tz,az,vz)->opd (c z).tm az=.pointer (some a)->bQ (c y).h a (aM (opd (c z).tm vz))=some h) /\
  (z∈D->y∈D->sH h (c O.length).h)
theorem na{v:Operand}(h:aop E call (.store t a v) s=some r):∃ad,opd s.tm a=.pointer (some ad)/\asz E.P t=some (aM (opd s.tm v)).length/\bQ s.h ad (aM (opd s.tm v))=some r.2/\r.1=undef:=by
 simp only[aop,kindOf,iE]at h
 cases hs:jB E s.h t (opd s.tm a) (opd s.tm v) with
 |none=>simp[hs]at h
 | some h' =>
   simp[hs]at h;subst h;unfold jB at hs;split at hs
   ·rename_i ad ha;split at hs
    ·rename_i hz;exact⟨ad,ha,hz,hs,rfl⟩
    ·cases hs
   ·cases hs
theorem vA{v:Operand}{ad:Addr}(h1:opd s.tm a=.pointer (some ad))(h2:asz E.P t=some (aM (opd s.tm v)).length)(h3:bQ s.h ad (aM (opd s.tm v))=some h') :
 aop E call (.store t a v) s=some (undef,h'):=by
 simp only[aop,kindOf,iE,jB,h1,h2,if_true,h3,Option.map_some]
theorem rJ{v:Operand}(h:eY o=some (t,a,v)):o.guard=none/\o.op=.store t a v:=by
 unfold eY at h;split at h
 ·rename_i hg ho;simp only[Option.some.injEq,Prod.mk.injEq]at h;obtain⟨rfl,rfl,rfl⟩:=h;exact⟨hg,ho⟩
 ·cases h
theorem rv(s:sH h h')(a:Addr)(n:Nat):cg E h a n=cg E h' a n:=by simp only[cg,s.2]
theorem Bc(s:sH h h'){ev:Operand->Value}{op:Op}:cC E h ev op=cC E h' ev op:=by
 cases op with
 |load t x=>simp only[cC,kd,rv s]
 |lookup t x i ok=>simp only[cC,fe,nI,s.2]
 |convert a b x=>simp only[cC,rv s]
 | call c =>
   obtain⟨callee,args,ats⟩:=c
   cases callee with
   |value y=>rfl
   |invoke y name=>rfl
   |builtin b=>cases b<;>first|rfl|simp only[cC,mI,nI,s.2]
 |_=>rfl
theorem Fr.step(W:lq E call O sp c)(F:Fr O c D tm)(ho:O[i]? = some o)(hi:i∉D)(hv:(c (i+1)).tm=du (c i).tm o.dst v):Fr O c (i::D) (du tm o.dst v):=by
 intro t;constructor
 ·intro j oj hj hoj hd;rw[dQ];by_cases e:j=i
  ·subst e;rw[ho]at hoj;injection hoj with hoj;subst hoj;rw[hv,dQ,if_pos hd,if_pos hd]
  ·have hjD:j∈D:=O5;rw[if_neg (λh=>e (W.qO j i oj o t hoj ho hd h))];exact(F t).1 j oj hjD hoj hd
 ·intro hn;rw[dQ,if_neg (hn i o Nw ho)];exact(F t).2 λj oj hj hoj=>hn j oj (List.mem_cons_of_mem _ hj) hoj
theorem zh(hE:isE E.P o=false)(hag:∀x,x∈o.op.operands->opd tm x=opd s.tm x)(ha:aop E call o.op s=some (v,s.h))(hr:isR E.P o=true->cC E h (opd s.tm) o.op=cC E s.h (opd s.tm) o.op) :
 aop E call o.op ⟨tm,h⟩=some (v,h):=by
 unfold aop at ha|-;unfold isE at hE;unfold isR at hr;cases hk:kindOf E.P o.op<;>simp only[hk]at ha hE hr|-
 ·cases hp:cu E.P (opd s.tm) o.op with
  |none=>simp[hp]at ha
  |some u=>simp[hp]at ha;rw[sk hag,hp];simp[ha]
 ·cases hp:cC E s.h (opd s.tm) o.op with
  |none=>simp[hp]at ha
  |some u=>simp[hp]at ha;rw[sj hag,hr trivial,hp];simp[ha]
 ·cases hE
 ·cases hE
theorem lq.step(W:lq E call O sp c){D:List Nat}(hD:fR O D){tm:Tr Value}{h:ag}(F:Fr O c D tm)(hI:HI E O sp c D h){i:Nat}(hlt:i<O.length)(hi:i∉D)
 (hr:∀o,O[i]? = some o->∀p,p∈eQ o->p∈D):∃o tm' h',O[i]? = some o/\jk E call O o ⟨tm,h⟩=some ⟨tm',h'⟩/\Fr O c (i::D) tm'/\HI E O sp c (i::D) h':=by
 have ho:O[i]? = some O[i]:=List.getElem?_eq_getElem hlt;generalize O[i]=o at ho;have hag:=W.IM hD F ho hi hr;have hopd:=vR hag;have hwa:=nF hag;obtain⟨v,hv,hcase⟩:=jj (W.run i o ho);have F':=F.step W ho hi hv;refine⟨o,du tm o.dst v,?_⟩
 cases hE:isE E.P o with
 | false =>
   have hq:=pB hE (W.run i o ho);refine⟨h,ho,?_,F',?_⟩
   ·rcases hcase with⟨hw,ha⟩|⟨hw,rfl,_⟩
    ·rw[hq]at ha;have hread:isR E.P o=true->cC E h (opd (c i).tm) o.op=cC E (c i).h (opd (c i).tm) o.op:=by
      intro hR
      cases hsp:sp with
      |none =>unfold HI at hI;rw[hsp]at hI;exact W.CK hD hI ho hR hi hr hw
      | some yz =>
        obtain⟨y,z⟩:=yz;have hI':=hI;unfold HI at hI';rw[hsp]at hI';by_cases hz:z∈D
        ·rcases W.sp3 y z hsp i o ho hR with⟨_,h2⟩|⟨h1,h2⟩
         ·exact absurd (fY hD _ _ hz h2) hi
         ·have hy:=dF hD hr h1;have hsame:=hI'.2.2 hz hy;rw[Bc hsame];have hzi:=iC W.down _ _ h2;have hyi:=iC W.down _ _ h1
          have:=W.ub (a:=i) (b:=O.length) Nr (Nat.le_refl _) (by
           intro e oe h3 h4 h5
           cases h6:isE E.P oe with
           |false=>rfl
           | true =>
             rcases W.sp2 y z hsp e oe h5 h6 with rfl|rfl|⟨h7,h8⟩
             ·omega
             ·omega
             ·have:=iC W.down _ _ h8;omega)
          rw[this]
        ·exact W.CK hD (hI'.1 hz) ho hR hi hr hw
     have:=zh (call:=call) hE hopd ha hread;unfold jk;rw[hwa,hw,if_pos rfl,this]
    ·unfold jk;rw[hwa,hw];simp
   ·unfold HI at hI|-
    cases hsp:sp with
    |none=>rw[hsp]at hI;exact hI.quiet ho hE
    | some yz =>
      obtain⟨y,z⟩:=yz;rw[hsp]at hI;obtain⟨_,oy,oz,hy,hz,hEy,hEz,_⟩:=W.sp1 y z hsp;have ny:y≠i:=λe=>by subst e;rw[ho]at hy;injection hy with hy;subst hy;rw[hE]at hEy;cases hEy
      have nz:z≠i:=λe=>by subst e;rw[ho]at hz;injection hz with hz;subst hz;rw[hE]at hEz;cases hEz
      simp only[List.mem_cons,ny,nz,false_or];exact⟨λhh=>(hI.1 hh).quiet ho hE,hI.2.1,hI.2.2⟩
 | true =>
   have whole:h=(c i).h->HI E O sp c (i::D) (c (i+1)).h->∃h',O[i]? = some o/\jk E call O o ⟨tm,h⟩=some ⟨du tm o.dst v,h'⟩/\Fr O c (i::D) (du tm o.dst v)/\HI E O sp c (i::D) h':=by
    intro hh hI2;subst hh;refine⟨(c (i+1)).h,ho,?_,F',hI2⟩;unfold jk;rcases hcase with⟨hw,ha⟩|⟨hw,rfl,he⟩
    ·rw[hwa,hw,if_pos rfl,qX hopd,ha]
    ·rw[hwa,hw,he];simp
   cases hsp:sp with
   | none =>
     unfold HI at hI;rw[hsp]at hI
     have:=W.pU hI ho hE hi (by
      intro e o' h1 h2 h3;rcases W.mE e i o' o h1 h2 ho h3 hE with h4|h4
      ·exact dF hD hr h4
      ·rw[hsp]at h4;cases h4) (by
      intro e o' h1 h2 h3 h5;rcases W.mE i e o o' h1 ho h2 hE h3 with h4|h4
      ·exact hi (fY hD _ _ h5 h4)
      ·rw[hsp]at h4;cases h4)
     exact hsp▸whole this.1 (by unfold HI;rw[hsp];exact this.2)
   | some yz =>
     obtain⟨y,z⟩:=yz;rw[<-hsp];have hI0:=hI;unfold HI at hI;rw[hsp]at hI;obtain⟨hyz,oy,oz,hy,hz,hEy,hEz,ty,ay,vy,tz,az,vz,hpy,hpz,hap⟩:=W.sp1 y z hsp;obtain⟨hgy,hoy⟩:=rJ hpy;obtain⟨hgz,hoz⟩:=rJ hpz;have hlz:z<O.length:=(List.getElem?_eq_some_iff.1 hz).1;have others:∀e o',O[e]? = some o'->isE E.P o'=true->e≠y->e≠z->bef (bh O []) e y=true/\bef (bh O []) e z=true:=by
      intro e o' h1 h2 h3 h4;rcases W.sp2 y z hsp e o' h1 h2 with h5|h5|h5
      ·exact absurd h5 h3
      ·exact absurd h5 h4
      ·exact h5
     have hyz_h:(c z).h=(c (y+1)).h:=W.ub Nr Nr (by
      intro e oe h3 h4 h5
      cases h6:isE E.P oe with
      |false=>rfl
      | true =>
        have:=others e oe h5 h6 Nr Nr
        have:=iC W.down _ _ this.1;omega)
     have hzn_h:(c O.length).h=(c (z+1)).h:=W.ub Nr (Nat.le_refl _) (by
      intro e oe h3 h4 h5
      cases h6:isE E.P oe with
      |false=>rfl
      | true =>
        have:=others e oe h5 h6 Nr Nr
        have:=iC W.down _ _ this.2;omega)
     have cy:∃ad,opd (c y).tm ay=.pointer (some ad)/\asz E.P ty=some (aM (opd (c y).tm vy)).length/\bQ (c y).h ad (aM (opd (c y).tm vy))=some (c (y+1)).h/\(c (y+1)).tm=du (c y).tm oy.dst undef:=by
      obtain⟨u,hu,hc|hc⟩:=jj (W.run y oy hy)
      ·rw[hoy]at hc;obtain⟨ad,h1,h2,h3,h4⟩:=na hc.2;simp only at h4;subst h4;exact⟨ad,h1,h2,h3,hu⟩
      ·have:bf O (c y).tm oy=true:=by unfold bf;rw[hgy]
       rw[this]at hc;cases hc.1
     have cz:∃ad,opd (c z).tm az=.pointer (some ad)/\asz E.P tz=some (aM (opd (c z).tm vz)).length/\bQ (c z).h ad (aM (opd (c z).tm vz))=some (c (z+1)).h/\(c (z+1)).tm=du (c z).tm oz.dst undef:=by
      obtain⟨u,hu,hc|hc⟩:=jj (W.run z oz hz)
      ·rw[hoz]at hc;obtain⟨ad,h1,h2,h3,h4⟩:=na hc.2;simp only at h4;subst h4;exact⟨ad,h1,h2,h3,hu⟩
      ·have:bf O (c z).tm oz=true:=by unfold bf;rw[hgz]
       rw[this]at hc;cases hc.1
     obtain⟨ady,y1,y2,y3,y4⟩:=cy;obtain⟨adz,z1,z2,z3,z4⟩:=cz;rw[hyz_h]at z3;obtain⟨h3,h4,e1,e2,e3⟩:=At y3 z3 (hap _ _ y1 z1);by_cases hzD:z∈D
     ·have hiy:i=y:=by
       apply Classical.byContradiction;intro hne;by_cases hiz:i=z
       ·exact hi (hiz▸hzD)
       ·exact hi (fY hD _ _ hzD (others i o ho hE hne hiz).2)
      subst hiy;rw[ho]at hy;injection hy with hy;subst hy;have hh:=hI.2.1 hzD hi oz tz az vz adz hz hpz z1;rw[e1]at hh;injection hh with hh;subst hh;have hv':v=undef:=by
       rcases hcase with⟨_,ha⟩|⟨_,h2,_⟩
       ·rw[hoy]at ha;exact(na ha).choose_spec.2.2.2
       ·exact h2
      refine⟨h4,ho,?_,F',?_⟩
      ·have hw:bf O tm o=true:=by unfold bf;rw[hgy]
       have hop:aop E call o.op ⟨tm,h3⟩=some (undef,h4):=by rw[qX (tm':=(c i).tm) hopd,hoy];exact vA y1 y2 e2
       unfold jk;rw[if_pos hw,hop,hv']
      ·unfold HI;rw[hsp];refine⟨λhh=>absurd (List.mem_cons_of_mem _ hzD) hh,λ_ hh=>absurd Nw hh,λ_ _=>?_⟩;rw[hzn_h];exact e3
     ·have hB:=hI.1 hzD;by_cases hiz:i=z
      ·subst hiz;by_cases hyD:y∈D
       ·have:=W.pU hB ho hE hi (by
         intro e o' h1 h2 h3;by_cases hey:e=y
         ·exact hey▸hyD
         ·exact dF hD hr (others e o' h2 h3 hey Nr).2) (by
         intro e o' h1 h2 h3 h5;have:=(others e o' h2 h3 Nr Nr).2
         have:=iC W.down _ _ this;omega)
        refine whole this.1 ?_;unfold HI;rw[hsp];refine⟨λhh=>absurd Nw hh,λ_ hh=>absurd (List.mem_cons_of_mem _ hyD) hh,λ_ _=>?_⟩;rw[hzn_h];exact sH.refl _
       ·rw[ho]at hz;injection hz with hz;subst hz
        have hh:h=(c y).h:=hB.1 y oy hy hEy hyD (by
         intro e o' h1 h2 h3
         exact dF hD hr (others e o' h2 h3 Nr Nr).2)
        subst hh;have hv':v=undef:=by
         rcases hcase with⟨_,ha⟩|⟨_,h2,_⟩
         ·rw[hoz]at ha;exact(na ha).choose_spec.2.2.2
         ·exact h2
        refine⟨h3,ho,?_,F',?_⟩
        ·have hw:bf O tm o=true:=by unfold bf;rw[hgz]
         have hop:aop E call o.op ⟨tm,(c y).h⟩=some (undef,h3):=by rw[qX (tm':=(c i).tm) hopd,hoz];exact vA z1 z2 e1
         unfold jk;rw[if_pos hw,hop,hv']
        ·unfold HI;rw[hsp];refine⟨λhh=>absurd Nw hh,λ_ _=>?_,λ_ hh=>?_⟩
         ·intro oz' tz' az' vz' a' g1 g2 g3;rw[ho]at g1;injection g1 with g1;subst g1;rw[hpz]at g2;simp only[Option.some.injEq,Prod.mk.injEq]at g2;obtain⟨rfl,rfl,rfl⟩:=g2;rw[z1]at g3;injection g3 with g3;injection g3 with g3;subst g3;exact e1
         ·simp only[List.mem_cons]at hh;rcases hh with hh|hh
          ·omega
          ·exact absurd hh hyD
      ·by_cases hiy:i=y
       ·subst hiy
        have:=W.pU hB ho hE hi (by
         intro e o' h1 h2 h3
         exact dF hD hr (others e o' h2 h3 Nr Nr).1) (by
         intro e o' h1 h2 h3 h5;by_cases hez:e=z
         ·exact hzD (hez▸h5)
         ·have:=(others e o' h2 h3 Nr hez).1
          have:=iC W.down _ _ this;omega)
        refine whole this.1 ?_;unfold HI;rw[hsp];refine⟨λ_=>this.2,λhh=>?_,λhh=>?_⟩
        ·simp only[List.mem_cons]at hh;rcases hh with hh|hh
         ·omega
         ·exact absurd hh hzD
        ·simp only[List.mem_cons]at hh;rcases hh with hh|hh
         ·omega
         ·exact absurd hh hzD
       ·have hbi:=others i o ho hE hiy hiz;have hyD:y∉D:=λhh=>hi (fY hD _ _ hh hbi.1)
        have:=W.pU hB ho hE hi (by
         intro e o' h1 h2 h3;rcases W.mE e i o' o h1 h2 ho h3 hE with h4|h4
         ·exact dF hD hr h4
         ·rw[hsp]at h4;injection h4 with h4;injection h4 with _ h4;exact absurd h4.symm hiz) (by
         intro e o' h1 h2 h3 h5;rcases W.mE i e o o' h1 ho h2 hE h3 with h4|h4
         ·exact hi (fY hD _ _ h5 h4)
         ·rw[hsp]at h4;injection h4 with h4;injection h4 with h4 _;exact absurd h4.symm hiy)
        refine whole this.1 ?_;unfold HI;rw[hsp];have nz:z∉i::D:=by simp only[List.mem_cons,not_or];exact⟨λe=>hiz e.symm,hzD⟩
        exact⟨λ_=>this.2,λhh=>absurd hh nz,λhh=>absurd hh nz⟩
end
def trace(E:Env)(call:di)(O:List Oper):List Oper->St->Option (List St)
 |[],s=>some [s]
 | o::l,s=>match jk E call O o s with
   |some s'=>(trace E call O l s').map (s::·)
   |none=>none
def nodupB:List Nat->Bool
 |[]=>true
 |x::l=>!l.contains x&&nodupB l
def CS:List (Oper×Nat)->Option (Nat×Nat)
 |[]=>none
 |[_]=>none
 |[x,y]=>some (x.2,y.2)
 |_::l=>CS l
def iV(P:Program)(O:List Oper)(M:List Nat):Option (Nat×Nat) :=
 match CS (O.zipIdx.filter λx=>isE P x.1) with
 |some (y,z)=>if bef M y z then none else some (y,z)
 |none=>none
def jc(P:Program)(O:List Oper)(M:List Nat)(sp:Option (Nat×Nat)):Bool :=
 (O.zipIdx.all λx=>(eQ x.1).all λp=>decide (p<x.2)) &&
 nodupB (O.filterMap (·.dst)) &&
 (O.zipIdx.all λx=>(jO O x.1).all λt=>O.zipIdx.all λy=>(match y.1.dst with
  |some d=>!(d==t)
  |none=>true)||(bef M y.2 x.2||(bef M x.2 y.2||x.2==y.2))) &&
 ((O.zipIdx.filter λx=>isE P x.1).all λx=>(O.zipIdx.filter λx=>isE P x.1).all λy=>!decide (x.2<y.2)||(bef M x.2 y.2||decide (sp=some (x.2,y.2)))) &&
 (match sp with
  |none=>true
  |some (y,z)=>decide (y<z) &&
   ((O.zipIdx.filter λx=>isE P x.1).all λx=>x.2==y||(x.2==z||(bef M x.2 y&&bef M x.2 z))) &&
   ((O.zipIdx.filter λx=>isR P x.1).all λx=>(bef M x.2 y&&bef M x.2 z)||(bef M y x.2&&bef M z x.2)) &&
   (match O[y]?,O[z]? with
    |some oy,some oz=>isE P oy&&isE P oz&&((eY oy).isSome&&(eY oz).isSome)
    |_,_=>false))
def cT(tr:List St)(s:St)(i:Nat):St:=tr.getD i s
def Hr(c:Nat->St)(oy oz:Oper)(y z:Nat):Bool :=
 match eY oy,eY oz with
 | some (_,ay,vy),some (_,az,vz) =>
   match opd (c y).tm ay,opd (c z).tm az with
   |.pointer (some a),.pointer (some b)=>xU a (aM (opd (c y).tm vy)).length b (aM (opd (c z).tm vz)).length
   |_,_=>true
 |_,_=>false
def BU(E:Env)(O:List Oper)(M:List Nat)(sp:Option (Nat×Nat))(c:Nat->St):Bool :=
 ((O.zipIdx.filter λx=>isR E.P x.1).all λx=>(O.zipIdx.filter λx=>isE E.P x.1).all λy =>
  bef M x.2 y.2||(bef M y.2 x.2||(!bf O (c x.2).tm x.1 ||
   (match cC E (c x.2).h (opd (c x.2).tm) x.1.op,cC E (c y.2).h (opd (c x.2).tm) x.1.op,cC E (c (y.2+1)).h (opd (c x.2).tm) x.1.op with
    |some u,some v,some w=>veq v u&&veq w u
    |_,_,_=>false)))) &&
 (match sp with
  |none=>true
  | some (y,z)=>match O[y]?,O[z]? with
    |some oy,some oz=>Hr c oy oz y z
    |_,_=>false)
def wv(E:Env)(call:di)(O:List Oper)(s:St):Option St :=
 match trace E call O O s with
 |some tr =>if jc E.P O (bh O []) (iV E.P O (bh O []))=true/\BU E O (bh O []) (iV E.P O (bh O [])) (cT tr s)=true then some (cT tr s O.length) else none
 |none=>none
theorem lK{E:Env}{call:di}{O:List Oper}:∀(l:List Oper) (s:St) (tr:List St),trace E call O l s=some tr ->
 tr[0]? = some s/\∀i o,l[i]? = some o->∃s1 s2,tr[i]? = some s1/\tr[i+1]? = some s2/\jk E call O o s1=some s2
 | [],s,tr,h=>by
   simp[trace]at h;subst h;exact⟨rfl,λi o hi=>by simp at hi⟩
 | o::l,s,tr,h=>by
   simp only[trace]at h
   cases ha:jk E call O o s with
   |none=>simp[ha]at h
   | some s' =>
     simp only[ha]at h
     cases ht:trace E call O l s' with
     |none=>simp[ht]at h
     | some tr' =>
       simp[ht]at h;subst h;obtain⟨h0,h1⟩:=lK l s' tr' ht;refine⟨rfl,λi o' hi=>?_⟩
       cases i with
       |zero =>simp at hi;subst hi;exact⟨s,s',rfl,by simpa using h0,ha⟩
       |succ i =>simp at hi;obtain⟨s1,s2,g1,g2,g3⟩:=h1 i o' hi;exact⟨s1,s2,by simpa using g1,by simpa using g2,g3⟩
theorem qD:∀(O:List Oper),nodupB (O.filterMap (·.dst))=true->∀(i j:Nat) (o o':Oper) (d:Nat),O[i]? = some o->O[j]? = some o'->o.dst=some d->o'.dst=some d->i=j
 |[],_,i,j,o,o',d,hi,_,_,_=>by simp at hi
 | u::O,h,i,j,o,o',d,hi,hj,hd,hd'=>by
   have htail:nodupB (O.filterMap (·.dst))=true:=by
    cases hu:u.dst with
    |none=>simpa[List.filterMap_cons,hu] using h
    |some e=>simp only[List.filterMap_cons,hu,nodupB,Bool.and_eq_true]at h;exact h.2
   have hno:∀(k:Nat) (ok:Oper),O[k]? = some ok->u.dst=some d->ok.dst=some d->False:=by intro k ok hk hu hok;simp only[List.filterMap_cons,hu,nodupB,Bool.and_eq_true,Bool.not_eq_true']at h;have:d∈O.filterMap (·.dst):=List.mem_filterMap.2 ⟨ok,List.mem_of_getElem? hk,hok⟩;have h2:=h.1;rw[List.contains_iff_mem.2 this]at h2;cases h2
   cases i with
   | zero =>
     simp at hi;subst hi
     cases j with
     |zero=>rfl
     |succ j=>simp at hj;exact(hno j o' hj hd hd').elim
   | succ i =>
     simp at hi
     cases j with
     |zero=>simp at hj;subst hj;exact(hno i o hi hd' hd).elim
     |succ j =>simp at hj;rw[qD O htail i j o o' d hi hj hd hd']
theorem eg{O:List Oper}(h:O[i]? = some o):(o,i)∈O.zipIdx:=by rw[List.mk_mem_zipIdx_iff_getElem?];exact h
theorem JF{E:Env}{call:di}{O:List Oper}{tr:List St}{sp:Option (Nat×Nat)}(ht:trace E call O O s=some tr)(h1:jc E.P O (bh O []) sp=true)(h2:BU E O (bh O []) sp (cT tr s)=true) :
 lq E call O sp (cT tr s):=by
 obtain⟨t0,t1⟩:=lK O s tr ht;simp only[jc,Bool.and_eq_true,List.all_eq_true,List.mem_filter]at h1;obtain⟨⟨⟨⟨a1,a2⟩,a3⟩,a4⟩,a5⟩:=h1;simp only[BU,Bool.and_eq_true,List.all_eq_true,List.mem_filter]at h2;obtain⟨b1,b2⟩:=h2;refine⟨?_,?_,qD O a2,?_,?_,?_,?_,?_,?_⟩
 ·intro i o ho;obtain⟨s1,s2,g1,g2,g3⟩:=t1 i o ho;have e1:cT tr s i=s1:=by simp[cT,List.getD,g1]
  have e2:cT tr s (i+1)=s2:=by simp[cT,List.getD,g2]
  rw[e1,e2];exact g3
 ·intro i o ho p hp;have:=a1 _ (eg ho) p hp;simpa using this
 ·intro i o t j o' ho ht' hj hd;have:=a3 _ (eg ho) t ht' _ (eg hj);simp only[hd,Bool.or_eq_true,Bool.not_eq_true',beq_eq_false_iff_ne,ne_eq,not_true_eq_false,false_or,beq_iff_eq]at this;exact this
 ·intro a b o o' hab ha hb hE hE';have:=a4 _ ⟨eg ha,hE⟩ _ ⟨eg hb,hE'⟩;simp only[Bool.or_eq_true,Bool.not_eq_true',decide_eq_false_iff_not,decide_eq_true_eq]at this;rcases this with h|h
  ·exact absurd hab h
  ·exact h
 ·intro i e o o' ho he hR hE;have:=b1 _ ⟨eg ho,hR⟩ _ ⟨eg he,hE⟩;simp only[Bool.or_eq_true,Bool.not_eq_true']at this;rcases this with h|h|h|h
  ·exact .inl h
  ·exact .inr (.inl h)
  ·right;right;intro hw;rw[h]at hw;cases hw
  ·right;right;intro _;split at h
   ·rename_i u v w g1 g2 g3;simp only[Bool.and_eq_true]at h;rw[g1,g2,g3,tp _ _ h.1,tp _ _ h.2];exact⟨rfl,rfl⟩
   ·cases h
 ·intro y z hsp;subst hsp;simp only[Bool.and_eq_true,List.all_eq_true,decide_eq_true_eq,List.mem_filter]at a5;obtain⟨⟨⟨c1,_⟩,_⟩,c4⟩:=a5;refine⟨c1,?_⟩;simp only at b2;split at c4
  ·rename_i oy oz gy gz;simp only[gy,gz]at b2;simp only[Bool.and_eq_true]at c4;obtain⟨⟨c5,c6⟩,c7,c8⟩:=c4;refine⟨oy,oz,gy,gz,c5,c6,?_⟩;obtain⟨⟨ty,ay,vy⟩,e1⟩:=Option.isSome_iff_exists.1 c7;obtain⟨⟨tz,az,vz⟩,e2⟩:=Option.isSome_iff_exists.1 c8;refine⟨ty,ay,vy,tz,az,vz,e1,e2,?_⟩;intro a b ha hb;simp only[Hr,e1,e2,ha,hb]at b2;exact b2
  ·cases c4
 ·intro y z hsp e o ho hE;subst hsp;simp only[Bool.and_eq_true,List.all_eq_true,decide_eq_true_eq,List.mem_filter]at a5;have:=a5.1.1.2 _ ⟨eg ho,hE⟩;simp only[Bool.or_eq_true,Bool.and_eq_true,beq_iff_eq]at this;exact this
 ·intro y z hsp i o ho hR;subst hsp;simp only[Bool.and_eq_true,List.all_eq_true,decide_eq_true_eq,List.mem_filter]at a5;have:=a5.1.2 _ ⟨eg ho,hR⟩;simp only[Bool.or_eq_true,Bool.and_eq_true]at this;exact this
theorem rZ{O:List Oper}(hD:fR O D)(hr:∀o,O[i]? = some o->∀p,p∈eQ o->p∈D):fR O (i::D):=by
 intro j o hj ho p hp;simp only[List.mem_cons]at hj;rcases hj with rfl|hj
 ·exact List.mem_cons_of_mem _ (hr o ho p hp)
 ·exact List.mem_cons_of_mem _ (hD j o hj ho p hp)
theorem vC{E:Env}{call:di}{ops:Array Oper}{sp:Option (Nat×Nat)}{c:Nat->St}(W:lq E call ops.toList sp c):∀(r D:List Nat) (tm:Tr Value) (h:ag),uD ops.toList D r->fR ops.toList D->Fr ops.toList c D tm->HI E ops.toList sp c D h ->
 ∃s'',nH E call ops r ⟨tm,h⟩=some s''/\(∀t,aj s''.tm t=aj (c ops.toList.length).tm t)/\sH s''.h (c ops.toList.length).h
 | [],D,tm,h,hS,hD,F,hI=>by
   refine⟨_,rfl,λt=>?_,?_⟩
   ·have C:=W.canon ops.toList.length (Nat.le_refl _);by_cases hx:∃(j:Nat) (o':Oper),ops.toList[j]? = some o'/\o'.dst=some t
    ·obtain⟨j,o',hj,hd⟩:=hx;have hjl:j<ops.toList.length:=(List.getElem?_eq_some_iff.1 hj).1;rw[(F t).1 j o' (hS j hjl) hj hd,(C t).1 j o' (by simpa using hjl) hj hd]
    ·rw[(F t).2 (λj o' _ hj hd=>hx ⟨j,o',hj,hd⟩),(C t).2 (λj o' _ hj hd=>hx ⟨j,o',hj,hd⟩)]
   ·have hall:∀e o,ops.toList[e]? = some o->isE E.P o=true->e∈D:=λe o he _=>hS e (List.getElem?_eq_some_iff.1 he).1;unfold HI at hI
    cases hsp:sp with
    |none=>rw[hsp]at hI;rw[hI.2 hall];exact sH.refl _
    |some yz =>obtain⟨y,z⟩:=yz;rw[hsp]at hI;obtain⟨_,oy,oz,hy,hz,_⟩:=W.sp1 y z hsp;exact hI.2.2 (hS z (List.getElem?_eq_some_iff.1 hz).1) (hS y (List.getElem?_eq_some_iff.1 hy).1)
 | i::r,D,tm,h,hS,hD,F,hI=>by
   obtain⟨hi,hni,hr,hS'⟩:=hS;obtain⟨o,tm',h',ho,ha,F',hI'⟩:=W.step hD F hI hi hni hr;obtain⟨s'',g1,g2⟩:=vC W r (i::D) tm' h' hS' (rZ hD hr) F' hI';refine⟨s'',?_,g2⟩;simp only[nH];rw[show ops[i]? = some o by rw[<-Array.getElem?_toList];exact ho];simp only[ha];exact g1
theorem BS{E:Env}{call:di}(h:wv E call ops.toList s=some s')(t:Nat) :
 ∃s'',nH E call ops (Region.linearise .any ops t) s=some s''/\(∀t,aj s''.tm t=aj s'.tm t)/\sH s''.h s'.h:=by
 unfold wv at h;split at h
 ·rename_i tr ht;split at h
  ·rename_i hc;injection h with h;subst h;have W:=JF ht hc.1 hc.2;have e0:cT tr s 0=s:=by have:=(lK ops.toList s tr ht).1;simp[cT,List.getD,this]
   refine vC W _ [] s.tm s.h (iW W.down t) (λi o hi=>by simp at hi) ?_ ?_
   ·intro t;exact⟨λj o hj=>by simp at hj,λ_=>by rw[e0]⟩
   ·have hB:HB E ops.toList (cT tr s) [] s.h:=by
     constructor
     ·intro e o he hE _ hf;have hl:e<ops.toList.length:=(List.getElem?_eq_some_iff.1 he).1
      have:=W.ub (a:=0) (b:=e) (Nat.zero_le _) Nr (by
       intro e' o' _ h2 h3
       cases h4:isE E.P o' with
       |false=>rfl
       |true=>have:=hf e' o' h2 h3 h4;simp at this)
      rw[this,e0]
     ·intro hall
      have:=W.ub (a:=0) (b:=ops.toList.length) (Nat.zero_le _) (Nat.le_refl _) (by
       intro e' o' _ h2 h3
       cases h4:isE E.P o' with
       |false=>rfl
       |true=>have:=hall e' o' h3 h4;simp at this)
      rw[this,e0]
    unfold HI
    cases iV E.P ops.toList (bh ops.toList []) with
    |none=>exact hB
    |some yz=>exact⟨λ_=>hB,λhh=>by simp at hh,λhh=>by simp at hh⟩
  ·cases h
 ·cases h
mutual
def scQ(n:Nat->Bool):Value->Bool
 |.pointer (some a)=>n a.block
 |.slice (some a) _ _=>n a.block
 |.map (some r)=>n r
 |.chan (some r)=>n r
 |.func _ x y=>iK n x&&iK n y
 |.iface _ v=>scQ n v
 |.agg x=>iK n x
 |.tuple x=>iK n x
 |_=>true
def iK(n:Nat->Bool):Array Value->Bool
 |⟨l⟩=>j5 n l
def j5(n:Nat->Bool):List Value->Bool
 |[]=>true
 |v::l=>scQ n v&&j5 n l
end
theorem Jg(n:Nat->Bool)(l:List Value):j5 n l=l.all (scQ n):=by
 induction l with
 |nil=>simp[j5]
 |cons v l ih=>simp[j5,ih]
theorem iJ(n:Nat->Bool)(l:List Value):j5 n l=true↔∀v,v∈l->scQ n v=true:=by simp[Jg]
mutual
theorem gj(ρ ρ':Ren)(n:Nat->Bool)(h:∀b,n b=true->ρ' b=ρ b):∀v,scQ n v=true->ren ρ' v=ren ρ v
 | .pointer (some a),hs=>by
   have:=h a.block Pv;simp[ren,fm,this]
 | .slice (some a) l c,hs=>by
   have:=h a.block Pv;simp[ren,gJ,iy,this]
 | .map (some r),hs=>by
   have:=h r Pv;simp[ren,this]
 | .chan (some r),hs=>by
   have:=h r Pv;simp[ren,this]
 | .func f x y,hs=>by
   simp only[scQ,Bool.and_eq_true]at hs;simp only[ren,jI ρ ρ' n h x hs.1,jI ρ ρ' n h y hs.2]
 | .iface t v,hs=>by
   simp only[scQ]at hs;simp only[ren,gj ρ ρ' n h v hs]
 | .agg x,hs=>by
   simp only[scQ]at hs;simp only[ren,jI ρ ρ' n h x hs]
 | .tuple x,hs=>by
   simp only[scQ]at hs;simp only[ren,jI ρ ρ' n h x hs]
 |.bool b,_=>rfl
 |.int k n,_=>rfl
 |.float k b,_=>rfl
 |.complex k a b,_=>rfl
 |.string s,_=>rfl
 |.pointer none,_=>rfl
 |.slice none l c,_=>rfl
 |.map none,_=>rfl
 |.chan none,_=>rfl
 |.nilFunc,_=>rfl
 |.nilIface,_=>rfl
theorem jI(ρ ρ':Ren)(n:Nat->Bool)(h:∀b,n b=true->ρ' b=ρ b):∀a,iK n a=true->nV ρ' a=nV ρ a
 | ⟨l⟩,hs=>by
   simp only[iK]at hs;simp only[nV,rH ρ ρ' n h l hs]
theorem rH(ρ ρ':Ren)(n:Nat->Bool)(h:∀b,n b=true->ρ' b=ρ b):∀l,j5 n l=true->qA ρ' l=qA ρ l
 |[],_=>rfl
 | v::l,hs=>by
   simp only[j5,Bool.and_eq_true]at hs;simp only[qA,gj ρ ρ' n h v hs.1,rH ρ ρ' n h l hs.2]
end
mutual
theorem gf(n m:Nat->Bool)(h:∀b,n b=true->m b=true):∀v,scQ n v=true->scQ m v=true
 |.pointer (some a),hs=>OR
 |.slice (some a) l c,hs=>OR
 |.map (some r),hs=>OR
 |.chan (some r),hs=>OR
 | .func f x y,hs=>by
   simp only[scQ,Bool.and_eq_true]at *;exact⟨pk n m h x hs.1,pk n m h y hs.2⟩
 |.iface t v,hs=>by simp only[scQ]at *;exact gf n m h v hs
 |.agg x,hs=>by simp only[scQ]at *;exact pk n m h x hs
 |.tuple x,hs=>by simp only[scQ]at *;exact pk n m h x hs
 |.bool b,_=>rfl
 |.int k n,_=>rfl
 |.float k b,_=>rfl
 |.complex k a b,_=>rfl
 |.string s,_=>rfl
 |.pointer none,_=>rfl
 |.slice none l c,_=>rfl
 |.map none,_=>rfl
 |.chan none,_=>rfl
 |.nilFunc,_=>rfl
 |.nilIface,_=>rfl
theorem pk(n m:Nat->Bool)(h:∀b,n b=true->m b=true):∀a,iK n a=true->iK m a=true
 |⟨l⟩,hs=>by simp only[iK]at *;exact yN n m h l hs
theorem yN(n m:Nat->Bool)(h:∀b,n b=true->m b=true):∀l,j5 n l=true->j5 m l=true
 |[],_=>rfl
 | v::l,hs=>by
   simp only[j5,Bool.and_eq_true]at *;exact⟨gf n m h v hs.1,yN n m h l hs.2⟩
end
mutual
theorem ij(n:Nat):∀v,scQ (λb=>decide (b<n)) v=sc n v
 |.pointer (some a)=>by simp[scQ,sc]
 |.slice (some a) l c=>by simp[scQ,sc]
 |.map (some r)=>by simp[scQ,sc]
 |.chan (some r)=>by simp[scQ,sc]
 |.func f x y=>by simp only[scQ,sc,sO n x,sO n y]
 |.iface t v=>by simp only[scQ,sc,ij n v]
 |.agg x=>by simp only[scQ,sc,sO n x]
 |.tuple x=>by simp only[scQ,sc,sO n x]
 |.bool b=>rfl
 |.int k n=>rfl
 |.float k b=>rfl
 |.complex k a b=>rfl
 |.string s=>rfl
 |.pointer none=>rfl
 |.slice none l c=>rfl
 |.map none=>rfl
 |.chan none=>rfl
 |.nilFunc=>rfl
 |.nilIface=>rfl
theorem sO(n:Nat):∀a,iK (λb=>decide (b<n)) a=scA n a
 |⟨l⟩=>by simp only[iK,scA,CD n l]
theorem CD(n:Nat):∀l,j5 (λb=>decide (b<n)) l=scL n l
 |[]=>rfl
 |v::l=>by simp only[j5,scL,ij n v,CD n l]
end
def isF(P:Program)(o:Oper):Bool :=
 match kindOf P o.op with
 |.eff=>true
 |_=>false
def isA(P:Program)(o:Oper):Bool :=
 match kindOf P o.op with
 |.alloc=>true
 |_=>false
def Bb(q:Nat->Bool):bz->Prop
 |.cells c _ _=>∀v,v∈c->scQ q v=true
 |.map es _=>∀e,e∈es->scQ q e.key=true/\scQ q e.val=true
 |.iter _ _=>True
 |.miter m _=>q m=true
def jH(q:Nat->Bool):bz->Bool
 |.cells c _ _=>c.all (scQ q)
 |.map es _=>es.isEmpty
 |.iter _ _=>true
 |.miter m _=>q m
theorem Jh{o:bz}(h:jH q o=true):Bb q o:=by
 cases o with
 |cells c e fx=>simpa[jH,Bb] using h
 |map es k=>simp only[jH,List.isEmpty_iff]at h;subst h;intro e he;simp at he
 |iter s p=>trivial
 |miter m k=>exact h
theorem pn{q':Nat->Bool}(h:∀b,q b=true->q' b=true){o:bz}(hs:Bb q o):Bb q' o:=by
 cases o with
 |cells c e fx=>exact λv hv=>gf q q' h v (hs v hv)
 |map es k=>exact λe he=>⟨gf q q' h _ (hs e he).1,gf q q' h _ (hs e he).2⟩
 |iter s p=>trivial
 |miter m k=>exact h m hs
theorem rL{ρ':Ren}{x:Loc}{o:bz}{c:Obj}(h:∀b,q b=true->ρ' b=ρ b)(hs:Bb q o)(hr:fT P ρ x o c):fT P ρ' x o c:=by
 cases o with
 |cells l e fx =>cases c<;>simp only[fT]at hr|-;have:l.map (ren ρ')=l.map (ren ρ):=List.map_congr_left λv hv=>gj ρ ρ' q h v (hs v hv);rw[this];exact hr
 | map es k =>
   cases c<;>simp only[fT]at hr|-
   have:es.map (dO ρ')=es.map (dO ρ):=List.map_congr_left λe he=>by
    obtain⟨h1,h2⟩:=hs e he;simp only[dO,gj ρ ρ' q h _ h1,gj ρ ρ' q h _ h2]
   rw[this];exact hr
 |iter s p=>cases c<;>exact hr
 |miter m k =>cases c<;>simp only[fT]at hr|-;rw[h m hs];exact hr
theorem FR.Hn{ρ ρ':Ren}{n:Ns}{ds:List Deferred}{q:Nat->Bool}{tm:Tr Value}{a:Act}(F:FR ρ n ds tm a)(hext:∀b,q b=true->ρ' b=ρ b)(hs:∀t,scQ q (aj tm t)=true){d:Option Nat}(hd:Ai n d=true)(v:Value) :
 FR ρ' n ds (du tm d v) (a.put d (ren ρ' v)):=by
 cases d with
 |none =>refine⟨F.defers,F.size,λt ht=>?_⟩;simp only[du,Act.put];rw[F.val t ht,gj ρ ρ' q hext _ (hs t)]
 | some d =>
   have hd:=Ns.lt hd;refine⟨F.defers,by simp[Act.put,F.size],λt ht=>?_⟩;simp only[du,Act.put,bZ];by_cases e:d=t
   ·subst e;simp[Array.getD,F.size,hd]
   ·rw[if_neg e];have:=F.val t ht;rw[gj ρ ρ' q hext _ (hs t),<-this];rw[Array.getD_eq_getD_getElem?,Array.getD_eq_getD_getElem?,Array.getElem?_setIfInBounds_ne e]
theorem Step.Jm{E:Env}{B:Nat}{ρ0 ρ:Ren}{h0 h:ag}{w0 w:World}(s:Step E B ρ0 h0 w0 ρ h w){ob:bz}{cc:Obj}(hsc:scO h.next ob)(hB:B<=(ρ h.next).r)(hw:w0.heap.size<=(ρ h.next).r)
 (hc:w.heap[(ρ h.next).r]? = some cc) (ho:fT E.P ρ (ρ h.next) ob cc) (hd:∀b o,h.get b=some o->(ρ b).r≠(ρ h.next).r):Step E B ρ0 h0 w0 ρ (h.push ob) w where
 hr:={
  cj:=by have:=s.hr.cj;simp;omega
  fS:=s.hr.fS
  fG:=s.hr.fG
  fix:=s.hr.fix
  ro:=s.hr.ro
  live:=λb o hb=>by
   rw[ah]at hb;by_cases e:h.next=b
   ·subst e;simp only[if_true,Option.some.injEq]at hb;subst hb;exact⟨s.hr.cj,Nw,hB,j6 Nw hsc,cc,hc,ho⟩
   ·rw[if_neg e]at hb;obtain⟨h1,h2,h3,h4,h5⟩:=s.hr.live b o hb;exact⟨h1,Nu,h3,j6 Nw h4,h5⟩
  inj:=λb b' o o' h1 h2 he=>by
   rw[ah]at h1 h2;by_cases e1:h.next=b
   ·by_cases e2:h.next=b'
    ·omega
    ·rw[if_neg e2]at h2;subst e1;exact absurd he.symm (hd b' o' h2)
   ·rw[if_neg e1]at h1;by_cases e2:h.next=b'
    ·subst e2;exact absurd he (hd b o h1)
    ·rw[if_neg e2]at h2
     exact s.hr.inj b b' o o' h1 h2 he}
 ext:=s.ext
 le:=by have:=s.le;simp;omega
 frame:=s.frame
 range:=λb o hb=>by
  rw[ah]at hb;by_cases e:h.next=b
  ·subst e;exact .inr hw
  ·rw[if_neg e]at hb;exact s.range b o hb
 size:=s.size
 os:=s.os
 tape:=s.tape
 output:=s.output
theorem Step.Jp{E:Env}{B:Nat}{ρ:Ren}{h:ag}{w:World}(H:HR E B ρ h w){k:Nat}(hk:h.next<=k)(x:Loc)(cc:Obj):Step E B ρ h w (upd ρ k x) h (w.alloc cc) where
 hr:={
  cj:=H.cj
  fS:=H.fS
  fG:=by have:=H.fG;simp;omega
  fix:=λb hb=>O9
  ro:=λb o' hb ho=>by
   have h1:=H.ro b o' hb ho;have h2:=H.fS b o' hb ho;have h3:=H.fG;rw[heap_alloc,Array.getElem?_push];rw[if_neg Nr];exact h1
  live:=λb o' hb=>by
   obtain⟨h1,h2,h3,h4,c',h5,h6⟩:=H.live b o' hb;rw[fv _ _ _ Nr];have:=H.lt hb;refine⟨h1,h2,h3,h4,c',?_,fw (n:=h.next) (λb hb=>fv _ _ _ Nr) h4 h6⟩;rw[heap_alloc,Array.getElem?_push];rw[if_neg Nr];exact h5
  inj:=λb b' o1 o2 h1 h2 he=>by
   have g1:=(H.live b o1 h1).2.1;have g2:=(H.live b' o2 h2).2.1;rw[fv _ _ _ Nr,fv _ _ _ Nr]at he
   exact H.inj b b' o1 o2 h1 h2 he}
 ext:=λb hb=>fv _ _ _ Nr
 le:=Nat.le_refl _
 frame:=λr hr _=>by rw[heap_alloc,Array.getElem?_push];rw[if_neg Nr]
 range:=λb o' hb=>by
  have g:=(H.live b o' hb).2.1;rw[fv _ _ _ Nr];exact .inl ⟨b,o',hb,rfl⟩
 size:=Nw
 os:=rfl
 tape:=rfl
 output:=rfl
theorem Step.congr{E:Env}{B:Nat}{ρ0 ρ ρ':Ren}{h0 h:ag}{w0 w:World}(s:Step E B ρ0 h0 w0 ρ h w)(hc:∀b,b<h.next->ρ' b=ρ b):Step E B ρ0 h0 w0 ρ' h w where
 hr:={
  cj:=s.hr.cj
  fS:=s.hr.fS
  fG:=s.hr.fG
  fix:=λb hb=>by have:=s.hr.cj;rw[hc b (by omega)];exact s.hr.fix b hb
  ro:=s.hr.ro
  live:=λb o hb=>by
   obtain⟨h1,h2,h3,h4,c',h5,h6⟩:=s.hr.live b o hb;rw[hc b h2];exact⟨h1,h2,h3,h4,c',h5,fw (n:=h.next) hc h4 h6⟩
  inj:=λb b' o o' h1 h2 he=>by
   have g1:=(s.hr.live b o h1).2.1;have g2:=(s.hr.live b' o' h2).2.1;rw[hc b g1,hc b' g2]at he
   exact s.hr.inj b b' o o' h1 h2 he}
 ext:=λb hb=>by have:=s.le;rw[hc b (by omega)];exact s.ext b hb
 le:=s.le
 frame:=s.frame
 range:=λb o hb=>by
  have g1:=(s.hr.live b o hb).2.1;rw[hc b g1];exact s.range b o hb
 size:=s.size
 os:=s.os
 tape:=s.tape
 output:=s.output
end Go.Tm
