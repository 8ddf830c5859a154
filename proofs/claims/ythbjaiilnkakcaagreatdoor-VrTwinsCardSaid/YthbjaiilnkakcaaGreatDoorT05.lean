/- Part 5. -/
import Derived.Test.YthbjaiilnkakcaaGreatDoorT04
import GoSem.ClaimJoined
import Derived.Laws.IdiomRangeMap
import Derived.Test.YthbjaiilnkakcaaGreatDoorChecked
import Derived.Lib.Bytealg
set_option linter.all false
set_option maxRecDepth 10000
set_option maxHeartbeats 8000000
namespace Go.Tm
open Go
variable{vs:List Value}{v:Value}
theorem sV{α β:Type}(f:α->Option β):∀(l:List α) (r:List β),l.mapM f=some r->r.length=l.length/\∀(i:Nat) (x:α),l[i]? = some x->∃y,r[i]? = some y/\f x=some y
 |[],r,h=>by simp at h;subst h;simp
 | x::l,r,h=>by
   rw[List.mapM_cons]at h
   cases hx:f x with
   |none=>rw[hx]at h;cases h
   | some y =>
     rw[hx]at h
     cases hl:l.mapM f with
     |none=>rw[hl]at h;cases h
     | some r' =>
       rw[hl]at h;injection h with h;replace h:y::r'=r:=h;subst h;obtain⟨h1,h2⟩:=sV f l r' hl;refine⟨N6,λi z hz=>?_⟩
       cases i with
       |zero=>simp at hz;subst hz;exact⟨y,rfl,hx⟩
       |succ i=>exact h2 i z (by simpa using hz)
theorem uj{w:World}{a:Addr}{n:Nat}{l:List Value}(h:w.cells? 0 a n=some l)(hn:0<n):a.spot=none/\∃c e fr,w.heap[a.block]? = some (.cells c e fr)/\a.off+n<=c.size/\l=(c.toList.drop a.off).take n:=by
 unfold World.cells? at h;rw[if_pos (Nat.zero_le _)]at h;obtain⟨h1,h2⟩:=sV _ _ _ h;rw[List.length_range]at h1;obtain⟨y0,_,h0⟩:=h2 0 0 (by simp[hn]);have ha0:a.add 0=a:=by simp[Addr.add]
 rw[ha0]at h0;unfold World.cell? at h0;split at h0
 ·rename_i c e fr hc;split at h0
  ·cases h0
  ·rename_i hsp
   have hsp':a.spot=none:=by cases hs:a.spot with
    |none=>rfl
    |some d=>rw[hs]at hsp;simp at hsp
   have hat:∀i,i<n->c[a.off+i]? = l[i]? := by intro i hi;obtain⟨y,hy,hf⟩:=h2 i i (by simp[hi]);rw[hy];rw[iR hsp']at hf;simp only[World.cell?,fQ,hc]at hf;simpa using hf
   refine⟨hsp',c,e,fr,hc,?_,?_⟩
   ·have:=hat (n-1) Nr;rw[List.getElem?_eq_getElem Nr]at this;have:=(Array.getElem?_eq_some_iff.1 this).1;omega
   ·refine List.ext_getElem? λi=>?_;rw[List.getElem?_take];split
    ·rename_i hi;rw[List.getElem?_drop,<-hat i hi];simp
    ·rename_i hi;rw[List.getElem?_eq_none Nr]
 ·cases h0
section
variable{H:Type}{enc:TypeId×Value->H}{P:Program}{w:World}{sp:Nat->Bool}{held:Bool}{fuel:Nat}{t:TypeId}{cs:List Value}{d:DataW H}{ps:List MemPlace}
theorem trod_int{k:IntKind}(hu:P.underlying t=some (.int k))(h:DataW.trod enc P w 0 sp held (fuel+1) t cs=some (d,ps)):∃n,cs=[.int k n]/\k.min<=n/\n<=k.max:=by
 unfold DataW.trod at h;rw[hu]at h;split at h<;>simp only[Option.some.injEq,reduceCtorEq,TypeDesc.int.injEq] at*<;> (try contradiction);rename_i k1 k2 n h1;split at h
 ·rename_i hc;obtain⟨rfl,hw⟩:=hc;subst h1;simp only[Lit.wf,Bool.and_eq_true,decide_eq_true_eq]at hw;exact⟨n,rfl,hw.1,hw.2⟩
 ·cases h
theorem trod_slice{e:TypeId}(hu:P.underlying t=some (.slice e))(h:DataW.trod enc P w 0 (λ_=>true) held (fuel+1) t cs=some (d,ps)) :
 (cs=[.slice none 0 0]/\d=.nil)\/∃a len cap elems rest,cs=[.slice (some a) len cap]/\len<=cap/\cap<=maxLen /\
  (List.range len).mapM (λi=>(w.cells? 0 (a.add (i*P.cellsOf e)) (P.cellsOf e)).bind (DataW.trod enc P w 0 (λ_=>true) held fuel e))=some elems /\
  (List.range (cap-len)).mapM (λj=>(w.cells? 0 (a.add ((len+j)*P.cellsOf e)) (P.cellsOf e)).bind (DataW.trod enc P w 0 (λ_=>true) held fuel e))=some rest/\d=.slice (elems.map (·.1)) (rest.map (·.1)):=by
 unfold DataW.trod at h;rw[hu]at h;split at h<;>simp only[Option.some.injEq,reduceCtorEq,TypeDesc.slice.injEq] at*<;> (try contradiction)
 ·left;injection h with h1 _;exact⟨trivial,h1.symm⟩
 ·right;rename_i e1 a len cap he;subst he;split at h
  ·rename_i hc;rw[Option.bind_eq_some_iff]at h;obtain⟨elems,h1,h2⟩:=h;rw[Option.map_eq_some_iff]at h2;obtain⟨rest,h3,h4⟩:=h2;injection h4 with h4 _;exact⟨a,len,cap,elems,rest,rfl,hc.2.1,hc.2.2,h1,h3,h4.symm⟩
  ·cases h
theorem trod_struct{fs:Array Field}(hu:P.underlying t=some (.struct fs))(h:DataW.trod enc P w 0 sp held (fuel+1) t cs=some (d,ps)) :
 cs.length=P.cellsOf t/\∃xs,fs.toList.mapM (λf=>DataW.trod enc P w 0 sp held fuel f.type ((cs.drop f.offset).take (P.cellsOf f.type)))=some xs/\d=.agg (xs.map (·.1)):=by
 unfold DataW.trod at h;simp only[hu]at h;split at h
 ·rename_i hc;rw[Option.map_eq_some_iff]at h;obtain⟨xs,h1,h2⟩:=h;injection h2 with h2 _;exact⟨hc,xs,h1,h2.symm⟩
 ·cases h
end
def qT:Value->Nat
 |.slice (some a) _ _=>a.block+1
 |_=>0
def Jo:Obj->Nat
 |.cells c _ _=>(c.toList.map qT).sum
 |_=>0
theorem Bw{l:List Nat}{x:Nat}(h:x∈l):x<=l.sum:=by
 induction l with
 |nil=>simp at h
 | cons y l ih =>
   simp only[List.mem_cons]at h;simp only[List.sum_cons];rcases h with rfl|h
   ·omega
   ·have:=ih h;omega
def wL(w:World)(vs:List Value):Nat:=w.heap.size+(w.heap.toList.map Jo).sum+(vs.map qT).sum
theorem vr{w:World}{b:Nat}{c:Array Value}{e:TypeId}{fr:Nat×Nat}(h:w.heap[b]? = some (.cells c e fr))(hv:v∈c.toList):qT v<=wL w vs:=by
 have h1:Obj.cells c e fr∈w.heap.toList:=by rw[Array.mem_toList_iff];exact Array.mem_of_getElem? h
 have h2:=Bw (List.mem_map.2 ⟨_,h1,rfl⟩:Jo (.cells c e fr)∈w.heap.toList.map Jo);have h3:=Bw (List.mem_map.2 ⟨_,hv,rfl⟩:qT v∈c.toList.map qT);unfold wL;simp only[Jo]at h2;omega
theorem vq(w:World)(vs:List Value):w.heap.size<=wL w vs:=by unfold wL;omega
theorem lL{w:World}(hv:v∈vs):qT v<=wL w vs:=by have:=Bw (List.mem_map.2 ⟨_,hv,rfl⟩:qT v∈vs.map qT);unfold wL;omega
end Go.Tm
namespace Go.Tm
variable{d:Option Nat}{name:String}{R:bl}{v:Value}{X Y:Nat->Prop}{h' h1 h2:ag}{P:Program}{w w':World}{B bm clock r since:Nat}{seen:Array Nat}{ρ:Ren}{n:Ns}{ds:List Deferred}{a:Act}{o:Oper}
def wpu(E:Env)(O l:List Oper)(tr:List St)(Q:List St->Prop):bl:=wpt E O l tr Q
section
variable{E:Env}{O l:List Oper}{tr:List St}{Q:List St->Prop}{tm:Tr Value}{h:ag}{ty:TypeId}{pos:String}{aft:Array Edge}
theorem je:wpu E O [] tr Q tm h↔Q (tr++[⟨tm,h⟩]):=Iff.intro id id
theorem eL{op:Op}:wpu E O (⟨d,op,ty,pos,aft,none⟩::l) tr Q tm h↔cr E op d (wpu E O l (tr++[⟨tm,h⟩]) Q) tm h:=by unfold wpu;rw[yi]
theorem dX{op:Op}{j:Nat}{b:Bool}:wpu E O (⟨d,op,ty,pos,aft,some (j,b)⟩::l) tr Q tm h↔dL (sx O j tm) b (cr E op d (wpu E O l (tr++[⟨tm,h⟩]) Q)) (lI d (wpu E O l (tr++[⟨tm,h⟩]) Q)) tm h:=by unfold wpu;rw[vj]
end
theorem kg{E:Env}{O:List Oper}{Q:bl}{tm:Tr Value}{h:ag}(prs:List (Nat×Nat))(h1:jc E.P O (bh O []) none=true)(h2:(match iV E.P O (bh O []) with|none=>true|some _=>false)=true)(h3:rn E.P O (bh O [])=prs)
 (H:∀F:List St->Prop,(∀tr,(∀p,p∈prs->tN E O tr ⟨tm,h⟩ p.1 p.2)->Q (cT tr ⟨tm,h⟩ O.length).tm (cT tr ⟨tm,h⟩ O.length).h->F tr)->wpu E O O [] F tm h):aF E O Q tm h :=
 aB prs h1 h2 h3 (H _ λ_ a b=>⟨a,b⟩)
def uy(P:Program)(t:TypeId)(name:String):Option FuncId :=
 match P.info? t with
 |none=>none
 | some i=>match i.methods.toList.find? (·.name==name) with
   | some m=>match m.path.toList,m.func,P.underlying t with
     |[],some (f,true),some (.pointer _)=>some f
     |_,_,_=>none
   |none=>none
def Ju(E:Env)(v:Value)(name:String)(asx:List Value)(d:Option Nat)(R:bl):bl:=λtm h =>
 match v with
 |.iface t v=>∃f,uy E.P t name=some f/\af E f (v::asx) h (dS tm d R)
 |_=>False
section
variable{E:Env}{tm:Tr Value}{h:ag}
theorem AL{x:Operand}{asx:Array Operand}{ts:Array TypeId}:cr E (.call ⟨.invoke x name,asx,ts⟩) d R tm h↔Ju E (opd tm x) name (asx.toList.map (opd tm)) d R tm h:=by
 simp only[cr,dT,kindOf,iE,Ju,uy]
 cases opd tm x with
 | iface t v =>
   simp only
   cases E.P.info? t with
   |none=>simp
   | some i =>
     simp only
     cases i.methods.toList.find? (·.name==name) with
     |none=>simp
     |some m =>simp only;generalize m.path.toList=p;generalize m.func=q;generalize E.P.underlying t=u;split<;>simp
 |_=>simp
theorem kR{t:TypeId}{asx:List Value}{f:FuncId}(hf:uy E.P t name=some f):Ju E (.iface t v) name asx d R tm h↔af E f (v::asx) h (dS tm d R):=by simp[Ju,hf]
end
attribute [push_cast] AL
structure KX(X:Nat->Prop)(h h':ag):Prop where
 get:∀b o,¬X b->h.get b=some o->h'.get b=some o
 next:h.next<=h'.next
theorem KX.refl(X:Nat->Prop)(h:ag):KX X h h:=⟨λ_ _ _ x=>x,Nat.le_refl _⟩
theorem KX.trans{h:ag}(a:KX X h h1)(b:KX X h1 h2):KX X h h2:=⟨λx o n y=>b.get x o n (a.get x o n y),Nat.le_trans a.next b.next⟩
theorem KX.mono{h:ag}(a:KX X h h')(m:∀b,X b->Y b):KX Y h h':=⟨λx o n y=>a.get x o (λhx=>n (m x hx)) y,a.next⟩
theorem KX.then{E:Env}{h:ag}(hW:WF E h)(a:KX X h h1)(b:KX Y h1 h2)(m:∀x,Y x->X x\/h.next<=x):KX X h h2:=⟨λx o n y=>by
 refine b.get x o (λhy=>?_) (a.get x o n y);rcases m x hy with h3|h3
 ·exact n h3
 ·have:=(hW.live x o y).2;omega,Nat.le_trans a.next b.next⟩
theorem gu.x{h h':ag}(k:gu h h')(X:Nat->Prop):KX X h h':=⟨λb o _ x=>k.get b o x,k.next⟩
theorem run_next_any{P:Program}{c0:Nat}{es:Array MapEntry}{ty:TypeId}(hr:w.heap[r]? = some (.mapIter (some bm) since seen c0))(hb:w.heap[bm]? = some (.map es clock))
 (hold:∀x∈es.toList,x.born<since) (hsc:since<=c0) :
 ((leftOf es seen).size=0/\(Instr.next (.pointer (some ⟨r,0,none⟩)) false ty).run P w=.ok (.tuple #[.bool false]) w) \/
 ∃e∈(leftOf es seen).toList,∃w1:World,(w1=w\/w1=w.drew)/\(Instr.next (.pointer (some ⟨r,0,none⟩)) false ty).run P w=.ok (.tuple #[.bool true,e.key,e.val]) (dh w1 r (.mapIter (some bm) since (seen.push e.born) clock)):=by
 simp only[Instr.next,getObj,Sem.run_bind,Sem.run,hr,hb,Result.andThen,next_test_false seen es since c0 hold hsc,Bool.false_eq_true,if_false];unfold leftOf;have hmem:∀x∈(Array.filter (λe=>!seen.contains e.born) es).toList,x.born<since:=λx hx=>hold x (by simp at hx|-;exact hx.1);generalize Array.filter (λe=>!seen.contains e.born) es=L at hmem|-;have e1:L.filter (λx=>decide (x.born<since))=L:=Array.filter_eq_self.2 (λx hx=>by simpa using hmem x NW);have e2:L.filter (λx=>decide (x.born>=since))=#[]:=by rw[Array.filter_eq_empty_iff];intro x hx;have:=hmem x NW;simp;omega
 simp only[e1,e2,Array.append_empty];by_cases h0:L.size=0
 ·left;have:L=#[]:=Array.eq_empty_of_size_eq_zero h0;subst this;refine⟨rfl,?_⟩;simp[choose,Sem.run,Question.forced]
 ·right;have hne:L.isEmpty=false:=by simp[Array.isEmpty,h0]
  simp only[hne,Bool.false_eq_true,if_false,Array.empty_append,Array.size_map];have hch:∃(j:Nat) (w1:World),j<L.size/\(w1=w\/w1=w.drew)/\(choose (Question.mapNext L.size)).run P w=.ok j w1:=by
   by_cases hf:L.size<=1
   ·exact⟨0,w,Nr,.inl rfl,by simp[choose,Sem.run,Question.forced,hf]⟩
   ·exact⟨_,w.drew,Nat.mod_lt _ Nr,.inr rfl,by
     simp only[choose,Sem.run,Question.forced,decide_eq_true_eq,hf,if_false,Question.cut]
     rfl⟩
  obtain⟨j,w1,hj,hal,hrun⟩:=hch;refine⟨L[j],Nw,w1,hal,?_⟩;have hw1:w1.heap[r]? = some (.mapIter (some bm) since seen c0):=by rcases hal with rfl|rfl<;>exact hr
  have hset:∀o',(setObj r o').run P w1=.ok () (dh w1 r o'):=λo'=>by
   simp only[setObj,Sem.run,hw1];rfl
  simp only[hrun,Array.getElem?_map,Array.getElem?_eq_getElem hj,Option.map_some,Sem.run_bind,hset,Result.andThen];rfl
theorem uM{P:Program}{es:Array MapEntry}{e:MapEntry}(hr:w.heap[r]? = some (.mapIter (some bm) since (seen.push e.born) clock))(hb:w.heap[bm]? = some (.map es clock))
 (he:e∈es.toList) (hn:(es.toList.map (·.born)).Nodup) :
 (Instr.entry (.pointer (some ⟨r,0,none⟩))).run P w=.ok (.tuple #[e.key,e.val]) w:=by
 have hf:es.find? (·.born==e.born)=some e:=by rw[<-Array.find?_toList];exact find_born e es.toList hn he
 simp only[Instr.entry,getObj,Sem.run_bind,Sem.run,hr,hb,Result.andThen,Array.back?_push,bne_self_eq_false,Bool.false_eq_true,if_false,hf];rfl
theorem Step.iter{E:Env}{B:Nat}{ρ:Ren}{h:ag}{w w1:World}{i m k:Nat}(H:HR E B ρ h w)(hi:h.get i=some (.miter m k))(hs:Step E B ρ h w ρ (h.kill i) w1){w2:World}(h2:w2=w1\/w2=w1.drew)(o:Obj):Step E B ρ h w ρ (h.kill i) (dh w2 (ρ i).r o):=by
 have hd:Step E B ρ h w ρ (h.kill i) w2:=by
  rcases h2 with rfl|rfl
  ·exact hs
  ·exact hs.trans (Step.drew hs.hr)
 have hlt:(ρ i).r<w2.heap.size:=Nat.lt_of_lt_of_le (H.lt hi) hd.size
 have hne:∀b o',(h.kill i).get b=some o'->(ρ i).r≠(ρ b).r:=λb o' hb e=>by
  rw[dC]at hb;by_cases hib:i=b
  ·rw[if_pos hib]at hb;cases hb
  ·rw[if_neg hib]at hb;exact hib (H.inj _ _ _ _ hi hb e)
 have hB:B<=(ρ i).r:=(H.live _ _ hi).2.2.1;refine⟨⟨hd.hr.cj,hd.hr.fS,by simpa[dh] using hd.hr.fG,hd.hr.fix,λb o' hb ho=>?_,λb o' hb=>?_,hd.hr.inj⟩,hd.ext,hd.le,λr hr hf=>?_,hd.range,by simpa[dh] using hd.size,hd.os,hd.tape,hd.output⟩
 ·rw[dm _ _ _ _ hlt,if_neg (λe=>by have:=hd.hr.fS b o' hb ho;omega)]
  exact hd.hr.ro b o' hb ho
 ·obtain⟨h1,h3,h4,h5,c,h6,h7⟩:=hd.hr.live b o' hb;refine⟨h1,h3,h4,h5,c,?_,h7⟩;rw[dm _ _ _ _ hlt,if_neg (hne b o' hb)];exact h6
 ·rw[dm _ _ _ _ hlt,if_neg (hf i _ hi)];exact hd.frame r hr hf
theorem Step.forget{E:Env}{ρ':Ren}{h:ag}(H:HR E B ρ h w)(s:Step E B ρ h w ρ' h' w')(hk:∀b o,h.get b=some o->h'.get b=some o):Step E B ρ h w ρ h w':=by have e:∀b,b<h.next->ρ' b=ρ b:=s.ext;refine⟨⟨H.cj,H.fS,s.hr.fG,H.fix,s.hr.ro,λb o hb=>?_,H.inj⟩,λ_ _=>rfl,Nat.le_refl _,s.frame,λb o hb=>.inl ⟨b,o,hb,rfl⟩,s.size,s.os,s.tape,s.output⟩;obtain⟨h1,h2,h3,h4,c0,h5,h6⟩:=H.live b o hb;obtain⟨g1,g2,g3,g4,c,g5,g6⟩:=s.hr.live b o (hk b o hb);rw[e b h2]at g3 g5 g6;exact⟨h1,h2,h3,h4,c,g5,fw (n:=h.next) (λb hb=>(e b hb).symm) h4 g6⟩
theorem Step.Me{E:Env}{B:Nat}{ρ:Ren}{h:ag}{w:World}(H:HR E B ρ h w)(i:Nat):Step E B ρ h w ρ (h.kill i) w:=by
 have hk:∀b o,(h.kill i).get b=some o->h.get b=some o:=λb o hb=>by
  rw[dC]at hb;by_cases e:i=b
  ·rw[if_pos e]at hb;cases hb
  ·rw[if_neg e]at hb;exact hb
 refine⟨⟨H.cj,H.fS,H.fG,H.fix,H.ro,λb o hb=>H.live b o (hk b o hb),λb b' o o' hb hb'=>H.inj b b' o o' (hk b o hb) (hk b' o' hb')⟩,λ_ _=>rfl,Nat.le_refl _,λ_ _ _=>rfl,λb o hb=>.inl ⟨b,o,hk b o hb,rfl⟩,Nat.le_refl _,rfl,rfl,rfl⟩
theorem FR.CR{ρ ρ':Ren}{n:Ns}{m:Nat}{ds:List Deferred}{tm:Tr Value}{a:Act}(F:FR ρ n ds tm a)(hext:∀b,b<m->ρ' b=ρ b)(hs:∀t,sc m (aj tm t)=true){d:Nat}(hd:d<n.n)(v:Value) :
 FR ρ' ⟨n.n,n.hid.filter (λx=>x != d)⟩ ds (tm.set d (some v)) (a.put (some d) (ren ρ' v)):=by
 refine⟨F.defers,by simp[Act.put,F.size],λt ht=>?_⟩;simp only[Act.put,bZ];by_cases e:d=t
 ·subst e;simp[Array.getD,F.size,hd]
 ·rw[if_neg e];have ht':n.has t=true:=by simp only[Ns.has,Bool.and_eq_true,decide_eq_true_eq,Bool.not_eq_true',List.contains_eq_mem,decide_eq_false_iff_not,List.mem_filter,bne_iff_ne,ne_eq,not_and,Decidable.not_not]at ht|-;exact⟨ht.1,λh=>e (ht.2 h).symm⟩
  have:=F.val t ht';rw[dY ρ ρ' m hext _ (hs t),<-this];rw[Array.getD_eq_getD_getElem?,Array.getD_eq_getD_getElem?,Array.getElem?_setIfInBounds_ne e]
theorem FR.less{n':Ns}{tm tm':Tr Value}(F:FR ρ n ds tm a)(hn:n'.n=n.n)(h:∀t,n'.has t=true->n.has t=true/\aj tm' t=aj tm t):FR ρ n' ds tm' a :=
 ⟨F.defers,by rw[F.size,hn],λt ht=>by rw[(h t ht).2];exact F.val t (h t ht).1⟩
theorem wE{next:Act->World->Prop}{Q:Exit->Act->World->Prop}{rd:Option Nat}(hnd:∀c,o.op≠.defer c)(hx:(execOp a.eval o).run P w=.ok (.value v) w')(hn:next (a.put o.dst v) w'):o.wpIn (Wd rd) 0 P a w next Q:=by refine⟨λ_ _=>trivial,?_⟩;have hro:(Wd rd).round=rd:=rfl;rw[hro,Oper.semAt_eq rd a.eval o hnd,hx];exact hn
theorem yj{E:Env}{tm:Tr Value}{h:ag}(hx:aop E (λ_ _ _=>none) o.op ⟨tm,h⟩=some (v,h'))(H:HR E B ρ h w)(F:FR ρ n ds tm a)(S:Sc ⟨tm,h⟩)
 (ho:o.op.operands.toList.all (eG E.base n)=true) {next:Act->World->Prop} {Q:Exit->Act->World->Prop}
 (hn:∀ρ' w',Step E B ρ h w ρ' h' w'->sc h'.next v=true->next (a.put o.dst (ren ρ' v)) w') {rd:Option Nat}:o.wpIn (Wd rd) 0 E.P a w next Q:=by
 rw[List.all_eq_true]at ho;have hopd:∀x,x∈o.op.operands->eG E.base n x=true:=λx hx=>ho x NW;exact wV (B:=B) (call:=λ_ _ _=>none) (λf args h v h' hc=>by cases hc) hx H (λx hx=>A9 H.cj S (hopd x hx)) (execOp_congr (jV hx) λx hx=>my H F (hopd x hx)) hn rd
end Go.Tm
namespace Go.Proofs.YthbjaiilnkakcaaGreatDoor
open Go.Tm
variable{B i k m:Nat}{v:Value}{tm':Tr Value}{h':ag}{n:Ns}{ps:List (Nat×Value)}{ops:Array Oper}{rest:List Nat}{a:Act}{w:World}{ds:List Deferred}{ρ:Ren}
def mR6(pa:String) : Array Oper := #[⟨some 44, .next (.tmp 43) false, 0, pa, #[], none⟩, ⟨some 45, .extract (.tmp 44) 0, 4, pa, #[⟨0, .data⟩], none⟩]
def mR7(pa:String) : Array Oper := #[⟨some 46, .entry (.tmp 43), 0, pa, #[], none⟩, ⟨some 47, .extract (.tmp 46) 1, 66, pa, #[⟨0, .data⟩], none⟩, ⟨some 6, .alloc 66, 0, pa, #[], none⟩,
 ⟨none, .store 66 (.tmp 6) (.tmp 47), 0, pa, #[⟨2, .data⟩, ⟨1, .data⟩, ⟨0, .phase⟩, ⟨1, .phase⟩, ⟨2, .phase⟩], none⟩]
def mR8(pb:String) : Array Oper := #[⟨some 48, .move (.tmp 4), 3, pb, #[], none⟩, ⟨some 49, .fieldAddr 66 (.tmp 6) 3, 0, pb, #[], none⟩, ⟨some 50, .load 3 (.tmp 49), 3, pb, #[⟨1, .data⟩], none⟩,
 ⟨some 51, .call {callee := .builtin .max, args := #[.tmp 48, .tmp 50], argTypes := #[3, 3]}, 3, pb, #[⟨0, .data⟩, ⟨2, .data⟩], none⟩, ⟨some 4, .assign (.tmp 51), 3, pb, #[⟨3, .data⟩, ⟨0, .phase⟩, ⟨1, .phase⟩, ⟨2, .phase⟩, ⟨3, .phase⟩], none⟩]
@[simp] theorem mS6(pa:String):(mR6 pa).size=2:=rfl
@[simp] theorem mS7(pa:String):(mR7 pa).size=4:=rfl
@[simp] theorem mS8(pb:String):(mR8 pb).size=5:=rfl
def nA(pa pb:String):Code:=.seq (.region 6 (mR6 pa) false) (.seq (.cond (.tmp 45) .skip (.exit 0)) (.block 1 (.seq (.region 7 (mR7 pa) false) (.region 8 (mR8 pb) false))))
def ja(e:MapEntry):Int:=match e.val with
 | .agg ⟨c⟩=>(match (c[3]? : Option Value) with
   |some (Value.int _ n)=>n
   |_=>0)
 |_=>0
def Jq(k:Nat)(e:MapEntry):Prop:=e.born<k/\∃cs n,e.val=.agg ⟨cs⟩/\cs.length=17/\cs.all Value.oneCell'=true/\cs[3]? = some (.int .i64 n)
def kL(es:List MapEntry)(v:Int):Int:=es.foldl (λa e=>max a (ja e)) v
open Classical in
noncomputable def n8(b:Code)(tm:Tr Value)(h:ag):Option (Nat×Tr Value×ag) :=
 if ∃pa pb,b=nA pa pb then
  match aj tm 43 with
  | .pointer (some ⟨i,0,none⟩) =>
    match h.get i,aj tm 4 with
    | some (.miter m k),.int .i64 v =>
      match h.get m with
      |some (.map es k')=>if k'=k/\(es.map (·.born)).Nodup/\∀e,e∈es->Jq k e then some (0,tm.set 4 (some (.int .i64 (kL es v))),h.kill i) else none
      |_=>none
    |_,_=>none
  |_=>none
 else none
theorem Fe{pa pb:String}{tm:Tr Value}{h:ag}{v:Int}{es:List MapEntry}(h1:aj tm 43=.pointer (some ⟨i,0,none⟩))(h2:h.get i=some (.miter m k))(h3:aj tm 4=.int .i64 v)(h4:h.get m=some (.map es k))(h5:(es.map (·.born)).Nodup)(h6:∀e,e∈es->Jq k e) :
 n8 (nA pa pb) tm h=some (0,tm.set 4 (some (.int .i64 (kL es v))),h.kill i):=by
 unfold n8;rw[if_pos ⟨pa,pb,rfl⟩,h1];simp only[h2,h3,h4];rw[if_pos ⟨rfl,h5,h6⟩]
theorem Bs{b:Code}{tm:Tr Value}{h:ag}{id:Nat}(hx:n8 b tm h=some (id,tm',h')):(∃pa pb,b=nA pa pb)/\∃i m k v es,aj tm 43=.pointer (some ⟨i,0,none⟩)/\h.get i=some (.miter m k)/\aj tm 4=.int .i64 v/\h.get m=some (.map es k)/\(es.map (·.born)).Nodup/\(∀e,e∈es->Jq k e) /\
 id=0/\tm'=tm.set 4 (some (.int .i64 (kL es v)))/\h'=h.kill i:=by
 unfold n8 at hx;split at hx
 ·rename_i hb;refine⟨hb,?_⟩;split at hx
  ·rename_i i h1;split at hx
   ·rename_i m k v h2 h3;split at hx
    ·rename_i es k' h4;split at hx
     ·rename_i h5;obtain⟨rfl,h5,h6⟩:=h5;simp only[Option.some.injEq,Prod.mk.injEq]at hx;exact⟨i,m,_,v,es,h1,h2,h3,h4,h5,h6,hx.1.symm,hx.2.1.symm,hx.2.2.symm⟩
     ·cases hx
    ·cases hx
   ·cases hx
  ·cases hx
 ·cases hx
theorem qF:∀(es:List MapEntry) (v:Int),v<=kL es v/\(∀e,e∈es->ja e<=kL es v)/\(kL es v=v\/∃e,e∈es/\ja e=kL es v)
 |[],v=>⟨Int.le_refl _,λe h=>N7,.inl rfl⟩
 | e::es,v=>by
   have ih:=qF es (max v (ja e));have e1:kL (e::es) v=kL es (max v (ja e)):=rfl;rw[e1];obtain⟨a,b,c⟩:=ih;refine⟨Nr,λx hx=>?_,?_⟩
   ·rcases List.mem_cons.1 hx with rfl|hx
    ·omega
    ·exact b x hx
   ·rcases c with c|⟨x,hx,hv⟩
    ·by_cases hm:ja e<=v
     ·left;omega
     ·exact .inr ⟨e,Nw,Nr⟩
    ·exact .inr ⟨x,Pa,hv⟩
theorem Jr{es:List MapEntry}{v M:Int}(h1:v<=M)(h2:∀e,e∈es->ja e<=M)(h3:M=v\/∃e,e∈es/\ja e=M):kL es v=M:=by
 obtain⟨a,b,c⟩:=qF es v;have hle:kL es v<=M:=by
  rcases c with c|⟨x,hx,hv⟩
  ·omega
  ·have:=h2 x hx;omega
 rcases h3 with h3|⟨x,hx,hv⟩
 ·omega
 ·have:=b x hx;omega
def BA:FuncId->List Value->Option Value:=λ_ _=>none
def JZ:FuncId->List Value->ag->Nat->Option (Option Value):=λ_ _ _ _=>none
structure EOk(E:Env):Prop where
 P:E.P=Tryz.prog
 known:E.known=BA
 iter:E.iter=JZ
 lY:E.lY=n8
theorem EOk.z{E:Env}(hE:EOk E):E.P=Tryz.prog/\(∀(h:ag) (a:Addr) (vs:List Value),bQ h a vs=match a.spot with
 |some _=>none
 | none=>match h.get a.block with
   |some (.cells c e fx)=>if a.off+vs.length<=c.length/\vs.all Value.oneCell'=true then some (h.put a.block (.cells (bJ c a.off vs) e fx)) else none
   |_=>none)/\(∀(E:Env) (Q:cY) (tm:Tr Value) (h:ag) (l:Nat),wpc E (.label l) Q tm h=Q .normal tm h)/\(∀(E:Env) (Q:cY) (tm:Tr Value) (h:ag) (i:Nat) (b:Code),wpc E (.block i b) Q tm h=wpc E b (kS i Q) tm h) :=
 ⟨hE.P,λ_ _ _=>rfl,λ_ _ _ _ _=>rfl,λ_ _ _ _ _ _=>rfl⟩
theorem en{E : Env} (hE : EOk E) {f : FuncId} {fn : Func} {b : Code} {n : Nat} {args : List Value} {rs : List ResultVar} {h : ag} {Q : Value -> ag -> Prop} (hf : Tryz.prog.funcs[f]? = some fn) (hb : fn.body = some b) (hk : BA f args = none) (hn : fn.ntmps = n) (hl : args.length.ble n = true) (hg : (fn.name == "runtime.NumGoroutine") = false) (hr : fn.results.toList = rs) (H : wpc E b (xm E rs Q) (mK 0 args .leaf) h) : af E f args h Q :=
 ve (by rw[hE.P];exact hf) hb (by rw[hE.known];exact hk) (by rw[hn];exact Nat.le_of_ble_eq_true hl) hg hr (Gk _ _ _ _ H)
abbrev LdB(t:Nat):Prop:=∀{E:Env} {h:ag} {a:Addr},E.P=Tryz.prog->kd E h t (.pointer (some a))=(cg E h a 1).bind λl=>l[0]?
theorem LdB.of{t:Nat}(g:Ge Tryz.prog t=some false):LdB t:=λhE=>by simp only[kd,hE,g]
abbrev LdA(t n:Nat):Prop:=∀{E:Env} {h:ag} {a:Addr},E.P=Tryz.prog->kd E h t (.pointer (some a))=(cg E h a n).map λl=>.agg l.toArray
theorem LdA.of{t n:Nat}(g:Ge Tryz.prog t=some true)(s:asz Tryz.prog t=some n):LdA t n:=λhE=>by simp only[kd,hE,g,s]
abbrev StA(t n:Nat):Prop:=∀{E:Env} {h:ag} {a:Addr} {v:Value},E.P=Tryz.prog->jB E h t (.pointer (some a)) v=if n=(aM v).length then bQ h a (aM v) else none
theorem StA.of{t n:Nat}(s:asz Tryz.prog t=some n):StA t n:=λhE=>by simp[jB,hE,s]
abbrev FaA(t k o:Nat):Prop:=∀{a:Addr},a.spot=none->gp Tryz.prog t (.pointer (some a)) k=some (.pointer (some ⟨a.block,a.off+o,none⟩))
abbrev IaA(t z:Nat):Prop:=∀{a:Addr} {len cap:Nat} {k:IntKind} {n:Int},a.spot=none->0<=n->n<len->cA Tryz.prog t (.slice (some a) len cap) (.int k n)=some (.pointer (some ⟨a.block,a.off+n.toNat*z,none⟩))
abbrev LeA(t:Nat):Prop:=∀{a:Option Addr} {len cap:Nat},re Tryz.prog t (.slice a len cap)=some (.int .i64 len)
abbrev MkA(t e b:Nat)(z:List Value):Prop:=∀{k k':IntKind} {l c:Int},0<=l->l<=c->(b:Int)*c<=281474976710656->c<=9223372036854775807->amk Tryz.prog t (.int k l) (.int k' c)=some (λb=>.slice (some ⟨b,0,none⟩) l.toNat c.toNat,.cells (bR c.toNat z) e true)
abbrev WlA(t:Nat):Prop:=∀{E:Env} {h:ag} {x:Operand} {d:Option Nat} {R:bl} {tm:Tr Value},E.P=Tryz.prog->cr E (.call ⟨.builtin .len,#[x],#[t]⟩) d R tm h=bY (re Tryz.prog t (opd tm x)) d R tm h
abbrev WcA(t u:Nat):Prop:=∀{E:Env} {h:ag} {x:Operand} {d:Option Nat} {R:bl} {tm:Tr Value},E.P=Tryz.prog->cr E (.convert t u x) d R tm h=bY (sq Tryz.prog t u (opd tm x)) d R tm h
noncomputable abbrev EN:Env:={P:=Tryz.prog,base:=0,ro:=λ_=>none}
section
variable{E:Env}{h:ag}{b o:Nat}{ev:Operand->Value}
theorem sz2:asz Tryz.prog 2=some 1:=Ny
theorem sz3:asz Tryz.prog 3=some 1:=Ny
theorem zr3:dw Tryz.prog 3=some (.int .i64 0):=Ny
theorem sz4:asz Tryz.prog 4=some 1:=Ny
theorem zr4:dw Tryz.prog 4=some (.bool false):=Ny
theorem sz5:asz Tryz.prog 5=some 1:=Ny
theorem zr5:dw Tryz.prog 5=some (.int .u8 0):=Ny
theorem sz9:asz Tryz.prog 9=some 1:=Ny
theorem K5:asz Tryz.prog 24=some 1:=Ny
theorem I9:asz Tryz.prog 25=some 1:=Ny
theorem I8:asz Tryz.prog 26=some 1:=Ny
theorem I7:asz Tryz.prog 27=some 1:=Ny
theorem KP:dw Tryz.prog 29=some (.agg #[.slice none 0 0,.slice none 0 0,.slice none 0 0,.slice none 0 0,.int .i64 0]):=Ny
theorem MN:asz Tryz.prog 34=some 3:=Ny
theorem KO:dw Tryz.prog 34=some (.agg #[.int .i64 0,.int .i64 0,.int .i64 0]):=Ny
theorem GK:asz Tryz.prog 37=some 1:=Ny
theorem MM:asz Tryz.prog 40=some 1:=Ny
theorem K4:asz Tryz.prog 41=some 1:=Ny
theorem Kb:asz Tryz.prog 43=some 4:=Ny
theorem KN:dw Tryz.prog 43=some (.agg #[.bool false,.slice none 0 0,.slice none 0 0,.slice none 0 0]):=Ny
theorem My:dw Tryz.prog 45=some (.agg #[.bool false,.slice none 0 0,.slice none 0 0,.slice none 0 0]):=Ny
theorem K3:asz Tryz.prog 46=some 1:=Ny
theorem K2:asz Tryz.prog 47=some 1:=Ny
theorem K1:asz Tryz.prog 49=some 18:=Ny
theorem KM:dw Tryz.prog 49=some (.agg #[.int .i64 0,.int .i64 0,.int .i64 0,.int .i64 0,.int .i64 0,.int .i64 0,.int .i64 0,.int .i64 0,.slice none 0 0,.bool false,.slice none 0 0,.slice none 0 0,.slice none 0 0,.slice none 0 0,.slice none 0 0,.bool false,.slice none 0 0,.slice none 0 0]):=Ny
theorem MK:asz Tryz.prog 51=some 20:=Ny
theorem IP:dw Tryz.prog 51=some (.agg #[.pointer none,.pointer none,.int .i64 0,.int .i64 0,.int .i64 0,.int .i64 0,.int .i64 0,.int .i64 0,.int .i64 0,.int .i64 0,.slice none 0 0,.bool false,.slice none 0 0,.slice none 0 0,.slice none 0 0,.slice none 0 0,.slice none 0 0,.bool false,.slice none 0 0,.slice none 0 0]):=Ny
theorem K0:asz Tryz.prog 58=some 1:=Ny
theorem ly:asz Tryz.prog 60=some 3:=Ny
theorem Dl:dw Tryz.prog 60=some (.agg #[.int .i64 0,.int .i64 0,.string .empty]):=Ny
theorem KZ:asz Tryz.prog 61=some 1:=Ny
theorem Ka:asz Tryz.prog 62=some 1:=Ny
theorem J9:asz Tryz.prog 64=some 3:=Ny
theorem KL:dw Tryz.prog 64=some (.agg #[.int .i64 0,.int .i64 0,.slice none 0 0]):=Ny
theorem DG:asz Tryz.prog 66=some 17:=Ny
theorem AE:dw Tryz.prog 66=some (.agg #[.int .i64 0,.int .i64 0,.int .i64 0,.int .i64 0,.int .i64 0,.int .i64 0,.int .i64 0,.int .i64 0,.int .i64 0,.slice none 0 0,.slice none 0 0,.int .i64 0,.int .i64 0,.string .empty,.int .i64 0,.int .i64 0,.slice none 0 0]):=Ny
theorem Mx:dw Tryz.prog 71=some (.agg #[.int .i64 0,.int .i64 0,.int .i64 0,.int .i64 0,.int .i64 0,.int .i64 0,.int .i64 0,.int .i64 0,.int .i64 0,.int .i64 0,.int .i64 0,.slice none 0 0,.slice none 0 0,.int .i64 0,.int .i64 0,.string .empty,.int .i64 0,.int .i64 0,.slice none 0 0]):=Ny
theorem Mw:dw Tryz.prog 73=some (.agg #[.int .i64 0,.int .i64 0,.int .i64 0,.int .i64 0,.int .i64 0,.int .i64 0,.int .i64 0,.int .i64 0,.int .i64 0,.int .i64 0,.int .i64 0,.int .i64 0,.int .i64 0,.int .i64 0,.int .i64 0,.int .i64 0]):=Ny
theorem KY:asz Tryz.prog 75=some 1:=Ny
theorem KV:asz Tryz.prog 76=some 1:=Ny
theorem Mv:dw Tryz.prog 78=some (.agg #[.int .i64 0,.int .i64 0,.nilIface,.int .i64 0,.int .i64 0,.int .i64 0,.int .i64 0,.int .i64 0,.int .i64 0,.int .i64 0,.slice none 0 0,.slice none 0 0,.slice none 0 0,.bool false,.map none,.slice none 0 0]):=Ny
theorem KU:asz Tryz.prog 82=some 1:=Ny
theorem KK:dw Tryz.prog 84=some (.agg #[.nilFunc,.bool false]):=Ny
theorem GM:asz Tryz.prog 116=some 5:=Ny
theorem Co:dw Tryz.prog 116=some (.agg #[.int .i64 0,.int .i64 0,.int .i64 0,.int .i64 0,.slice none 0 0]):=Ny
theorem KR:dw Tryz.prog 130=some (.nilFunc):=Ny
theorem JT:asz Tryz.prog 131=some 1:=Ny
theorem Gg:dw Tryz.prog 133=some (.agg #[.int .i64 0,.int .i64 0,.string .empty,.slice none 0 0,.slice none 0 0]):=Ny
theorem K6:asz Tryz.prog 159=some 1:=Ny
theorem KQ:dw Tryz.prog 175=some (.agg #[.int .u64 0,.int .u64 0,.int .u64 0]):=Ny
theorem Ib:IaA 22 3:=λha h0 h1=>by simp[cA,Tryz.underlying22,MN,ha,fQ,h0,h1]
theorem pK:IaA 24 20:=λha h0 h1=>by simp[cA,Tryz.underlying24,MK,ha,fQ,h0,h1]
theorem Mf:(Tryz.prog.info? 51).map (λi=>(i.size,i.bytes))=some (20,288):=Ny
theorem MY(hl:(aM v).length=20):mL Tryz.prog 24 1 [(0,v)]=some (λb=>.slice (some ⟨b,0,none⟩) 1 1,.cells (aM v) 51 true):=fC (E:=EN) ⟨Tryz.underlying24,Mf,⟨_,IP,rfl⟩,Nz⟩ hl Nz
theorem MU(hE:E.P=Tryz.prog):jW E 24 51 20 288:=⟨by rw[hE];exact Tryz.underlying24,by rw[hE];exact Mf,⟨_,by rw[hE];exact IP,rfl⟩,Nz⟩
theorem mu:IaA 25 1:=λha h0 h1=>by simp[cA,Tryz.underlying25,sz4,ha,fQ,h0,h1]
theorem in4:(Tryz.prog.info? 4).map (λi=>(i.size,i.bytes))=some (1,1):=Ny
theorem Bt:MkA 25 4 1 [.bool false]:=λh0 h1 h2 h3=>fL (E:=EN) ⟨Tryz.underlying25,in4,⟨_,zr4,rfl⟩,Nz⟩ ⟨_,zr4,rfl⟩ h0 h1 h2 h3
theorem MT(hE:E.P=Tryz.prog):jW E 25 4 1 1:=⟨by rw[hE];exact Tryz.underlying25,by rw[hE];exact in4,⟨_,by rw[hE];exact zr4,rfl⟩,Nz⟩
theorem jw:IaA 26 17:=λha h0 h1=>by simp[cA,Tryz.underlying26,DG,ha,fQ,h0,h1]
theorem Kw:(Tryz.prog.info? 66).map (λi=>(i.size,i.bytes))=some (17,192):=Ny
theorem Ff:MkA 26 66 192 [.int .i64 0,.int .i64 0,.int .i64 0,.int .i64 0,.int .i64 0,.int .i64 0,.int .i64 0,.int .i64 0,.int .i64 0,.slice none 0 0,.slice none 0 0,.int .i64 0,.int .i64 0,.string .empty,.int .i64 0,.int .i64 0,.slice none 0 0]:=λh0 h1 h2 h3=>fL (E:=EN) ⟨Tryz.underlying26,Kw,⟨_,AE,rfl⟩,Nz⟩ ⟨_,AE,rfl⟩ h0 h1 h2 h3
theorem lf(hl:(aM v).length=17):mL Tryz.prog 26 1 [(0,v)]=some (λb=>.slice (some ⟨b,0,none⟩) 1 1,.cells (aM v) 66 true):=fC (E:=EN) ⟨Tryz.underlying26,Kw,⟨_,AE,rfl⟩,Nz⟩ hl Nz
theorem mz(hE:E.P=Tryz.prog):jW E 26 66 17 192:=⟨by rw[hE];exact Tryz.underlying26,by rw[hE];exact Kw,⟨_,by rw[hE];exact AE,rfl⟩,Nz⟩
theorem jQ:IaA 27 1:=λha h0 h1=>by simp[cA,Tryz.underlying27,sz3,ha,fQ,h0,h1]
theorem in3:(Tryz.prog.info? 3).map (λi=>(i.size,i.bytes))=some (1,8):=Ny
theorem xh:MkA 27 3 8 [.int .i64 0]:=λh0 h1 h2 h3=>fL (E:=EN) ⟨Tryz.underlying27,in3,⟨_,zr3,rfl⟩,Nz⟩ ⟨_,zr3,rfl⟩ h0 h1 h2 h3
theorem KB(hE:E.P=Tryz.prog):jW E 27 3 1 8:=⟨by rw[hE];exact Tryz.underlying27,by rw[hE];exact in3,⟨_,by rw[hE];exact zr3,rfl⟩,Nz⟩
theorem Np:bW Tryz.prog ev (.alloc 29)=some (λb=>.pointer (some ⟨b,0,none⟩),.cells [.slice none 0 0,.slice none 0 0,.slice none 0 0,.slice none 0 0,.int .i64 0] 29 true):=by simp[bW,KP,aM]
theorem Nc:cZ Tryz.prog 29 ps=(dP (λi=>([(0,1),(1,1),(2,1),(3,1),(4,1)]:List (Nat×Nat))[i]?) [.slice none 0 0,.slice none 0 0,.slice none 0 0,.slice none 0 0,.int .i64 0] ps).map λl=>.agg l.toArray:=by simp[cZ,KP,Tryz.underlying29,dG,K5,I9,I8,I7,sz3,aM]
theorem Nn:bW Tryz.prog ev (.alloc 34)=some (λb=>.pointer (some ⟨b,0,none⟩),.cells [.int .i64 0,.int .i64 0,.int .i64 0] 34 true):=by simp[bW,KO,aM]
theorem Nb:cZ Tryz.prog 34 ps=(dP (λi=>([(0,1),(1,1),(2,1)]:List (Nat×Nat))[i]?) [.int .i64 0,.int .i64 0,.int .i64 0] ps).map λl=>.agg l.toArray:=by simp[cZ,KO,Tryz.underlying34,dG,sz3,aM]
theorem jP:IaA 37 3:=λha h0 h1=>by simp[cA,Tryz.underlying37,ly,ha,fQ,h0,h1]
theorem Kx:(Tryz.prog.info? 60).map (λi=>(i.size,i.bytes))=some (3,32):=Ny
theorem Mc:MkA 37 60 32 [.int .i64 0,.int .i64 0,.string .empty]:=λh0 h1 h2 h3=>fL (E:=EN) ⟨Tryz.underlying37,Kx,⟨_,Dl,rfl⟩,Nz⟩ ⟨_,Dl,rfl⟩ h0 h1 h2 h3
theorem qS(hl:(aM v).length=3):mL Tryz.prog 37 1 [(0,v)]=some (λb=>.slice (some ⟨b,0,none⟩) 1 1,.cells (aM v) 60 true):=fC (E:=EN) ⟨Tryz.underlying37,Kx,⟨_,Dl,rfl⟩,Nz⟩ hl Nz
theorem jS(hE:E.P=Tryz.prog):jW E 37 60 3 32:=⟨by rw[hE];exact Tryz.underlying37,by rw[hE];exact Kx,⟨_,by rw[hE];exact Dl,rfl⟩,Nz⟩
theorem Kz:IaA 41 5:=λha h0 h1=>by simp[cA,Tryz.underlying41,GM,ha,fQ,h0,h1]
theorem J0:(Tryz.prog.info? 116).map (λi=>(i.size,i.bytes))=some (5,56):=Ny
theorem MW(hl:(aM v).length=5):mL Tryz.prog 41 1 [(0,v)]=some (λb=>.slice (some ⟨b,0,none⟩) 1 1,.cells (aM v) 116 true):=fC (E:=EN) ⟨Tryz.underlying41,J0,⟨_,Co,rfl⟩,Nz⟩ hl Nz
theorem KA(hE:E.P=Tryz.prog):jW E 41 116 5 56:=⟨by rw[hE];exact Tryz.underlying41,by rw[hE];exact J0,⟨_,by rw[hE];exact Co,rfl⟩,Nz⟩
theorem Nm:bW Tryz.prog ev (.alloc 43)=some (λb=>.pointer (some ⟨b,0,none⟩),.cells [.bool false,.slice none 0 0,.slice none 0 0,.slice none 0 0] 43 true):=by simp[bW,KN,aM]
theorem Na:cZ Tryz.prog 43 ps=(dP (λi=>([(0,1),(1,1),(2,1),(3,1)]:List (Nat×Nat))[i]?) [.bool false,.slice none 0 0,.slice none 0 0,.slice none 0 0] ps).map λl=>.agg l.toArray:=by simp[cZ,KN,Tryz.underlying43,dG,GK,sz4,MM,K4,aM]
theorem M9:cZ Tryz.prog 45 ps=(dP (λi=>([(0,4)]:List (Nat×Nat))[i]?) [.bool false,.slice none 0 0,.slice none 0 0,.slice none 0 0] ps).map λl=>.agg l.toArray:=by simp[cZ,My,Tryz.underlying45,dG,Kb,aM]
theorem Nl:bW Tryz.prog ev (.alloc 49)=some (λb=>.pointer (some ⟨b,0,none⟩),.cells [.int .i64 0,.int .i64 0,.int .i64 0,.int .i64 0,.int .i64 0,.int .i64 0,.int .i64 0,.int .i64 0,.slice none 0 0,.bool false,.slice none 0 0,.slice none 0 0,.slice none 0 0,.slice none 0 0,.slice none 0 0,.bool false,.slice none 0 0,.slice none 0 0] 49 true):=by simp[bW,KM,aM]
theorem M8:cZ Tryz.prog 49 ps=(dP (λi=>([(0,1),(1,1),(2,1),(3,1),(4,1),(5,1),(6,1),(7,1),(8,1),(9,4),(13,1),(14,1),(15,1),(16,1),(17,1)]:List (Nat×Nat))[i]?) [.int .i64 0,.int .i64 0,.int .i64 0,.int .i64 0,.int .i64 0,.int .i64 0,.int .i64 0,.int .i64 0,.slice none 0 0,.bool false,.slice none 0 0,.slice none 0 0,.slice none 0 0,.slice none 0 0,.slice none 0 0,.bool false,.slice none 0 0,.slice none 0 0] ps).map λl=>.agg l.toArray:=by simp[cZ,KM,Tryz.underlying49,dG,I9,I8,I7,sz3,GK,sz4,Kb,aM]
theorem Nk:bW Tryz.prog ev (.alloc 51)=some (λb=>.pointer (some ⟨b,0,none⟩),.cells [.pointer none,.pointer none,.int .i64 0,.int .i64 0,.int .i64 0,.int .i64 0,.int .i64 0,.int .i64 0,.int .i64 0,.int .i64 0,.slice none 0 0,.bool false,.slice none 0 0,.slice none 0 0,.slice none 0 0,.slice none 0 0,.slice none 0 0,.bool false,.slice none 0 0,.slice none 0 0] 51 true):=by simp[bW,IP,aM]
theorem M7:cZ Tryz.prog 51 ps=(dP (λi=>([(0,1),(1,1),(2,18)]:List (Nat×Nat))[i]?) [.pointer none,.pointer none,.int .i64 0,.int .i64 0,.int .i64 0,.int .i64 0,.int .i64 0,.int .i64 0,.int .i64 0,.int .i64 0,.slice none 0 0,.bool false,.slice none 0 0,.slice none 0 0,.slice none 0 0,.slice none 0 0,.slice none 0 0,.bool false,.slice none 0 0,.slice none 0 0] ps).map λl=>.agg l.toArray:=by simp[cZ,IP,Tryz.underlying51,dG,K3,K2,K1,aM]
theorem Mi:IaA 58 1:=λha h0 h1=>by simp[cA,Tryz.underlying58,sz5,ha,fQ,h0,h1]
theorem in5:(Tryz.prog.info? 5).map (λi=>(i.size,i.bytes))=some (1,1):=Ny
theorem MQ:MkA 58 5 1 [.int .u8 0]:=λh0 h1 h2 h3=>fL (E:=EN) ⟨Tryz.underlying58,in5,⟨_,zr5,rfl⟩,Nz⟩ ⟨_,zr5,rfl⟩ h0 h1 h2 h3
theorem KE(hl:(aM v).length=1):mL Tryz.prog 58 1 [(0,v)]=some (λb=>.slice (some ⟨b,0,none⟩) 1 1,.cells (aM v) 5 true):=fC (E:=EN) ⟨Tryz.underlying58,in5,⟨_,zr5,rfl⟩,Nz⟩ hl Nz
theorem BR(hE:E.P=Tryz.prog):jW E 58 5 1 1:=⟨by rw[hE];exact Tryz.underlying58,by rw[hE];exact in5,⟨_,by rw[hE];exact zr5,rfl⟩,Nz⟩
theorem Nj:bW Tryz.prog ev (.alloc 60)=some (λb=>.pointer (some ⟨b,0,none⟩),.cells [.int .i64 0,.int .i64 0,.string .empty] 60 true):=by simp[bW,Dl,aM]
theorem M6:cZ Tryz.prog 60 ps=(dP (λi=>([(0,1),(1,1),(2,1)]:List (Nat×Nat))[i]?) [.int .i64 0,.int .i64 0,.string .empty] ps).map λl=>.agg l.toArray:=by simp[cZ,Dl,Tryz.underlying60,dG,sz3,sz9,aM]
theorem Mh:(Tryz.prog.info? 133).map (λi=>(i.size,i.bytes))=some (5,80):=Ny
theorem MP:MkA 62 133 80 [.int .i64 0,.int .i64 0,.string .empty,.slice none 0 0,.slice none 0 0]:=λh0 h1 h2 h3=>fL (E:=EN) ⟨Tryz.underlying62,Mh,⟨_,Gg,rfl⟩,Nz⟩ ⟨_,Gg,rfl⟩ h0 h1 h2 h3
theorem Ni:bW Tryz.prog ev (.alloc 64)=some (λb=>.pointer (some ⟨b,0,none⟩),.cells [.int .i64 0,.int .i64 0,.slice none 0 0] 64 true):=by simp[bW,KL,aM]
theorem M5:cZ Tryz.prog 64 ps=(dP (λi=>([(0,1),(1,1),(2,1)]:List (Nat×Nat))[i]?) [.int .i64 0,.int .i64 0,.slice none 0 0] ps).map λl=>.agg l.toArray:=by simp[cZ,KL,Tryz.underlying64,dG,sz3,KZ,Ka,aM]
theorem Nh:bW Tryz.prog ev (.alloc 66)=some (λb=>.pointer (some ⟨b,0,none⟩),.cells [.int .i64 0,.int .i64 0,.int .i64 0,.int .i64 0,.int .i64 0,.int .i64 0,.int .i64 0,.int .i64 0,.int .i64 0,.slice none 0 0,.slice none 0 0,.int .i64 0,.int .i64 0,.string .empty,.int .i64 0,.int .i64 0,.slice none 0 0] 66 true):=by simp[bW,AE,aM]
theorem M4:cZ Tryz.prog 66 ps=(dP (λi=>([(0,1),(1,1),(2,1),(3,1),(4,1),(5,1),(6,1),(7,1),(8,1),(9,1),(10,1),(11,3),(14,3)]:List (Nat×Nat))[i]?) [.int .i64 0,.int .i64 0,.int .i64 0,.int .i64 0,.int .i64 0,.int .i64 0,.int .i64 0,.int .i64 0,.int .i64 0,.slice none 0 0,.slice none 0 0,.int .i64 0,.int .i64 0,.string .empty,.int .i64 0,.int .i64 0,.slice none 0 0] ps).map λl=>.agg l.toArray:=by simp[cZ,AE,Tryz.underlying66,dG,sz3,GK,K0,ly,J9,aM]
theorem M3:cZ Tryz.prog 71 ps=(dP (λi=>([(0,1),(1,1),(2,17)]:List (Nat×Nat))[i]?) [.int .i64 0,.int .i64 0,.int .i64 0,.int .i64 0,.int .i64 0,.int .i64 0,.int .i64 0,.int .i64 0,.int .i64 0,.int .i64 0,.int .i64 0,.slice none 0 0,.slice none 0 0,.int .i64 0,.int .i64 0,.string .empty,.int .i64 0,.int .i64 0,.slice none 0 0] ps).map λl=>.agg l.toArray:=by simp[cZ,Mx,Tryz.underlying71,dG,sz3,DG,aM]
theorem Ng:bW Tryz.prog ev (.alloc 73)=some (λb=>.pointer (some ⟨b,0,none⟩),.cells [.int .i64 0,.int .i64 0,.int .i64 0,.int .i64 0,.int .i64 0,.int .i64 0,.int .i64 0,.int .i64 0,.int .i64 0,.int .i64 0,.int .i64 0,.int .i64 0,.int .i64 0,.int .i64 0,.int .i64 0,.int .i64 0] 73 true):=by simp[bW,Mw,aM]
theorem M1:cZ Tryz.prog 78 ps=(dP (λi=>([(0,1),(1,1),(2,1),(3,1),(4,1),(5,1),(6,1),(7,1),(8,1),(9,1),(10,1),(11,1),(12,1),(13,1),(14,1),(15,1)]:List (Nat×Nat))[i]?) [.int .i64 0,.int .i64 0,.nilIface,.int .i64 0,.int .i64 0,.int .i64 0,.int .i64 0,.int .i64 0,.int .i64 0,.int .i64 0,.slice none 0 0,.slice none 0 0,.slice none 0 0,.bool false,.map none,.slice none 0 0] ps).map λl=>.agg l.toArray:=by simp[cZ,Mv,Tryz.underlying78,dG,I9,I8,I7,sz3,GK,sz4,KY,KV,aM]
theorem Nf:bW Tryz.prog ev (.alloc 84)=some (λb=>.pointer (some ⟨b,0,none⟩),.cells [.nilFunc,.bool false] 84 true):=by simp[bW,KK,aM]
theorem MZ:cZ Tryz.prog 84 ps=(dP (λi=>([(0,1),(1,1)]:List (Nat×Nat))[i]?) [.nilFunc,.bool false] ps).map λl=>.agg l.toArray:=by simp[cZ,KK,Tryz.underlying84,dG,sz4,KU,aM]
theorem Mt:bW Tryz.prog ev (.alloc 116)=some (λb=>.pointer (some ⟨b,0,none⟩),.cells [.int .i64 0,.int .i64 0,.int .i64 0,.int .i64 0,.slice none 0 0] 116 true):=by simp[bW,Co,aM]
theorem Mo:cZ Tryz.prog 116 ps=(dP (λi=>([(0,1),(1,1),(2,3)]:List (Nat×Nat))[i]?) [.int .i64 0,.int .i64 0,.int .i64 0,.int .i64 0,.slice none 0 0] ps).map λl=>.agg l.toArray:=by simp[cZ,Co,Tryz.underlying116,dG,sz3,J9,aM]
theorem Ms:bW Tryz.prog ev (.alloc 130)=some (λb=>.pointer (some ⟨b,0,none⟩),.cells [.nilFunc] 130 true):=by simp[bW,KR,aM]
theorem Mn:cZ Tryz.prog 133 ps=(dP (λi=>([(0,1),(1,1),(2,1),(3,1),(4,1)]:List (Nat×Nat))[i]?) [.int .i64 0,.int .i64 0,.string .empty,.slice none 0 0,.slice none 0 0] ps).map λl=>.agg l.toArray:=by simp[cZ,Gg,Tryz.underlying133,dG,JT,sz2,sz3,Ka,sz9,aM]
theorem Mr:bW Tryz.prog ev (.alloc 175)=some (λb=>.pointer (some ⟨b,0,none⟩),.cells [.int .u64 0,.int .u64 0,.int .u64 0] 175 true):=by simp[bW,KQ,aM]
variable{O l:List Oper}{Q R:bl}{tm:Tr Value}{d:Option Nat}{x:Operand}
theorem le9{s:ByteArray}:re Tryz.prog 9 (.string s)=some (.int .i64 s.size):=by simp[re,Tryz.underlying9]
theorem J7(hE:E.P=Tryz.prog):cr E (.call ⟨.builtin .len,#[x],#[76]⟩) d R tm h=bY (mI E h 76 (opd tm x)) d R tm h:=Gv (by rw[hE];exact Tryz.underlying76)
theorem I3(hE:E.P=Tryz.prog):cr E (.convert 58 9 x) d R tm h=bY (cC E h (opd tm) (.convert 58 9 x)) d R tm h:=by rw[wH (by rw[hE];exact Tryz.underlying58)]
theorem ME:LdB 2/\LdB 3/\LdB 4/\LdB 5/\LdB 9/\LdB 24/\LdB 25/\LdB 26/\LdB 27/\LdB 37/\LdB 41/\LdB 46/\LdB 47/\LdB 58/\LdB 61/\LdB 62/\LdB 75/\LdB 76/\LdB 82/\LdB 131/\LdB 159:=by
 and_intros<;>exact LdB.of Ny
theorem MF:LdA 29 5/\LdA 34 3/\LdA 43 4/\LdA 49 18/\LdA 51 20/\LdA 60 3/\LdA 64 3/\LdA 66 17/\LdA 71 19/\LdA 116 5:=by
 and_intros<;>exact LdA.of Ny Ny
theorem MB:StA 2 1/\StA 3 1/\StA 4 1/\StA 5 1/\StA 24 1/\StA 25 1/\StA 26 1/\StA 27 1/\StA 29 5/\StA 34 3/\StA 37 1/\StA 41 1/\StA 43 4/\StA 49 18/\StA 51 20/\StA 58 1/\StA 60 3/\StA 62 1/\StA 64 3/\StA 66 17/\StA 76 1/\StA 84 2/\StA 116 5/\StA 130 1/\StA 159 1:=by
 and_intros<;>exact StA.of Ny
theorem MG:FaA 29 0 0/\FaA 29 1 1/\FaA 29 2 2/\FaA 29 3 3/\FaA 29 4 4/\FaA 34 0 0/\FaA 34 1 1/\FaA 34 2 2/\FaA 43 0 0/\FaA 43 1 1/\FaA 43 3 3/\FaA 45 0 0/\FaA 49 0 0/\FaA 49 1 1/\FaA 49 2 2/\FaA 49 3 3/\FaA 49 4 4/\FaA 49 5 5/\FaA 49 6 6/\FaA 49 7 7/\FaA 49 8 8/\FaA 49 9 9/\FaA 49 10 13/\FaA 49 11 14/\FaA 49 12 15/\FaA 49 13 16/\FaA 49 14 17/\FaA 51 0 0/\FaA 51 1 1/\FaA 51 2 2/\FaA 60 0 0/\FaA 60 1 1/\FaA 60 2 2/\FaA 64 0 0/\FaA 64 1 1/\FaA 64 2 2/\FaA 66 0 0/\FaA 66 1 1/\FaA 66 2 2/\FaA 66 3 3/\FaA 66 4 4/\FaA 66 5 5/\FaA 66 6 6/\FaA 66 7 7/\FaA 66 8 8/\FaA 66 9 9/\FaA 66 10 10/\FaA 66 11 11/\FaA 66 12 14/\FaA 71 0 0/\FaA 71 1 1/\FaA 71 2 2/\FaA 78 0 0/\FaA 78 1 1/\FaA 78 2 2/\FaA 78 3 3/\FaA 78 4 4/\FaA 78 5 5/\FaA 78 6 6/\FaA 78 7 7/\FaA 78 8 8/\FaA 78 9 9/\FaA 78 10 10/\FaA 78 11 11/\FaA 78 12 12/\FaA 78 13 13/\FaA 78 14 14/\FaA 78 15 15/\FaA 84 0 0/\FaA 84 1 1/\FaA 116 0 0/\FaA 116 1 1/\FaA 116 2 2/\FaA 133 0 0/\FaA 133 1 1/\FaA 133 2 2/\FaA 133 3 3/\FaA 133 4 4:=by
 and_intros<;>(intro a ha;simp[gp,ha,fQ,Tryz.underlying116,Tryz.underlying131,Tryz.underlying133,Tryz.underlying22,Tryz.underlying24,Tryz.underlying25,Tryz.underlying26,Tryz.underlying27,Tryz.underlying29,Tryz.underlying34,Tryz.underlying37,Tryz.underlying41,Tryz.underlying43,Tryz.underlying45,Tryz.underlying49,Tryz.underlying51,Tryz.underlying58,Tryz.underlying60,Tryz.underlying62,Tryz.underlying64,Tryz.underlying66,Tryz.underlying71,Tryz.underlying78,Tryz.underlying84,Tryz.underlying9,JT,sz2,K5,I9,I8,I7,sz3,GK,sz4,K4,Kb,K3,K2,K1,K0,ly,KZ,Ka,J9,DG,KY,KV,KU,sz9])
theorem MC:LeA 22/\LeA 24/\LeA 25/\LeA 26/\LeA 27/\LeA 37/\LeA 41/\LeA 58/\LeA 62/\LeA 131:=by
 and_intros<;>(intro a n c;simp[re,Tryz.underlying22,Tryz.underlying24,Tryz.underlying25,Tryz.underlying26,Tryz.underlying27,Tryz.underlying37,Tryz.underlying41,Tryz.underlying58,Tryz.underlying62,Tryz.underlying131])
theorem Mz:WlA 9/\WlA 22/\WlA 24/\WlA 25/\WlA 26/\WlA 27/\WlA 37/\WlA 41/\WlA 58/\WlA 62/\WlA 131:=by
 and_intros<;>(intro E h x d R tm hE;rw[I0 (by rw[hE];first|with_reducible exact Tryz.underlying9|with_reducible exact Tryz.underlying22|with_reducible exact Tryz.underlying24|with_reducible exact Tryz.underlying25|with_reducible exact Tryz.underlying26|with_reducible exact Tryz.underlying27|with_reducible exact Tryz.underlying37|with_reducible exact Tryz.underlying41|with_reducible exact Tryz.underlying58|with_reducible exact Tryz.underlying62|with_reducible exact Tryz.underlying131) rfl,hE])
theorem MA:WcA 3 148/\WcA 3 159/\WcA 3 160/\WcA 5 3/\WcA 5 159/\WcA 21 3/\WcA 159 3/\WcA 159 5/\WcA 159 160/\WcA 160 21/\WcA 160 159:=by
 and_intros<;>(intro E h x d R tm hE;rw[yo (by rw[hE];first|with_reducible exact Tryz.underlying159|with_reducible exact Tryz.underlying160|with_reducible exact Tryz.underlying21|with_reducible exact Tryz.underlying3|with_reducible exact Tryz.underlying5) rfl,hE])
attribute [push_cast] Np Nc Nn Nb Nm Na M9 Nl M8 Nk M7 Nj M6 Ni M5 Nh M4 M3 Ng M1 Nf MZ Mt Mo Ms Mn Mr le9 J7 I3 Tryz.underlying3 Tryz.underlying5 Tryz.underlying9 Tryz.underlying21 Tryz.underlying26 Tryz.underlying37 Tryz.underlying41 Tryz.underlying58 Tryz.underlying148 Tryz.underlying159 Tryz.underlying160 ME MF MB MG MC Mz MA
end
theorem wpOps_cons{F:Fence}{n:Nat}{P:Program}{Q:Exit->Act->World->Prop}{o:Oper}(ho:ops[i]? = some o)(hg:o.guard=none)(h:o.wpIn F n P a w (wpOpsIn F n P ops Q rest) Q):wpOpsIn F n P ops Q (i::rest) a w:=by simp only[wpOpsIn,ho];rw[if_pos (by simp[Region.wanted,hg])];exact h
theorem gL{E:Env}{B:Nat}{n:Ns}{ds:List Deferred}{Q:Exit->Act->World->Prop}{rest:List Nat}{o:Oper}{tm:Tr Value}{h h':ag}{v:Value}{d:Nat}(zT:ops[i]? = some o)(hg:o.guard=none)(hdst:o.dst=some d)
 {ρ:Ren} {w:World} {a:Act} (H:HR E B ρ h w) (F:FR ρ n ds tm a) (S:Sc ⟨tm,h⟩) (hx:aop E (λ_ _ _=>none) o.op ⟨tm,h⟩=some (v,h')) (ho:o.op.operands.toList.all (eG E.base n)=true) (hd:d<n.n) {rd:Option Nat}
 (hn:∀ρ' w',Step E B ρ h w ρ' h' w'->FR ρ' ⟨n.n,n.hid.filter (λx=>x != d)⟩ ds (tm.set d (some v)) (a.put (some d) (ren ρ' v))->Sc ⟨tm.set d (some v),h'⟩->wpOpsIn (Wd rd) 0 E.P ops Q rest (a.put (some d) (ren ρ' v)) w'):wpOpsIn (Wd rd) 0 E.P ops Q (i::rest) a w:=by
 refine wpOps_cons zT hg (yj hx H F S ho ?_);intro ρ' w' st hv;rw[hdst];exact hn ρ' w' st (F.CR st.ext S hd v) (ph (d:=some d) S st.le hv)
theorem lO{tm:Tr Value}{d:Nat}(hs:∀t,sc m (aj tm t)=true)(hv:sc m v=true):∀t,sc m (aj (tm.set d (some v)) t)=true:=ph (d:=some d) hs (Nat.le_refl _) hv
theorem Di{ρ':Ren}{n':Ns}{tm:Tr Value}(F:FR ρ' n' ds tm' a)(hn:n'.n=n.n)(hext:∀b,b<m->ρ' b=ρ b)(hs:∀t,sc m (aj tm t)=true)(h:∀t,n.has t=true->n'.has t=true/\aj tm' t=aj tm t):FR ρ n ds tm a :=
 ⟨F.defers,by rw[F.size,hn],λt ht=>by rw[F.val t (h t ht).1,(h t ht).2,dY ρ ρ' m hext _ (hs t)]⟩
theorem zU{d t:Nat}(h:t<n.n)(e:t=d\/n.has t=true):Ns.has ⟨n.n,n.hid.filter (λx=>x != d)⟩ t=true:=by
 simp only[Ns.has,Bool.and_eq_true,decide_eq_true_eq,Bool.not_eq_true',List.contains_eq_mem,decide_eq_false_iff_not,List.mem_filter,bne_iff_ne,ne_eq,not_and,Decidable.not_not]at e|-;refine⟨h,λhm=>?_⟩;rcases e with e|e
 ·exact e
 ·exact absurd hm e.2
section
variable{E:Env}(hP:E.P=Tryz.prog)
include hP
theorem DZ{pa pb:String}{h:ag}{tm:Tr Value}{u:Int}{cs:List Value}{x:Int}{Q:Exit->Act->World->Prop}(H:HR E B ρ h w)(F:FR ρ n ds tm a)(S:Sc ⟨tm,h⟩)
 (hn:∀t,t∈[6,44,45,46,47,48,49,50,51]->t<n.n) (h4:n.has 4=true) (hu:aj tm 4=.int .i64 u) (hl:cs.length=17) (ho:cs.all Value.oneCell'=true) (hx:cs[3]? = some (.int .i64 x))
 (h47:n.has 47=true) (g47:aj tm 47=.agg ⟨cs⟩)
 (hq:∀a' w' ρ' h' tm',(∀b o,h.get b=some o->h'.get b=some o)->Step E B ρ h w ρ' h' w'->FR ρ' n ds (tm'.set 4 (some (.int .i64 (max u x)))) a'->(∀t,t∉[6,48,49,50,51]->aj tm' t=aj tm t)->Sc ⟨tm',h'⟩->Q .normal a' w') :
 wpOpsIn (Wd none) 0 E.P (mR7 pa) (Exit.then ((Code.region 8 (mR8 pb) false).wpIn (Wd none) 0 E.P Q) Q) [2,3] a w:=by
 have l4:4<n.n:=Ns.lt h4;have l6:6<n.n:=hn 6 Nw;have l48:48<n.n:=hn 48 Nw;have l49:49<n.n:=hn 49 Nw;have l50:50<n.n:=hn 50 Nw;have l51:51<n.n:=hn 51 Nw;have l47:47<n.n:=hn 47 Nw;have h4':4∉n.hid:=λh=>by simp[Ns.has,h]at h4
 have h47':47∉n.hid:=λh=>by simp[Ns.has,h]at h47
 refine gL (o:=(mR7 pa)[2]) (d:=6) rfl rfl rfl H F S (v:=.pointer (some ⟨h.next,0,none⟩)) (h':=h.push (.cells ([.int .i64 0,.int .i64 0,.int .i64 0,.int .i64 0,.int .i64 0,.int .i64 0,.int .i64 0,.int .i64 0,.int .i64 0,.slice none 0 0,.slice none 0 0,.int .i64 0,.int .i64 0,.string .empty,.int .i64 0,.int .i64 0,.slice none 0 0]) 66 true)) ?_ rfl l6 ?_
 ·simp only[mR7];simp[aop,kindOf,hP,push_cast]
 intro ρ1 w1 st1 F1 S1
 have hp1:∀b o,h.get b=some o->(h.push (.cells ([.int .i64 0,.int .i64 0,.int .i64 0,.int .i64 0,.int .i64 0,.int .i64 0,.int .i64 0,.int .i64 0,.int .i64 0,.slice none 0 0,.slice none 0 0,.int .i64 0,.int .i64 0,.string .empty,.int .i64 0,.int .i64 0,.slice none 0 0]) 66 true)).get b=some o:=λb o hb=>by
  have:=(H.live b o hb).2.1;rw[ah,if_neg Nr];exact hb
 refine wpOps_cons (o:=(mR7 pa)[3]) rfl rfl (yj (v:=undef) (h':=(h.push (.cells ([.int .i64 0,.int .i64 0,.int .i64 0,.int .i64 0,.int .i64 0,.int .i64 0,.int .i64 0,.int .i64 0,.int .i64 0,.slice none 0 0,.slice none 0 0,.int .i64 0,.int .i64 0,.string .empty,.int .i64 0,.int .i64 0,.slice none 0 0]) 66 true)).put h.next (.cells cs 66 true)) ?_ st1.hr F1 S1 ?_ ?_)
 ·simp[aop,kindOf,iE,push_cast,hP,mR7,opd,bZ,g47];simp[bQ,ah,hl,bJ,ho];exact tL
 ·simp[mR7,Op.operands,eG,Ns.has,l6,l47,h47']
 intro ρ2 w2 st2 hv2;have F2:=F1.put st2.ext S1 (d:=none) rfl undef;have S2:Sc ⟨tm.set 6 (some (.pointer (some ⟨h.next,0,none⟩))),_⟩:=λt=>eJ _ _ st2.le _ (S1 t);refine wpIn_region ?_;show wpOpsIn (Wd none) 0 E.P (mR8 pb) Q [0,1,2,3,4] _ _;have F2':FR ρ2 ⟨n.n,n.hid.filter (λx=>x != 6)⟩ ds (tm.set 6 (some (.pointer (some ⟨h.next,0,none⟩)))) _:=F2;refine gL (o:=(mR8 pb)[0]) (d:=48) rfl rfl rfl st2.hr F2' S2 (v:=.int .i64 u) (h':=(h.push (.cells ([.int .i64 0,.int .i64 0,.int .i64 0,.int .i64 0,.int .i64 0,.int .i64 0,.int .i64 0,.int .i64 0,.int .i64 0,.slice none 0 0,.slice none 0 0,.int .i64 0,.int .i64 0,.string .empty,.int .i64 0,.int .i64 0,.slice none 0 0]) 66 true)).put h.next (.cells cs 66 true)) ?_ ?_ l48 ?_
 ·simp[aop,kindOf,cu,mR8,opd,bZ,hu]
 ·simp[mR8,Op.operands,eG,Ns.has,l4,h4']
 intro ρ3 w3 st3 F3 S3;refine gL (o:=(mR8 pb)[1]) (d:=49) rfl rfl rfl st3.hr F3 S3 (v:=.pointer (some ⟨h.next,3,none⟩)) (h':=(h.push (.cells ([.int .i64 0,.int .i64 0,.int .i64 0,.int .i64 0,.int .i64 0,.int .i64 0,.int .i64 0,.int .i64 0,.int .i64 0,.slice none 0 0,.slice none 0 0,.int .i64 0,.int .i64 0,.string .empty,.int .i64 0,.int .i64 0,.slice none 0 0]) 66 true)).put h.next (.cells cs 66 true)) ?_ ?_ l49 ?_
 ·simp[aop,kindOf,cu,push_cast,hP,mR8,opd,bZ]
 ·simp[mR8,Op.operands,eG,Ns.has,l6]
 intro ρ4 w4 st4 F4 S4;refine gL (o:=(mR8 pb)[2]) (d:=50) rfl rfl rfl st4.hr F4 S4 (v:=.int .i64 x) (h':=(h.push (.cells ([.int .i64 0,.int .i64 0,.int .i64 0,.int .i64 0,.int .i64 0,.int .i64 0,.int .i64 0,.int .i64 0,.int .i64 0,.slice none 0 0,.slice none 0 0,.int .i64 0,.int .i64 0,.string .empty,.int .i64 0,.int .i64 0,.slice none 0 0]) 66 true)).put h.next (.cells cs 66 true)) ?_ ?_ l50 ?_
 ·have hb:¬h.next<E.base:=by have:=H.cj;omega
  simp[aop,kindOf,cC,push_cast,hP,mR8,opd,bZ,cg,ah,hb,hl];exact(List.getElem?_eq_some_iff.1 hx).2
 ·simp[mR8,Op.operands,eG,Ns.has,l49]
 intro ρ5 w5 st5 F5 S5;refine gL (o:=(mR8 pb)[3]) (d:=51) rfl rfl rfl st5.hr F5 S5 (v:=.int .i64 (max u x)) (h':=(h.push (.cells ([.int .i64 0,.int .i64 0,.int .i64 0,.int .i64 0,.int .i64 0,.int .i64 0,.int .i64 0,.int .i64 0,.int .i64 0,.slice none 0 0,.slice none 0 0,.int .i64 0,.int .i64 0,.string .empty,.int .i64 0,.int .i64 0,.slice none 0 0]) 66 true)).put h.next (.cells cs 66 true)) ?_ ?_ l51 ?_
 ·simp[aop,kindOf,cu,push_cast,mR8,opd,bZ]
 ·simp[mR8,Op.operands,Call.operands,eG,Ns.has,l48,l50]
 intro ρ6 w6 st6 F6 S6;refine gL (o:=(mR8 pb)[4]) (d:=4) rfl rfl rfl st6.hr F6 S6 (v:=.int .i64 (max u x)) (h':=(h.push (.cells ([.int .i64 0,.int .i64 0,.int .i64 0,.int .i64 0,.int .i64 0,.int .i64 0,.int .i64 0,.int .i64 0,.int .i64 0,.slice none 0 0,.slice none 0 0,.int .i64 0,.int .i64 0,.string .empty,.int .i64 0,.int .i64 0,.slice none 0 0]) 66 true)).put h.next (.cells cs 66 true)) ?_ ?_ l4 ?_
 ·simp[aop,kindOf,cu,push_cast,mR8,opd,bZ]
 ·simp[mR8,Op.operands,eG,Ns.has,l51]
 intro ρ7 w7 st7 F7 S7;show Q .normal _ _;refine hq _ _ ρ7 _ _ ?_ (st1.trans (st2.trans (st3.trans (st4.trans (st5.trans (st6.trans st7)))))) (FR.less (n':=n) F7 rfl ?_) ?_ S6
 ·intro b o hb;have:=(H.live b o hb).2.1;rw[ai,if_neg Nr];exact hp1 b o hb
 ·intro t ht;have hlt:=Ns.lt ht;exact⟨zU hlt (.inr (zU hlt (.inr (zU hlt (.inr (zU hlt (.inr (zU hlt (.inr (zU hlt (.inr ht))))))))))),rfl⟩
 ·intro t ht;simp only[List.mem_cons,List.not_mem_nil,or_false,not_or]at ht;simp only[bZ];rw[if_neg (λe=>ht.2.2.2.2 e.symm),if_neg (λe=>ht.2.2.2.1 e.symm),if_neg (λe=>ht.2.2.1 e.symm),if_neg (λe=>ht.2.1 e.symm),if_neg (λe=>ht.1 e.symm)]
theorem yX{pa pb:String}{n:Ns}{ds:List Deferred}{h:ag}{w1:World}{a:Act}{tm:Tr Value}{i m k c0:Nat}{u:Int}{es:List MapEntry}{seen:Array Nat}{Q:Exit->Act->World->Prop}(H:HR E B ρ h w)(S:Sc ⟨tm,h⟩)
 (hi:h.get i=some (.miter m k)) (hm:h.get m=some (.map es k)) (hnd:(es.map (·.born)).Nodup) (hok:∀e,e∈es->Jq k e) (h43:n.has 43=true) (g43:aj tm 43=.pointer (some ⟨i,0,none⟩)) (h4:n.has 4=true) (hu:aj tm 4=.int .i64 u)
 (hn:∀t,t∈[6,44,45,46,47,48,49,50,51]->t<n.n/\n.has t=false) (st:Step E B ρ h w ρ (h.kill i) w1) (F:FR ρ n ds tm a) (hc:k<=c0) (hr:w1.heap[(ρ i).r]? = some (.mapIter (some (ρ m).r) k seen c0))
 (q0:∀a' w',(leftOf (es.map (dO ρ)).toArray seen).size=0->Step E B ρ h w ρ (h.kill i) w'->FR ρ n ds tm a'->Q (.exit 0) a' w')
 (q1:∀a' w' e,e∈es->dO ρ e∈(leftOf (es.map (dO ρ)).toArray seen).toList->Step E B ρ h w ρ (h.kill i) w'->w'.heap[(ρ i).r]? = some (.mapIter (some (ρ m).r) k (seen.push e.born) k)->FR ρ n ds (tm.set 4 (some (.int .i64 (max u (ja e))))) a'->Q .normal a' w') :
 (nA pa pb).wpIn (Wd none) 0 E.P Q a w1:=by
 have l4:4<n.n:=Ns.lt h4;have l44:44<n.n:=(hn 44 Nw).1;have l45:45<n.n:=(hn 45 Nw).1;have l46:46<n.n:=(hn 46 Nw).1;have l47:47<n.n:=(hn 47 Nw).1;have him:i≠m:=λe=>by rw[e,hm]at hi;cases hi
 have hmk:(h.kill i).get m=some (.map es k):=by rw[dC,if_neg him];exact hm
 have hb:∀w',Step E B ρ h w ρ (h.kill i) w'->w'.heap[(ρ m).r]? = some (.map (es.map (dO ρ)).toArray k):=λw' s'=>by
  obtain⟨_,_,_,_,om,hwm,hom⟩:=s'.hr.live m _ hmk;cases om<;>simp only[fT]at hom;rw[hwm,hom.1,hom.2]
 have hold:∀x∈(es.map (dO ρ)).toArray.toList,x.born<k:=λx hx=>by
  obtain⟨e,he,rfl⟩:=List.mem_map.1 NW;exact(hok e he).1
 have hndc:((es.map (dO ρ)).toArray.toList.map (·.born)).Nodup:=by
  have:((es.map (dO ρ)).toArray.toList.map (·.born))=es.map (·.born):=by simp[dO,Function.comp_def]
  rw[this];exact hnd
 have e43:a.eval (.tmp 43)=.pointer (some ⟨(ρ i).r,0,none⟩):=by have:=F.val 43 h43;rw[g43]at this;obtain⟨_,_,_,_,oi,hwi,hoi⟩:=H.live i _ hi;cases oi<;>simp only[fT]at hoi;show a.tmps.getD 43 undef=_;rw[this];simp[ren,fm,hoi.2.2.2.2]
 have Sk:Sc ⟨tm,h.kill i⟩:=λt=>S t;refine wpIn_seq (wpIn_region ?_);show wpOpsIn (Wd none) 0 E.P (mR6 pa) _ [0,1] a w1;rcases Go.Tm.run_next_any (P:=E.P) (ty:=0) hr (hb w1 st) hold hc with⟨h0,hx⟩|⟨ec,hec,w2,hw2,hx⟩
 ·-- the end
  refine wpOps_cons (o:=(mR6 pa)[0]) rfl rfl (wE (w':=w1) (v:=.tuple #[.bool false]) (by intro c hc;cases hc) ?_ ?_)
  ·show(execOp a.eval (mR6 pa)[0]).run E.P w1=_;simp only[mR6,List.getElem_toArray,List.getElem_cons_zero,execOp,e43,Sem.run_bind,hx,Result.andThen_ok];rfl
  have F1:FR ρ ⟨n.n,n.hid.filter (λx=>x != 44)⟩ ds (tm.set 44 (some (.tuple #[.bool false]))) (a.put (some 44) (.tuple #[.bool false])):=by have:=F.CR (ρ':=ρ) (λ_ _=>rfl) S l44 (.tuple #[.bool false]);simpa[ren,dz] using this
  refine gL (o:=(mR6 pa)[1]) (d:=45) rfl rfl rfl st.hr F1 (lO (d:=44) Sk (by rfl)) (v:=.bool false) (h':=h.kill i) ?_ ?_ l45 ?_
  ·simp[aop,kindOf,cu,mR6,opd,bZ,gY]
  ·simp[mR6,Op.operands,eG,Ns.has,l44]
  intro ρ3 w3 st3 F3 S3;show Exit.then _ _ .normal _ _;refine wpIn_seq (wpIn_cond_false ?_ (wpIn_exit ?_))
  ·have:=F3.val 45 (by simp[Ns.has,l45]);simpa[bZ,ren,Act.eval] using this
  refine q0 _ w3 h0 (st.trans (Step.forget st.hr st3 (λ_ _ hb=>hb))) (Di F3 rfl st3.ext S ?_);intro t ht;have n44:t≠44:=λe=>by have:=(hn 44 (by simp)).2;rw[<-e,ht]at this;cases this
  have n45:t≠45:=λe=>by have:=(hn 45 (by simp)).2;rw[<-e,ht]at this;cases this
  have hlt:t<n.n:=Ns.lt ht;refine⟨zU (n:=⟨n.n,_⟩) hlt (.inr (zU hlt (.inr ht))),?_⟩;simp only[bZ];rw[if_neg (λe=>n45 e.symm),if_neg (λe=>n44 e.symm)]
 ·-- an entry
  have hec':=mem_left hec;obtain⟨e0,he0,rfl⟩:=List.mem_map.1 (by simpa using hec'.1);have hst2:=Step.iter H hi st hw2 (.mapIter (some (ρ m).r) k (seen.push (dO ρ e0).born) k);obtain⟨hbk,cs,x,hv,hl,ho,hx3⟩:=hok e0 he0;have hscm:=(H.live m _ hm).2.2.2.1 e0 he0;refine wpOps_cons (o:=(mR6 pa)[0]) rfl rfl (wE (w':=dh w2 (ρ i).r (.mapIter (some (ρ m).r) k (seen.push (dO ρ e0).born) k)) (v:=.tuple #[.bool true,(dO ρ e0).key,(dO ρ e0).val]) (by intro c hc;cases hc) ?_ ?_)
  ·show(execOp a.eval (mR6 pa)[0]).run E.P w1=_;simp only[mR6,List.getElem_toArray,List.getElem_cons_zero,execOp,e43,Sem.run_bind,hx,Result.andThen_ok];rfl
  have F1:FR ρ ⟨n.n,n.hid.filter (λx=>x != 44)⟩ ds (tm.set 44 (some (.tuple #[.bool true,e0.key,e0.val]))) (a.put (some 44) (.tuple #[.bool true,(dO ρ e0).key,(dO ρ e0).val])):=by have:=F.CR (ρ':=ρ) (λ_ _=>rfl) S l44 (.tuple #[.bool true,e0.key,e0.val]);simpa[ren,dz,dO] using this
  have S1:Sc ⟨tm.set 44 (some (.tuple #[.bool true,e0.key,e0.val])),h.kill i⟩:=lO (d:=44) Sk (by simp[sc,scA,fJ,hscm]);refine gL (o:=(mR6 pa)[1]) (d:=45) rfl rfl rfl hst2.hr F1 S1 (v:=.bool true) (h':=h.kill i) ?_ ?_ l45 ?_
  ·simp[aop,kindOf,cu,mR6,opd,bZ,gY]
  ·simp[mR6,Op.operands,eG,Ns.has,l44]
  intro ρ3 w3 st3 F3 S3;show Exit.then _ _ .normal _ _;refine wpIn_seq (wpIn_cond_true ?_ (wpIn_skip ?_))
  ·have:=F3.val 45 (by simp[Ns.has,l45]);simpa[bZ,ren,Act.eval] using this
  show(Code.block 1 _).wpIn _ _ _ _ _ _;refine wpIn_block (wpIn_seq (wpIn_region ?_));show wpOpsIn (Wd none) 0 E.P (mR7 pa) _ [0,1,2,3] _ _;have hs3:Step E B ρ h w ρ (h.kill i) w3:=hst2.trans (Step.forget hst2.hr st3 (λ_ _ hb=>hb));have hrlt:(ρ i).r<(dh w2 (ρ i).r (.mapIter (some (ρ m).r) k (seen.push (dO ρ e0).born) k)).heap.size:=by have h1:=H.lt hi;have h2:=hst2.size;omega
  have hrX:∀{ρ':Ren} {h':ag} {w':World},Step E B ρ (h.kill i) (dh w2 (ρ i).r (.mapIter (some (ρ m).r) k (seen.push (dO ρ e0).born) k)) ρ' h' w'->w'.heap[(ρ i).r]? = some (.mapIter (some (ρ m).r) k (seen.push (dO ρ e0).born) k):=by
   intro ρ' h' w' s';rw[s'.frame _ hrlt]
   ·have hlt2:(ρ i).r<w2.heap.size:=by simpa[dh] using hrlt
    rw[dm _ _ _ _ hlt2,if_pos rfl]
   ·intro b o hb e;rw[dC]at hb;by_cases hib:i=b
    ·rw[if_pos hib]at hb;cases hb
    ·rw[if_neg hib]at hb;exact hib (H.inj _ _ _ _ hi hb e.symm)
  have e43':Act.eval ((a.put (some 44) (.tuple #[.bool true,(dO ρ e0).key,(dO ρ e0).val])).put (some 45) (ren ρ3 (.bool true))) (.tmp 43)=.pointer (some ⟨(ρ i).r,0,none⟩):=by rw[<-e43];simp[Act.eval,Act.put,Array.getD_eq_getD_getElem?]
  refine wpOps_cons (o:=(mR7 pa)[0]) rfl rfl (wE (w':=w3) (v:=.tuple #[(dO ρ e0).key,(dO ρ e0).val]) (by intro c hc;cases hc) ?_ ?_)
  ·have hx2:=Go.Tm.uM (P:=E.P) (e:=dO ρ e0) (hrX st3) (hb w3 hs3) (by simpa using hec'.1) hndc;show(execOp _ (mR7 pa)[0]).run E.P w3=_;simp only[mR7,List.getElem_toArray,List.getElem_cons_zero,execOp,e43',Sem.run_bind];rw[hx2];rfl
  have er3:∀v,sc h.next v=true->ren ρ3 v=ren ρ v:=λv hv=>dY ρ ρ3 h.next st3.ext v hv;have F4:FR ρ3 _ ds _ _:=F3.CR (d:=46) (ρ':=ρ3) (λ_ _=>rfl) S3 l46 (.tuple #[e0.key,e0.val]);have er4:ren ρ3 (.tuple #[e0.key,e0.val])=.tuple #[(dO ρ e0).key,(dO ρ e0).val]:=by simp[ren,dz,dO,er3 _ hscm.1,er3 _ hscm.2]
  rw[er4]at F4;have S4:Sc ⟨((tm.set 44 (some (.tuple #[.bool true,e0.key,e0.val]))).set 45 (some (.bool true))).set 46 (some (.tuple #[e0.key,e0.val])),h.kill i⟩:=lO (d:=46) S3 (by simp[sc,scA,fJ,hscm]);refine gL (o:=(mR7 pa)[1]) (d:=47) rfl rfl rfl st3.hr F4 S4 (v:=e0.val) (h':=h.kill i) ?_ ?_ l47 ?_
  ·simp[aop,kindOf,cu,mR7,opd,bZ,gY]
  ·simp[mR7,Op.operands,eG,Ns.has,l46]
  intro ρ5 w5 st5 F5 S5;have n4:4∉n.hid:=λh=>by simp[Ns.has,h]at h4
  refine DZ hP (cs:=cs) (x:=x) (u:=u) st5.hr F5 S5 (λt ht=>(hn t (by simp only[List.mem_cons,List.not_mem_nil,or_false]at ht|-;omega)).1) (by simp[Ns.has,l4,n4]) (by simp[bZ,hu]) hl ho hx3 (by simp[Ns.has,l47]) (by simp[bZ,hv]) ?_;intro a' w' ρ' h' tm' hk st' F' ht' S';have sAll:=(st3.trans st5).trans st';have hvw:ja e0=x:=by simp[ja,hv,hx3]
  show Q .normal a' w';refine q1 a' w' e0 he0 hec (hst2.trans (Step.forget hst2.hr sAll hk)) (hrX sAll) ?_;rw[hvw];refine Di F' rfl sAll.ext (lO (d:=4) S rfl) ?_;intro t ht;have hlt:t<n.n:=Ns.lt ht;have ht2:t∉n.hid:=λh=>by simp[Ns.has,h]at ht
  refine⟨by simp[Ns.has,hlt,ht2],?_⟩;have hnt:∀x,x∈[6,44,45,46,47,48,49,50,51]->t≠x:=λx hx e=>by have:=(hn x hx).2;rw[<-e,ht]at this;cases this
  rw[bZ,bZ];split
  ·rfl
  ·rw[ht' t (by simp only[List.mem_cons,List.not_mem_nil,or_false,not_or];exact⟨hnt 6 (by simp),hnt 48 (by simp),hnt 49 (by simp),hnt 50 (by simp),hnt 51 (by simp)⟩)];simp only[bZ];rw[if_neg (λe=>hnt 47 Nw e.symm),if_neg (λe=>hnt 46 Nw e.symm),if_neg (λe=>hnt 45 Nw e.symm),if_neg (λe=>hnt 44 Nw e.symm)]
theorem Hz(hml:E.lY=n8):Dg E:=by
 intro b tm h id tm' h' hb hx B n ρ w a ds hc H F S;rw[hml]at hx;obtain⟨⟨pa,pb,rfl⟩,i,m,k,v,es,h43,hi,h4,hm,hnd,hok,rfl,rfl,rfl⟩:=Bs hx;have hst:(∀t,t∈[6,44,45,46,47,48,49,50,51]->t<n.n/\n.has t=false)/\n.has 43=true/\n.has 4=true:=by
  simp only[codeOk,if_pos hb,Bool.and_eq_true,List.all_eq_true]at hc;obtain⟨c1,c2⟩:=hc;have d1:∀t,t∈[6,44,45,46,47,48,49,50,51]->t∈tT (nA pa pb):=by have e:tT (nA pa pb)=tT (nA "" ""):=rfl;rw[e];decide
  have d2:(43∈zy (nA pa pb)/\43∉tT (nA pa pb))/\(4∈zy (nA pa pb)/\4∉tT (nA pa pb)):=by have e:tT (nA pa pb)=tT (nA "" ""):=rfl;have e2:zy (nA pa pb)=zy (nA "" ""):=rfl;rw[e,e2];decide
  refine⟨λt ht=>?_,?_,?_⟩
  ·have:=c1 t (d1 t ht);simpa using this
  ·have:=c2 43 d2.1.1;simpa[d2.1.2] using this
  ·have:=c2 4 d2.2.1;simpa[d2.2.2] using this
 obtain⟨hn,n43,n4⟩:=hst;obtain⟨_,_,_,_,oi,hwi,hoi⟩:=H.live i _ hi;have hwi':w.heap[(ρ i).r]? = some (.mapIter (some (ρ m).r) k #[] k):=by cases oi<;>simp only[fT]at hoi;obtain⟨rfl,rfl,rfl,rfl,_⟩:=hoi;exact hwi
 obtain⟨m1,m2,m3⟩:=qF es v;have hM:∀e,e∈es->ja e<=kL es v:=m2;refine wpIn_loop_rounds (es.length+1) ?_
 have key:∀(N:Nat) (seen:Array Nat) (c0:Nat) (u:Int) (a1:Act) (w1:World),(leftOf (es.map (dO ρ)).toArray seen).size<=N->k<=c0->w1.heap[(ρ i).r]? = some (.mapIter (some (ρ m).r) k seen c0)->Step E B ρ h w ρ (h.kill i) w1 ->
  FR ρ n ds (tm.set 4 (some (.int .i64 u))) a1->u<=kL es v->(kL es v=u\/∃e,e∈es/\dO ρ e∈(leftOf (es.map (dO ρ)).toArray seen).toList/\ja e=kL es v) ->
  Code.roundsIn (Wd none) 0 E.P (nA pa pb) (qh E B n ds ρ ⟨tm,h⟩ w (.exit 0) ⟨tm.set 4 (some (.int .i64 (kL es v))),h.kill i⟩) (N+1) a1 w1:=by
  intro N
  induction N with
  | zero =>
    intro seen c0 u a1 w1 hN hk0 hr st F1 hu1 hu2;rw[roundsIn_succ];refine yX hP (tm:=tm.set 4 (some (.int .i64 u))) (u:=u) H (lO (d:=4) S rfl) hi hm hnd hok n43 (by rw[bZ,if_neg (by decide)];exact h43) n4 (by rw[bZ,if_pos rfl]) hn st F1 hk0 hr ?_ ?_
    ·intro a' w' h0 st' F';have:kL es v=u:=by
      rcases hu2 with h|⟨e,_,he,_⟩
      ·exact h
      ·have:=Array.eq_empty_of_size_eq_zero h0;rw[this]at he;simp at he
     refine⟨rfl,ρ,[],?_,st',lO (d:=4) S rfl,il _ _⟩;rw[this];exact F'
    ·intro a' w' e he hel st' hr' F';have h0:(leftOf (es.map (dO ρ)).toArray seen).size=0:=Nr;have:=Array.eq_empty_of_size_eq_zero h0;rw[this]at hel;simp at hel
  | succ N ih =>
    intro seen c0 u a1 w1 hN hk0 hr st F1 hu1 hu2;rw[roundsIn_succ];refine yX hP (tm:=tm.set 4 (some (.int .i64 u))) (u:=u) H (lO (d:=4) S rfl) hi hm hnd hok n43 (by rw[bZ,if_neg (by decide)];exact h43) n4 (by rw[bZ,if_pos rfl]) hn st F1 hk0 hr ?_ ?_
    ·intro a' w' h0 st' F';have:kL es v=u:=by
      rcases hu2 with h|⟨e,_,he,_⟩
      ·exact h
      ·have:=Array.eq_empty_of_size_eq_zero h0;rw[this]at he;simp at he
     refine⟨rfl,ρ,[],?_,st',lO (d:=4) S rfl,il _ _⟩;rw[this];exact F'
    ·intro a' w' e he hel st' hr' F';have hsh:=left_shrinks _ _ _ hel;refine ih (seen.push e.born) k (max u (ja e)) a' w' ?_ (Nat.le_refl _) hr' st' ?_ ?_ ?_
     ·have:(dO ρ e).born=e.born:=rfl;rw[this]at hsh;omega
     ·refine F'.less rfl λt ht=>⟨ht,?_⟩;simp only[bZ];split<;>rfl
     ·have:=hM e he;omega
     ·rcases hu2 with h|⟨e1,he1,hl1,hv1⟩
      ·left;have:=hM e he;omega
      ·by_cases hee:e1.born=e.born
       ·have:e1=e:=born_inj hnd he1 he hee;subst this;left;omega
       ·right;refine⟨e1,he1,?_,hv1⟩;unfold leftOf at hl1|-;simp only[Array.toList_filter,List.mem_filter]at hl1|-;refine⟨hl1.1,?_⟩;rw[contains_push];have h2:=hl1.2;have:((dO ρ e1).born==e.born)=false:=by simpa[dO] using hee
        rw[this,Bool.or_false];exact h2
 have hsz:(leftOf (es.map (dO ρ)).toArray #[]).size<=es.length:=by unfold leftOf;refine Nat.le_trans (Array.size_filter_le ..) ?_;simp
 refine key es.length #[] k v a w hsz (Nat.le_refl _) hwi' (Step.Me H i) (F.less rfl λt ht=>⟨ht,?_⟩) m1 ?_
 ·rw[bZ];split
  ·rename_i e;rw[<-e,h4]
  ·rfl
 ·rcases m3 with m3|⟨e,he,hv⟩
  ·exact .inl m3
  ·refine .inr ⟨e,he,?_,hv⟩;unfold leftOf;simp only[Array.toList_filter,List.mem_filter];exact⟨by simpa using⟨e,he,rfl⟩,Nw⟩
end
end Go.Proofs.YthbjaiilnkakcaaGreatDoor
namespace Go.Tm
variable{motive:ag->Prop}{o0:bz}{tm:Tr Value}{ts:Array TypeId}{D:List Nat}{k:Nat}{a:Option Addr}
variable{n:Nat}
theorem Ma:(n=n+1)=False:=NA
theorem L0:(n=n+1+1)=False:=NA
theorem LZ:(n=n+1+1+1)=False:=NA
theorem LY:(n=n+1+1+1+1)=False:=NA
theorem LX:(n=n+1+1+1+1+1)=False:=NA
theorem LW:(n=n+1+1+1+1+1+1)=False:=NA
theorem CL:(n+1=n)=False:=NA
theorem LV:(n+1=n+1+1)=False:=NA
theorem LU:(n+1=n+1+1+1)=False:=NA
theorem LR:(n+1=n+1+1+1+1)=False:=NA
theorem LQ:(n+1=n+1+1+1+1+1)=False:=NA
theorem LO:(n+1=n+1+1+1+1+1+1)=False:=NA
theorem Hu:(n+1+1=n)=False:=NA
theorem LN:(n+1+1=n+1)=False:=NA
theorem LL:(n+1+1=n+1+1+1)=False:=NA
theorem LJ:(n+1+1=n+1+1+1+1)=False:=NA
theorem LH:(n+1+1=n+1+1+1+1+1)=False:=NA
theorem LF:(n+1+1=n+1+1+1+1+1+1)=False:=NA
theorem JW:(n+1+1+1=n)=False:=NA
theorem LD:(n+1+1+1=n+1)=False:=NA
theorem LC:(n+1+1+1=n+1+1)=False:=NA
theorem LB:(n+1+1+1=n+1+1+1+1)=False:=NA
theorem LA:(n+1+1+1=n+1+1+1+1+1)=False:=NA
theorem Lz:(n+1+1+1=n+1+1+1+1+1+1)=False:=NA
theorem Ly:(n+1+1+1+1=n)=False:=NA
theorem Lx:(n+1+1+1+1=n+1)=False:=NA
theorem Lw:(n+1+1+1+1=n+1+1)=False:=NA
theorem Lv:(n+1+1+1+1=n+1+1+1)=False:=NA
theorem Lu:(n+1+1+1+1=n+1+1+1+1+1)=False:=NA
theorem Lt:(n+1+1+1+1=n+1+1+1+1+1+1)=False:=NA
theorem Ls:(n+1+1+1+1+1=n)=False:=NA
theorem Lr:(n+1+1+1+1+1=n+1)=False:=NA
theorem Lq:(n+1+1+1+1+1=n+1+1)=False:=NA
theorem Lp:(n+1+1+1+1+1=n+1+1+1)=False:=NA
theorem Lo:(n+1+1+1+1+1=n+1+1+1+1)=False:=NA
theorem Ln:(n+1+1+1+1+1=n+1+1+1+1+1+1)=False:=NA
theorem Lm:(n+1+1+1+1+1+1=n)=False:=NA
theorem Ll:(n+1+1+1+1+1+1=n+1)=False:=NA
theorem Lk:(n+1+1+1+1+1+1=n+1+1)=False:=NA
theorem Lj:(n+1+1+1+1+1+1=n+1+1+1)=False:=NA
theorem Li:(n+1+1+1+1+1+1=n+1+1+1+1)=False:=NA
theorem Lh:(n+1+1+1+1+1+1=n+1+1+1+1+1)=False:=NA
attribute [push_cast] Ma L0 LZ LY LX LW CL LV LU LR LQ LO Hu LN LL LJ LH LF JW LD LC LB LA Lz Ly Lx Lw Lv Lu Lt Ls Lr Lq Lp Lo Ln Lm Ll Lk Lj Li Lh
section
variable{E:Env}{h:ag}(hw:WF E h)
include hw
theorem WF.b0:(h.next<E.base)=False:=NX
theorem WF.b1:(h.next+1<E.base)=False:=NX
theorem WF.b2:(h.next+1+1<E.base)=False:=NX
theorem WF.b3:(h.next+1+1+1<E.base)=False:=NX
theorem WF.b4:(h.next+1+1+1+1<E.base)=False:=NX
theorem WF.b5:(h.next+1+1+1+1+1<E.base)=False:=NX
end
structure KW(E:Env)(h h':ag):Prop where
 k:gu h h'
 w:WF E h'
theorem WF.ne'{E:Env}{h:ag}(hw:WF E h){b:Nat}{o:bz}(hb:h.get b=some o):(b=h.next)=False:=by have:=(hw.live b o hb).2;simp;omega
theorem KW.ext{E:Env}{G:Mem}{h h':ag}(a:KW E h h')(hG:Frz E G h):Ext E G h G h':=Ext.same hG a.k a.w
theorem KW.refl{E:Env}{h:ag}(hW:WF E h):KW E h h:=⟨gu.refl h,hW⟩
theorem KW.trans{E:Env}{h h1 h2:ag}(a:KW E h h1)(b:KW E h1 h2):KW E h h2:=⟨a.k.trans b.k,b.w⟩
theorem KW.push{E:Env}{h h1:ag}{o:bz}(a:KW E h h1):KW E h (h1.push o):=⟨a.k.push a.w,a.w.push o⟩
theorem KW.put{E:Env}{h h1:ag}{b:Nat}{o:bz}(a:KW E h h1)(hb:h.next<=b)(hl:b<h1.next)(hB:WF E h):KW E h (h1.put b o):=by
 refine⟨⟨λx p hx=>?_,by simpa using a.k.next⟩,⟨by simpa using a.w.base,λx p hx=>?_⟩⟩
 ·rw[ai,if_neg (by have:=(hB.live x p hx).2;omega)];exact a.k.get x p hx
 ·rw[ai]at hx;split at hx
  ·rename_i e;subst e;exact⟨by have:=hB.base;omega,by simpa using hl⟩
  ·simpa using a.w.live x p hx
theorem Lf{E:Env}{h:ag}(hW:WF E h)(K:∀H,H.get (h.next)=some o0->KW E h H->H.next=h.next+1->motive H):motive (h.push o0) :=
 K _ (by simp only[ah,if_true]) (KW.refl hW).push Nw
theorem Le{E:Env}{h:ag}(hW:WF E h){o1 o2 o3:bz}(K:∀H,H.get (h.next)=some o0->H.get (h.next+1)=some o1->H.get (h.next+1+1)=some o2->H.get (h.next+1+1+1)=some o3->KW E h H->H.next=h.next+4->motive H):motive ((((h.push o0).push o1).push o2).push o3) :=
 K _ (by simp only[ah,bU,CL,Hu,JW,if_true,if_false]) (by simp only[ah,bU,CL,Hu,if_true,if_false]) (by simp only[ah,bU,CL,if_true,if_false]) (by simp only[ah,bU,if_true]) (KW.refl hW).push.push.push.push Nw
theorem gtm{motive:Tr Value->ag->Prop}(ks:List Nat){h:ag}(K:∀t,(∀i,i∈ks->aj t i=aj tm i)->motive t h):motive tm h:=K tm λ_ _=>rfl
theorem gtA{E:Env}{O:List Oper}{Q:bl}(ks:List Nat){h:ag}(K:∀t,(∀i,i∈ks->aj t i=aj tm i)->aF E O Q t h):aF E O Q tm h:=gtm ks K
theorem gtK{E:Env}{v:Value}{x y:cY->bl}{Q:cY}(ks:List Nat){h:ag}(K:∀t,(∀i,i∈ks->aj t i=aj tm i)->kif E v x y Q t h):kif E v x y Q tm h:=gtm (motive:=kif E v x y Q) ks K
theorem jJ{b:Builtin}{asx:Array Operand}:(Call.operands ⟨.builtin b,asx,ts⟩).toList=asx.toList:=by simp[Call.operands]
theorem ef{f:FuncId}{asx:Array Operand}:(Call.operands ⟨.value (.func f),asx,ts⟩).toList=.func f::asx.toList:=by simp[Call.operands]
theorem gH{P:Program}{ev:Operand->Value}{t:TypeId}{n:Nat}{ps:Array (Nat×Operand)}:bW P ev (.buildSlice t n ps)=mL P t n (ps.toList.map λp=>(p.1,ev p.2)):=rfl
theorem md{c:Nat->St}{D:List Nat}{b:Nat}:∀(K:Nat),(∀k,k<K->k∈D)->b<(c K).h.next->live c D b=true
 |0,_,h=>by rw[xi];simp[h]
 | K+1,hD,h=>by
   by_cases hb:b<(c K).h.next
   ·exact md K (λk hk=>hD k Nr) hb
   ·rw[xi,Bool.or_eq_true];right;rw[List.any_eq_true];exact⟨K,hD K Nr,by simp[qI];omega⟩
theorem dA{c:Nat->St}{b:Nat}(hk:k∈D)(h1:(c k).h.next<=b)(h2:b<(c (k+1)).h.next):live c D b=true:=by rw[xi,Bool.or_eq_true];right;rw[List.any_eq_true];exact⟨k,hk,by simp[qI];omega⟩
theorem DO{q:Nat->Bool}{n:Nat}(h:∀x,a=some x->q x.block=true):scQ q (.slice a n k)=true:=by
 cases a with
 |none=>rfl
 |some x=>exact h x rfl
theorem gI{m:Nat}{n:Nat}(h:sc m (.slice a n k)=true):∀x,a=some x->x.block<m:=λx e=>by
 subst e;simpa[sc] using h
theorem cV{c:Nat->St}{n:Nat}(K:Nat)(hD:∀k,k<K->k∈D)(h:sc (c K).h.next (.slice a n k)=true):scQ (live c D) (.slice a n k)=true :=
 DO λx e=>md K hD (gI h x e)
theorem eW{c:Nat->St}{a:Addr}{n:Nat}{K:Nat}(hk:K∈D)(h1:(c K).h.next<=a.block)(h2:a.block<(c (K+1)).h.next):scQ (live c D) (.slice (some a) n k)=true:=dA hk h1 h2
theorem dU{c:Nat->St}{a:Addr}(K:Nat)(hD:∀k,k<K->k∈D)(h:a.block<(c K).h.next):scQ (live c D) (.pointer (some a))=true:=md K hD h
end Go.Tm
