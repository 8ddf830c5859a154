/- Part 3: Eng24 Eng25 Eng26 Eng28 Eng27 Eng22. -/
import Derived.Test.YthbjaiilnkakcaaGreatDoorT02
import Derived.OrdersIn
import Derived.Below
import Derived.LoopNIn
import Derived.RangeFuncRecord
set_option linter.all false
set_option maxRecDepth 10000
set_option maxHeartbeats 8000000
namespace Go.Tm
variable{D:List Nat}{i j p y:Nat}{P:Program}{o:Oper}{s s':St}{ρ:Ren}{w:World}
def qI(c:Nat->St)(k b:Nat):Bool:=decide ((c k).h.next<=b)&&decide (b<(c (k+1)).h.next)
def live(c:Nat->St)(D:List Nat)(b:Nat):Bool:=decide (b<(c 0).h.next)||D.any λk=>qI c k b
def xM(M:List Nat)(i:Nat):List Nat:=(List.range i).filter λk=>bef M k i
structure fi(E:Env)(call:di)(O:List Oper)(c:Nat->St):Prop where
 run:∀(i:Nat) (o:Oper),O[i]? = some o->jk E call O o (c i)=some (c (i+1))
 down:Down O
 qO:∀(i j:Nat) (o o':Oper) (d:Nat),O[i]? = some o->O[j]? = some o'->o.dst=some d->o'.dst=some d->i=j
 rds:∀(i:Nat) (o:Oper) (t j:Nat) (o':Oper),O[i]? = some o->t∈jO O o->O[j]? = some o'->o'.dst=some t->bef (bh O []) j i=true\/bef (bh O []) i j=true\/i=j
 mE:∀(a b:Nat) (o o':Oper),a<b->O[a]? = some o->O[b]? = some o'->isF E.P o=true->isF E.P o'=true->bef (bh O []) a b=true
 Mq:∀(a b:Nat) (o o':Oper),a<b->O[a]? = some o->O[b]? = some o'->isA E.P o=true->isF E.P o'=true->bef (bh O []) a b=true
 reads:∀(i:Nat) (o:Oper) (p:Nat),O[i]? = some o->isR E.P o=true->bf O (c i).tm o=true->(p=0\/∃e oe,O[e]? = some oe/\isF E.P oe=true/\p=e+1/\bef (bh O []) i e=false) ->
  (∀e oe,O[e]? = some oe->isF E.P oe=true->bef (bh O []) e i=true->e<p)->cC E (c p).h (opd (c i).tm) o.op=cC E (c i).h (opd (c i).tm) o.op
 mono:∀i,i<O.length->(c i).h.next<=(c (i+1)).h.next
 Lg:∀(i:Nat) (o:Oper) (x:Operand),O[i]? = some o->isF E.P o=true\/isA E.P o=true->bf O (c i).tm o=true->x∈o.op.operands->sc (c i).h.next (opd (c i).tm x)=true
 MH:∀(i:Nat) (o:Oper) (d:Nat),O[i]? = some o->o.dst=some d->scQ (live c (i::xM (bh O []) i)) (aj (c (i+1)).tm d)=true
 MO:∀(i:Nat) (o:Oper) (mk:Nat->Value) (ob:bz),O[i]? = some o->isA E.P o=true->bf O (c i).tm o=true->bW E.P (opd (c i).tm) o.op=some (mk,ob)->Bb (live c (xM (bh O []) i)) ob
section
variable{E:Env}{call:di}{O:List Oper}{c:Nat->St}
theorem fi.canon(W:fi E call O c):∀i,i<=O.length->Fr O c (List.range i) (c i).tm
 |0,_=>λt=>⟨λj o hj=>by simp at hj,λ_=>rfl⟩
 | i+1,hi=>by
   have ih:=W.canon i Nr;have ho:O[i]? = some O[i]:=List.getElem?_eq_getElem Nr;obtain⟨v,hv,_⟩:=jj (W.run i _ ho);intro t;rw[hv];constructor
   ·intro j o hj hjo hd;rw[dQ];by_cases e:j=i
    ·subst e;rw[ho]at hjo;injection hjo with hjo;subst hjo;rw[hv,dQ]
    ·have hji:j<i:=by simp at hj;omega
     have:¬(O[i].dst=some t):=λh=>e (W.qO j i o _ t hjo ho hd h);rw[if_neg this];exact(ih t).1 j o (by simpa using hji) hjo hd
   ·intro hn;rw[dQ,if_neg (hn i _ Nw ho)];exact(ih t).2 λj o hj hjo=>hn j o (by simp at hj|-;omega) hjo
theorem fi.IM(W:fi E call O c){D:List Nat}(hD:fR O D){tm:Tr Value}(F:Fr O c D tm){i:Nat}{o:Oper}(ho:O[i]? = some o)(hi:i∉D)(hr:∀o,O[i]? = some o->∀p,p∈eQ o->p∈D) :
 ∀t,t∈jO O o->aj tm t=aj (c i).tm t:=by
 intro t ht;have hlen:i<O.length:=(List.getElem?_eq_some_iff.1 ho).1;have C:=W.canon i Nr;by_cases hx:∃(j:Nat) (o':Oper),O[j]? = some o'/\o'.dst=some t
 ·obtain⟨j,o',hj,hd⟩:=hx;rcases W.rds i o t j o' ho ht hj hd with h|h|h
  ·have h1:=dF hD hr h;have h2:=iC W.down i j h;rw[(F t).1 j o' h1 hj hd,(C t).1 j o' PN hj hd]
  ·have h1:j∉D:=λhjD=>hi (fY hD j i hjD h);have h2:=iC W.down j i h
   rw[(F t).2 (λk ok hk hok hdk=>by have:=W.qO j k o' ok t hj hok hd hdk;subst this;exact h1 hk),
    (C t).2 (λk ok hk hok hdk=>by have:=W.qO j k o' ok t hj hok hd hdk;subst this;simp at hk;omega)]
  ·subst h
   rw[(F t).2 (λk ok hk hok hdk=>by have:=W.qO i k o' ok t hj hok hd hdk;subst this;exact hi hk),
    (C t).2 (λk ok hk hok hdk=>by have:=W.qO i k o' ok t hj hok hd hdk;subst this;simp at hk)]
 ·have hn:∀(D':List Nat) (j:Nat) (o':Oper),j∈D'->O[j]? = some o'->o'.dst≠some t:=λ_ j o' _ hj hd=>hx ⟨j,o',hj,hd⟩;rw[(F t).2 (hn D),(C t).2 (hn _)]
theorem fi.BN{D:List Nat}{tm:Tr Value}(W:fi E call O c)(F:Fr O c D tm){i:Nat}{o:Oper}(ho:O[i]? = some o)(hi:i∉D){v:Value}(hv:(c (i+1)).tm=du (c i).tm o.dst v):Fr O c (i::D) (du tm o.dst v):=by
 intro t;constructor
 ·intro j oj hj hoj hd;rw[dQ];by_cases e:j=i
  ·subst e;rw[ho]at hoj;injection hoj with hoj;subst hoj;rw[hv,dQ,if_pos hd,if_pos hd]
  ·have hjD:j∈D:=O5;rw[if_neg (λh=>e (W.qO j i oj o t hoj ho hd h))];exact(F t).1 j oj hjD hoj hd
 ·intro hn;rw[dQ,if_neg (hn i o Nw ho)];exact(F t).2 λj oj hj hoj=>hn j oj (List.mem_cons_of_mem _ hj) hoj
theorem j8{D':List Nat}(h:∀k,k∈D->k∈D'):∀b,live c D b=true->live c D' b=true:=by
 intro b hb;simp only[live,Bool.or_eq_true,List.any_eq_true]at hb|-;rcases hb with hb|⟨k,hk,hb⟩
 ·exact .inl hb
 ·exact .inr ⟨k,h k hk,hb⟩
theorem fi.CO(W:fi E call O c){a:Nat}:∀k,a+k<=O.length->(c a).h.next<=(c (a+k)).h.next
 |0,_=>Nat.le_refl _
 |k+1,h=>Nat.le_trans (W.CO k Nr) (W.mono (a+k) Nr)
theorem fi.gO(W:fi E call O c){a b:Nat}(hab:a<=b)(hb:b<=O.length):(c a).h.next<=(c b).h.next:=by obtain⟨k,rfl⟩:∃k,b=a+k:=⟨b-a,Nr⟩;exact W.CO k hb
theorem fi.unused(W:fi E call O c)(hb:∀k,k∈D->k<O.length){b:Nat}(hi:i∉D)(hlt:i<O.length)(h1:(c i).h.next<=b)(h2:b<(c (i+1)).h.next):¬(live c D b=true):=by
 intro h;simp only[live,qI,Bool.or_eq_true,List.any_eq_true,Bool.and_eq_true,decide_eq_true_eq]at h;rcases h with h|⟨k,hk,h3,h4⟩
 ·have:=W.gO (a:=0) (b:=i) Nr Nr;omega
 ·have hkl:=hb k hk;rcases Nat.lt_trichotomy k i with h5|h5|h5
  ·have:=W.gO (a:=k+1) (b:=i) Nr Nr;omega
  ·subst h5;exact hi hk
  ·have:=W.gO (a:=i+1) (b:=k) Nr Nr;omega
def Dk(E:Env)(c:Nat->St)(w0:World)(D:List Nat)(p:Nat)(ρ:Ren)(w:World)(j:Nat)(o:Oper):Prop :=
 ∃mk ob cc,bW E.P (opd (c j).tm) o.op=some (mk,ob)/\w.heap[(ρ (c j).h.next).r]? = some cc/\fT E.P ρ (ρ (c j).h.next) ob cc/\scO (c j).h.next ob/\Bb (live c D) ob/\w0.heap.size<=(ρ (c j).h.next).r /\
  ∀b o',(c p).h.get b=some o'->(ρ b).r≠(ρ (c j).h.next).r
structure Inv(E:Env)(B:Nat)(O:List Oper)(c:Nat->St)(ρ0:Ren)(w0:World)(D:List Nat)(p:Nat)(ρ:Ren)(tm:Tr Value)(w:World):Prop where
 st:Step E B ρ0 (c 0).h w0 ρ (c p).h w
 bd:∀k,k∈D->k<O.length
 le:p<=O.length
 form:p=0\/∃e oe,O[e]? = some oe/\isF E.P oe=true/\p=e+1
 mE:∀e o,O[e]? = some o->isF E.P o=true->(e∈D↔e<p)
 xV:∀j o,O[j]? = some o->isA E.P o=true->j<p->j∈D
 early:∀j o,O[j]? = some o->isA E.P o=true->p<=j->j∈D->bf O (c j).tm o=true->Dk E c w0 D p ρ w j o
 FO:∀j k o o',O[j]? = some o->isA E.P o=true->p<=j->j∈D->bf O (c j).tm o=true->O[k]? = some o'->isA E.P o'=true->p<=k->k∈D->bf O (c k).tm o'=true->j≠k ->
  (ρ (c j).h.next).r≠(ρ (c k).h.next).r
 fr:Fr O c D tm
 scq:∀t,scQ (live c D) (aj tm t)=true
theorem xp(h1:isF P o=false)(h2:isA P o=false):isE P o=false:=by unfold isF at h1;unfold isA at h2;unfold isE;cases hk:kindOf P o.op<;>simp only[hk]at h1 h2|-<;>contradiction
theorem xW(hA:isA E.P o=true){v:Value}{h':ag}(ha:aop E call o.op s=some (v,h')):∃mk ob,bW E.P (opd s.tm) o.op=some (mk,ob)/\v=mk s.h.next/\h'=s.h.push ob:=by
 unfold aop at ha;unfold isA at hA;cases hk:kindOf E.P o.op<;>simp only[hk]at ha hA
 ·cases hA
 ·cases hA
 ·cases hp:bW E.P (opd s.tm) o.op with
  |none=>simp[hp]at ha
  |some p =>simp[hp]at ha;exact⟨p.1,p.2,rfl,ha.1.symm,ha.2.symm⟩
 ·cases hA
theorem fi.push(W:fi E call O c){B:Nat}{ρ0 ρ:Ren}{w0 w:World}(hB:B<=w0.heap.size){D:List Nat}{p:Nat}{tm:Tr Value}(I:Inv E B O c ρ0 w0 D p ρ tm w):∀k,p+k<=O.length ->
 (∀e o,p<=e->e<p+k->O[e]? = some o->isF E.P o=false)->(∀j o,p<=j->j<p+k->O[j]? = some o->isA E.P o=true->j∈D) ->
 Step E B ρ0 (c 0).h w0 ρ (c (p+k)).h w/\∀b o,(c (p+k)).h.get b=some o->(∃o',(c p).h.get b=some o')\/∃j oj,p<=j/\j<p+k/\O[j]? = some oj/\isA E.P oj=true/\j∈D/\bf O (c j).tm oj=true/\b=(c j).h.next
 |0,_,_,_=>⟨I.st,λb o h=>.inl ⟨o,h⟩⟩
 | k+1,hl,hF,hA=>by
   obtain⟨s,hlive⟩:=W.push hB I k Nr (λe o h1 h2=>hF e o h1 Nr) (λj o h1 h2=>hA j o h1 Nr);have ho:O[p+k]? = some O[p+k]:=List.getElem?_eq_getElem Nr;generalize O[p+k]=o at ho;have hnF:=hF (p+k) o Nr Nr ho;have hlive':∀b o,(c (p+k)).h.get b=some o->(∃o',(c p).h.get b=some o')\/∃j oj,p<=j/\j<p+(k+1)/\O[j]? = some oj/\isA E.P oj=true/\j∈D/\bf O (c j).tm oj=true/\b=(c j).h.next:=by
    intro b o hb;rcases hlive b o hb with h|⟨j,oj,h1,h2,h3⟩
    ·exact .inl h
    ·exact .inr ⟨j,oj,h1,Nr,h3⟩
   have run:=W.run (p+k) o ho;rw[show p+(k+1)=p+k+1 by omega]at hlive' |-
   cases hAo:isA E.P o with
   |false =>rw[pB (xp hnF hAo) run];exact⟨s,hlive'⟩
   | true =>
     have hD:=hA (p+k) o Nr Nr ho hAo;obtain⟨v,_,⟨hw,ha⟩|⟨hw,_,he⟩⟩:=jj run
     ·obtain⟨mk,ob,ha1,_,ha2⟩:=xW hAo ha;obtain⟨mk',ob',cc,g1,g2,g3,g4,g5,g6,g7⟩:=I.early (p+k) o ho hAo Nr hD hw;rw[ha1]at g1;simp only[Option.some.injEq,Prod.mk.injEq]at g1;obtain⟨rfl,rfl⟩:=g1;rw[ha2];refine⟨s.Jm g4 Nr g6 g2 g3 ?_,?_⟩
      ·intro b o' hb;rcases hlive b o' hb with⟨o'',h⟩|⟨j,oj,h1,h2,h3,h4,h5,h6,h7⟩
       ·exact g7 b o'' h
       ·subst h7;exact I.FO j (p+k) oj o h3 h4 h1 h5 h6 ho hAo Nr hD hw Nr
      ·intro b o' hb;rw[ah]at hb;by_cases e:(c (p+k)).h.next=b
       ·exact .inr ⟨p+k,o,Nr,Nr,ho,hAo,hD,hw,e.symm⟩
       ·rw[if_neg e]at hb;exact hlive' b o' hb
     ·rw[he];exact⟨s,hlive'⟩
theorem fi.wP(W:fi E call O c){D:List Nat}(hD:fR O D){tm:Tr Value}(hs:∀t,scQ (live c D) (aj tm t)=true){i:Nat}{o:Oper}(ho:O[i]? = some o)
 (hr:∀o,O[i]? = some o->∀p,p∈eQ o->p∈D) {v:Value} (hv:(c (i+1)).tm=du (c i).tm o.dst v):∀t,scQ (live c (i::D)) (aj (du tm o.dst v) t)=true:=by
 intro t;rw[dQ];by_cases e:o.dst=some t
 ·rw[if_pos e];have:=W.MH i o t ho e;rw[hv,dQ,if_pos e]at this;refine gf _ _ (j8 λk hk=>?_) v this;simp only[List.mem_cons]at hk|-;rcases hk with hk|hk
  ·exact .inl hk
  ·simp only[xM,List.mem_filter]at hk;exact .inr (dF hD hr hk.2)
 ·rw[if_neg e];exact gf _ _ (j8 λk hk=>List.mem_cons_of_mem _ hk) _ (hs t)
theorem Dk.more{w0:World}(h:Dk E c w0 D p ρ w j o):Dk E c w0 (i::D) p ρ w j o:=by obtain⟨mk,ob,cc,g1,g2,g3,g4,g5,g6,g7⟩:=h;exact⟨mk,ob,cc,g1,g2,g3,g4,pn (j8 λk hk=>List.mem_cons_of_mem _ hk) g5,g6,g7⟩
theorem wT{o':Oper}(h:O[i]? = some o)(h':O[i]? = some o'):o=o':=by rw[h]at h';exact Option.some.inj h'
variable{B:Nat}{ρ0:Ren}{w0:World}
theorem Inv.quiet(W:fi E call O c)(hD:fR O D){tm:Tr Value}(I:Inv E B O c ρ0 w0 D p ρ tm w)(ho:O[i]? = some o)(hi:i∉D)
 (hr:∀o,O[i]? = some o->∀p,p∈eQ o->p∈D) (hF:isF E.P o=false) (hA:isA E.P o=true->bf O (c i).tm o=false) {v:Value} (hv:(c (i+1)).tm=du (c i).tm o.dst v) :
 Inv E B O c ρ0 w0 (i::D) p ρ (du tm o.dst v) w:=by
 have hne:∀j oj,O[j]? = some oj->isA E.P oj=true->bf O (c j).tm oj=true->j≠i:=by intro j oj h1 h2 h3 e;subst e;have:=wT ho h1;subst this;rw[hA h2]at h3;cases h3
 have hmem:∀j oj,O[j]? = some oj->isA E.P oj=true->bf O (c j).tm oj=true->j∈i::D->j∈D:=by intro j oj h1 h2 h3 h4;simp only[List.mem_cons]at h4;exact h4.resolve_left (hne j oj h1 h2 h3)
 refine⟨I.st,?_,I.le,I.form,?_,?_,?_,?_,W.BN I.fr ho hi hv,W.wP hD I.scq ho hr hv⟩
 ·intro k hk;simp only[List.mem_cons]at hk;rcases hk with rfl|hk
  ·exact(List.getElem?_eq_some_iff.1 ho).1
  ·exact I.bd k hk
 ·intro e oe h1 h2;have:e≠i:=by intro he;subst he;have:=wT ho h1;subst this;rw[hF]at h2;cases h2
  simp only[List.mem_cons,this,false_or];exact I.mE e oe h1 h2
 ·intro j oj h1 h2 h3;exact List.mem_cons_of_mem _ (I.xV j oj h1 h2 h3)
 ·intro j oj h1 h2 h3 h4 h5;exact(I.early j oj h1 h2 h3 (hmem j oj h1 h2 h5 h4) h5).more
 ·intro j k oj ok h1 h2 h3 h4 h5 k1 k2 k3 k4 k5 hjk;exact I.FO j k oj ok h1 h2 h3 (hmem j oj h1 h2 h5 h4) h5 k1 k2 k3 (hmem k ok k1 k2 k5 k4) k5 hjk
theorem zO(h:isA P o=true):isF P o=false:=by unfold isA at h;unfold isF;cases hk:kindOf P o.op<;>simp only[hk]at h|-<;>cases h
theorem Inv.alloc(W:fi E call O c){D:List Nat}(hD:fR O D){p:Nat}{ρ:Ren}{tm:Tr Value}{w:World}(I:Inv E B O c ρ0 w0 D p ρ tm w){i:Nat}{o:Oper}(ho:O[i]? = some o)(hi:i∉D)
 (hr:∀o,O[i]? = some o->∀p,p∈eQ o->p∈D) (hA:isA E.P o=true) (hw:bf O (c i).tm o=true) {v:Value} (hv:(c (i+1)).tm=du (c i).tm o.dst v)
 {mk:Nat->Value} {ob:bz} {cc:Obj} (ha:bW E.P (opd (c i).tm) o.op=some (mk,ob)) (hh:(c (i+1)).h=(c i).h.push ob) (hc:fT E.P ρ ⟨w.heap.size,0,0⟩ ob cc) (hsc:scO (c i).h.next ob) :
 Inv E B O c ρ0 w0 (i::D) p (upd ρ (c i).h.next ⟨w.heap.size,0,0⟩) (du tm o.dst v) (w.alloc cc)/\∀b,live c D b=true->upd ρ (c i).h.next ⟨w.heap.size,0,0⟩ b=ρ b:=by
 have hlt:i<O.length:=(List.getElem?_eq_some_iff.1 ho).1;have hip:p<=i:=by
  rcases Nat.lt_or_ge i p with h|h
  ·exact absurd (I.xV i o ho hA h) hi
  ·exact h
 have hnext:(c (i+1)).h.next=(c i).h.next+1:=by rw[hh];rfl
 have hfree:¬(live c D (c i).h.next=true):=W.unused I.bd hi hlt (Nat.le_refl _) Nr;have hag:∀b,live c D b=true->upd ρ (c i).h.next ⟨w.heap.size,0,0⟩ b=ρ b:=λb hb=>dg _ _ _ (λe=>hfree (e▸hb));have hpn:=W.gO (a:=p) (b:=i) hip Nr;have hmem:∀j,j≠i->j∈i::D->j∈D:=by intro j h1 h2;simp only[List.mem_cons]at h2;exact h2.resolve_left h1
 have hold:∀j oj,O[j]? = some oj->j≠i->isA E.P oj=true->bf O (c j).tm oj=true->j∈D->(c j).h.next≠(c i).h.next:=by
  intro j oj h1 h2 h3 h4 h5;have hjl:j<O.length:=(List.getElem?_eq_some_iff.1 h1).1;have hj:(c (j+1)).h.next=(c j).h.next+1:=by
   obtain⟨v',_,⟨_,h⟩|⟨h,_⟩⟩:=jj (W.run j oj h1)
   ·obtain⟨_,_,_,_,h6⟩:=xW h3 h;rw[h6];rfl
   ·rw[h4]at h;cases h
  rcases Nat.lt_or_ge j i with h|h
  ·have:=W.gO (a:=j+1) (b:=i) Nr Nr;omega
  ·have:=W.gO (a:=i+1) (b:=j) Nr Nr;omega
 have hlow:∀b o',(c p).h.get b=some o'->upd ρ (c i).h.next ⟨w.heap.size,0,0⟩ b=ρ b/\(ρ b).r<w.heap.size:=by intro b o' hb;have h1:=(I.st.hr.live b o' hb).2.1;exact⟨fv _ _ _ Nr,I.st.hr.lt hb⟩
 refine⟨⟨I.st.trans (Step.Jp I.st.hr hpn _ _),?_,I.le,I.form,?_,?_,?_,?_,W.BN I.fr ho hi hv,W.wP hD I.scq ho hr hv⟩,hag⟩
 ·intro k hk;simp only[List.mem_cons]at hk;rcases hk with rfl|hk
  ·exact hlt
  ·exact I.bd k hk
 ·intro e oe h1 h2;have:e≠i:=by intro he;subst he;have:=wT ho h1;subst this;rw[zO hA]at h2;cases h2
  simp only[List.mem_cons,this,false_or];exact I.mE e oe h1 h2
 ·intro j oj h1 h2 h3;exact List.mem_cons_of_mem _ (I.xV j oj h1 h2 h3)
 ·intro j oj h1 h2 h3 h4 h5;by_cases hji:j=i
  ·subst hji;have:=wT ho h1;subst this;refine⟨mk,ob,cc,ha,?_,?_,hsc,?_,?_,?_⟩
   ·rw[c9,heap_alloc];simp
   ·rw[c9];exact fw (n:=(c j).h.next) (λb hb=>fv _ _ _ hb) hsc hc
   ·refine pn (j8 λk hk=>?_) (W.MO j o mk ob ho hA hw ha);simp only[xM,List.mem_filter]at hk;exact List.mem_cons_of_mem _ (dF hD hr hk.2)
   ·rw[c9];exact I.st.size
   ·intro b o' hb;obtain⟨h6,h7⟩:=hlow b o' hb;rw[h6,c9];simp only;omega
  ·obtain⟨mk',ob',cc',g1,g2,g3,g4,g5,g6,g7⟩:=I.early j oj h1 h2 h3 (hmem j hji h4) h5;have e1:=dg ρ (c i).h.next ⟨w.heap.size,0,0⟩ (hold j oj h1 hji h2 h5 (hmem j hji h4));refine⟨mk',ob',cc',g1,?_,?_,g4,pn (j8 λk hk=>List.mem_cons_of_mem _ hk) g5,?_,?_⟩
   ·rw[e1,heap_alloc,Array.getElem?_push];rw[if_neg ?_]
    ·exact g2
    ·intro he;rw[he]at g2;simp at g2
   ·rw[e1];exact rL hag g5 g3
   ·rw[e1];exact g6
   ·intro b o' hb;rw[(hlow b o' hb).1,e1];exact g7 b o' hb
 ·intro j k oj ok h1 h2 h3 h4 h5 k1 k2 k3 k4 k5 hjk;have hr':∀j oj,O[j]? = some oj->isA E.P oj=true->p<=j->j∈D->bf O (c j).tm oj=true->(ρ (c j).h.next).r<w.heap.size:=by
   intro j oj h1 h2 h3 h4 h5;obtain⟨_,_,cc',_,g2,_⟩:=I.early j oj h1 h2 h3 h4 h5;rcases Nat.lt_or_ge (ρ (c j).h.next).r w.heap.size with h'|h'
   ·exact h'
   ·simp[Array.getElem?_eq_none h']at g2
  by_cases hji:j=i
  ·subst hji;have hkD:=hmem k (λe=>hjk e.symm) k4;rw[c9,dg _ _ _ (hold k ok k1 (λe=>hjk e.symm) k2 k5 hkD)];have:=hr' k ok k1 k2 k3 hkD k5;simp only;omega
  ·have hjD:=hmem j hji h4;rw[dg _ _ _ (hold j oj h1 hji h2 h5 hjD)];by_cases hki:k=i
   ·subst hki;rw[c9];have:=hr' j oj h1 h2 h3 hjD h5;simp only;omega
   ·have hkD:=hmem k hki k4;rw[dg _ _ _ (hold k ok k1 hki k2 k5 hkD)];exact I.FO j k oj ok h1 h2 h3 hjD h5 k1 k2 k3 hkD k5 hjk
theorem Inv.atE(W:fi E call O c)(hB:B<=w0.heap.size){D:List Nat}(hD:fR O D){p:Nat}{ρ:Ren}{tm:Tr Value}{w:World}(I:Inv E B O c ρ0 w0 D p ρ tm w){i:Nat}{o:Oper}(ho:O[i]? = some o)(hi:i∉D)
 (hr:∀o,O[i]? = some o->∀p,p∈eQ o->p∈D) (hF:isF E.P o=true):p<=i/\Step E B ρ0 (c 0).h w0 ρ (c i).h w /\
  ∀b o,(c i).h.get b=some o->(∃o',(c p).h.get b=some o')\/∃j oj,p<=j/\j<i/\O[j]? = some oj/\isA E.P oj=true/\j∈D/\bf O (c j).tm oj=true/\b=(c j).h.next:=by
 have hlt:i<O.length:=(List.getElem?_eq_some_iff.1 ho).1;have hip:p<=i:=by
  rcases Nat.lt_or_ge i p with h|h
  ·exact absurd ((I.mE i o ho hF).2 h) hi
  ·exact h
 obtain⟨k,rfl⟩:∃k,i=p+k:=⟨i-p,Nr⟩;refine⟨hip,W.push hB I k Nr ?_ ?_⟩
 ·intro e oe h1 h2 h3
  cases h4:isF E.P oe with
  |false=>rfl
  |true =>have:=(I.mE e oe h3 h4).1 (dF hD hr (W.mE e (p+k) oe o h2 h3 ho h4 hF));omega
 ·intro j oj h1 h2 h3 h4;exact dF hD hr (W.Mq j (p+k) oj o h2 h3 ho h4 hF)
theorem Inv.eff(W:fi E call O c)(hB:B<=w0.heap.size){D:List Nat}(hD:fR O D){p:Nat}{ρ ρ':Ren}{tm:Tr Value}{w w':World}(I:Inv E B O c ρ0 w0 D p ρ tm w){i:Nat}{o:Oper}(ho:O[i]? = some o)(hi:i∉D)
 (hr:∀o,O[i]? = some o->∀p,p∈eQ o->p∈D) (hF:isF E.P o=true) {v:Value} (hv:(c (i+1)).tm=du (c i).tm o.dst v) (t:Step E B ρ (c i).h w ρ' (c (i+1)).h w') :
 ∃ρ'',Inv E B O c ρ0 w0 (i::D) (i+1) ρ'' (du tm o.dst v) w'/\(∀b,live c D b=true->ρ'' b=ρ b)/\∀b,b<(c (i+1)).h.next->ρ'' b=ρ' b:=by
 have hlt:i<O.length:=(List.getElem?_eq_some_iff.1 ho).1;obtain⟨hip,s,hlive⟩:=I.atE W hB hD ho hi hr hF;have hag:∀b,live c D b=true->(λb=>if b<(c (i+1)).h.next then ρ' b else ρ b) b=ρ b:=by
  intro b hb;simp only;split
  ·rename_i h1;rcases Nat.lt_or_ge b (c i).h.next with h2|h2
   ·exact t.ext b h2
   ·exact absurd hb (W.unused I.bd hi hlt h2 h1)
  ·rfl
 have hmem:∀j,i+1<=j->j∈i::D->j∈D:=by intro j h1 h2;simp only[List.mem_cons]at h2;exact h2.resolve_left Nr
 have hhi:∀j oj,O[j]? = some oj->i+1<=j->¬(c j).h.next<(c (i+1)).h.next:=by intro j oj h1 h2;have hjl:j<O.length:=(List.getElem?_eq_some_iff.1 h1).1;have:=W.gO (a:=i+1) (b:=j) h2 Nr;omega
 refine⟨λb=>if b<(c (i+1)).h.next then ρ' b else ρ b,⟨(s.trans t).congr λb hb=>if_pos hb,?_,Nr,.inr ⟨i,o,ho,hF,rfl⟩,?_,?_,?_,?_,W.BN I.fr ho hi hv,W.wP hD I.scq ho hr hv⟩,hag,λb hb=>if_pos hb⟩
 ·intro k hk;simp only[List.mem_cons]at hk;rcases hk with rfl|hk
  ·exact hlt
  ·exact I.bd k hk
 ·intro e oe h1 h2;simp only[List.mem_cons];constructor
  ·rintro(rfl|h)
   ·omega
   ·have:=(I.mE e oe h1 h2).1 h;omega
  ·intro h;rcases Nat.lt_or_ge e i with h3|h3
   ·exact .inr (dF hD hr (W.mE e i oe o h3 h1 ho h2 hF))
   ·exact .inl Nr
 ·intro j oj h1 h2 h3;rcases Nat.lt_or_ge j i with h4|h4
  ·exact List.mem_cons_of_mem _ (dF hD hr (W.Mq j i oj o h4 h1 ho h2 hF))
  ·have:j=i:=Nr;simp[this]
 ·intro j oj h1 h2 h3 h4 h5;have hjD:=hmem j h3 h4;obtain⟨mk,ob,cc,g1,g2,g3,g4,g5,g6,g7⟩:=I.early j oj h1 h2 Nr hjD h5;have e1:(if (c j).h.next<(c (i+1)).h.next then ρ' (c j).h.next else ρ (c j).h.next)=ρ (c j).h.next:=if_neg (hhi j oj h1 h3);have hsz:(ρ (c j).h.next).r<w.heap.size:=by
   rcases Nat.lt_or_ge (ρ (c j).h.next).r w.heap.size with h'|h'
   ·exact h'
   ·simp[Array.getElem?_eq_none h']at g2
  have hnl:∀b o',(c i).h.get b=some o'->(ρ b).r≠(ρ (c j).h.next).r:=by
   intro b o' hb;rcases hlive b o' hb with⟨o'',h⟩|⟨k,ok,k1,k2,k3,k4,k5,k6,rfl⟩
   ·exact g7 b o'' h
   ·exact I.FO k j ok oj k3 k4 k1 k5 k6 h1 h2 Nr hjD h5 Nr
  refine⟨mk,ob,cc,g1,?_,?_,g4,pn (j8 λk hk=>List.mem_cons_of_mem _ hk) g5,?_,?_⟩
  ·simp only[e1];rw[t.frame _ hsz hnl];exact g2
  ·simp only[e1];exact rL hag g5 g3
  ·simp only[e1];exact g6
  ·intro b o' hb;simp only[e1];rw[if_pos (t.hr.live b o' hb).2.1];rcases t.range b o' hb with⟨b0,o0,h6,h7⟩|h6
   ·rw[<-h7];exact hnl b0 o0 h6
   ·omega
 ·intro j k oj ok h1 h2 h3 h4 h5 k1 k2 k3 k4 k5 hjk;simp only[if_neg (hhi j oj h1 h3),if_neg (hhi k ok k1 k3)];exact I.FO j k oj ok h1 h2 Nr (hmem j h3 h4) h5 k1 k2 Nr (hmem k k3 k4) k5 hjk
end
theorem Ba{c:Nat->St}{m:Nat}(h:∀b,live c D b=true->b<m)(v:Value)(hs:scQ (live c D) v=true):sc m v=true:=by rw[<-ij];exact gf _ _ (λb hb=>by simpa using h b hb) v hs
theorem qw{E:Env}{B:Nat}{n:Ns}{ds:List Deferred}{rd:Option Nat}{call:di}(hcall:yh E B call){ops:Array Oper}(hok:nw E.base n ops=true){Q:Exit->Act->World->Prop}{c:Nat->St}(W:fi E call ops.toList c)
 {ρ0:Ren} {w0:World} (hB:B<=w0.heap.size)
 (hq:∀ρ' a' w',Step E B ρ0 (c 0).h w0 ρ' (c ops.toList.length).h w'->FR ρ' n ds (c ops.toList.length).tm a'->Sc (c ops.toList.length)->Q .normal a' w') :
 ∀(r D:List Nat) (p:Nat) (ρ:Ren) (tm:Tr Value) (w:World) (a:Act),uD ops.toList D r->fR ops.toList D->Inv E B ops.toList c ρ0 w0 D p ρ tm w->FR ρ n ds tm a->wpOpsIn (Wd rd) 0 E.P ops Q r a w
 | [],D,p,ρ,tm,w,a,hS,hD,I,F=>by
   have hle:=I.le;obtain⟨k,hk⟩:∃k,ops.toList.length=p+k:=⟨ops.toList.length-p,Nr⟩
   obtain⟨s,_⟩:=W.push hB I k Nr (by
    intro e o h1 h2 h3
    cases h4:isF E.P o with
    |false=>rfl
    | true =>
      have:=(I.mE e o h3 h4).1 (hS e Nr);omega) (by
    intro j o h1 h2 h3 h4
    exact hS j Nr)
   rw[<-hk]at s;have hfg:∀t,aj tm t=aj (c ops.toList.length).tm t:=by
    intro t;have C:=W.canon ops.toList.length (Nat.le_refl _);by_cases hx:∃(j:Nat) (o':Oper),ops.toList[j]? = some o'/\o'.dst=some t
    ·obtain⟨j,o',hj,hd⟩:=hx;have hjl:j<ops.toList.length:=(List.getElem?_eq_some_iff.1 hj).1;rw[(I.fr t).1 j o' (hS j hjl) hj hd,(C t).1 j o' (by simpa using hjl) hj hd]
    ·rw[(I.fr t).2 (λj o' _ hj hd=>hx ⟨j,o',hj,hd⟩),(C t).2 (λj o' _ hj hd=>hx ⟨j,o',hj,hd⟩)]
   refine hq ρ a w s ⟨F.defers,F.size,λt ht=>by rw[F.val t ht,hfg t]⟩ λt=>?_;rw[<-hfg t];refine Ba (D:=D) ?_ _ (I.scq t);intro b hb;simp only[live,qI,Bool.or_eq_true,List.any_eq_true,Bool.and_eq_true,decide_eq_true_eq]at hb;rcases hb with hb|⟨k',hk',h3,h4⟩
   ·have:=W.gO (a:=0) (b:=ops.toList.length) Nr (Nat.le_refl _);omega
   ·have:=I.bd k' hk';have:=W.gO (a:=k'+1) (b:=ops.toList.length) Nr (Nat.le_refl _);omega
 | i::r,D,p,ρ,tm,w,a,hS,hD,I,F=>by
   obtain⟨hlt,hni,hr,hS'⟩:=hS;have ho:ops.toList[i]? = some ops.toList[i]:=List.getElem?_eq_getElem hlt;generalize ops.toList[i]=o at ho;have ho':ops[i]? = some o:=by rw[<-Array.getElem?_toList];exact ho
   have hall:∀o,o∈ops->lX E.base n o=true:=by intro o ho;simp only[nw,List.all_eq_true]at hok;exact hok o (by simpa using ho)
   have hoo:=hall o (Array.mem_of_getElem? ho');simp only[lX,Bool.and_eq_true,List.all_eq_true]at hoo;have hopd:∀x,x∈o.op.operands->eG E.base n x=true:=λx hx=>hoo.1 x NW;have hw:=vk F (ops:=ops) (λo ho=>by have:=hall o ho;simp only[lX,Bool.and_eq_true]at this;exact this.2) o
   have hag:=W.IM hD I.fr ho hni hr;have hopa:=vR hag;have hwa:=nF hag;simp only[wpOpsIn,ho',hw];rw[hwa];obtain⟨v,hv,hcase⟩:=jj (W.run i o ho);have hC':=rZ hD hr;have eu:∀ρ,ren ρ undef=undef:=λρ=>by simp[undef,ren,dz]
   have go:=qw (rd:=rd) hcall hok W hB hq r (i::D);rcases hcase with⟨hwt,ha⟩|⟨hwt,rfl,hh⟩
   ·rw[hwt];simp only[if_true];have hnd:=qd ha;have hro:(Wd rd).round=rd:=rfl;have hex:execOp a.eval o=execOp (λx=>ren ρ (opd (c i).tm x)) o:=execOp_congr (jV ha) λx hx=>by rw[my I.st.hr F (hopd x hx),hopa x hx]
    cases hF:isF E.P o with
    |true =>obtain⟨hip,s,_⟩:=I.atE W hB hD ho hni hr hF;refine wV (s:=c i) hcall ha s.hr (λx hx=>W.Lg i o x ho (.inl hF) hwt hx) hex ?_ rd;intro ρ' w' t hsv;obtain⟨ρ'',I',h1,h2⟩:=I.eff W hB hD ho hni hr hF hv t;refine go (i+1) ρ'' _ w' _ hS' hC' I' ?_;have:=F.Hn h1 I.scq hoo.2 v;rw[dY ρ' ρ'' _ h2 v hsv]at this;exact this
    | false =>
      cases hA:isA E.P o with
      |true =>obtain⟨mk,ob,h1,h2,h3⟩:=xW hA ha;obtain⟨cc,g1,g2,g3,g4⟩:=tG (P:=E.P) (ρ:=ρ) (w:=w) (n:=(c i).h.next) (λx hx=>W.Lg i o x ho (.inr hA) hwt hx) h1;obtain⟨I',h4⟩:=I.alloc W hD ho hni hr hA hwt hv h1 h3 g2 g3;refine⟨λ_ _=>trivial,?_⟩;rw[hro,Oper.semAt_eq rd a.eval o hnd,hex,g1];rw[h2]at I';exact go p _ _ _ _ hS' hC' I' (F.Hn h4 I.scq hoo.2 _)
      | false =>
        have I':=I.quiet W hD ho hni hr hF (λh=>by rw[hA]at h;cases h) hv;have F':=F.Hn (ρ':=ρ) (λ_ _=>rfl) I.scq hoo.2 v;have fin:o.wpIn (Wd rd) 0 E.P a w (λa' w'=>wpOpsIn (Wd rd) 0 E.P ops Q r a' w') Q:=by
         have hq:=pB (xp hF hA) (W.run i o ho);rw[hq]at ha;have hread:isR E.P o=true->cC E (c p).h (opd (c i).tm) o.op=cC E (c i).h (opd (c i).tm) o.op:=by
          intro hR;refine W.reads i o p ho hR hwt ?_ ?_
          ·rcases I.form with h|⟨e,oe,h1,h2,h3⟩
           ·exact .inl h
           ·refine .inr ⟨e,oe,h1,h2,h3,?_⟩
            cases h4:bef (bh ops.toList []) i e with
            |false=>rfl
            |true =>have heD:=(I.mE e oe h1 h2).2 Nr;exact absurd (fY hD _ _ heD h4) hni
          ·intro e oe h1 h2 h3;exact(I.mE e oe h1 h2).1 (dF hD hr h3)
         have hq2:=zh (call:=call) (tm:=(c i).tm) (h:=(c p).h) (xp hF hA) (λ_ _=>rfl) ha hread;refine⟨λ_ _=>trivial,?_⟩;rw[hro,Oper.semAt_eq rd a.eval o hnd,hex];unfold aop at hq2;have hE:=xp hF hA;unfold isE at hE;cases hk:kindOf E.P o.op<;>simp only[hk]at hq2 hE
         ·cases hp:cu E.P (opd (c i).tm) o.op with
          |none=>simp[hp]at hq2
          |some v' =>simp[hp]at hq2;subst hq2;rw[vI (ρ:=ρ) hp w];exact go p ρ _ w _ hS' hC' I' F'
         ·cases hp:cC E (c p).h (opd (c i).tm) o.op with
          |none=>simp[hp]at hq2
          |some v' =>simp[hp]at hq2;subst hq2;obtain⟨h1,_⟩:=vH I.st.hr hp;rw[h1];exact go p ρ _ w _ hS' hC' I' F'
         ·cases hE
         ·cases hE
        exact fin
   ·rw[hwt];simp only[Bool.false_eq_true,if_false];refine⟨λ_ _=>trivial,?_⟩
    cases hF:isF E.P o with
    | true =>
      obtain⟨hip,s,_⟩:=I.atE W hB hD ho hni hr hF;have t:Step E B ρ (c i).h w ρ (c (i+1)).h w:=by rw[hh];exact Step.refl s.hr
      obtain⟨ρ'',I',h1,h2⟩:=I.eff W hB hD ho hni hr hF hv t;refine go (i+1) ρ'' _ w _ hS' hC' I' ?_;have:=F.Hn h1 I.scq hoo.2 undef;rw[eu]at this;exact this
    |false =>have I':=I.quiet W hD ho hni hr hF (λ_=>hwt) hv;have F':=F.Hn (ρ':=ρ) (λ_ _=>rfl) I.scq hoo.2 undef;rw[eu]at F';exact go p ρ _ w _ hS' hC' I' F'
def swI(y i:Nat):Nat:=if i=y then y+1 else if i=y+1 then y else i
def swO(y:Nat)(o:Oper):Oper:={o with after:=o.after.map λe=>{e with on:=swI y e.on}}
def swp:Nat->List Oper->List Oper
 |0,a::b::l=>b::a::l
 |0,[]=>[]
 |0,[a]=>[a]
 |n+1,o::l=>o::swp n l
 |_+1,[]=>[]
def fO(y:Nat)(O:List Oper):List Oper:=(swp y O).map (swO y)
theorem sK(y i:Nat):swI y (swI y i)=i:=by unfold swI;split<;>(try split)<;>(try split)<;>omega
theorem GN{n:Nat}(hy:y+1<n)(hi:i<n):swI y i<n:=by unfold swI;split<;>(try split)<;>omega
theorem Jb(h:swI y i=swI y j):i=j:=by rw[<-sK y i,h,sK]
theorem Cw:∀(y:Nat) (O:List Oper),(swp y O).length=O.length
 |0,[]=>rfl
 |0,[a]=>rfl
 |0,a::b::l=>by simp[swp]
 |n+1,[]=>rfl
 |n+1,o::l=>by simp[swp,Cw n l]
theorem Cx:∀(y:Nat) (O:List Oper) (i:Nat),y+1<O.length->(swp y O)[swI y i]? = O[i]?
 |0,[],i,h=>N7
 |0,[a],i,h=>N7
 |0,a::b::l,0,_=>rfl
 |0,a::b::l,1,_=>rfl
 |0,a::b::l,i+2,_=>by simp[swI,swp]
 |n+1,[],i,h=>N7
 |n+1,o::l,0,_=>by simp[swI,swp]
 | n+1,o::l,i+1,h=>by
   have e:swI (n+1) (i+1)=swI n i+1:=by
    unfold swI;by_cases h1:i=n
    ·simp[h1]
    ·by_cases h2:i=n+1
     ·simp[h2]
     ·rw[if_neg Nr,if_neg Nr,if_neg h1,if_neg h2]
   rw[e];simp only[swp,List.getElem?_cons_succ];exact Cx n l i Ot
theorem vx(y:Nat)(O:List Oper):(fO y O).length=O.length:=by simp[fO,Cw]
theorem qn{O:List Oper}(hy:y+1<O.length)(i:Nat):(fO y O)[swI y i]? = O[i]?.map (swO y):=by unfold fO;rw[List.getElem?_map,Cx y O i hy]
theorem Hp(y:Nat)(o:Oper):eQ (swO y o)=(eQ o).map (swI y):=by unfold eQ swO;simp only[Array.toList_map,List.filter_map,List.map_map];rfl
theorem yK{y:Nat}{O:List Oper}(hy:y+1<O.length):∀(r D:List Nat),uD O D r->uD (fO y O) (D.map (swI y)) (r.map (swI y))
 | [],D,h=>fun i hi=>by
   rw[vx]at hi;exact List.mem_map.2 ⟨swI y i,h _ (GN hy hi),sK y i⟩
 | i::r,D,h=>by
   obtain⟨h1,h2,h3,h4⟩:=h;refine⟨by rw[vx];exact GN hy h1,λhm=>?_,λo ho p hp=>?_,?_⟩
   ·obtain⟨j,hj,e⟩:=List.mem_map.1 hm;rw[Jb e]at hj;exact h2 hj
   ·rw[qn hy]at ho;obtain⟨o',ho',rfl⟩:=Option.map_eq_some_iff.1 ho;rw[Hp]at hp;obtain⟨q,hq,rfl⟩:=List.mem_map.1 hp;exact List.mem_map.2 ⟨q,h3 o' ho' q hq,rfl⟩
   ·have:=yK hy r (i::D) h4;simpa using this
theorem JR{F:Fence}{n:Nat}{P:Program}{Q:Exit->Act->World->Prop}{ops:Array Oper}{y:Nat}(hy:y+1<ops.toList.length)(hg:∀o,o∈ops.toList->o.guard=none) :
 ∀(r:List Nat) (a:Act) (w:World),wpOpsIn F n P (fO y ops.toList).toArray Q (r.map (swI y)) a w->wpOpsIn F n P ops Q r a w
 |[],a,w,h=>h
 | i::r,a,w,h=>by
   rw[List.map_cons,wpOpsIn_cons]at h;rw[wpOpsIn_cons];have hk:∀a w,wpOpsIn F n P (fO y ops.toList).toArray Q (r.map (swI y)) a w->wpOpsIn F n P ops Q r a w:=λa w=>JR hy hg r a w;have e:(fO y ops.toList).toArray[swI y i]? = ops[i]?.map (swO y):=by rw[List.getElem?_toArray,qn hy,Array.getElem?_toList]
   unfold wpOpIn at h|-;rw[e]at h
   cases ho:ops[i]? with
   |none=>rw[ho]at h;exact hk a w h
   | some o =>
     rw[ho]at h
     have hgo:=hg o (by
      have:ops.toList[i]? = some o:=by rw[Array.getElem?_toList];exact ho
      exact List.mem_of_getElem? this)
     have w1:∀t,Region.wanted (swO y o) t=true:=λt=>by
      have:(swO y o).guard=none:=hgo;simp[Region.wanted,this]
     have w2:∀t,Region.wanted o t=true:=λt=>by simp[Region.wanted,hgo]
     simp only[Option.map_some,w1,if_true]at h;simp only[w2,if_true];exact Oper.wpIn_mono hk h
theorem DH{O:List Oper}(hy:y+1<O.length)(h:o∈fO y O):∃o',o'∈O/\o=swO y o':=by obtain⟨i,hi⟩:=List.mem_iff_getElem?.1 h;rw[<-sK y i,qn hy]at hi;obtain⟨o',ho',rfl⟩:=Option.map_eq_some_iff.1 hi;exact⟨o',List.mem_of_getElem? ho',rfl⟩
def kY(P:Program)(O:List Oper)(M:List Nat):Bool :=
 (O.zipIdx.all λx=>(eQ x.1).all λp=>decide (p<x.2)) &&
 nodupB (O.filterMap (·.dst)) &&
 (O.zipIdx.all λx=>(jO O x.1).all λt=>O.zipIdx.all λy=>(match y.1.dst with
  |some d=>!(d==t)
  |none=>true)||(bef M y.2 x.2||(bef M x.2 y.2||x.2==y.2))) &&
 ((O.zipIdx.filter λx=>isF P x.1).all λy =>
  ((O.zipIdx.filter λx=>isF P x.1).all λx=>!decide (x.2<y.2)||bef M x.2 y.2) &&
  ((O.zipIdx.filter λx=>isA P x.1).all λx=>!decide (x.2<y.2)||bef M x.2 y.2))
def w9(E:Env)(M:List Nat)(c:Nat->St)(fs:List (Oper×Nat))(o:Oper)(i:Nat):Bool :=
 (0::(fs.filter λe=>!bef M i e.2).map λe=>e.2+1).all λp =>
  (fs.any λe=>bef M e.2 i&&!decide (e.2<p)) ||
   (match cC E (c p).h (opd (c i).tm) o.op,cC E (c i).h (opd (c i).tm) o.op with
    |some u,some v=>veq u v
    |_,_=>false)
def Aj(E:Env)(O:List Oper)(M:List Nat)(c:Nat->St):Bool :=
 ((O.zipIdx.filter λx=>isR E.P x.1).all λx=>!bf O (c x.2).tm x.1||w9 E M c (O.zipIdx.filter λx=>isF E.P x.1) x.1 x.2) &&
 (O.zipIdx.all λx=>decide ((c x.2).h.next<=(c (x.2+1)).h.next)) &&
 ((O.zipIdx.filter λx=>isF E.P x.1||isA E.P x.1).all λx=>!bf O (c x.2).tm x.1||x.1.op.operands.toList.all λy=>sc (c x.2).h.next (opd (c x.2).tm y)) &&
 (O.zipIdx.all λx=>match x.1.dst with
  |some d=>scQ (live c (x.2::xM M x.2)) (aj (c (x.2+1)).tm d)
  |none=>true) &&
 ((O.zipIdx.filter λx=>isA E.P x.1).all λx=>!bf O (c x.2).tm x.1||(match bW E.P (opd (c x.2).tm) x.1.op with
  |some p=>jH (live c (xM M x.2)) p.2
  |none=>false))
theorem Ir{E:Env}{call:di}{O:List Oper}{tr:List St}(ht:trace E call O O s=some tr)(h1:kY E.P O (bh O [])=true)(h2:Aj E O (bh O []) (cT tr s)=true) :
 fi E call O (cT tr s):=by
 obtain⟨t0,t1⟩:=lK O s tr ht;simp only[kY,Bool.and_eq_true,List.all_eq_true,List.mem_filter]at h1;obtain⟨⟨⟨a1,a2⟩,a3⟩,a4⟩:=h1;simp only[Aj,Bool.and_eq_true,List.all_eq_true,List.mem_filter]at h2;obtain⟨⟨⟨⟨b1,b2⟩,b3⟩,b4⟩,b5⟩:=h2;refine⟨?_,?_,qD O a2,?_,?_,?_,?_,?_,?_,?_,?_⟩
 ·intro i o ho;obtain⟨s1,s2,g1,g2,g3⟩:=t1 i o ho;have e1:cT tr s i=s1:=by simp[cT,List.getD,g1]
  have e2:cT tr s (i+1)=s2:=by simp[cT,List.getD,g2]
  rw[e1,e2];exact g3
 ·intro i o ho p hp;have:=a1 _ (eg ho) p hp;simpa using this
 ·intro i o t j o' ho ht' hj hd;have:=a3 _ (eg ho) t ht' _ (eg hj);simp only[hd,Bool.or_eq_true,Bool.not_eq_true',beq_eq_false_iff_ne,ne_eq,not_true_eq_false,false_or,beq_iff_eq]at this;exact this
 ·intro a b o o' hab ha hb hE hE';have:=(a4 _ ⟨eg hb,hE'⟩).1 _ ⟨eg ha,hE⟩;simp only[Bool.or_eq_true,Bool.not_eq_true',decide_eq_false_iff_not]at this;exact this.resolve_left (λh=>h hab)
 ·intro a b o o' hab ha hb hE hE';have:=(a4 _ ⟨eg hb,hE'⟩).2 _ ⟨eg ha,hE⟩;simp only[Bool.or_eq_true,Bool.not_eq_true',decide_eq_false_iff_not]at this;exact this.resolve_left (λh=>h hab)
 ·intro i o p ho hR hw hp hbe;have:=b1 _ ⟨eg ho,hR⟩;simp only[hw,Bool.not_true,Bool.false_or,w9,List.all_eq_true]at this
  have:=this p (by
   rcases hp with rfl|⟨e,oe,h1,h2,rfl,h3⟩
   ·simp
   ·refine List.mem_cons_of_mem _ (List.mem_map.2 ⟨(oe,e),List.mem_filter.2 ⟨List.mem_filter.2 ⟨eg h1,h2⟩,by simp[h3]⟩,rfl⟩))
  simp only[Bool.or_eq_true]at this;rcases this with h|h
  ·simp only[List.any_eq_true,List.mem_filter,Bool.and_eq_true,Bool.not_eq_true',decide_eq_false_iff_not]at h;obtain⟨⟨oe,e⟩,⟨h1,h2⟩,h3,h4⟩:=h;have:=List.mk_mem_zipIdx_iff_getElem?.1 h1;exact absurd (hbe e oe this h2 h3) h4
  ·split at h
   ·rename_i u v g1 g2;rw[g1,g2,tp _ _ h]
   ·cases h
 ·intro i hi;have:=b2 _ (eg (List.getElem?_eq_getElem hi));simpa using this
 ·intro i o x ho hk hw hx;have:=b3 _ ⟨eg ho,by simpa using hk⟩;simp only[hw,Bool.not_true,Bool.false_or,List.all_eq_true]at this;exact this x NW
 ·intro i o d ho hd;have:=b4 _ (eg ho);simp only[hd]at this;exact this
 ·intro i o mk ob ho hA hw ha;have:=b5 _ ⟨eg ho,hA⟩;simp only[hw,Bool.not_true,Bool.false_or,ha]at this;exact Jh this
def oQ(E:Env)(call:di)(O:List Oper)(s:St):Option St :=
 match trace E call O O s with
 | some tr =>
   if jc E.P O (bh O []) (iV E.P O (bh O []))=true then
    (if BU E O (bh O []) (iV E.P O (bh O [])) (cT tr s)=true then some (cT tr s O.length) else none)
   else if kY E.P O (bh O [])=true/\Aj E O (bh O []) (cT tr s)=true then some (cT tr s O.length) else none
 |none=>none
theorem qg{E:Env}{call:di}{O:List Oper}(h:oQ E call O s=some s'):wv E call O s=some s'\/∃c,fi E call O c/\c 0=s/\c O.length=s':=by
 unfold oQ at h
 cases ht:trace E call O O s with
 |none=>simp[ht]at h
 | some tr =>
   simp only[ht]at h;split at h
   ·rename_i h1;split at h
    ·rename_i h2;left;unfold wv;simp only[ht];rw[if_pos ⟨h1,h2⟩];exact h
    ·cases h
   ·split at h
    ·rename_i h1;right;refine⟨cT tr s,Ir ht h1.1 h1.2,?_,Ot⟩;have:=(lK O s tr ht).1;simp[cT,List.getD,this]
    ·cases h
def Kc(P:Program)(O:List Oper)(y:Nat):Bool :=
 decide (y+1<O.length)&&(O.all λo=>o.guard.isNone)&&(O.zipIdx.all λx=>(eQ x.1).all λp=>decide (p<x.2))&&kY P (fO y O) (bh (fO y O) [])&&!jc P (fO y O) (bh (fO y O) []) (iV P (fO y O) (bh (fO y O) []))
def wM(P:Program)(O:List Oper):Option Nat :=
 if jc P O (bh O []) (iV P O (bh O []))||kY P O (bh O []) then none
 else match iV P O (bh O []) with
 |some (y,_)=>if Kc P O y then some y else none
 |none=>none
def swL(P:Program)(O:List Oper):List Oper:=match wM P O with
 |some y=>fO y O
 |none=>O
def uA(E:Env)(call:di)(O:List Oper)(s:St):Option St:=oQ E call (swL E.P O) s
theorem Ja{O:List Oper}(h:wM P O=some y):Kc P O y=true:=by
 unfold wM at h;split at h
 ·cases h
 ·split at h
  ·split at h
   ·rename_i h1;injection h with h;subst h;exact h1
   ·cases h
  ·cases h
theorem yb{E:Env}{call:di}{O:List Oper}(h:uA E call O s=some s'):wv E call O s=some s'\/(∃c,fi E call O c/\c 0=s/\c O.length=s') \/
 ∃y c,y+1<O.length/\(∀o,o∈O->o.guard=none)/\Down O/\fi E call (fO y O) c/\c 0=s/\c (fO y O).length=s':=by
 unfold uA swL at h
 cases hy:wM E.P O with
 | none =>
   simp only[hy]at h;rcases qg h with h|h
   ·exact .inl h
   ·exact .inr (.inl h)
 | some y =>
   simp only[hy]at h;have hk:=Ja hy;unfold Kc at hk;simp only[Bool.and_eq_true,decide_eq_true_eq,List.all_eq_true,Bool.not_eq_true']at hk;obtain⟨⟨⟨⟨h1,h2⟩,h3⟩,h4⟩,h5⟩:=hk;right;right
   have hd:Down O:=λi o ho p hp=>by
    have:=h3 _ (eg ho) p hp;simpa using this
   refine⟨y,?_⟩;rcases qg h with h|⟨c,W,e1,e2⟩
   ·exfalso;unfold wv at h;split at h
    ·split at h
     ·rename_i h6;rw[h5]at h6;exact absurd h6.1 Nw
     ·cases h
    ·cases h
   ·exact⟨c,h1,λo ho=>by simpa using h2 o ho,hd,W,e1,e2⟩
theorem vY{E:Env}{B:Nat}{O:List Oper}{c:Nat->St}(H:HR E B ρ (c 0).h w)(S:Sc (c 0)):Inv E B O c ρ w [] 0 ρ (c 0).tm w where
 st:=Step.refl H
 bd:=λk hk=>by simp at hk
 le:=Nat.zero_le _
 form:=.inl rfl
 mE:=λe o _ _=>Nw
 xV:=λj o _ _ h=>Nr
 early:=λj o _ _ _ h=>N7
 FO:=λj k o o' _ _ _ h=>N7
 fr:=λt=>⟨λj o hj=>by simp at hj,λ_=>rfl⟩
 scq:=λt=>by
  have:=S t;rw[<-ij]at this;exact gf _ _ (λb hb=>by simp only[live,hb,Bool.true_or]) _ this
def CW:Code->List Oper
 |.seq a _=>CW a
 |.region _ ops _=>ops.toList
 |_=>[]
def gQ(b:Code):Bool :=
 match CW b with
 | o::_=>(match o.op with
   |.next _ false=>true
   |_=>false)
 |[]=>false
def tT:Code->List Nat
 | .region _ ops _=>ops.toList.filterMap fun o=>match o.op with
   |.assign _=>none
   |_=>o.dst
 |.seq a b=>tT a++tT b
 |.cond _ a b=>tT a++tT b
 |.block _ b=>tT b
 |_=>[]
def zy:Code->List Nat
 | .region _ ops _=>ops.toList.flatMap fun o=>(o.op.operands.toList.filterMap fun x=>match x with
   |.tmp t=>some t
   |_=>none)++(match o.op with
   |.assign _=>o.dst.toList
   |_=>[])
 |.seq a b=>zy a++zy b
 | .cond c a b=>(match c with
   |.tmp t=>[t]
   |_=>[])++(zy a++zy b)
 |.block _ b=>zy b
 |_=>[]
def tR:Code->List Nat
 |.loop b=>if gQ b then tT b else tR b
 |.seq a b=>tR a++tR b
 |.cond _ a b=>tR a++tR b
 |.block _ b=>tR b
 |.scope b=>tR b
 |_=>[]
def flat:Code->Bool
 |.rangeFunc _ _ _ _=>false
 |.seq a b=>flat a&&flat b
 |.cond _ a b=>flat a&&flat b
 |.block _ b=>flat b
 |.loop b=>!gQ b&&flat b
 |.scope b=>flat b
 |_=>true
def fP(run:Code->St->Option (Ex×St))(it:ag->Nat->Option (Option Value))(p:Nat)(assign body:Code)(tm:Tr Value):Nat->Nat->ag->Option (Ex×St)
 |0,_,_=>none
 | k+1,i,h=>match it h i with
   |none=>none
   |some none=>some (.normal,⟨tm,h⟩)
   | some (some v)=>match run assign ⟨tm.set p (some v),h⟩ with
     | some (.normal,s1)=>match run body s1 with
       |some (.normal,s2)=>fP run it p assign body tm k (i+1) s2.h
       |some (e,s2)=>some (e,⟨tm,s2.h⟩)
       |none=>none
     |_=>none
def De(E:Env)(g:Value):Option (ag->Nat->Option (Option Value)) :=
 match g with
 |.func (.func f) ⟨[]⟩ cap=>some (E.iter f cap.toList)
 |_=>none
def cf(E:Env):Nat->Code->St->Option (Ex×St)
 |0,_,_=>none
 | n+1,c,s =>
   match c with
   |.skip=>some (.normal,s)
   |.label _=>some (.normal,s)
   |.ret=>some (.ret,s)
   |.exit id=>some (.exit id,s)
   |.goto l=>some (.goto l,s)
   | .seq a b=>match cf E n a s with
     |some (.normal,s')=>cf E n b s'
     |r=>r
   | .cond c a b=>match opd s.tm c with
     |.bool true=>cf E n a s
     |.bool false=>cf E n b s
     |_=>none
   | .block id b=>match cf E n b s with
     |some (.exit id',s')=>if id'=id then some (.normal,s') else some (.exit id',s')
     |r=>r
   |.loop b=>if gQ b then(E.lY b s.tm s.h).map λr=>(.exit r.1,⟨r.2.1,r.2.2⟩) else iH (cf E n b) n s
   |.scope b=>jT (cf E n) b n b s
   |.region _ ops false=>(qW E (dW E (cf E n)) ops.toList ops.toList s).map λs'=>(.normal,s')
   |.region _ ops true=>(uA E (dW E (cf E n)) ops.toList s).map λs'=>(.normal,s')
   | .rangeFunc g ps assign body=>match De E (opd s.tm g),ps.toList with
     |some it,[p]=>if flat assign=true/\flat body=true then fP (cf E n) it p assign body s.tm n 0 s.h else none
     |_,_=>none
   |_=>none
def Mu(E:Env)(n:Nat)(f:FuncId)(args:List Value)(h:ag):Option (Value×ag):=dW E (cf E n) f args h
end Go.Tm
namespace Go.Tm
open Go.RowKit (Below)
variable{B base base':Nat}{n:Ns}{E:Env}{P:Program}{b:Frame}{a:Act}{k:List Item}{cs:List Frame}{w:World}{body:Code}{run:Code->St->Option (Ex×St)}
def codeOk(base:Nat)(n:Ns):Code->Bool
 |.region _ ops _=>nw base n ops
 |.seq a b=>codeOk base n a&&codeOk base n b
 |.cond c a b=>eG base n c&&(codeOk base n a&&codeOk base n b)
 |.block _ b=>codeOk base n b
 |.loop b=>if gQ b then((tT b).all λt=>decide (t<n.n)&&!n.has t)&&((zy b).all λt=>n.has t||(tT b).contains t) else codeOk base n b
 |.scope b=>codeOk base n b
 |.rangeFunc g ps assign body=>eG base n g&&(ps.toList.all (λp=>n.has p)&&(codeOk base n assign&&codeOk base n body))
 |_=>true
def CG(n:Ns):ResultVar->Bool
 |.tmp t=>n.has t
 |.cell a _=>n.has a
def xw(base:Nat)(fn:Func):Bool :=
 match fn.body with
 |some b=>codeOk base ⟨fn.ntmps,tR b⟩ b&&fn.results.toList.all (CG ⟨fn.ntmps,tR b⟩)
 |none=>true
def jq(E:Env):Bool:=E.P.funcs.toList.all (xw E.base)
theorem Bo(h:base<=base'){ops:Array Oper}(H:nw base n ops=true):nw base' n ops=true:=by
 unfold nw at H|-;rw[List.all_eq_true]at H|-;intro o ho;have:=H o ho;unfold lX at this|-;rw[Bool.and_eq_true]at this|-;refine⟨?_,this.2⟩;rw[List.all_eq_true]at this|-;intro x hx;have:=this.1 x hx
 cases x with
 |global g=>simp only[eG,decide_eq_true_eq]at this|-;omega
 |tmp t=>exact this
 |const v=>exact this
 |func f=>exact this
theorem tP(h:base<=base'){x:Operand}(H:eG base n x=true):eG base' n x=true:=by
 cases x with
 |global g=>simp only[eG,decide_eq_true_eq]at H|-;omega
 |tmp t=>exact H
 |const v=>exact H
 |func f=>exact H
theorem Al(h:base<=base'):∀(c:Code),codeOk base n c=true->codeOk base' n c=true:=by
 intro c
 induction c with
 |region id ops d=>intro H;exact Bo h H
 |seq a b iha ihb=>intro H;simp only[codeOk,Bool.and_eq_true]at H|-;exact⟨iha H.1,ihb H.2⟩
 |cond c a b iha ihb =>intro H;simp only[codeOk,Bool.and_eq_true]at H|-;refine⟨?_,iha H.2.1,ihb H.2.2⟩;exact tP h H.1
 |block id b ih=>exact ih
 | loop b ih =>
   intro H;simp only[codeOk]at H|-;split at H
   ·rename_i hm;rw[if_pos hm];exact H
   ·rename_i hm;rw[if_neg hm];exact ih H
 |scope b ih=>exact ih
 |rangeFunc g ps x y ihx ihy =>intro H;simp only[codeOk,Bool.and_eq_true]at H|-;exact⟨tP h H.1,H.2.1,ihx H.2.2.1,ihy H.2.2.2⟩
 |_=>intro H;rfl
theorem zp{E':Env}(hP:E'.P=E.P)(h:E.base<=E'.base)(H:jq E=true):jq E'=true:=by
 unfold jq at H|-;rw[List.all_eq_true]at H|-;intro fn hfn;rw[hP]at hfn;have:=H fn hfn;unfold xw at this|-;split at this
 ·rename_i b hb;rw[Bool.and_eq_true]at this|-;exact⟨Al h _ this.1,this.2⟩
 ·rfl
theorem kZ{base:Nat}{n:Ns}:∀{c:Code} {l:Nat} {r:Code},findLabel c l=some r->codeOk base n c=true->codeOk base n r=true
 | .seq a b,l,r,h,hc=>by
   simp only[codeOk,Bool.and_eq_true]at hc;unfold findLabel at h;split at h
   ·rename_i rest hr;injection h with h;subst h;simp only[codeOk,Bool.and_eq_true];exact⟨kZ hr hc.1,hc.2⟩
   ·exact kZ h hc.2
 | .label l',l,r,h,_=>by
   unfold findLabel at h;split at h
   ·injection h with h;subst h;rfl
   ·cases h
 |.skip,_,_,h,_=>NK
 |.region _ _ _,_,_,h,_=>NK
 |.cond _ _ _,_,_,h,_=>NK
 |.block _ _,_,_,h,_=>NK
 |.loop _,_,_,h,_=>NK
 |.rangeFunc _ _ _ _,_,_,h,_=>NK
 |.exit _,_,_,h,_=>NK
 |.scope _,_,_,h,_=>NK
 |.goto _,_,_,h,_=>NK
 |.ret,_,_,h,_=>NK
 |.refuse _,_,_,h,_=>NK
theorem ou:∀{c:Code} {l:Nat} {r:Code},findLabel c l=some r->flat c=true->flat r=true
 | .seq a b,l,r,h,hc=>by
   simp only[flat,Bool.and_eq_true]at hc;unfold findLabel at h;split at h
   ·rename_i rest hr;injection h with h;subst h;simp only[flat,Bool.and_eq_true];exact⟨ou hr hc.1,hc.2⟩
   ·exact ou h hc.2
 | .label l',l,r,h,_=>by
   unfold findLabel at h;split at h
   ·injection h with h;subst h;rfl
   ·cases h
 |.skip,_,_,h,_=>NK
 |.region _ _ _,_,_,h,_=>NK
 |.cond _ _ _,_,_,h,_=>NK
 |.block _ _,_,_,h,_=>NK
 |.loop _,_,_,h,_=>NK
 |.rangeFunc _ _ _ _,_,_,h,_=>NK
 |.exit _,_,_,h,_=>NK
 |.scope _,_,_,h,_=>NK
 |.goto _,_,_,h,_=>NK
 |.ret,_,_,h,_=>NK
 |.refuse _,_,_,h,_=>NK
def zT(rd:Option Nat)(P:Program)(body:Code)(Q:Exit->Act->World->Prop):Nat->Code->Act->World->Prop
 |0,_,_,_=>False
 |n+1,c,a,w=>c.wpIn (Wd rd) 0 P (λe a w=>match e with
  |.goto l=>∃rest,findLabel body l=some rest/\zT rd P body Q n rest a w
  |e=>Q e a w) a w
theorem yB{c:Code}:step P (lone (b.atR a (.code (.scope c)::k)) cs w)=.next (lone (b.atR a (.code c::.inScope c::k)) cs w) :=
 step_lone_go (by simp[stepG,stepG.exec,Frame.atR])
theorem uK{c:Code}:step P (lone (b.atR a (.inScope c::k)) cs w)=.next (lone (b.atR a k) cs w) :=
 step_lone_go (by simp[stepG,stepG.exec,Frame.atR])
theorem uF{rd:Option Nat}{Q:Exit->Act->World->Prop}(n:Nat)(h:zT rd P body Q n body a w):(Code.scope body).wpIn (Wd rd) 0 P Q a w:=by
 intro b k cs hro hb hr;have key:∀n c a w,zT rd P body Q n c a w->∃e a' w',Q e a' w'/\ArrivesIn (Machine.fenced P (Wd rd)) P (lone (b.atR a (.code c::.inScope body::k)) cs w) b k cs e a' w':=by
  intro n
  induction n with
  |zero=>intro c a w h;exact h.elim
  | succ n ih =>
    intro c a w h;obtain⟨e,a₁,w₁,hq,harr⟩:=h b (.inScope body::k) cs hro hb hr
    cases e with
    |normal=>exact⟨.normal,a₁,w₁,hq,StepsIn.trans harr (.one (fenced_calm hb hr rfl) uK)⟩
    |exit id=>exact⟨.exit id,a₁,w₁,hq,λk' hk=>harr.1 k' (by simp[exitTo,hk]),λh1 hk=>harr.2 h1 (by simp[exitTo,hk])⟩
    |goto l =>obtain⟨rest,hf,hh⟩:=hq;obtain⟨e₂,a₂,w₂,hq₂,harr₂⟩:=ih _ _ _ hh;exact⟨e₂,a₂,w₂,hq₂,.of_steps (harr.1 _ (by simp[gotoIn,hf])) harr₂⟩
    |ret=>exact⟨_,a₁,w₁,hq,harr⟩
    |panic ch=>exact⟨_,a₁,w₁,hq,harr⟩
    |outgrown=>exact⟨_,a₁,w₁,hq,harr⟩
 obtain⟨e,a',w',hq,harr⟩:=key n body a w h;exact⟨e,a',w',hq,.of_steps (.one (fenced_calm hb hr rfl) yB) harr⟩
def exq:Ex->Exit
 |.normal=>.normal
 |.ret=>.ret
 |.exit id=>.exit id
 |.goto l=>.goto l
theorem Step.below{E:Env}{B:Nat}{ρ:Ren}{h:ag}{w w':World}(H:HR E B ρ h w)(hb:Below w.heap.size w w'):Step E B ρ h w ρ h w' where
 hr:={
  cj:=H.cj
  fS:=H.fS
  fG:=Nat.le_trans H.fG hb.size
  fix:=H.fix
  ro:=λb o hlt ho=>by
   have h1:=H.ro b o hlt ho;rw[hb.block b (Nat.lt_of_lt_of_le (H.fS b o hlt ho) H.fG)];exact h1
  live:=λb o hg=>by
   obtain⟨h1,h2,h3,h4,c,h5,h6⟩:=H.live b o hg;exact⟨h1,h2,h3,h4,c,by rw[hb.block _ (H.lt hg)];exact h5,h6⟩
  inj:=H.inj}
 ext:=λ_ _=>rfl
 le:=Nat.le_refl _
 frame:=λr hr _=>hb.block r hr
 range:=λb o hg=>.inl ⟨b,o,hg,rfl⟩
 size:=hb.size
 os:=hb.os
 tape:=hb.tape
 output:=hb.output
def xo:Obj->Bool
 |.deferred _=>true
 |.loop _=>true
 |_=>false
theorem HR.CM{E:Env}{B:Nat}{ρ:Ren}{h:ag}{w:World}(H:HR E B ρ h w){b:Nat}{o:bz}(hb:h.get b=some o){r:Nat}{c:Obj}(hr:w.heap[r]? = some c)(hs:xo c=true):(ρ b).r≠r:=by rintro rfl;obtain⟨_,_,_,_,c',h5,h6⟩:=H.live b o hb;rw[hr]at h5;injection h5 with h5;subst h5;cases o<;>cases c<;>simp[xo,fT]at hs h6
theorem kM{r:Nat}{c:Obj}(h:w.heap[r]? = some c):r<w.heap.size:=(Array.getElem?_eq_some_iff.1 h).1
theorem Step.keeps{E:Env}{B:Nat}{ρ ρ':Ren}{h h':ag}{w w':World}(s:Step E B ρ h w ρ' h' w')(H:HR E B ρ h w){r:Nat}{c:Obj}(hr:w.heap[r]? = some c)(hs:xo c=true):w'.heap[r]? = some c:=by rw[s.frame r (kM hr) (λb o hb=>H.CM hb hr hs)];exact hr
theorem Step.wO{E:Env}{B:Nat}{ρ:Ren}{h:ag}{w:World}(H:HR E B ρ h w)(c:Obj):Step E B ρ h w ρ h (w.alloc c) :=
 Step.below H ⟨rfl,rfl,rfl,Nw,λi hi=>by rw[heap_alloc,Array.getElem?_push,if_neg Nr]⟩
theorem Step.sM{E:Env}{B:Nat}{ρ0 ρ:Ren}{h0 h:ag}{w0 w:World}(s:Step E B ρ0 h0 w0 ρ h w)(hB:B<=w0.heap.size){r:Nat}{c:Obj}(hr:w.heap[r]? = some c)(hs:xo c=true)(hge:w0.heap.size<=r)(c':Obj) :
 Step E B ρ0 h0 w0 ρ h (w.putObj r c') where
 hr:={
  cj:=s.hr.cj
  fS:=s.hr.fS
  fG:=by rw[World.putObj_size];exact s.hr.fG
  fix:=s.hr.fix
  ro:=λb o hlt ho=>by
   have:=s.hr.fS b o hlt ho;rw[World.putObj_heap_other Nr];exact s.hr.ro b o hlt ho
  live:=λb o hb=>by
   obtain⟨h1,h2,h3,h4,c2,h5,h6⟩:=s.hr.live b o hb;exact⟨h1,h2,h3,h4,c2,by rw[World.putObj_heap_other (s.hr.CM hb hr hs)];exact h5,h6⟩
  inj:=s.hr.inj}
 ext:=s.ext
 le:=s.le
 frame:=λk hk hn=>by rw[World.putObj_heap_other (by omega)];exact s.frame k hk hn
 range:=s.range
 size:=by rw[World.putObj_size];exact s.size
 os:=s.os
 tape:=s.tape
 output:=s.output
def mkD(rs:List Nat):List Deferred:=rs.map λr=>{target:=.collected r,args:=#[]}
def Marks(w w':World)(rs:List Nat):Prop:=rs.Nodup/\∀r,r∈rs->w.heap.size<=r/\w'.heap[r]? = some (.deferred (some []))
def qh(E:Env)(B:Nat)(n:Ns)(ds:List Deferred)(ρ:Ren)(s:St)(w:World)(e:Ex)(s':St):Exit->Act->World->Prop :=
 λe' a' w'=>e'=exq e/\∃ρ' rs,FR ρ' n (mkD rs++ds) s'.tm a'/\Step E B ρ s.h w ρ' s'.h w'/\Sc s'/\Marks w w' rs
def AD(E:Env)(B:Nat)(n:Ns)(run:Code->St->Option (Ex×St)):Prop :=
 ∀rd c s e s',run c s=some (e,s')->codeOk E.base n c=true->(rd=none\/flat c=true)->∀ρ w a ds,HR E B ρ s.h w->FR ρ n ds s.tm a->Sc s->c.wpIn (Wd rd) 0 E.P (qh E B n ds ρ s w e s') a w
theorem qh.trans{E:Env}{B:Nat}{n:Ns}{ds:List Deferred}{ρ ρ':Ren}{s s1 s':St}{w w1:World}{e:Ex}{x:Exit}{a:Act}{w2:World}{rs:List Nat}(h1:Step E B ρ s.h w ρ' s1.h w1)(hm:Marks w w1 rs)(h:qh E B n (mkD rs++ds) ρ' s1 w1 e s' x a w2):qh E B n ds ρ s w e s' x a w2:=by
 obtain⟨he,ρ'',rs2,hf,hs,hsc,hm2⟩:=h;refine⟨he,ρ'',rs2++rs,by simpa[mkD] using hf,h1.trans hs,hsc,?_,?_⟩
 ·refine List.nodup_append.2 ⟨hm2.1,hm.1,?_⟩;rintro r hr r' hr' rfl;have:=(hm2.2 r hr).1;have:=kM (hm.2 r hr').2;omega
 ·intro r hr;rcases List.mem_append.1 hr with hr|hr
  ·have:=hm2.2 r hr;exact⟨Nat.le_trans h1.size this.1,this.2⟩
  ·exact⟨(hm.2 r hr).1,hs.keeps h1.hr (hm.2 r hr).2 rfl⟩
theorem rE{F:Fence}{n:Nat}{P:Program}{c:Code}{Q Q':Exit->Act->World->Prop}(hq:∀e a w,Q e a w->Q' e a w):∀(m:Nat) (a:Act) (w:World),Code.roundsIn F n P c Q m a w->Code.roundsIn F n P c Q' m a w
 |0,_,_,h=>h
 | m+1,a,w,h=>by
   rw[roundsIn_succ]at h|-;refine wpIn_mono h ?_;intro x a3 w3 hx;cases x<;>simp only[Exit.then]at hx|-<;>first|exact rE hq m _ _ hx|exact hq _ _ _ hx
theorem vM{E:Env}{B:Nat}{n:Ns}{run:Code->St->Option (Ex×St)}(hr:AD E B n run){rd:Option Nat}{b:Code}(hb:codeOk E.base n b=true)(hfl:rd=none\/flat b=true) :
 ∀(k:Nat) (s:St) (e:Ex) (s':St),iH (run b) k s=some (e,s')->∀ρ w a ds,HR E B ρ s.h w->FR ρ n ds s.tm a->Sc s->Code.roundsIn (Wd rd) 0 E.P b (qh E B n ds ρ s w e s') k a w
 |0,s,e,s',h,_,_,_,_,_,_,_=>by simp[iH]at h
 | k+1,s,e,s',h,ρ,w,a,ds,H,F,S=>by
   simp only[iH]at h;rw[roundsIn_succ]
   cases hx:run b s with
   |none=>simp[hx]at h
   | some r =>
     obtain⟨e1,s1⟩:=r;have h1:=hr rd b s e1 s1 hx hb hfl ρ w a ds H F S
     cases e1 with
     |normal =>simp only[hx]at h;refine wpIn_mono h1 ?_;rintro x a1 w1 ⟨rfl,ρ1,rs,F1,st1,S1,hm⟩;simp only[exq,Exit.then];have ih:=vM hr hb hfl k s1 e s' h ρ1 w1 a1 _ st1.hr F1 S1;exact rE (λ_ _ _ hx=>qh.trans st1 hm hx) _ _ _ ih
     |ret =>simp only[hx,Option.some.injEq,Prod.mk.injEq]at h;obtain⟨rfl,rfl⟩:=h;exact wpIn_mono h1 NM
     |exit id =>simp only[hx,Option.some.injEq,Prod.mk.injEq]at h;obtain⟨rfl,rfl⟩:=h;exact wpIn_mono h1 NM
     |goto l =>simp only[hx,Option.some.injEq,Prod.mk.injEq]at h;obtain⟨rfl,rfl⟩:=h;exact wpIn_mono h1 NM
theorem vZ{rd:Option Nat}{P:Program}{body:Code}{Q Q':Exit->Act->World->Prop}(hq:∀e a w,Q e a w->Q' e a w):∀(m:Nat) (c:Code) (a:Act) (w:World),zT rd P body Q m c a w->zT rd P body Q' m c a w
 |0,_,_,_,h=>h
 | m+1,c,a,w,h=>by
   refine wpIn_mono h ?_;intro e a w he
   cases e with
   |goto l =>obtain⟨rest,h1,h2⟩:=he;exact⟨rest,h1,vZ hq m rest a w h2⟩
   |normal=>exact hq _ _ _ he
   |exit id=>exact hq _ _ _ he
   |ret=>exact hq _ _ _ he
   |panic c=>exact hq _ _ _ he
   |outgrown=>exact hq _ _ _ he
theorem yJ{E:Env}{B:Nat}{n:Ns}{run:Code->St->Option (Ex×St)}(hr:AD E B n run){rd:Option Nat}{body:Code}(hb:codeOk E.base n body=true)(hbf:rd=none\/flat body=true) :
 ∀(k:Nat) (c:Code) (s:St) (e:Ex) (s':St),codeOk E.base n c=true->(rd=none\/flat c=true)->jT run body k c s=some (e,s')->∀ρ w a ds,HR E B ρ s.h w->FR ρ n ds s.tm a->Sc s->zT rd E.P body (qh E B n ds ρ s w e s') k c a w
 |0,c,s,e,s',_,_,h,_,_,_,_,_,_,_=>by simp[jT]at h
 | k+1,c,s,e,s',hc,hcf,h,ρ,w,a,ds,H,F,S=>by
   simp only[jT]at h
   cases hx:run c s with
   |none=>simp[hx]at h
   | some r =>
     obtain⟨e1,s1⟩:=r;have h1:=hr rd c s e1 s1 hx hc hcf ρ w a ds H F S
     cases e1 with
     | goto l =>
       simp only[hx]at h
       cases hf:findLabel body l with
       |none=>simp[hf]at h
       |some rest =>simp only[hf]at h;refine wpIn_mono h1 ?_;rintro x a1 w1 ⟨rfl,ρ1,rs,F1,st1,S1,hm⟩;simp only[exq];exact⟨rest,hf,vZ (λ_ _ _ hh=>qh.trans st1 hm hh) k rest a1 w1 (yJ hr hb hbf k rest s1 e s' (kZ hf hb) (hbf.imp id (ou hf)) h ρ1 w1 a1 _ st1.hr F1 S1)⟩
     |normal =>simp only[hx,Option.some.injEq,Prod.mk.injEq]at h;obtain⟨rfl,rfl⟩:=h;exact wpIn_mono h1 NM
     |ret =>simp only[hx,Option.some.injEq,Prod.mk.injEq]at h;obtain⟨rfl,rfl⟩:=h;exact wpIn_mono h1 NM
     |exit id =>simp only[hx,Option.some.injEq,Prod.mk.injEq]at h;obtain⟨rfl,rfl⟩:=h;exact wpIn_mono h1 NM
theorem qM(t:Nat):aj .leaf t=undef:=by simp[aj,Tr.mv]
theorem qN:∀(l:List Value) (k:Nat) (tm:Tr Value) (t:Nat),aj (mK k l tm) t=if k<=t then(match l[t-k]? with|some v=>v|none=>aj tm t) else aj tm t
 |[],k,tm,t=>by simp[mK]
 | v::l,k,tm,t=>by
   simp only[mK];rw[qN l (k+1),bZ];by_cases h1:k+1<=t
   ·rw[if_pos h1,if_neg Nr,if_pos Nr];obtain⟨j,rfl⟩:∃j,t=k+1+j:=⟨t-(k+1),Nr⟩;rw[show k+1+j-(k+1)=j by omega,show k+1+j-k=j+1 by omega,List.getElem?_cons_succ]
   ·rw[if_neg h1];by_cases h2:k=t
    ·subst h2;simp
    ·rw[if_neg h2,if_neg Nr]
def tH(tmps:Array Value):ResultVar->Sem Value
 |.tmp t=>pure (tmps.getD t undef)
 |.cell b t=>do loadVar t (<- asAddr (tmps.getD b undef))
theorem Bj(fn:Func)(tmps:Array Value):results fn tmps=(do
 let vs <- fn.results.mapM (tH tmps)
 pure (if h:vs.size=1 then vs[0] else .tuple vs)):=by
 unfold results;rfl
theorem ku{E:Env}{B:Nat}{n:Ns}{ds:List Deferred}{ρ:Ren}{s:St}{a:Act}{w:World}(H:HR E B ρ s.h w)(F:FR ρ n ds s.tm a):∀(l:List ResultVar) (r:List Value),l.all (CG n)=true->cW E s l=some r ->
 (l.mapM (tH a.tmps)).run E.P w=.ok (r.map (ren ρ)) w
 |[],r,_,h=>by simp[cW]at h;subst h;rfl
 | .tmp t::l,r,hk,h=>by
   simp only[cW]at h;simp only[List.all_cons,Bool.and_eq_true,CG]at hk
   cases hl:cW E s l with
   |none=>simp[hl]at h
   |some r' =>simp[hl]at h;subst h;have ih:=ku H F l r' hk.2 hl;simp only[List.mapM_cons,tH,Sem.run_bind,Sem.run_pure,Result.andThen_ok,ih,F.val t hk.1,List.map_cons]
 | .cell b t::l,r,hk,h=>by
   simp only[cW]at h;simp only[List.all_cons,Bool.and_eq_true,CG]at hk
   cases hv:kd E s.h t (aj s.tm b) with
   |none=>simp[hv]at h
   | some v =>
     cases hl:cW E s l with
     |none=>simp[hv,hl]at h
     | some r' =>
       simp[hv,hl]at h;subst h;have ih:=ku H F l r' hk.2 hl;obtain⟨h1,_,ad,hp⟩:=qy H hv;rw[hp]at h1;simp only[Instr.loadAt,ren,Instr.sureAddr,Sem.run_bind,Sem.run_pure,Result.andThen_ok]at h1;have hh:(tH a.tmps (.cell b t)).run E.P w=.ok (ren ρ v) w:=by simp only[tH,F.val b hk.1,hp,ren,asAddr,Sem.run_bind,Sem.run_pure,Result.andThen_ok,h1]
       simp only[List.mapM_cons,Sem.run_bind,Sem.run_pure,hh,Result.andThen_ok,ih,List.map_cons]
theorem lQ{E:Env}{B:Nat}{ρ:Ren}{s:St}{w:World}(H:HR E B ρ s.h w)(S:Sc s):∀(l:List ResultVar) (r:List Value),cW E s l=some r->∀v,v∈r->sc s.h.next v=true
 |[],r,h=>by simp[cW]at h;subst h;simp
 | .tmp t::l,r,h=>by
   simp only[cW]at h
   cases hl:cW E s l with
   |none=>simp[hl]at h
   | some r' =>
     simp[hl]at h;subst h;intro v hv;simp only[List.mem_cons]at hv;rcases hv with rfl|hv
     ·exact S t
     ·exact lQ H S l r' hl v hv
 | .cell b t::l,r,h=>by
   simp only[cW]at h
   cases hv:kd E s.h t (aj s.tm b) with
   |none=>simp[hv]at h
   | some v =>
     cases hl:cW E s l with
     |none=>simp[hv,hl]at h
     | some r' =>
       simp[hv,hl]at h;subst h;intro x hx;simp only[List.mem_cons]at hx;rcases hx with rfl|hx
       ·exact(qy H hv).2.1
       ·exact lQ H S l r' hl x hx
theorem Hk(ρ:Ren)(r:List Value):(if h:(r.map (ren ρ)).toArray.size=1 then(r.map (ren ρ)).toArray[0] else .tuple (r.map (ren ρ)).toArray)=ren ρ (jU r):=by
 match r with
 |[]=>simp[jU,ren,dz]
 |[v]=>simp[jU]
 |v::u::l=>simp[jU,ren,dz]
def td(E : Env) : Prop := ∀f args v, E.known f args = some v -> (∃fn b, E.P.funcs[f]? = some fn /\ fn.body = some b /\ (fn.name == "runtime.NumGoroutine") = false) /\ (∀ρ, args.map (ren ρ) = args) /\ (∀ρ, ren ρ v = v) /\ (∀n, sc n v = true) /\
 ∀w:World,(∀b o,b<E.base->E.ro b=some o->w.heap[b]? = some o)->Calls E.P f args.toArray w λe w'=>e=.returned v/\Below w.heap.size w w'
theorem od(h:E.known=λ_ _=>none):td E:=λf args v hv=>by rw[h]at hv;cases hv
def Dh(E:Env):Prop:=∀f lb h i o,E.iter f lb h i=some o ->
 (∃fn b, E.P.funcs[f]? = some fn /\ fn.body = some b /\ (fn.name == "runtime.NumGoroutine") = false) /\
 (∀v,o=some v->∀B ρ W,HR E B ρ h W->sc h.next v=true) /\
 ∀(B l N:Nat) (lbc:List Value) (I:Nat->Ren->ag->World->Prop) (R:World->Prop),
  (∀i ρ h W,I i ρ h W->(∀ρ' W',Step E B ρ h W ρ' h W'->I i ρ' h W')/\i<N/\HR E B ρ h W/\lb.map (ren ρ)=lbc/\(∀x,x∈lb->sc h.next x=true)/\∃o,E.iter f lb h i=some o/\(o=none->R W) /\
   ∀v,o=some v->∃fn tmps assign body,(Instr.yield l #[ren ρ v]).run E.P W=.ok (.round l fn tmps assign body) W /\
    RoundIn (Wd none) 0 E.P l fn tmps assign body W λe W2=>(e=.returned (.bool true)/\∃ρ' h',(∀b,b<h.next->ρ' b=ρ b)/\h.next<=h'.next/\I (i+1) ρ' h' W2)\/(e=.returned (.bool false)/\R W2)) ->
  ∀ρ h W,I 0 ρ h W->CallsIn (Wd none) 0 E.P f (.func (.yield l) #[] #[]::lbc).toArray W λe W'=>∃v,e=.returned v/\R W'
def Dg(E:Env):Prop:=∀b tm h id tm' h',gQ b=true->E.lY b tm h=some (id,tm',h')->∀B n ρ w a ds,codeOk E.base n (.loop b)=true->HR E B ρ h w->FR ρ n ds tm a->Sc ⟨tm,h⟩ ->
 (Code.loop b).wpIn (Wd none) 0 E.P (qh E B n ds ρ ⟨tm,h⟩ w (.exit id) ⟨tm',h'⟩) a w
def yg(E:Env):Prop:=Dh E/\Dg E
theorem BI(h:E.iter=λ_ _ _ _=>none):Dh E:=λf lb h' i o hv=>by rw[h]at hv;cases hv
def ox:Ex->Option Code
 |.normal=>none
 |.ret=>some .ret
 |.exit id=>some (.exit id)
 |.goto l=>some (.goto l)
theorem il(w w':World):Marks w w' []:=⟨List.nodup_nil,λr h=>by cases h⟩
theorem Hm(hit:yg E)(hr:AD E B n run){g:Operand}{ps:Array Tmp}{assign body:Code}{p:Nat}(hps:ps.toList=[p])(hp:n.has p=true)
 (hg:eG E.base n g=true) (hca:codeOk E.base n assign=true) (hcb:codeOk E.base n body=true) (hfa:flat assign=true) (hfb:flat body=true) {s:St} {it:ag->Nat->Option (Option Value)} (hai:De E (opd s.tm g)=some it)
 {k:Nat} {e:Ex} {s':St} (h:fP run it p assign body s.tm k 0 s.h=some (e,s')) {ρ:Ren} {w:World} {a:Act} {ds:List Deferred} (H:HR E B ρ s.h w) (F:FR ρ n ds s.tm a) (S:Sc s) :
 (Code.rangeFunc g ps assign body).wpIn (Wd none) 0 E.P (qh E B n ds ρ s w e s') a w:=by
 have hps':ps=#[p]:=by cases ps;simp at hps;simp[hps]
 subst hps';unfold De at hai;split at hai
 rotate_left
 ·cases hai
 rename_i f cap hv;injection hai with hai;have hge:=my H F hg;rw[hv]at hge;obtain⟨o0,ho0⟩:∃o,E.iter f cap.toList s.h 0=some o:=by
  cases k with
  |zero=>simp[fP]at h
  | succ k =>
    cases hx:it s.h 0 with
    |none=>simp[fP,hx]at h
    |some o=>exact⟨o,by rw[hai];exact hx⟩
 obtain⟨⟨fn,b,hf1,hf2,hf3⟩,_,hcall⟩:=hit.1 f cap.toList s.h 0 o0 ho0;have hscg:sc s.h.next (opd s.tm g)=true:=A9 H.cj S hg;refine wpIn_rangeFunc λfid _=>?_;generalize hw1:(w.alloc (.deferred (some []))).alloc (.loop {state:=.ready,pending:=none,fn:=fid,tmps:=a.tmps,params:=#[p],assign:=assign,body:=body,defers:=w.heap.size})=w1;have st1:Step E B ρ s.h w ρ s.h w1:=by rw[<-hw1];exact(Step.wO H _).trans (Step.wO (Step.wO H _).hr _)
 have hrec:w1.heap[w.heap.size+1]? = some (.loop {state:=.ready,pending:=none,fn:=fid,tmps:=a.tmps,params:=#[p],assign:=assign,body:=body,defers:=w.heap.size}):=by rw[<-hw1,heap_alloc,Array.getElem?_push,if_pos Nw]
 have hdef:w1.heap[w.heap.size]? = some (.deferred (some [])):=by rw[<-hw1,heap_alloc,Array.getElem?_push,if_neg Nw,heap_alloc,Array.getElem?_push,if_pos rfl]
 refine⟨w.heap.size+1,[{target:=.collected w.heap.size,args:=#[]}],w1,{target:=.fn (.func f) (cap.map (ren ρ)),args:=#[.func (.yield (w.heap.size+1)) #[] #[]]},w1,f,(.func (.yield (w.heap.size+1)) #[] #[]::cap.toList.map (ren ρ)).toArray,w1,?_,?_,λ_ _=>trivial,?_,λh=>Bool.noConfusion h,?_⟩
 ·rw[<-hw1];exact run_enterLoop_outer fid a.tmps #[p] assign body
 ·simp only[resolve,hge,ren,dz,Deferred.ofValue];simp[Act.eval]
 ·simp only[invoke];rw[kq hf1 hf2 hf3];congr 2;apply Array.ext';simp
 ·refine CallsIn.mono (hcall B (w.heap.size+1) k (cap.toList.map (ren ρ))
   (λi ρi hh W=>i<k/\Step E B ρ s.h w ρi hh W/\fP run it p assign body s.tm (k-i) i hh=some (e,s')/\W.heap[w.heap.size]? = some (.deferred (some [])) /\
    W.heap[w.heap.size+1]? = some (.loop {state:=.ready,pending:=none,fn:=fid,tmps:=a.tmps,params:=#[p],assign:=assign,body:=body,defers:=w.heap.size}))
   (λW=>∃ρi st,Step E B ρ s.h w ρi s'.h W/\s'.tm=s.tm/\st≠.busy/\W.heap[w.heap.size]? = some (.deferred (some [])) /\
    W.heap[w.heap.size+1]? = some (.loop {state:=st,pending:=ox e,fn:=fid,tmps:=a.tmps,params:=#[p],assign:=assign,body:=body,defers:=w.heap.size})) ?_ ρ s.h w1 ?_) ?_
  ·rintro i ρi hh W ⟨hik,sti,hra,hd,hl⟩;refine⟨λρ' W' st=>⟨hik,sti.trans st,hra,st.keeps sti.hr hd rfl,st.keeps sti.hr hl rfl⟩,hik,sti.hr,?_⟩;obtain⟨m,hm⟩:∃m,k-i=m+1:=⟨k-i-1,Nr⟩;rw[hm]at hra;simp only[fP]at hra;have hcap:cap.toList.map (ren ρi)=cap.toList.map (ren ρ):=by refine List.map_congr_left λx hx=>dY ρ ρi s.h.next sti.ext x ?_;rw[hv]at hscg;simp only[sc,Bool.and_eq_true,wS]at hscg;exact hscg.2 x NW
   have hsl:∀x,x∈cap.toList->sc hh.next x=true:=λx hx=>by
    rw[hv]at hscg;simp only[sc,Bool.and_eq_true,wS]at hscg;exact eJ _ _ sti.le _ (hscg.2 x NW)
   cases hiter:it hh i with
   |none=>simp[hiter]at hra
   | some o =>
     refine⟨hcap,hsl,o,by rw[hai];exact hiter,?_,?_⟩
     ·rintro rfl;simp only[hiter,Option.some.injEq,Prod.mk.injEq]at hra;obtain⟨rfl,rfl⟩:=hra;exact⟨ρi,.ready,sti,rfl,Nw,hd,hl⟩
     ·rintro v rfl;have hscv:sc hh.next v=true:=by obtain⟨_,hq,_⟩:=hit.1 f cap.toList hh i (some v) (by rw[hai];exact hiter);exact hq v rfl B ρi W sti.hr
      have stb:Step E B ρ s.h w ρi hh W:=sti;have hl':=hl;have hd':=hd;simp only[hiter]at hra
      cases hxa:run assign ⟨s.tm.set p (some v),hh⟩ with
      |none=>simp[hxa]at hra
      | some ra =>
        obtain⟨ea,sa⟩:=ra;simp only[hxa]at hra
        cases ea with
        |ret=>simp at hra
        |exit id=>simp at hra
        |goto l=>simp at hra
        | normal =>
          simp only at hra;refine⟨_,_,_,_,run_yield hl' Nw,?_⟩;refine roundIn_of_wpIn trivial ?_;have Fv:=F.put (ρ':=ρi) (m:=s.h.next) sti.ext S (d:=some p) (by simpa[Ai] using hp) v;have Fr:FR ρi n [] (s.tm.set p (some v)) {tmps:=a.tmps.setIfInBounds p (ren ρi v),defers:=[]}:=⟨rfl,Fv.size,Fv.val⟩;have Sr:Sc ⟨s.tm.set p (some v),hh⟩:=ph (d:=some p) S sti.le hscv;have ha:=hr (some (w.heap.size+1)) assign _ _ _ hxa hca (.inr hfa) ρi W {tmps:=a.tmps.setIfInBounds p (ren ρi v),defers:=[]} [] stb.hr Fr Sr;have etm:(Array.foldl (λtmps (x:Tmp×Value)=>tmps.setIfInBounds x.1 x.2) a.tmps (Array.zip #[p] #[ren ρi v]))=a.tmps.setIfInBounds p (ren ρi v):=Nw;simp only[etm];refine wpIn_mono ha ?_;rintro x a1 w2 ⟨rfl,ρ1,rs1,F1,sA,S1,_⟩;simp only[exq,Exit.then];have hl2:=sA.keeps stb.hr hl' rfl;have hd2:=sA.keeps stb.hr hd' rfl;refine⟨_,run_beginRound hl2 rfl,?_⟩;have sB:=(stb.trans sA).sM H.fG hl2 rfl Nr (.loop {state:=.busy,pending:=none,fn:=fid,tmps:=a.tmps,params:=#[p],assign:=assign,body:=body,defers:=w.heap.size});have hl3:(w2.putObj (w.heap.size+1) (.loop {state:=.busy,pending:=none,fn:=fid,tmps:=a.tmps,params:=#[p],assign:=assign,body:=body,defers:=w.heap.size})).heap[w.heap.size+1]? = _:=World.putObj_heap_same (kM hl2);have hd3:(w2.putObj (w.heap.size+1) (.loop {state:=.busy,pending:=none,fn:=fid,tmps:=a.tmps,params:=#[p],assign:=assign,body:=body,defers:=w.heap.size})).heap[w.heap.size]? = _:=(World.putObj_heap_other Nr).trans hd2
          cases hxb:run body sa with
          |none=>simp[hxb]at hra
          | some rb =>
            obtain⟨eb,sb⟩:=rb;simp only[hxb]at hra;have hb:=hr (some (w.heap.size+1)) body _ _ _ hxb hcb (.inr hfb) ρ1 _ a1 _ sB.hr F1 S1;refine wpIn_mono hb ?_;rintro x a2 w4 ⟨rfl,ρ2,rs2,F2,sC,S2,_⟩;have hl4:=sC.keeps sB.hr hl3 rfl;have hd4:=sC.keeps sB.hr hd3 rfl;have sD:=sB.trans sC
            have fin:∀(jump:Option Code) (rest:World->Prop),(∀st,st=(if jump.isNone then LoopState.ready else .done)->∀W2,Step E B ρ s.h w ρ2 sb.h W2->W2.heap[w.heap.size]? = some (.deferred (some [])) ->
             W2.heap[w.heap.size+1]? = some (.loop {state:=st,pending:=jump,fn:=fid,tmps:=a.tmps,params:=#[p],assign:=assign,body:=body,defers:=w.heap.size})->rest W2) ->
             ∃v w5,(Instr.endRound (w.heap.size+1) jump).run E.P w4=.ok v w5/\v=.bool jump.isNone/\rest w5:=by
             intro jump rest hrest;exact⟨_,_,run_endRound jump hl4,rfl,hrest _ rfl _ (sD.sM H.fG hl4 rfl Nr _) ((World.putObj_heap_other Nr).trans hd4) (World.putObj_heap_same (kM hl4))⟩
            have done:∀eb',eb'≠.normal->(e,s')=(eb',(⟨s.tm,sb.h⟩:St))->∃v w5,(Instr.endRound (w.heap.size+1) (ox eb')).run E.P w4=.ok v w5/\v=.bool (ox eb').isNone /\
             (∃ρi st,Step E B ρ s.h w ρi s'.h w5/\s'.tm=s.tm/\st≠.busy/\w5.heap[w.heap.size]? = some (.deferred (some [])) /\
              w5.heap[w.heap.size+1]? = some (.loop {state:=st,pending:=ox e,fn:=fid,tmps:=a.tmps,params:=#[p],assign:=assign,body:=body,defers:=w.heap.size})):=by
             intro eb' _ hee;simp only[Prod.mk.injEq]at hee;obtain⟨rfl,rfl⟩:=hee;refine fin _ _ λst hst W2 s2 hd5 hl5=>⟨ρ2,st,s2,rfl,?_,hd5,hl5⟩;rw[hst];split<;>simp
            cases eb with
            | normal =>
              simp only at hra;simp only[exq,roundPost]
              obtain⟨v5,w5,g1,g2,g3⟩:=fin none (λW2=>i+1<k/\Step E B ρ s.h w ρ2 sb.h W2/\fP run it p assign body s.tm (k-(i+1)) (i+1) sb.h=some (e,s')/\W2.heap[w.heap.size]? = some (.deferred (some [])) /\
               W2.heap[w.heap.size+1]? = some (.loop {state:=.ready,pending:=none,fn:=fid,tmps:=a.tmps,params:=#[p],assign:=assign,body:=body,defers:=w.heap.size})) (by
               intro st hst W2 s2 hd5 hl5;have em:k-(i+1)=m:=Nr;have hm0:0<m:=by
                rcases Nat.eq_zero_or_pos m with h0|h0
                ·subst h0;simp[fP]at hra
                ·exact h0
               refine⟨Nr,s2,by rw[em];exact hra,hd5,?_⟩
               rw[hl5,hst];rfl)
              subst g2;exact⟨_,w5,g1,.inl ⟨rfl,ρ2,sb.h,(sA.trans (Step.refl sA.hr)).ext |> λha b hb=>(sC.ext b (Nat.lt_of_lt_of_le hb sA.le)).trans (ha b hb),Nat.le_trans sA.le sC.le,g3⟩⟩
            |ret =>simp only[Option.some.injEq]at hra;obtain⟨v5,w5,g1,g2,g3⟩:=done .ret Nw hra.symm;subst g2;exact⟨_,w5,g1,.inr ⟨rfl,g3⟩⟩
            |exit id =>simp only[Option.some.injEq]at hra;obtain⟨v5,w5,g1,g2,g3⟩:=done (.exit id) Nw hra.symm;subst g2;exact⟨_,w5,g1,.inr ⟨rfl,g3⟩⟩
            |goto l =>simp only[Option.some.injEq]at hra;obtain⟨v5,w5,g1,g2,g3⟩:=done (.goto l) Nw hra.symm;subst g2;exact⟨_,w5,g1,.inr ⟨rfl,g3⟩⟩
  ·refine⟨?_,st1,Ot,hdef,hrec⟩
   cases k with
   |zero=>simp[fP]at h
   |succ k=>omega
  ·rintro e2 W' ⟨v,rfl,ρi,st,sR,htm,hst,hd,hl⟩;refine⟨ox e,_,run_endLoop hl hst,?_⟩;have sE:=sR.sM H.fG hl rfl Nr (.loop {state:=.exhausted,pending:=ox e,fn:=fid,tmps:=a.tmps,params:=#[p],assign:=assign,body:=body,defers:=w.heap.size});have FE:FR ρi n ([{target:=.collected w.heap.size,args:=#[]}]++a.defers) s'.tm {tmps:=a.tmps,defers:=[{target:=.collected w.heap.size,args:=#[]}]++a.defers}:=by refine⟨rfl,F.size,λt ht=>?_⟩;rw[htm];exact(F.val t ht).trans (dY ρ ρi s.h.next sE.ext _ (S t)).symm
   have hP:qh E B n ds ρ s w e s' (exq e) {tmps:=a.tmps,defers:=[{target:=.collected w.heap.size,args:=#[]}]++a.defers} (W'.putObj (w.heap.size+1) (.loop {state:=.exhausted,pending:=ox e,fn:=fid,tmps:=a.tmps,params:=#[p],assign:=assign,body:=body,defers:=w.heap.size})):=by
    refine⟨rfl,ρi,[w.heap.size],?_,sE,?_,?_,?_⟩
    ·rw[<-F.defers];exact FE
    ·intro t;have:=sE.le;rw[htm];exact eJ _ _ this _ (S t)
    ·simp
    ·intro r hr;simp only[List.mem_singleton]at hr;subst hr;exact⟨Nat.le_refl _,(World.putObj_heap_other Nr).trans hd⟩
   cases e with
   |normal=>exact hP
   |ret=>exact wpIn_ret hP
   |exit id=>exact wpIn_exit hP
   |goto l=>exact wpIn_goto hP
theorem vT{E:Env}{B:Nat}{ρ ρ1:Ren}{h h1:ag}{w:World}(hB:B<=w.heap.size){fn:Func}{tmps:Array Value}{R:Ending->World->Prop}
 (fin:∀w2,Step E B ρ h w ρ1 h1 w2->∃v,(results fn tmps).run E.P w2=.ok v w2/\R (.returned v) w2) :
 ∀(rs:List Nat) (w1:World),Step E B ρ h w ρ1 h1 w1->Marks w w1 rs->LeavesInM Fence.wide 0 E.P fn tmps R (mkD rs) .returning w1
 |[],w1,st,_=>fin w1 st
 | r::rs,w1,st,hm=>by
   obtain⟨h1,h2⟩:=hm.2 r Nw;have hnd:=List.nodup_cons.1 hm.1;refine⟨Nw,.inl ⟨r,_,rfl,run_takeDeferred h2,vT hB fin rs _ (st.sM hB h2 rfl h1 _) ⟨hnd.2,λr' hr'=>?_⟩⟩⟩;obtain⟨h3,h4⟩:=hm.2 r' (List.mem_cons_of_mem _ hr');exact⟨h3,(World.putObj_heap_other (λe=>hnd.1 (by rw[<-e];exact hr'))).trans h4⟩
theorem pZ(hp:jq E=true)(hkn:td E)(hr:∀n,AD E B n run):yh E B (dW E run):=by
 intro f args h v h' hx;unfold dW at hx;split at hx
 ·rename_i v' hk;simp only[Option.some.injEq,Prod.mk.injEq]at hx;obtain⟨rfl,rfl⟩:=hx;obtain⟨⟨fn,b,h1,h2,h3⟩,h4,h5,h6,h7⟩:=hkn f args v' hk;refine⟨fn,b,h1,h2,h3,λρ w H _=>?_⟩;rw[h4];refine(h7 w H.ro).mono ?_;rintro e w' ⟨rfl,hb⟩;exact⟨ρ,by rw[h5],Step.below H hb,h6 _⟩
 unfold nh at hx;split at hx
 ·rename_i fn hf;split at hx
  ·rename_i b hb;split at hx
   ·rename_i hc;have hf':E.P.funcs[f]? = some fn:=by simpa using hf
    refine⟨fn,b,hf',hb,hc.2,?_⟩;intro ρ w H hargs;have hfo:xw E.base fn=true:=by simp only[jq,List.all_eq_true]at hp;exact hp fn (List.mem_of_getElem? hf)
    simp only[xw,hb,Bool.and_eq_true]at hfo;obtain⟨hco,hres⟩:=hfo;have S0:Sc ⟨mK 0 args .leaf,h⟩:=by
     intro t;simp only[qN,Nat.zero_le,if_true,Nat.sub_zero,qM]
     cases ha:args[t]? with
     |none=>rfl
     |some x=>exact hargs x (List.mem_of_getElem? ha)
    have F0:FR ρ ⟨fn.ntmps,tR b⟩ [] (mK 0 args .leaf) {tmps:=(args.map (ren ρ)).toArray++Array.replicate (fn.ntmps-(args.map (ren ρ)).toArray.size) undef,defers:=[]}:=by
     refine⟨rfl,Nu,?_⟩;intro t ht;replace ht:t<fn.ntmps:=Ns.lt ht;simp only[qN,Nat.zero_le,if_true,Nat.sub_zero,qM,Array.getD_eq_getD_getElem?,Array.getElem?_append];by_cases hlt:t<args.length
     ·simp[hlt]
     ·simp[hlt,Array.getElem?_replicate,undef,ren,dz];rw[if_pos Nr];rfl
    have fin:∀e s',run b ⟨mK 0 args .leaf,h⟩=some (e,s')->(e=.normal\/e=.ret)->(cW E s' fn.results.toList).map (λl=>(jU l,s'.h))=some (v,h') ->
     Calls E.P f (args.map (ren ρ)).toArray w λe w'=>∃ρ',e=.returned (ren ρ' v)/\Step E B ρ h w ρ' h' w'/\sc h'.next v=true:=by
     intro e s' hrun he hl
     cases har:cW E s' fn.results.toList with
     |none=>simp[har]at hl
     | some r =>
       simp[har]at hl;obtain⟨rfl,rfl⟩:=hl;refine callsIn_wide.1 (callsIn_of_wp_marks (F:=Fence.wide) (n:=0) hf' hb trivial (wpIn_mono (hr ⟨fn.ntmps,tR b⟩ none b _ e s' hrun hco (.inl rfl) ρ w _ [] H F0 S0) ?_));rintro x a1 w1 ⟨rfl,ρ1,rs,F1,st1,S1,hm⟩;have hscv:sc s'.h.next (jU r)=true:=by
        have hall:=lQ st1.hr S1 _ r har
        match r,hall with
        |[],_=>rfl
        |[v],hall=>exact hall v Nw
        |v::u::l,hall=>simp only[jU,sc,scA,fJ];exact hall
       have hlv:=vT (R:=λe w'=>∃ρ',e=.returned (ren ρ' (jU r))/\Step E B ρ h w ρ' s'.h w'/\sc s'.h.next (jU r)=true) H.fG (fn:=fn) (tmps:=a1.tmps) (λw2 st2=>by
        refine⟨ren ρ1 (jU r),?_,ρ1,rfl,st2,hscv⟩;have:=ku st2.hr F1 _ r hres har;rw[Bj,Array.mapM_eq_mapM_toList];simp only[Sem.run_bind,Sem.run_map,this,Result.andThen_ok,Sem.run_pure]
        rw[Hk]) rs w1 st1 hm
       have hdf:a1.defers=mkD rs:=by rw[F1.defers];simp
       rw[<-hdf]at hlv;rcases he with rfl|rfl
       ·exact hlv
       ·exact hlv
    unfold xX at hx;split at hx
    ·rename_i s' hrun;exact fin _ _ hrun (.inl rfl) hx
    ·rename_i s' hrun;exact fin _ _ hrun (.inr rfl) hx
    ·cases hx
   ·cases hx
  ·cases hx
 ·cases hx
theorem JC(hp:jq E=true)(hkn:td E)(hit:yg E)(hm:E.P.follows .mixedOrders=true):∀(k:Nat) (n:Ns),AD E B n (cf E k):=by
 intro k
 induction k with
 |zero=>intro n rd c s e s' h;simp[cf]at h
 | succ k ih =>
   intro n rd c s e s' h hc hfl ρ w a ds H F S;have base:∀x,qh E B n ds ρ s w x s (exq x) a w:=λx=>⟨rfl,ρ,[],F,Step.refl H,S,il _ _⟩
   cases c with
   |skip=>simp only[cf,Option.some.injEq,Prod.mk.injEq]at h;obtain⟨rfl,rfl⟩:=h;exact wpIn_skip (base .normal)
   |label l=>simp only[cf,Option.some.injEq,Prod.mk.injEq]at h;obtain⟨rfl,rfl⟩:=h;exact wpIn_label (base .normal)
   |ret=>simp only[cf,Option.some.injEq,Prod.mk.injEq]at h;obtain⟨rfl,rfl⟩:=h;exact wpIn_ret (base .ret)
   |exit id=>simp only[cf,Option.some.injEq,Prod.mk.injEq]at h;obtain⟨rfl,rfl⟩:=h;exact wpIn_exit (base (.exit id))
   |goto l=>simp only[cf,Option.some.injEq,Prod.mk.injEq]at h;obtain⟨rfl,rfl⟩:=h;exact wpIn_goto (base (.goto l))
   | seq x y =>
     simp only[codeOk,Bool.and_eq_true]at hc;simp only[flat,Bool.and_eq_true]at hfl;simp only[cf]at h
     cases hx:cf E k x s with
     |none=>simp[hx]at h
     | some r =>
       obtain⟨e1,s1⟩:=r;have h1:=ih n rd x s e1 s1 hx hc.1 (hfl.imp id (·.1)) ρ w a ds H F S;refine wpIn_seq ?_
       cases e1 with
       |normal =>simp only[hx]at h;refine wpIn_mono h1 ?_;rintro x1 a1 w1 ⟨rfl,ρ1,rs,F1,st1,S1,hm1⟩;exact wpIn_mono (ih n rd y s1 e s' h hc.2 (hfl.imp id (·.2)) ρ1 w1 a1 _ st1.hr F1 S1) λ_ _ _ hh=>qh.trans st1 hm1 hh
       |ret=>simp only[hx,Option.some.injEq,Prod.mk.injEq]at h;obtain⟨rfl,rfl⟩:=h;exact wpIn_mono h1 NM
       |exit id=>simp only[hx,Option.some.injEq,Prod.mk.injEq]at h;obtain⟨rfl,rfl⟩:=h;exact wpIn_mono h1 NM
       |goto l=>simp only[hx,Option.some.injEq,Prod.mk.injEq]at h;obtain⟨rfl,rfl⟩:=h;exact wpIn_mono h1 NM
   | cond x y z =>
     simp only[codeOk,Bool.and_eq_true]at hc;simp only[flat,Bool.and_eq_true]at hfl;simp only[cf]at h;have he:=my H F hc.1;split at h
     ·rename_i ht;rw[ht]at he;exact wpIn_cond_true he (ih n rd y s e s' h hc.2.1 (hfl.imp id (·.1)) ρ w a ds H F S)
     ·rename_i ht;rw[ht]at he;exact wpIn_cond_false he (ih n rd z s e s' h hc.2.2 (hfl.imp id (·.2)) ρ w a ds H F S)
     ·cases h
   | block id b =>
     simp only[codeOk]at hc;simp only[flat]at hfl;simp only[cf]at h
     cases hx:cf E k b s with
     |none=>simp[hx]at h
     | some r =>
       obtain⟨e1,s1⟩:=r;have h1:=ih n rd b s e1 s1 hx hc hfl ρ w a ds H F S;refine wpIn_block (wpIn_mono h1 ?_);rintro x1 a1 w1 ⟨rfl,hh⟩
       cases e1 with
       | exit id' =>
         simp only[hx]at h;simp only[exq,Exit.inBlock];split at h
         ·rename_i hid;simp only[Option.some.injEq,Prod.mk.injEq]at h;obtain⟨rfl,rfl⟩:=h;rw[if_pos hid];exact⟨rfl,hh⟩
         ·rename_i hid;simp only[Option.some.injEq,Prod.mk.injEq]at h;obtain⟨rfl,rfl⟩:=h;rw[if_neg hid];exact⟨rfl,hh⟩
       |normal=>simp only[hx,Option.some.injEq,Prod.mk.injEq]at h;obtain⟨rfl,rfl⟩:=h;exact⟨rfl,hh⟩
       |ret=>simp only[hx,Option.some.injEq,Prod.mk.injEq]at h;obtain⟨rfl,rfl⟩:=h;exact⟨rfl,hh⟩
       |goto l=>simp only[hx,Option.some.injEq,Prod.mk.injEq]at h;obtain⟨rfl,rfl⟩:=h;exact⟨rfl,hh⟩
   | loop b =>
     simp only[flat,Bool.and_eq_true,Bool.not_eq_true']at hfl;simp only[cf]at h;by_cases hml:gQ b=true
     ·rw[if_pos hml]at h;rcases hfl with rfl|hfl
      ·cases hx:E.lY b s.tm s.h with
       |none=>simp[hx]at h
       |some r =>simp[hx]at h;obtain⟨rfl,rfl⟩:=h;exact hit.2 b s.tm s.h r.1 r.2.1 r.2.2 hml hx B n ρ w a ds hc H F S
      ·rw[hfl.1]at hml;cases hml
     rw[if_neg hml]at h;simp only[codeOk,if_neg hml]at hc;replace hfl:rd=none\/flat b=true:=hfl.imp id (·.2);exact wpIn_loop_rounds k (vM (ih n) hc hfl k s e s' h ρ w a ds H F S)
   |scope b =>simp only[codeOk]at hc;simp only[flat]at hfl;simp only[cf]at h;exact uF k (yJ (ih n) hc hfl k b s e s' hc hfl h ρ w a ds H F S)
   | region id ops draw =>
     simp only[codeOk]at hc
     cases draw with
     | false =>
       simp only[cf]at h;rw[Dc ops.toList 0 s Nw,Array.length_toList]at h
       cases hx:nH E (dW E (cf E k)) ops (List.range' 0 ops.size) s with
       |none=>simp[hx]at h
       |some s1 =>simp[hx]at h;obtain⟨rfl,rfl⟩:=h;refine wpIn_region ?_;rw[List.range_eq_range'];refine sS (pZ hp hkn ih) hc _ s s1 ρ w a hx H F S ?_;intro ρ' a' w' h1 h2 h3;exact⟨rfl,ρ',[],h2,h1,h3,il _ _⟩
     | true =>
       simp only[cf]at h
       cases hx:uA E (dW E (cf E k)) ops.toList s with
       |none=>simp[hx]at h
       | some s1 =>
         simp[hx]at h;obtain⟨rfl,rfl⟩:=h;refine wpIn_region_draw λt=>?_;rw[hm];simp only[Region.schedule,Bool.true_or,if_true];rcases yb hx with hx|⟨c,W,rfl,rfl⟩|⟨y,c,hy,hgd,hdn,W,rfl,rfl⟩
         ·obtain⟨s2,g1,g2,g3⟩:=BS hx t;refine sS (pZ hp hkn ih) hc _ s s2 ρ w.drew a g1 H.drew F S ?_;intro ρ' a' w' h1 h2 h3;refine⟨rfl,ρ',[],⟨h2.defers,h2.size,λt ht=>by rw[h2.val t ht,g2 t]⟩,((Step.drew H).trans h1).same g3,λt=>?_,il _ _⟩;rw[<-g2 t,<-g3.1];exact h3 t
         ·refine qw (pZ hp hkn ih) hc W (ρ0:=ρ) (w0:=w.drew) H.drew.fG ?_ _ [] 0 ρ (c 0).tm w.drew a (iW W.down t) (λi o hi=>by simp at hi) (vY H.drew S) F;intro ρ' a' w' h1 h2 h3;exact⟨rfl,ρ',[],h2,(Step.drew H).trans h1,h3,il _ _⟩
         ·have hc':nw E.base n (fO y ops.toList).toArray=true:=by have hc0:=hc;simp only[nw,List.all_eq_true]at hc0|-;intro o ho;obtain⟨o',ho',rfl⟩:=DH hy ho;exact hc0 o' ho'
          refine JR hy hgd _ _ _ ?_;have hs:=yK hy _ _ (iW hdn t);refine qw (pZ hp hkn ih) hc' (ops:=(fO y ops.toList).toArray) W (ρ0:=ρ) (w0:=w.drew) H.drew.fG ?_ _ [] 0 ρ (c 0).tm w.drew a hs (λi o hi=>by simp at hi) (vY H.drew S) F;intro ρ' a' w' h1 h2 h3;exact⟨rfl,ρ',[],h2,(Step.drew H).trans h1,h3,il _ _⟩
   | rangeFunc g ps assign body =>
     simp only[codeOk,Bool.and_eq_true]at hc;simp only[flat]at hfl;rcases hfl with rfl|hfl
     rotate_left
     ·cases hfl
     simp only[cf]at h;split at h
     ·rename_i it p hai hps;split at h
      ·rename_i hff;refine Hm hit (ih n) hps ?_ hc.1 hc.2.2.1 hc.2.2.2 hff.1 hff.2 hai h H F S;have:=hc.2.1;rw[hps]at this;simpa using this
      ·cases h
     ·cases h
   |refuse _=>simp[cf]at h
end Go.Tm
