/- Part 6. -/
import Derived.Test.YthbjaiilnkakcaaGreatDoorT05
set_option linter.all false
set_option maxRecDepth 10000
set_option maxHeartbeats 8000000
namespace Go.Tm
variable{E:Env}{G:Mem}{h:ag}{by_ k n t:Nat}{cs:List Value}{v:Value}{P:Program}
def Fz(E:Env)(G:Mem)(z n:Nat)(cs:List Value)(v:Value):Prop:=Sl E G z n cs v/\∀a k c,v=.slice (some a) k c->a.spot=none/\(k=0->eo E G a 0=some [])
theorem Fz.slice{E:Env}{G:Mem}{z n:Nat}{cs:List Value}{v:Value}(H:Fz E G z n cs v):∃a c,v=.slice a n c/\n<=c/\c<=9223372036854775807:=H.1.slice
theorem Fz.sub{E:Env}{G G':Mem}{z n:Nat}{cs:List Value}{v:Value}(H:Fz E G z n cs v)(s:Sub G G'):Fz E G' z n cs v:=⟨H.1.sub s,λa k c e=>⟨(H.2 a k c e).1,λh0=>tX s ((H.2 a k c e).2 h0)⟩⟩
theorem mw{a:Addr}{g:List Value}(hb:¬a.block<E.base)(hs:a.spot=none)(ho:a.off=0)(hg:G a.block=some g):eo E G a 0=some []:=by unfold eo;rw[if_neg hb];simp only[hs,hg,ho,Nat.zero_add,Nat.zero_le,if_true,List.take_zero]
theorem Own.fz{E:Env}{G:Mem}{h:ag}{e z lo n:Nat}{cs:List Value}{v:Value}(hW:WF E h)(H:Own h e z lo n cs v)(hs:Sl E G z n cs v):Fz E G z n cs v:=by
 refine⟨hs,λa k c e1=>?_⟩;rcases H with⟨rfl,_⟩|⟨b,cap,rest,fx,rfl,hg,_⟩
 ·cases e1
 ·injection e1 with e1 _ e3;injection e1 with e1;subst e1;refine⟨rfl,λ_=>?_⟩;obtain⟨a',c',e4,_,_,⟨_,h5⟩,_⟩:=hs;injection e4 with e4 _ _;have hb:=hW.nlt hg;simp only[eq_iff_iff,iff_false]at hb;rcases h5 _ e4.symm with h6|⟨g,h6⟩
  ·exact absurd h6 hb
  ·exact mw hb rfl rfl h6
theorem Fz.nil{E:Env}{G:Mem}{z:Nat}:Fz E G z 0 [] (.slice none 0 0):=⟨⟨none,0,rfl,Nr,Nr,⟨λ_=>rfl,λ_ x=>Oy⟩,.inl ⟨rfl,rfl⟩⟩,λa k c h=>by cases h⟩
structure Apd(E:Env)(h h':ag)(e z lo n:Nat)(cs:List Value)(v v':Value):Prop where
 own:Own h' e z lo n cs v'
 get:∀b o,h.get b=some o->b∉slB v->h'.get b=some o
 blk:∀b,b∈slB v'->b∈slB v\/h.next<=b
 next:h.next<=h'.next
 wf:WF E h'
 sl:∃a c,v'=.slice a n c
theorem Own.fh{h:ag}{e z lo n:Nat}{cs:List Value}{v:Value}(H:Own h e z lo n cs v):∃a c,v=.slice a n c/\n<=c:=by
 rcases H with⟨rfl,rfl,rfl⟩|⟨b,cap,rest,fx,rfl,_,_,_,h3,_⟩
 ·exact⟨_,_,rfl,Nr⟩
 ·exact⟨_,_,rfl,h3⟩
theorem vX{e z lo m:Nat}{xs:List Value}{x:Value}{d:Option Nat}{R:bl}{tm:Tr Value}(T:jW E t e z by_)(hW:WF E h)(hlo:lo<=h.next)(H:Own h e z lo n cs v)
 (hm:iZ x=some m) (hx:0<m->lj E h z x m=some xs) (hl:xs.length=m*z) (ho:xs.all Value.oneCell'=true) (hb:(n+m)*by_<=140737488355328) (hn:n+m<=9223372036854775807)
 (K:∀v' h',Apd E h h' e z lo (n+m) (cs++xs) v v'->R (du tm d v') h'):kwv (cI E h t t v x) d R tm h:=by
 by_cases h0:m=0
 ·subst h0;have:xs=[]:=List.eq_nil_of_length_eq_zero (by simpa using hl);subst this;obtain⟨i,hi,hiz⟩:∃i,E.P.info? e=some i/\(i.size,i.bytes)=(z,by_):=by have:=T.info;rw[Option.map_eq_some_iff]at this;exact this
  obtain⟨base,sCap,rfl,hle⟩:=H.fh;refine⟨(.slice base n sCap,h),?_,K _ _ ⟨by simpa using H,λb o hb _=>hb,λb hb=>.inl hb,Nat.le_refl _,hW,_,_,rfl⟩⟩;simp only[cI,T.und,hm,kT,Bool.false_eq_true,if_false,hi];unfold eA;rw[if_pos ⟨rfl,hle⟩]
 ·obtain⟨v',h',e1,e2,e3,e4,e5⟩:=Ce T hW hlo H hm Nr (hx Nr) hl ho hb hn;obtain⟨a,c,e6,_⟩:=e2.fh;refine⟨(v',h'),e1,K v' h' ⟨e2,λb o hb hn=>e5 b o hb λc a k hv he=>hn (by subst hv;simp[slB,he]),Cf T hW H hm Nr (hx Nr) e1,e3.next,e4,a,c,e6⟩⟩
theorem ej{e z lo m:Nat}{xs:List Value}{x:Value}{d:Option Nat}{R:bl}{tm:Tr Value}(T:jW E t e z by_)(hW:WF E h)(hG:Frz E G h)(hlo:lo<=h.next)(H:Own h e z lo n cs v)
 (hx:Sl E G z m xs x) (hl:xs.length=m*z) (ho:xs.all Value.oneCell'=true) (hb:(n+m)*by_<=140737488355328) (hn:n+m<=9223372036854775807)
 (K:∀v' h',Apd E h h' e z lo (n+m) (cs++xs) v v'->R (du tm d v') h'):kwv (cI E h t t v x) d R tm h:=by
 obtain⟨a,cap,rfl,hc1,hc2,hc3,hcs⟩:=hx;refine vX T hW hlo H rfl (λh0=>?_) hl ho hb hn K;rcases hcs with⟨h1,_⟩|⟨b,rfl,hg⟩
 ·omega
 ·have hz:=T.pos;simp only[lj];rw[if_neg (by have:=Nat.mul_pos h0 hz;omega)];exact fX hG hg
theorem tU{e e' z lo lo' m:Nat}{xs:List Value}{x:Value}{d:Option Nat}{R:bl}{tm:Tr Value}(T:jW E t e z by_)(hW:WF E h)(hlo:lo<=h.next)(H:Own h e z lo n cs v)
 (hx:Own h e' z lo' m xs x) (ho:xs.all Value.oneCell'=true) (hb:(n+m)*by_<=140737488355328) (hn:n+m<=9223372036854775807)
 (K:∀v' h',Apd E h h' e z lo (n+m) (cs++xs) v v'->R (du tm d v') h'):kwv (cI E h t t v x) d R tm h:=by
 rcases hx with⟨rfl,rfl,rfl⟩|⟨b,cap,rest,fx,rfl,hg,hc1,hc2,hc3,hc4,hc5⟩
 ·exact vX T hW hlo H rfl (λh0=>by omega) Nw rfl hb hn K
 ·refine vX T hW hlo H rfl (λh0=>?_) hc1 ho hb hn K;have hz:=T.pos;simp only[lj];rw[if_neg (by have:=Nat.mul_pos h0 hz;omega)];unfold cg;rw[if_neg Oh];simp only[hg];rw[if_pos PO,List.drop_zero,<-hc1,List.take_left]
theorem eZ{e e' z lo:Nat}{xs:List Value}{d:Option Nat}{R:bl}{tm:Tr Value}(T:jW E t e z by_)(hW:WF E h)(hlo:lo<=h.next)(H:Own h e z lo n cs v)
 (hl:xs.length=z) (ho:xs.all Value.oneCell'=true) (hb:(n+1)*by_<=140737488355328) (hn:n+1<=9223372036854775807)
 (K:∀v' h',Apd E h h' e z lo (n+1) (cs++xs) v v'->h.next+1<=h'.next->R (du tm d v') h'):kwv (cI E (h.push (.cells xs e' true)) t t v (.slice (some ⟨h.next,0,none⟩) 1 1)) d R tm (h.push (.cells xs e' true)):=by
 have kp:=(gu.refl h).push (o:=.cells xs e' true) hW;refine vX T (hW.push _) Nu (H.aK kp) rfl (λ_=>?_) Nr ho hb hn λv' h' a=>K v' h' ⟨a.own,λb o hb hn=>a.get b o (kp.get b o hb) hn,λb hb=>?_,?_,a.wf,a.sl⟩ ?_
 ·have hz:=T.pos;simp only[lj,Nat.one_mul];rw[if_neg Nr];unfold cg;simp only[hW.nb0,if_false,ah,if_true,Nat.zero_add];rw[if_pos Nr,List.drop_zero,List.take_of_length_le Nr]
 ·rcases a.blk b hb with h1|h1
  ·exact .inl h1
  ·right;simp at h1;omega
 ·have:=a.next;simp at this;omega
 ·have:=a.next;simpa using this
theorem Own.sc{E:Env}{h:ag}{e z lo n:Nat}{cs:List Value}{v:Value}(hW:WF E h)(H:Own h e z lo n cs v):Go.Tm.sc h.next v=true:=by
 rcases H with⟨rfl,_⟩|⟨b,cap,rest,fx,rfl,hg,_⟩
 ·rfl
 ·simp only[Go.Tm.sc];simpa using(hW.live _ _ hg).2
theorem Own.at{h h':ag}{e z lo n:Nat}{cs:List Value}{v:Value}(H:Own h e z lo n cs v)(k:∀b o,b∈slB v->h.get b=some o->h'.get b=some o):Own h' e z lo n cs v:=by
 rcases H with H|⟨b,cap,rest,fx,rfl,h2,h3⟩
 ·exact .inl H
 ·exact .inr ⟨b,cap,rest,fx,rfl,k _ _ OA h2,h3⟩
theorem Own.spot{h:ag}{e z lo n:Nat}{cs:List Value}{v:Value}(H:Own h e z lo n cs v):∀a k c,v=.slice (some a) k c->a.spot=none:=by
 intro a k c e1;rcases H with⟨rfl,_⟩|⟨b,cap,rest,fx,rfl,_⟩
 ·cases e1
 ·injection e1 with e1;injection e1 with e1;subst e1;rfl
theorem Own.low{h:ag}{e z lo lo' n:Nat}{cs:List Value}{v:Value}(H:Own h e z lo n cs v)(hl:lo'<=lo):Own h e z lo' n cs v:=by
 rcases H with H|⟨b,cap,rest,fx,a1,a2,a3,a4,a5,a6,a7⟩
 ·exact .inl H
 ·exact .inr ⟨b,cap,rest,fx,a1,a2,a3,a4,a5,Nr,a7⟩
theorem KW.app{E:Env}{h0 h h':ag}{e z lo n m:Nat}{cs cs':List Value}{v v':Value}(hk:KW E h0 h)(h0w:WF E h0)(H:Own h e z lo n cs v)(a:Apd E h h' e z lo m cs' v v')(hl:h0.next<=lo:=by omega):KW E h0 h' :=
 ⟨⟨λb o hb=>a.get b o (hk.k.get b o hb) λhs=>by
  have h1:=H.lt hk.w b hs;have h2:=(h0w.live b o hb).2
  omega,Nat.le_trans hk.k.next a.next⟩,a.wf⟩
theorem Own.frz{E:Env}{G:Mem}{h h':ag}{e z n:Nat}{cs:List Value}{v:Value}(hW:WF E h)(hG:Frz E G h)(k:KW E h h')(H:Own h' e z h.next n cs v):∃G',Fz E G' z n cs v/\Ext E G h G' h':=by obtain⟨G',h1,h2⟩:=Own.freeze hW hG (Nat.le_refl _) k.k k.w H;exact⟨G',H.fz k.w h1,h2⟩
theorem Own.elem{E:Env}{h:ag}{e z lo n:Nat}{cs:List Value}{v:Value}(hW:WF E h)(H:Own h e z lo n cs v){i:Nat}(hi:i<n):∃b c,v=.slice (some ⟨b,0,none⟩) n c/\cg E h ⟨b,i*z,none⟩ z=some ((cs.drop (i*z)).take z):=by
 rcases H with⟨_,h1,_⟩|⟨b,cap,rest,fx,rfl,hg,hc1,hc2,hc3,hc4,hc5⟩
 ·omega
 ·refine⟨b,cap,rfl,?_⟩;have h1:i*z+z<=n*z:=by have:(i+1)*z<=n*z:=Nat.mul_le_mul_right z Nr;rw[Nat.add_mul]at this;omega
  unfold cg;simp only[hg];rw[if_neg Oh,if_pos N0,List.drop_append_of_le_length Nr,List.take_append_of_le_length Oi]
theorem Ext.iY{E:Env}{G G':Mem}{h h':ag}{e z n:Nat}{cs:List Value}{v:Value}(X:Ext E G h G' h')(H:Own h' e z h.next n cs v):∃G'',Fz E G'' z n cs v/\Ext E G h G'' h'/\Sub G' G''/\∀b c,G'' b=some c->G' b=some c\/b∈slB v:=by
 rcases H with⟨rfl,rfl,rfl⟩|⟨b,cap,rest,fx,rfl,hg,hc1,hc2,hc3,hc4,hc5⟩
 ·exact⟨G',Fz.nil,X,Sub.refl _,λb c h=>.inl h⟩
 ·have hs:Sub G' (λj=>if j=b then some (cs++rest) else G' j):=by
   intro j c hj;show(if j=b then some (cs++rest) else G' j)=some c;by_cases e1:j=b
   ·subst e1;obtain⟨e',fx',hh⟩:=X.frz j c hj;rw[hg]at hh;injection hh with hh;injection hh with hh;rw[if_pos rfl,hh]
   ·rw[if_neg e1];exact hj
  have hnb:¬b<E.base:=by have:=X.wf.nlt hg;simpa using this
  refine⟨λj=>if j=b then some (cs++rest) else G' j,⟨⟨some ⟨b,0,none⟩,cap,rfl,hc3,hc5,⟨λx=>Oy,λb' e=>.inr ⟨cs++rest,On⟩⟩,.inr ⟨_,rfl,?_⟩⟩,λa k c e=>N9⟩,⟨X.sub.trans hs,?_,?_,X.aK,X.wf⟩,hs,?_⟩
  ·unfold eo;rw[if_neg (by have:=X.wf.nlt hg;simpa using this)];simp only[if_true];rw[if_pos PO];simp[<-hc1]
  ·intro j c hj;replace hj:(if j=b then some (cs++rest) else G' j)=some c:=hj;split at hj
   ·rename_i e1;subst e1;injection hj with hj;subst hj;exact⟨_,_,hg⟩
   ·exact X.frz j c hj
  ·intro j c hj;replace hj:(if j=b then some (cs++rest) else G' j)=some c:=hj;split at hj
   ·rename_i e1;right;omega
   ·exact X.new j c hj
  ·intro j c hj;replace hj:(if j=b then some (cs++rest) else G' j)=some c:=hj;split at hj
   ·rename_i e1;subst e1;right;simp[slB]
   ·exact .inl hj
theorem Fz.cut{E:Env}{P:Program}{G:Mem}{t e z:TypeId}(hu:P.underlying t=some (.slice e))(hz:asz P e=some z){n:Nat}{cs:List Value}{v:Value}(hs:Fz E G z n cs v){lo hi:Option Value}{l h:Nat}
 (hh:∀c,n<=c->lk hi n c=some h) (hl:lk lo 0 h=some l) (hlh:l<=h) (hhn:h<=n) :
 ∃y,asl P t v lo hi=some y/\Sl E G z (h-l) ((cs.drop (l*z)).take ((h-l)*z)) y:=by
 obtain⟨⟨a,c,rfl,h1,h2,h3,h4⟩,hsp⟩:=hs;unfold asl;rw[hu];simp only[hh c h1,hl,hz]
 cases a with
 |none =>have hc0:=h3.1 rfl;subst hc0;have hn0:n=0:=Nr;subst hn0;have:h-l=0:=Nr;rw[this];exact⟨_,rfl,_,_,rfl,Nr,Nr,⟨λ_=>Nr,λ_ x=>Oy⟩,.inl ⟨rfl,Nw⟩⟩
 | some a =>
   have hsp':=(hsp a n c rfl).1;simp only[hsp'];by_cases hc:l<c
   ·rw[if_pos hc];refine⟨_,rfl,_,_,rfl,Nr,Nr,⟨λx=>Oy,λb e=>?_⟩,?_⟩
    ·injection e with e;subst e;exact h3.2 a rfl
    ·rcases h4 with⟨h5,h6⟩|⟨b,h5,h6⟩
     ·left;subst h6;exact⟨Nr,Nw⟩
     ·injection h5 with h5;subst h5;right;refine⟨_,rfl,?_⟩;have:=rP h6 (i:=l*z) (m:=(h-l)*z) (by rw[<-Nat.add_mul];exact Nat.mul_le_mul_right z (by omega));simp only[fQ]at this|-;exact this
   ·rw[if_neg hc,if_pos Nr];have:h-l=0:=Nr;rw[this];refine⟨_,rfl,_,_,rfl,Nr,Nr,⟨λx=>Oy,λb e=>?_⟩,.inl ⟨rfl,Nw⟩⟩
    ·injection e with e;subst e;exact h3.2 a rfl
theorem Fz.from{t e z:TypeId}(hu:P.underlying t=some (.slice e))(hz:asz P e=some z)(hs:Fz E G z n cs v)(hc:cs.length=n*z)(hk:k<=n) :
 ∃a c,asl P t v (some (.int .i64 (k:Int))) none=some (.slice a (n-k) c)/\Sl E G z (n-k) (cs.drop (k*z)) (.slice a (n-k) c):=by
 obtain⟨y,h1,h2⟩:=hs.cut (lo:=some (.int .i64 (k:Int))) (hi:=none) (l:=k) (h:=n) hu hz (λc _=>rfl) (by unfold lk;simp only;rw[if_pos (by omega)];simp) hk (Nat.le_refl _);obtain⟨a,c,rfl,_⟩:=h2.slice;rw[List.take_of_length_le (by rw[List.length_drop,hc,<-Nat.sub_mul];exact Nat.le_refl _)]at h2;exact⟨a,c,h1,h2⟩
theorem Fz.upto{t e z:TypeId}(hu:P.underlying t=some (.slice e))(hz:asz P e=some z)(hs:Fz E G z n cs v)(hk:k<=n) :
 ∃a c,asl P t v none (some (.int .i64 (k:Int)))=some (.slice a k c)/\Sl E G z k (cs.take (k*z)) (.slice a k c):=by
 obtain⟨y,h1,h2⟩:=hs.cut (lo:=none) (hi:=some (.int .i64 (k:Int))) (l:=0) (h:=k) hu hz (λc hc=>by unfold lk;simp only;rw[if_pos Nr];simp) rfl Nr hk;rw[Nat.sub_zero,Nat.zero_mul,List.drop_zero]at h2;obtain⟨a,c,rfl,_⟩:=h2.slice;exact⟨a,c,h1,h2⟩
end Go.Tm
namespace Vr
structure Ent where
 c:Nat
 n:Nat
 t:ByteArray deriving Inhabited,DecidableEq
structure Rpl where
 e:Nat
 n:Nat deriving Inhabited,DecidableEq
structure La where
 c:Nat
 n:Nat
 r:Rpl deriving Inhabited,DecidableEq
structure Mg where
 k:Nat:=0
 fr:Nat:=0
 to:Nat:=0
 vw:Nat:=0
 op:Nat:=0
 cm:Nat:=0
 bs:Nat:=0
 nm:Nat:=0
 nc:Nat:=0
 log:List Ent:=[]
 img:List UInt8:=[]
 en:Ent:=⟨0,0,.empty⟩
 rp:Rpl:=⟨0,0⟩ deriving Inhabited,DecidableEq
structure Sv where
 l:List Ent
 tab:List La deriving Inhabited,DecidableEq
structure PR where
 me:Nat
 n:Nat
 vw:Nat
 st:Nat
 nm:Nat
 bs:Nat
 cm:Nat
 nc:Nat
 log:List Ent
 sv:Sv
 told:List Nat
 aG:List Bool
 aJ:Bool
 aH:List Mg
 ans:List Mg deriving Inhabited
def PR.new(me n:Nat):PR:=⟨me,n,0,0,0,0,0,0,[],⟨[],[]⟩,List.replicate n 0,List.replicate n false,false,List.replicate n {},List.replicate n {}⟩
def PR.op(P:PR):Nat:=P.bs+P.log.length
def PR.F(P:PR):Nat:=(P.n-1)/2
def PR.bF(P:PR):Bool:=P.vw%P.n==P.me
def PR.toM(P:PR)(m:Mg)(i:Nat):Mg:={m with fr:=P.me,to:=i}
def qZ(P:PR)(m:Mg)(i:Nat):List Mg:=((List.range i).filter λj=>j != P.me).map (P.toM m)
def PR.allM(P:PR)(m:Mg):List Mg:=qZ P m P.n
theorem qY(P:PR)(m:Mg)(i:Nat):qZ P m (i+1)=qZ P m i++if i=P.me then [] else [P.toM m i]:=by unfold qZ;rw[List.range_succ,List.filter_append,List.map_append];congr 1;by_cases h:i=P.me<;>simp[h]
theorem iQ(P:PR)(m:Mg)(i:Nat):(qZ P m i).length<=i:=by unfold qZ;rw[List.length_map];exact Nat.le_trans (List.length_filter_le _ _) Nw
def bt:List La->Nat->Option La
 |[],_=>none
 |x::l,c=>if x.c=c then some x else bt l c
def placeOf(c:Nat):List La->Nat->Nat->Nat
 |[],_,at_=>at_
 |x::l,i,at_=>placeOf c l (i+1) (if x.c<c then i+1 else at_)
def bq(s:Sv)(e:Ent):Sv×Rpl :=
 let go (k:Nat):Sv×Rpl :=
  let r:Rpl:=⟨0,s.l.length+1⟩;let a:=placeOf e.c s.tab 0 0
  (⟨s.l++[e],s.tab.take a++[⟨e.c,e.n,r⟩]++s.tab.drop (a+k)⟩,r)
 match bt s.tab e.c with
 |none=>go 0
 |some x=>if e.n<x.n then(s,⟨19,0⟩) else if e.n=x.n then(s,x.r) else go 1
def br(P:PR)(e:Ent):PR×List Mg :=
 let a:=bq P.sv e;let Q:={P with sv:=a.1,cm:=P.cm+1}
 (Q,if P.st=0/\P.bF then [P.toM {k:=12,en:=⟨e.c,e.n,.empty⟩,rp:=a.2} (100+e.c)] else [])
def dt:List Ent->PR->PR×List Mg
 |[],P=>(P,[])
 |e::l,P=>let a:=br P e;let b:=dt l a.1;(b.1,a.2++b.2)
def PR.todo(P:PR)(k:Nat):List Ent:=(P.log.drop (P.cm-P.bs)).take (k-P.cm)
def aq(P:PR)(k:Nat):PR×List Mg:=dt (P.todo k) P
def dv(P:PR)(k:Nat):List Ent:=P.log.drop (k-P.bs)
def request(P:PR)(m:Mg):PR×List Mg :=
 if P.st≠0\/!P.bF then(P,[]) else
 let e:=m.en
 let go:PR×List Mg :=
  if (P.log.drop (P.cm-P.bs)).any (λx=>x.c==e.c&&decide (e.n<=x.n)) then(P,[]) else
  let Q:={P with log:=P.log++[e]}
  (Q,Q.allM {k:=2,vw:=P.vw,op:=Q.op,cm:=P.cm,en:=e})
 match bt P.sv.tab e.c with
 |none=>go
 |some x=>if e.n<x.n then(P,[]) else if e.n=x.n then(P,[P.toM {k:=12,en:=⟨e.c,e.n,.empty⟩,rp:=x.r} (100+e.c)]) else go
def ask(P:PR)(v op fr:Nat):List Mg:=[P.toM {k:=10,vw:=v,op:=op} fr]
def lv(P:PR)(k:Nat):Nat:=((List.range P.n).filter λi=>i != P.me&&decide (k<=P.told.getD i 0)).length
def gV(P:PR):Nat->Nat->Nat->Nat
 |0,_,b=>b
 |n+1,k,b=>gV P n (k+1) (if P.F<=lv P k then k else b)
def aX(P:PR)(m:Mg):PR×List Mg :=
 if P.st≠0 then(P,[]) else
 if m.k=3 then
  if !P.bF\/m.vw≠P.vw then(P,[]) else
  let Q:={P with told:=P.told.set m.fr (max (P.told.getD m.fr 0) m.op)}
  aq Q (gV Q (P.op-P.cm) (P.cm+1) 0)
 else if m.vw<P.vw then(P,[])
 else if P.vw<m.vw then(P,ask P m.vw P.cm m.fr)
 else if P.bF then(P,[])
 else if m.k=4 then
  if P.op<m.cm then(P,ask P P.vw P.op m.fr) else aq P m.cm
 else if P.op+1<m.op then(P,ask P P.vw P.op m.fr)
 else
  let Q:=if m.op=P.op+1 then {P with log:=P.log++[m.en]} else P;let a:=aq Q m.cm
  (a.1,a.2++[a.1.toM {k:=3,vw:=a.1.vw,op:=a.1.op} m.fr])
def idle(P:PR):List Mg :=
 if P.st≠0\/!P.bF then [] else
 if P.cm<P.op then P.allM {k:=2,vw:=P.vw,op:=P.op,cm:=P.cm,en:=P.log.getLastD ⟨0,0,.empty⟩}
 else P.allM {k:=4,vw:=P.vw,cm:=P.cm}
end Vr
namespace Go.Tm
open Vr
abbrev zCR:List Value:=[.int .i64 0,.int .i64 0,.int .i64 0,.int .i64 0,.int .i64 0,.int .i64 0,.int .i64 0,.int .i64 0,.slice none 0 0,.bool false,.slice none 0 0,.slice none 0 0,.slice none 0 0,.slice none 0 0,.slice none 0 0,.bool false,.slice none 0 0,.slice none 0 0]
abbrev zCG:List Value:=[.slice none 0 0,.slice none 0 0,.slice none 0 0,.slice none 0 0,.int .i64 0]
abbrev zCS:List Value:=[.bool false,.slice none 0 0,.slice none 0 0,.slice none 0 0]
abbrev iv(n:Nat):Value:=.int .i64 (n:Int)
def fo(e:Ent):List Value:=[iv e.c,iv e.n,.string e.t]
def cq(l:List Ent):List Value:=l.flatMap fo
def bT(l:List Nat):List Value:=l.map iv
def cF(l:List Bool):List Value:=l.map .bool
def cM(l:List UInt8):List Value:=l.map λc=>.int .u8 (c.toNat:Int)
theorem cB(l:List Ent):(cq l).length=l.length*3:=by
 induction l with
 |nil=>rfl
 |cons x l ih=>simp only[cq,List.flatMap_cons,List.length_append,List.length_cons]at ih|-;rw[ih];simp[fo];omega
theorem fk(l l':List Ent):cq (l++l')=cq l++cq l':=by simp[cq]
theorem jz(e:Ent)(l:List Ent):cq (e::l)=fo e++cq l:=by simp[cq]
theorem eU:∀{l:List Ent} {i:Nat} {e:Ent},l[i]? = some e->((cq l).drop (i*3)).take 3=fo e
 | x::l,0,e,h=>by
   injection h with h;subst h;rfl
 | x::l,i+1,e,h=>by
   have:=eU (l:=l) (i:=i) (e:=e) Ot;rw[jz,show(i+1)*3=(fo x).length+i*3 by simp[fo];omega,<-List.drop_drop,List.drop_left]
   ·exact this
theorem eC:∀(l:List Ent) (i:Nat),(cq l).drop (i*3)=cq (l.drop i)
 |[],i=>by simp[cq]
 |x::l,0=>Nw
 | x::l,i+1=>by
   rw[jz,show(i+1)*3=(fo x).length+i*3 by simp[fo];omega,<-List.drop_drop,List.drop_left,eC];rfl
theorem jy:∀(l:List Ent) (i:Nat),(cq l).take (i*3)=cq (l.take i)
 |[],i=>by simp[cq]
 |x::l,0=>by simp[cq]
 | x::l,i+1=>by
   rw[jz,show(i+1)*3=(fo x).length+i*3 by simp[fo];omega,List.take_length_add_append,jy,List.take_succ_cons,jz]
theorem de:∀(l:List Ent),(cq l).all Value.oneCell'=true
 |[]=>rfl
 |x::l=>by rw[jz,List.all_append,de l];rfl
def MgR(E:Env)(G:Mem)(m:Mg)(cs:List Value):Prop :=
 ∃sl si sd,cs=[iv m.k,iv m.fr,iv m.to,iv m.vw,iv m.op,iv m.cm,iv m.bs,iv m.nm,iv m.nc,sl,si,iv m.en.c,iv m.en.n,.string m.en.t,iv m.rp.e,iv m.rp.n,sd] /\
  Fz E G 3 m.log.length (cq m.log) sl/\Fz E G 1 m.img.length (cM m.img) si/\Fz E G 5 0 [] sd
def bu(E:Env)(G:Mem):List Mg->List Value->Prop
 |[],c=>c=[]
 |v::l,c=>∃c1 c2,c=c1++c2/\MgR E G v c1/\bu E G l c2
def LaR(E:Env)(G:Mem)(x:La)(cs:List Value):Prop:=∃sd,cs=[iv x.c,iv x.n,iv x.r.e,iv x.r.n,sd]/\Fz E G 5 0 [] sd
def fZ(E:Env)(G:Mem):List La->List Value->Prop
 |[],c=>c=[]
 |v::l,c=>∃c1 c2,c=c1++c2/\LaR E G v c1/\fZ E G l c2
def SvR(E:Env)(G:Mem)(s:Sv)(cs:List Value):Prop :=
 ∃sl st ct,cs=[.bool false,sl,.slice none 0 0,st]/\Fz E G 3 s.l.length (cq s.l) sl/\Fz E G 5 s.tab.length ct st/\fZ E G s.tab ct
def PRR(E:Env)(G:Mem)(P:PR)(cs:List Value):Prop :=
 ∃sl ss stl sv sc sa cc ca,cs=[iv P.me,iv P.n,iv P.vw,iv P.st,iv P.nm,iv P.bs,iv P.cm,iv P.nc,sl]++ss++[stl,sv,.bool P.aJ,sc,sa] /\
  Fz E G 3 P.log.length (cq P.log) sl/\SvR E G P.sv ss/\Fz E G 1 P.told.length (bT P.told) stl/\Fz E G 1 P.aG.length (cF P.aG) sv /\
  Fz E G 17 P.aH.length cc sc/\bu E G P.aH cc/\Fz E G 17 P.ans.length ca sa/\bu E G P.ans ca
theorem MgR.e{E:Env}{G:Mem}{m:Mg}{cs:List Value}(h:MgR E G m cs):∃a1 c1 a2 c2 a3 c3,cs=[iv m.k,iv m.fr,iv m.to,iv m.vw,iv m.op,iv m.cm,iv m.bs,iv m.nm,iv m.nc,.slice a1 m.log.length c1,.slice a2 m.img.length c2,iv m.en.c,iv m.en.n,.string m.en.t,iv m.rp.e,iv m.rp.n,.slice a3 0 c3] /\
 Fz E G 3 m.log.length (cq m.log) (.slice a1 m.log.length c1)/\Fz E G 1 m.img.length (cM m.img) (.slice a2 m.img.length c2)/\Fz E G 5 0 [] (.slice a3 0 c3):=by
 obtain⟨_,_,_,rfl,h1,h2,h3⟩:=h;obtain⟨a1,c1,rfl,_⟩:=h1.slice;obtain⟨a2,c2,rfl,_⟩:=h2.slice;obtain⟨a3,c3,rfl,_⟩:=h3.slice;exact⟨_,_,_,_,_,_,rfl,h1,h2,h3⟩
theorem SvR.e{E:Env}{G:Mem}{s:Sv}{cs:List Value}(h:SvR E G s cs):∃a1 c1 a2 c2 ct,cs=[.bool false,.slice a1 s.l.length c1,.slice none 0 0,.slice a2 s.tab.length c2] /\
 Fz E G 3 s.l.length (cq s.l) (.slice a1 s.l.length c1)/\Fz E G 5 s.tab.length ct (.slice a2 s.tab.length c2)/\fZ E G s.tab ct:=by
 obtain⟨_,_,_,rfl,h1,h2,h3⟩:=h;obtain⟨a1,c1,rfl,_⟩:=h1.slice;obtain⟨a2,c2,rfl,_⟩:=h2.slice;exact⟨_,_,_,_,_,rfl,h1,h2,h3⟩
theorem PRR.e{E:Env}{G:Mem}{P:PR}{cs:List Value}(h:PRR E G P cs):∃a1 c1 a2 c2 a3 c3 a4 c4 a5 c5 a6 c6 a7 c7 ct cc ca,
 cs=[iv P.me,iv P.n,iv P.vw,iv P.st,iv P.nm,iv P.bs,iv P.cm,iv P.nc,.slice a1 P.log.length c1,.bool false,.slice a2 P.sv.l.length c2,.slice none 0 0,.slice a3 P.sv.tab.length c3,.slice a4 P.told.length c4,.slice a5 P.aG.length c5,.bool P.aJ,.slice a6 P.aH.length c6,.slice a7 P.ans.length c7] /\
 Fz E G 3 P.log.length (cq P.log) (.slice a1 P.log.length c1) /\
 (Fz E G 3 P.sv.l.length (cq P.sv.l) (.slice a2 P.sv.l.length c2)/\Fz E G 5 P.sv.tab.length ct (.slice a3 P.sv.tab.length c3)/\fZ E G P.sv.tab ct) /\
 Fz E G 1 P.told.length (bT P.told) (.slice a4 P.told.length c4)/\Fz E G 1 P.aG.length (cF P.aG) (.slice a5 P.aG.length c5) /\
 (Fz E G 17 P.aH.length cc (.slice a6 P.aH.length c6)/\bu E G P.aH cc)/\(Fz E G 17 P.ans.length ca (.slice a7 P.ans.length c7)/\bu E G P.ans ca):=by
 obtain⟨_,_,_,_,_,_,_,_,rfl,h1,h2,h3,h4,h5,h6,h7,h8⟩:=h;obtain⟨a2,c2,a3,c3,ct,rfl,h9⟩:=h2.e;obtain⟨a1,c1,rfl,_⟩:=h1.slice;obtain⟨a4,c4,rfl,_⟩:=h3.slice;obtain⟨a5,c5,rfl,_⟩:=h4.slice;obtain⟨a6,c6,rfl,_⟩:=h5.slice;obtain⟨a7,c7,rfl,_⟩:=h7.slice;exact⟨_,_,_,_,_,_,_,_,_,_,_,_,_,_,_,_,_,rfl,h1,h9,h3,h4,⟨h5,h6⟩,h7,h8⟩
theorem PRR.of{E:Env}{G:Mem}{P:PR}{sl sv2 st stl sv sc sa:Value}{ct cc ca:List Value}(h1:Fz E G 3 P.log.length (cq P.log) sl)(h2:Fz E G 3 P.sv.l.length (cq P.sv.l) sv2)(h3:Fz E G 5 P.sv.tab.length ct st)(h4:fZ E G P.sv.tab ct)
 (h5:Fz E G 1 P.told.length (bT P.told) stl) (h6:Fz E G 1 P.aG.length (cF P.aG) sv) (h7:Fz E G 17 P.aH.length cc sc/\bu E G P.aH cc) (h8:Fz E G 17 P.ans.length ca sa/\bu E G P.ans ca) :
 PRR E G P [iv P.me,iv P.n,iv P.vw,iv P.st,iv P.nm,iv P.bs,iv P.cm,iv P.nc,sl,.bool false,sv2,.slice none 0 0,st,stl,sv,.bool P.aJ,sc,sa] :=
 ⟨sl,[.bool false,sv2,.slice none 0 0,st],stl,sv,sc,sa,cc,ca,rfl,h1,⟨_,_,_,rfl,h2,h3,h4⟩,h5,h6,h7.1,h7.2,h8.1,h8.2⟩
theorem MgR.len{E:Env}{G:Mem}{m:Mg}{c:List Value}(h:MgR E G m c):c.length=17:=by obtain⟨_,_,_,rfl,_⟩:=h;rfl
theorem LaR.len{E:Env}{G:Mem}{m:La}{c:List Value}(h:LaR E G m c):c.length=5:=by obtain⟨_,rfl,_⟩:=h;rfl
theorem SvR.len{E:Env}{G:Mem}{m:Sv}{c:List Value}(h:SvR E G m c):c.length=4:=by obtain⟨_,_,_,rfl,_⟩:=h;rfl
theorem PRR.len{E:Env}{G:Mem}{m:PR}{c:List Value}(h:PRR E G m c):c.length=18:=by obtain⟨_,ss,_,_,_,_,_,_,rfl,_,h,_⟩:=h;simp[h.len]
theorem MgR.nj{E:Env}{G:Mem}{m:Mg}{c:List Value}(h:MgR E G m c):c.all Value.oneCell'=true:=by obtain⟨_,_,_,_,_,_,rfl,_⟩:=h.e;rfl
theorem bu.nj{E:Env}{G:Mem}:∀{l:List Mg} {c:List Value},bu E G l c->c.all Value.oneCell'=true
 |[],c,h=>Pe
 | v::l,c,h=>by
   obtain⟨c1,c2,rfl,h1,h2⟩:=h;rw[List.all_append,h1.nj,h2.nj];rfl
theorem LaR.nj{E:Env}{G:Mem}{m:La}{c:List Value}(h:LaR E G m c):c.all Value.oneCell'=true:=by obtain⟨_,rfl,h⟩:=h;obtain⟨_,_,rfl,_⟩:=h.slice;rfl
theorem fZ.nj{E:Env}{G:Mem}:∀{l:List La} {c:List Value},fZ E G l c->c.all Value.oneCell'=true
 |[],c,h=>Pe
 | v::l,c,h=>by
   obtain⟨c1,c2,rfl,h1,h2⟩:=h;rw[List.all_append,h1.nj,h2.nj];rfl
theorem bu.len{E:Env}{G:Mem}:∀{l:List Mg} {c:List Value},bu E G l c->c.length=l.length*17
 |[],c,h=>Pe
 | v::l,c,h=>by
   obtain⟨c1,c2,rfl,h1,h2⟩:=h;rw[List.length_append,h1.len,h2.len,List.length_cons];omega
theorem fZ.len{E:Env}{G:Mem}:∀{l:List La} {c:List Value},fZ E G l c->c.length=l.length*5
 |[],c,h=>Pe
 | v::l,c,h=>by
   obtain⟨c1,c2,rfl,h1,h2⟩:=h;rw[List.length_append,h1.len,h2.len,List.length_cons];omega
theorem bu.at{E:Env}{G:Mem}:∀{l:List Mg} {c:List Value},bu E G l c->∀(i:Nat) (v:Mg),l[i]? = some v->MgR E G v ((c.drop (i*17)).take 17)
 | v::l,c,h,0,x,hx=>by
   obtain⟨c1,c2,rfl,h1,h2⟩:=h;injection hx with hx;subst hx;simp[List.take_left' h1.len,h1]
 | v::l,c,h,i+1,x,hx=>by
   obtain⟨c1,c2,rfl,h1,h2⟩:=h;rw[show(i+1)*17=c1.length+i*17 by rw[h1.len];omega,<-List.drop_drop,List.drop_left];exact bu.at h2 i x NW
theorem fZ.at{E:Env}{G:Mem}:∀{l:List La} {c:List Value},fZ E G l c->∀(i:Nat) (v:La),l[i]? = some v->LaR E G v ((c.drop (i*5)).take 5)
 | v::l,c,h,0,x,hx=>by
   obtain⟨c1,c2,rfl,h1,h2⟩:=h;injection hx with hx;subst hx;simp[List.take_left' h1.len,h1]
 | v::l,c,h,i+1,x,hx=>by
   obtain⟨c1,c2,rfl,h1,h2⟩:=h;rw[show(i+1)*5=c1.length+i*5 by rw[h1.len];omega,<-List.drop_drop,List.drop_left];exact fZ.at h2 i x NW
theorem bu.app{E:Env}{G:Mem}:∀{l l':List Mg} {c c':List Value},bu E G l c->bu E G l' c'->bu E G (l++l') (c++c')
 |[],_,c,_,h,h'=>by rw[show c=[] from h];exact h'
 | v::l,l',c,c',h,h'=>by
   obtain⟨c1,c2,rfl,h1,h2⟩:=h;exact⟨c1,c2++c',Nw,h1,h2.app h'⟩
theorem fZ.app{E:Env}{G:Mem}:∀{l l':List La} {c c':List Value},fZ E G l c->fZ E G l' c'->fZ E G (l++l') (c++c')
 |[],_,c,_,h,h'=>by rw[show c=[] from h];exact h'
 | v::l,l',c,c',h,h'=>by
   obtain⟨c1,c2,rfl,h1,h2⟩:=h;exact⟨c1,c2++c',Nw,h1,h2.app h'⟩
theorem bu.one{E:Env}{G:Mem}{v:Mg}{c:List Value}(h:MgR E G v c):bu E G [v] c:=⟨c,[],Nw,h,rfl⟩
theorem fZ.one{E:Env}{G:Mem}{v:La}{c:List Value}(h:LaR E G v c):fZ E G [v] c:=⟨c,[],Nw,h,rfl⟩
theorem fZ.drop{E:Env}{G:Mem}:∀{l:List La} {c:List Value},fZ E G l c->∀i,fZ E G (l.drop i) (c.drop (i*5))
 |[],c,h,i=>by rw[show c=[] from h];simp[fZ]
 |v::l,c,h,0=>Ot
 | v::l,c,h,i+1=>by
   obtain⟨c1,c2,rfl,h1,h2⟩:=h;rw[show(i+1)*5=c1.length+i*5 by rw[h1.len];omega,List.drop_length_add_append];exact h2.drop i
theorem fZ.take{E:Env}{G:Mem}:∀{l:List La} {c:List Value},fZ E G l c->∀i,fZ E G (l.take i) (c.take (i*5))
 |[],c,h,i=>by rw[show c=[] from h];simp[fZ]
 |v::l,c,h,0=>by simp[fZ]
 | v::l,c,h,i+1=>by
   obtain⟨c1,c2,rfl,h1,h2⟩:=h;rw[show(i+1)*5=c1.length+i*5 by rw[h1.len];omega,List.take_length_add_append];exact⟨c1,_,rfl,h1,h2.take i⟩
theorem bu.drop{E:Env}{G:Mem}:∀{l:List Mg} {c:List Value},bu E G l c->∀i,bu E G (l.drop i) (c.drop (i*17))
 |[],c,h,i=>by rw[show c=[] from h];simp[bu]
 |v::l,c,h,0=>Ot
 | v::l,c,h,i+1=>by
   obtain⟨c1,c2,rfl,h1,h2⟩:=h;rw[show(i+1)*17=c1.length+i*17 by rw[h1.len];omega,List.drop_length_add_append];exact h2.drop i
theorem MgR.sub{E:Env}{G G':Mem}(s:Sub G G'){m:Mg}{c:List Value}(h:MgR E G m c):MgR E G' m c:=by obtain⟨a,b,d,e,h1,h2,h3⟩:=h;exact⟨a,b,d,e,h1.sub s,h2.sub s,h3.sub s⟩
theorem bu.sub{E:Env}{G G':Mem}(s:Sub G G'):∀{l:List Mg} {c:List Value},bu E G l c->bu E G' l c
 |[],_,h=>h
 | v::l,c,h=>by
   obtain⟨c1,c2,rfl,h1,h2⟩:=h;exact⟨c1,c2,rfl,h1.sub s,h2.sub s⟩
theorem LaR.sub{E:Env}{G G':Mem}(s:Sub G G'){m:La}{c:List Value}(h:LaR E G m c):LaR E G' m c:=by obtain⟨a,e,h1⟩:=h;exact⟨a,e,h1.sub s⟩
theorem fZ.sub{E:Env}{G G':Mem}(s:Sub G G'):∀{l:List La} {c:List Value},fZ E G l c->fZ E G' l c
 |[],_,h=>h
 | v::l,c,h=>by
   obtain⟨c1,c2,rfl,h1,h2⟩:=h;exact⟨c1,c2,rfl,h1.sub s,h2.sub s⟩
theorem SvR.sub{E:Env}{G G':Mem}(s:Sub G G'){m:Sv}{c:List Value}(h:SvR E G m c):SvR E G' m c:=by obtain⟨a,b,d,e,h1,h2,h3⟩:=h;exact⟨a,b,d,e,h1.sub s,h2.sub s,h3.sub s⟩
theorem PRR.sub{E:Env}{G G':Mem}(s:Sub G G'){m:PR}{c:List Value}(h:PRR E G m c):PRR E G' m c:=by obtain⟨a,b,d,e,f,g,i,j,k,h1,h2,h3,h4,h5,h6,h7,h8⟩:=h;exact⟨a,b,d,e,f,g,i,j,k,h1.sub s,h2.sub s,h3.sub s,h4.sub s,h5.sub s,h6.sub s,h7.sub s,h8.sub s⟩
end Go.Tm
namespace Go.Proofs.YthbjaiilnkakcaaGreatDoor
open Go.Tm Vr
variable{a b:Nat}{m:Mg}{ms:List Value}
theorem Kv(h:a+b<=9223372036854775807):(Value.int .i64 (IntKind.i64.wrap ((a:Int)+(b:Int))))=iv (a+b):=by rw[cx Nr Nr];rfl
theorem bk(h:a+1<=9223372036854775807):(Value.int .i64 (IntKind.i64.wrap ((a:Int)+1)))=iv (a+1):=by rw[cx Nr Nr];rfl
theorem iu(h:a<=9223372036854775807)(hb:b<=a):(Value.int .i64 (IntKind.i64.wrap ((a:Int)-(b:Int))))=iv (a-b):=by rw[cx Nr Nr];congr 1;omega
variable{E:Env}(hE:EOk E)
include hE
section
variable{G:Mem}{h:ag}(hW:WF E h){P:PR}{cs:List Value}(hP:PRR E G P cs)
include hW hP
theorem dK(hb:P.bs<=1099511627776)(hl:P.log.length<=1099511627776):af E 56 [.agg cs.toArray] h λv h'=>v=iv P.op/\KW E h h':=by obtain⟨a1,c1,a2,c2,a3,c3,a4,c4,a5,c5,a6,c6,a7,c7,ct,cc,ca,rfl,hP⟩:=hP.e;refine en hE Tryz.func56 rfl rfl Tryz.ntmps56 rfl Nv (rs:=[.tmp 2]) rfl ?_;simp only[push_cast,seval,hE.z,hW.b0];exact⟨Kv Nr,(by repeat (first|assumption|exact KW.refl hW|apply KW.push|refine KW.put ?_ NB NB hW))⟩
theorem C9(hn:1<=P.n/\P.n<=1000):af E 93 [.agg cs.toArray] h λv h'=>v=iv P.F/\KW E h h':=by obtain⟨a1,c1,a2,c2,a3,c3,a4,c4,a5,c5,a6,c6,a7,c7,ct,cc,ca,rfl,hP⟩:=hP.e;refine en hE Tryz.func93 rfl rfl Tryz.ntmps93 rfl Nv (rs:=[.tmp 2]) rfl ?_;simp only[push_cast,seval,hE.z,hW.b0];refine⟨?_,(by repeat (first|assumption|exact KW.refl hW|apply KW.push|refine KW.put ?_ NB NB hW))⟩;rw[cx (x:=(P.n:Int)-1) Nr Nr,Int.tdiv_eq_ediv_of_nonneg Nr,cx Nr Nr];congr 1;unfold PR.F;omega
theorem dH(hn:1<=P.n/\P.n<=1000)(hv:P.vw<=1099511627776):af E 54 [.agg cs.toArray] h λv h'=>v=.bool P.bF/\KW E h h':=by obtain⟨a1,c1,a2,c2,a3,c3,a4,c4,a5,c5,a6,c6,a7,c7,ct,cc,ca,rfl,hP⟩:=hP.e;refine en hE Tryz.func54 rfl rfl Tryz.ntmps54 rfl Nv (rs:=[.tmp 2]) rfl ?_;simp only[push_cast,seval];refine ax Nt ?_;have hz:((P.n:Int)=0)=False:=Nu;simp only[push_cast,seval,hE.z,hW.b0,hz];refine⟨?_,(by repeat (first|assumption|exact KW.refl hW|apply KW.push|refine KW.put ?_ NB NB hW))⟩;rw[<-Int.ofNat_tmod];unfold PR.bF;congr 1;simp only[Bool.beq_eq_decide_eq,Int.natCast_inj]
theorem iU(hm:MgR E G m ms)(i:Nat):af E 62 [.agg cs.toArray,.agg ms.toArray,iv i] h λv h'=>∃r,v=.agg r.toArray/\MgR E G (P.toM m i) r/\KW E h h':=by obtain⟨a1,c1,a2,c2,a3,c3,a4,c4,a5,c5,a6,c6,a7,c7,ct,cc,ca,rfl,hP⟩:=hP.e;obtain⟨b1,d1,b2,d2,b3,d3,rfl,m1,m2,m3⟩:=hm.e;refine en hE Tryz.func62 rfl rfl Tryz.ntmps62 rfl Nv (rs:=[.cell 6 66]) rfl ?_;simp only[push_cast,seval,hE.z,hW.b0,hW.b1,hW.b2];exact⟨_,rfl,⟨_,_,_,rfl,m1,m2,m3⟩,(by repeat (first|assumption|exact KW.refl hW|apply KW.push|refine KW.put ?_ NB NB hW))⟩
theorem iq(hG:Frz E G h){k:Nat}(hk:P.bs<=k/\k<=P.op)(hl:P.op<=1099511627776):af E 64 [.agg cs.toArray,iv k] h λv h'=>Own h' 60 3 h.next (P.op-k) (cq (dv P k)) v/\KW E h h':=by
 obtain⟨a1,c1,a2,c2,a3,c3,a4,c4,a5,c5,a6,c6,a7,c7,ct,cc,ca,rfl,h1,hP⟩:=hP.e;unfold PR.op at hk hl;obtain⟨ya,yc,hy,hys⟩:=h1.from (P:=Tryz.prog) (t:=37) Tryz.underlying37 ly (cB _) (k:=k-P.bs) Nr;rw[eC]at hys;refine en hE Tryz.func64 rfl rfl Tryz.ntmps64 rfl Nv (rs:=[.tmp 4]) rfl ?_;have hw:(Value.int .i64 (IntKind.i64.wrap ((k:Int)-(P.bs:Int))))=.int .i64 ((k-P.bs:Nat):Int):=iu Nr Nr;simp only[push_cast,seval,hE.z,hW.b0];rw[hw,hy];simp only[push_cast,seval];refine ej (jS hE.P) (hW.push _) (G:=G) (hG.aK ((gu.refl h).push hW)) (lo:=h.next) Nw (Own.nil _ _ _ _) hys (by rw[cB];simp) ?_ Nr Nr ?_
 ·exact de _
 ·intro v' h' a;simp only[push_cast,seval];have e:P.log.length-(k-P.bs)=P.op-k:=NH;have ho:=a.own;rw[Nat.zero_add,e,List.nil_append]at ho;exact⟨ho,((KW.refl hW).push.app hW (Own.nil _ _ _ _) a)⟩
theorem jM(hG:Frz E G h)(hn:P.n<=1000)(hm:MgR E G m ms):af E 53 [.agg cs.toArray,.agg ms.toArray] h λv h'=>∃co,Own h' 66 17 h.next (P.allM m).length co v/\bu E G (P.allM m) co/\KW E h h':=by
 have hP0:=hP;obtain⟨a1,c1,a2,c2,a3,c3,a4,c4,a5,c5,a6,c6,a7,c7,ct,cc,ca,rfl,hP⟩:=hP.e;obtain⟨b1,d1,b2,d2,b3,d3,rfl,m1,m2,m3⟩:=hm.e;refine en hE Tryz.func53 rfl rfl Tryz.ntmps53 rfl Nv (rs:=[.tmp 4]) rfl ?_;simp only[push_cast,seval,hE.z]
 refine bG (λk tm h2=>∃i v co,k=P.n-i/\i<=P.n/\aj tm 2=.pointer (some ⟨h.next,0,none⟩)/\aj tm 3=.pointer (some ⟨h.next+1,0,none⟩)/\aj tm 6=iv i/\aj tm 5=v /\
  h2.get h.next=some (.cells [iv P.me,iv P.n,iv P.vw,iv P.st,iv P.nm,iv P.bs,iv P.cm,iv P.nc,.slice a1 P.log.length c1,.bool false,.slice a2 P.sv.l.length c2,.slice none 0 0,.slice a3 P.sv.tab.length c3,.slice a4 P.told.length c4,.slice a5 P.aG.length c5,.bool P.aJ,.slice a6 P.aH.length c6,.slice a7 P.ans.length c7] 49 true) /\
  h2.get (h.next+1)=some (.cells [iv m.k,iv m.fr,iv m.to,iv m.vw,iv m.op,iv m.cm,iv m.bs,iv m.nm,iv m.nc,.slice b1 m.log.length d1,.slice b2 m.img.length d2,iv m.en.c,iv m.en.n,.string m.en.t,iv m.rp.e,iv m.rp.n,.slice b3 0 d3] 66 true) /\
  Own h2 66 17 (h.next+2) (qZ P m i).length co v/\bu E G (qZ P m i) co/\KW E h h2/\h.next+2<=h2.next) P.n ?_ ?_
 ·simp only[push_cast,seval];exact⟨0,_,[],Nr,Nr,rfl,rfl,Own.nil _ _ _ _,rfl,(KW.refl hW).push.push⟩
 ·rintro k tm h2 ⟨i,v,co,rfl,hi,f2,f3,f6,f5,g1,g2,ho,hmo,kw,hx⟩;have nb1:=kw.w.nlt g1;have nb2:=kw.w.nlt g2;simp only[push_cast,seval,hE.z,f2,f6,g1,nb1];refine eT (λhb=>?_) (λhb=>?_)
  ·have hlt:i<P.n:=OY;simp only[push_cast,seval,hE.z,f2,f6,g1,nb1];refine eT (λhb=>?_) (λhb=>?_)
   ·simp only[push_cast,seval,hE.z,f2,f3,f6,f5,g1,g2,nb1,nb2];refine(iU hE kw.w hP0 hm i).mono ?_;rintro r h3 ⟨mc,rfl,hmc,kw3⟩;have hme:=hmc;obtain⟨e1,e2,e3,e4,e5,e6,rfl,_⟩:=hmc.e;simp only[push_cast,seval,hE.z];rw[lf rfl,aR];simp only[push_cast,seval];have ho3:=ho.aK kw3.k;have hx3:=kw3.k.next;have hlen:=iQ P m i;refine eZ (mz hE.P) kw3.w (lo:=h.next+2) Nr ho3 rfl rfl Nr Nr ?_;intro v' h4 a _;simp only[push_cast,seval,f2,f3,f6];have hs:=λb hb=>(ho3.lt kw3.w b hb).1;have g1':=a.get _ _ (kw3.k.get _ _ g1) (λhb=>by have:=hs _ hb;omega)
    have g2':=a.get _ _ (kw3.k.get _ _ g2) (λhb=>by have:=hs _ hb;omega)
    have hne:¬i=P.me:=λe=>by subst e;simp at hb
    have eF:=qY P m i;rw[if_neg hne]at eF;refine⟨P.n-(i+1),Nr,i+1,v',co++[iv (P.toM m i).k,iv (P.toM m i).fr,iv (P.toM m i).to,iv (P.toM m i).vw,iv (P.toM m i).op,iv (P.toM m i).cm,iv (P.toM m i).bs,iv (P.toM m i).nm,iv (P.toM m i).nc,.slice e1 (P.toM m i).log.length e2,.slice e3 (P.toM m i).img.length e4,iv (P.toM m i).en.c,iv (P.toM m i).en.n,.string (P.toM m i).en.t,iv (P.toM m i).rp.e,iv (P.toM m i).rp.n,.slice e5 0 e6],rfl,Nr,bk Nr,rfl,g1',g2',?_,?_,(kw.trans kw3).app hW ho3 a,by have:=a.next;omega⟩
    ·rw[eF,List.length_append];exact a.own
    ·rw[eF];exact hmo.app (bu.one hme)
   ·simp only[push_cast,seval,f2,f3,f6,f5,g1,g2];have he0:(i:Int)=P.me:=OY;have he:i=P.me:=Nr;have eF:=qY P m i;rw[if_pos he,List.append_nil]at eF;exact⟨P.n-(i+1),Nr,i+1,v,co,rfl,Nr,bk Nr,rfl,by rw[eF];exact ho,by rw[eF];exact hmo,kw,hx⟩
  ·simp only[push_cast,seval,f5]
   have he:i=P.n:=by have:¬i<P.n:=(by simpa using hb);omega
   subst he;exact⟨co,ho.low Nr,hmo,kw⟩
end
end Go.Proofs.YthbjaiilnkakcaaGreatDoor
namespace Go.Proofs.YthbjaiilnkakcaaGreatDoor
open Go.Tm Vr
def RpR(E:Env)(G:Mem)(x:Rpl)(cs:List Value):Prop:=∃a c,cs=[iv x.e,iv x.n,.slice a 0 c]/\Fz E G 5 0 [] (.slice a 0 c)
theorem zF:∀{l:List La} {c i:Nat} {x:La},bt l c=bt (l.drop i) c->l[i]? = some x->x.c≠c->bt l c=bt (l.drop (i+1)) c:=by
 intro l c i x h hx hc;have hi:i<l.length:=by rw[List.getElem?_eq_some_iff]at hx;exact hx.1
 have hx':l[i]=x:=by rw[List.getElem?_eq_some_iff]at hx;exact hx.2
 rw[h,List.drop_eq_getElem_cons hi,bt,hx',if_neg hc]
theorem xf{c:Nat}{l:List La}{i a:Nat}(hi:i<l.length):placeOf c (l.drop i) i a=placeOf c (l.drop (i+1)) (i+1) (if l[i].c<c then i+1 else a):=by rw[List.drop_eq_getElem_cons hi,placeOf]
variable{E:Env}(hE:EOk E)
include hE
section
variable{G:Mem}{h:ag}(hW:WF E h)(hG:Frz E G h){S:Sv}{cs:List Value}(hS:SvR E G S cs)
include hW hG hS
theorem pI(c:Nat)(hl:S.tab.length<=1099511627776):af E 92 [.agg cs.toArray,iv c] h λv h'=>KW E h h'/\∃r,LaR E G ((bt S.tab c).getD ⟨0,0,⟨0,0⟩⟩) r/\v=.tuple #[.agg r.toArray,.bool (bt S.tab c).isSome]:=by
 obtain⟨a1,c1,a2,c2,ct,rfl,h1,h2,h3⟩:=hS.e;refine en hE Tryz.func92 rfl rfl Tryz.ntmps92 rfl Nv (rs:=[.cell 4 116,.tmp 5]) rfl ?_;simp only[push_cast,seval,hE.z]
 refine bG (λk tm h2=>∃i,k=S.tab.length-i/\i<=S.tab.length/\aj tm 1=iv c/\aj tm 2=.pointer (some ⟨h.next,0,none⟩)/\aj tm 4=.pointer (some ⟨h.next+1,0,none⟩)/\aj tm 6=iv i/\aj tm 5=.bool false /\
  h2=((h.push (.cells [.bool false,.slice a1 S.l.length c1,.slice none 0 0,.slice a2 S.tab.length c2] 43 true)).push (.cells [.int .i64 0,.int .i64 0,.int .i64 0,.int .i64 0,.slice none 0 0] 116 true))/\bt S.tab c=bt (S.tab.drop i) c) S.tab.length ?_ ?_
 ·simp only[push_cast,seval];exact⟨0,Nr,Nr,rfl,Nw⟩
 ·rintro k tm h2 ⟨i,rfl,hi,f1,f2,f4,f6,f5,rfl,hq⟩;simp only[push_cast,seval,hE.z,f2,f6,hW.b0];refine eT (λhb=>?_) (λhb=>?_)
  ·have hlt:i<S.tab.length:=OY;have kw:KW E h ((h.push (.cells [.bool false,.slice a1 S.l.length c1,.slice none 0 0,.slice a2 S.tab.length c2] 43 true)).push (.cells [.int .i64 0,.int .i64 0,.int .i64 0,.int .i64 0,.slice none 0 0] 116 true)):=(KW.refl hW).push.push;obtain⟨b,d,e1,hsp,hac⟩:=h2.1.elem (hG.aK kw.k) hlt;injection e1 with e1 e2 e3;subst e1;subst e3;have hr:=h3.at i _ (List.getElem?_eq_getElem hlt);obtain⟨sd,hrc,hsd⟩:=hr;obtain⟨a3,c3,rfl,_,_⟩:=hsd.slice;rw[hrc]at hac;have hac0:=aY hac 0 1 Nr;simp only[Nat.add_zero,List.drop_zero,List.take_succ_cons,List.take_zero]at hac0;simp only[push_cast,seval,hE.z,f2,f6,hW.b0];rw[Kz hsp Nr Nr,ab];simp only[push_cast,seval,hE.z,f1,↓hac0,Int.toNat_natCast];refine eT (λhb=>?_) (λhb=>?_)
   ·have he:(S.tab[i]).c=c:=by have he:((S.tab[i]).c:Int)=c:=(by simpa using hb);omega
    simp only[push_cast,seval,hE.z,f2,f6,hW.b0];rw[Kz hsp Nr Nr,ab];simp only[push_cast,seval,hE.z,f4,hW.b1,↓hac,Int.toNat_natCast];have hv:bt S.tab c=some S.tab[i]:=by rw[hq,List.drop_eq_getElem_cons hlt,bt,if_pos he]
    rw[hv];exact⟨(by repeat (first|assumption|exact KW.refl hW|apply KW.push|refine KW.put ?_ NB NB hW)),_,⟨_,rfl,hsd⟩,rfl⟩
   ·have he:(S.tab[i]).c≠c:=λhe=>by rw[he]at hb;simp at hb
    simp only[push_cast,seval,f1,f2,f4,f6,f5];exact⟨S.tab.length-(i+1),Nr,i+1,rfl,Nr,bk Nr,zF hq (List.getElem?_eq_getElem hlt) he⟩
  ·have he:i=S.tab.length:=by have:¬i<S.tab.length:=(by simpa using hb);omega
   subst he;rw[List.drop_length]at hq;have hq:bt S.tab c=none:=hq;rw[hq];simp only[push_cast,seval,hE.z,f4,hW.b1];exact⟨(by repeat (first|assumption|exact KW.refl hW|apply KW.push|refine KW.put ?_ NB NB hW)),_,⟨_,rfl,Fz.nil⟩,rfl⟩
theorem qV{e:Ent}(hb:e.c<=1099511627776/\e.n<=1099511627776)(hl:S.tab.length<=1000000)(hl2:S.l.length<=1000000)(hs:∀x,bt S.tab e.c=some x->placeOf e.c S.tab 0 0<S.tab.length):af E 105 [.agg cs.toArray,.agg (fo e).toArray] h λv h' =>
 ∃G' sc rc,Ext E G h G' h'/\SvR E G' (bq S e).1 sc/\RpR E G' (bq S e).2 rc/\v=.tuple #[.agg sc.toArray,.agg rc.toArray]:=by
 have hS0:=hS;obtain⟨a1,c1,aT,c2,ct,rfl,h1,h2,h3⟩:=hS.e;unfold fo;refine en hE Tryz.func105 rfl rfl Tryz.ntmps105 rfl Nv (rs:=[.cell 4 43,.cell 5 64]) rfl ?_;simp only[push_cast,seval,hE.z,hW.b0,hW.b1];refine Le (motive:=λH=>af E _ _ H _) hW λH g0 g1 g2 g3 kw0 nx0=>?_;refine(pI hE kw0.w (hG.aK kw0.k) hS0 e.c Nr).mono ?_;rintro v h1' ⟨kw1,rc,hrc,rfl⟩;have g0:=kw1.k.get _ _ g0;have g1:=kw1.k.get _ _ g1;have g2:=kw1.k.get _ _ g2;have g3:=kw1.k.get _ _ g3;have nx1:=kw1.k.next;have kw1:=kw0.trans kw1;have n0:=kw1.w.nlt g0;have n1:=kw1.w.nlt g1;have n2:=kw1.w.nlt g2;have n3:=kw1.w.nlt g3;obtain⟨sd,rfl,hsd⟩:=hrc;obtain⟨a3,c3,rfl,_,_⟩:=hsd.slice;have e0:=kw1.w.ne g0;have e1:=kw1.w.ne g1;have e2:=kw1.w.ne g2;have e3:=kw1.w.ne g3;have w0:=kw1.w.b0;have d0:=kw1.w.ne' g0;have d2:=kw1.w.ne' g2;generalize hgo:bq S e=R at *;unfold bq at hgo;rcases hv:bt S.tab e.c with _|x
 case' some =>
  simp only[hv,Option.getD_some,Option.isSome_some]at hgo|-;simp only[push_cast,seval,hE.z,g1,n1,w0,e1];refine eT (λhb=>?_) (λhb=>?_)
  ·have hlt:e.n<x.n:=by have:(e.n:Int)<x.n:=(by simpa using hb);omega
   rw[if_pos hlt]at hgo;subst hgo;simp only[push_cast,seval,hE.z,g0,g2,g3,n0,n2,n3,e0,e2,e3];exact⟨G,_,_,KW.ext (by repeat (first|assumption|exact KW.refl hW|apply KW.push|refine KW.put ?_ NB NB hW)) hG,hS0,⟨none,0,rfl,Fz.nil⟩,rfl⟩
  have hge:¬e.n<x.n:=by have:¬(e.n:Int)<x.n:=(by simpa using hb);omega
  rw[if_neg hge]at hgo;simp only[push_cast,seval,hE.z,g1,n1,w0,e1];refine eT (λhb=>?_) (λhb=>?_)
  ·have heq:e.n=x.n:=by have:(e.n:Int)=x.n:=(by simpa using hb);omega
   rw[if_pos heq]at hgo;subst hgo;simp only[push_cast,seval];refine aB [(2,3)] Nt Nt Nt ?_;simp only[push_cast,seval,hE.z,g0,g2,g3,n0,n2,n3,w0,e0,e2,e3,d2];exact⟨G,_,_,KW.ext (by repeat (first|assumption|exact KW.refl hW|apply KW.push|refine KW.put ?_ NB NB hW)) hG,hS0,⟨_,_,rfl,hsd⟩,rfl⟩
  have hne:¬e.n=x.n:=λhe=>by rw[he]at hb;simp at hb
  rw[if_neg hne]at hgo;simp only[push_cast,seval]
 case' none =>
  simp only[hv,Option.getD_none,Option.isSome_none]at hgo|-;simp only[push_cast,seval,hE.z]
 all_goals
  refine Lf (motive:=λH=>aF E _ _ _ H) kw1.w λH1 g4 kwA nxA=>?_;have g0:=kwA.k.get _ _ g0;have g1:=kwA.k.get _ _ g1;have g2:=kwA.k.get _ _ g2;have g3:=kwA.k.get _ _ g3;have kw2:=kw1.trans kwA;refine gtA [2,3,4,5,7,8] λt hf=>?_;simp only[push_cast,seval,gz]at hf;obtain⟨f2,f3,f4,f5,f7,f8⟩:=hf;refine dE [(2,[0]),(4,[0,4])] [3,5,6,8] [(5,[4])] [(0,(65,[0])),(1,(66,[1])),(2,(67,[2,1])),(3,(68,[3,0,1,2])),(4,(69,[4])),(5,(70,[5,4])),(6,(71,[6,0,1,2,3,4,5])),(7,(72,[7,0,1,2,3,4,5,6]))] [0,1,2,3,4,5,6,7,8] Nt Nt Nt Nt Nt Nv rfl ?_;simp only[push_cast,seval,hE.z,g0,n0,f2,f8];refine ej (jS hE.P) kw2.w (hG.aK kw2.k) (lo:=H1.next) (Nat.le_refl _) (Own.nil _ _ _ _) h1.1 (by rw[cB]) (de _) Nr Nr ?_;intro v2 H2 a2;obtain⟨va2,vc2,hv2⟩:=a2.sl;have k2:=(KW.refl kw2.w).app kw2.w (Own.nil _ _ _ _) a2;have o2:=a2.own;rw[Nat.zero_add,List.nil_append]at o2;have h0:=k2.k.get _ _ g0;have h1':=k2.k.get _ _ g1;rw[Nat.zero_add]at hv2;subst hv2;simp only[push_cast,seval,hE.z,h1',n1,f3];rw[qS rfl,aR];simp only[push_cast,seval];refine eZ (jS hE.P) k2.w (lo:=H1.next) k2.k.next o2 rfl rfl Nr Nr ?_;intro v3 H3 a3' nx3;obtain⟨va3,vc3,hv3⟩:=a3'.sl;have k3:=k2.app kw2.w o2 a3';have q0:=k3.k.get _ _ g0;have q1:=k3.k.get _ _ g1;subst hv3;simp only[push_cast,seval,hE.z,q0,n0,f2];refine⟨⟨?_,?_,?_,?_,?_⟩,?_⟩
  ·exact⟨k2.k.next,Nr,nx3⟩
  ·simp only[push_cast,seval,hE.z,g0,g1,h1',n0,n1,f3,jo]
  ·have s1:=h1.1.sc kw2.w (hG.aK kw2.k);have s2:=o2.sc k2.w;have s3:=a3'.own.sc a3'.wf;simp only[push_cast,seval,jx,Op.operands,jJ,sc,scA,scL];have b3:=(k3.w.live _ _ q0).2;have s2':sc (H2.next+1) (.slice va2 S.l.length vc2)=true:=by
    cases va2 with
    |none=>rfl
    |some x=>have:=gI s2 x rfl;simp[sc];omega
   exact⟨s1,⟨s2',Nw⟩,by simpa using b3,s3⟩
  ·simp only[push_cast,seval,hE.z,aOk,gH];rw[qS rfl];refine⟨_,rfl,?_⟩;rfl
  ·have s1:=h1.1.sc kw2.w (hG.aK kw2.k);have s2:=o2.sc k2.w;have s3:=a3'.own.sc a3'.wf;have b1:=(kw2.w.live _ _ g0).2;have b3:=(k3.w.live _ _ q0).2;simp only[push_cast,seval,dOk];refine⟨?_,?_,?_,?_,?_,?_,?_,?_⟩
   ·rfl
   ·exact dU 0 Nr b1
   ·exact cV 0 Nr s1
   ·exact cV 4 Nz s2
   ·rfl
   ·exact eW (K:=5) Nz (Nat.le_refl _) (Nat.lt_succ_self _)
   ·exact cV 7 Nz s3
   ·exact dU 7 Nz b3
  ·have hnx3:h.next<H3.next:=(k3.w.live _ _ q0).2;have kw3:=kw2.trans k3;have q2:=k3.k.get _ _ g2;have q3:=k3.k.get _ _ g3;have x0:=kw3.w.ne q0;have x1:=kw3.w.ne q1;have x2:=kw3.w.ne q2;have x3:=kw3.w.ne q3;have y0:=kw3.w.ne' q0;have y2:=kw3.w.ne' q2;simp only[push_cast,seval,hE.z,x0];obtain⟨H4,hH4⟩:∃H4,H4=(((H3.put h.next (.cells [.bool false,.slice va3 (S.l.length+1) vc3,.slice none 0 0,.slice aT S.tab.length c2] 43 true)).push (.cells [.int .i64 0,.int .i64 0,.slice none 0 0] 64 true)).put H3.next (.cells [.int .i64 0,.int .i64 (S.l.length+1),.slice none 0 0] 64 true)):=⟨_,rfl⟩;have kw4:KW E h H4:=by rw[hH4];exact(by repeat (first|assumption|exact KW.refl hW|apply KW.push|refine KW.put ?_ NB NB hW))
   have r0:H4.get h.next=some (.cells [.bool false,.slice va3 (S.l.length+1) vc3,.slice none 0 0,.slice aT S.tab.length c2] 43 true):=by rw[hH4];simp only[push_cast,seval,x0]
   have r1:H4.get (h.next+1)=some (.cells [iv e.c,iv e.n,.string e.t] 60 true):=by rw[hH4];simp only[push_cast,seval,x1,q1]
   have r2:H4.get (h.next+1+1)=some (.cells zCS 43 true):=by rw[hH4];simp only[push_cast,seval,x2,q2]
   have r3:H4.get (h.next+1+1+1)=some (.cells [.int .i64 0,.int .i64 0,.slice none 0 0] 64 true):=by rw[hH4];simp only[push_cast,seval,x3,q3]
   have r9:H4.get H3.next=some (.cells [.int .i64 0,.int .i64 (S.l.length+1),.slice none 0 0] 64 true):=by rw[hH4];simp only[push_cast,seval]
   have hn4:H4.next=H3.next+1:=by rw[hH4];simp
   rw[<-hH4];have m0:=kw4.w.nlt r0;have m1:=kw4.w.nlt r1
   refine bG (λk tm hh=>∃i a,k=S.tab.length-i/\i<=S.tab.length/\hh=H4/\aj tm 2=.pointer (some ⟨h.next,0,none⟩)/\aj tm 3=.pointer (some ⟨h.next+1,0,none⟩)/\aj tm 4=.pointer (some ⟨h.next+1+1,0,none⟩)/\aj tm 5=.pointer (some ⟨h.next+1+1+1,0,none⟩) /\
    aj tm 7=aj t 7/\aj tm 9=.pointer (some ⟨H3.next,0,none⟩)/\aj tm 10=iv a/\aj tm 11=.slice none 0 0/\aj tm 12=iv i/\a<=i/\placeOf e.c (S.tab.drop i) i a=placeOf e.c S.tab 0 0) S.tab.length ?_ ?_
   ·simp only[push_cast,seval,f2,f3,f4,f5,f7];exact⟨0,0,Nr,Nr,rfl,rfl,Nat.le_refl _,rfl⟩
   ·rintro k tm hh ⟨i,a,rfl,hi,rfl,u2,u3,u4,u5,u7,u9,u10,u11,u12,hai,hpl⟩;simp only[push_cast,seval,hE.z,r0,m0,u2,u12];refine eT (λhb=>?_) (λhb=>?_)
    ·have hlt:i<S.tab.length:=OY;obtain⟨b,d,e1',hsp,hac⟩:=h2.1.elem (hG.aK kw4.k) hlt;injection e1' with e1' e2' e3';have hr:=h3.at i _ (List.getElem?_eq_getElem hlt);obtain⟨sd,hrc,hsd⟩:=hr;rw[hrc]at hac;have hac0:=aY hac 0 1 Nr;simp only[Nat.add_zero,List.drop_zero,List.take_succ_cons,List.take_zero]at hac0;subst e1';subst e3';simp only[push_cast,seval,hE.z];refine ax Nt ?_;simp only[push_cast,seval,hE.z,r0,m0,u2,u12];rw[Kz hsp Nr Nr,ab];simp only[push_cast,seval,hE.z,r1,m1,u3,↓hac0,Int.toNat_natCast];have hpd:=xf (c:=e.c) (a:=a) hlt;refine eT (λhb=>?_) (λhb=>?_)
     ·have hc:(S.tab[i]).c<e.c:=by have:((S.tab[i]).c:Int)<e.c:=(by simpa using hb);omega
      rw[if_pos hc]at hpd;simp only[push_cast,seval,u2,u3,u12];exact⟨S.tab.length-(i+1),Nr,i+1,i+1,rfl,Nr,u4,u5,u7,u9,bk Nr,u11,bk Nr,Nat.le_refl _,by rw[<-hpd];exact hpl⟩
     ·have hc:¬(S.tab[i]).c<e.c:=by have:¬((S.tab[i]).c:Int)<e.c:=(by simpa using hb);omega
      rw[if_neg hc]at hpd;simp only[push_cast,seval,u2,u3,u12];exact⟨S.tab.length-(i+1),Nr,i+1,a,rfl,Nr,u4,u5,u7,u9,u10,u11,bk Nr,Nr,by rw[<-hpd];exact hpl⟩
    ·have he:i=S.tab.length:=by have:¬i<S.tab.length:=(by simpa using hb);omega
     subst he;rw[List.drop_length]at hpl;have hpl:a=placeOf e.c S.tab 0 0:=hpl;obtain⟨ya,yc,hy,hys⟩:=h2.upto (P:=Tryz.prog) (t:=41) Tryz.underlying41 GM (k:=a) hai;have hctl:=h3.len;simp only[push_cast,seval,hE.z,r0,m0,u2,u10,u11];rw[hy,ab];simp only[push_cast,seval];refine ej (KA hE.P) kw4.w (hG.aK kw4.k) (lo:=hh.next) (Nat.le_refl _) (Own.nil _ _ _ _) hys (by rw[List.length_take,hctl];have:=Nat.mul_le_mul_right 5 hai;omega) (h3.take a).nj Nr Nr ?_;intro v5 H5 a5;have o5:=a5.own;have k5:=(KW.refl kw4.w).app kw4.w (Own.nil _ _ _ _) a5;rw[Nat.zero_add,List.nil_append]at o5;obtain⟨va5,vc5,hv5⟩:=a5.sl;rw[Nat.zero_add]at hv5;subst hv5;have R0:=r0;have R2:=r2;have R3:=r3;have R9:=r9;have r0:=k5.k.get _ _ r0;have r1:=k5.k.get _ _ r1;have r2:=k5.k.get _ _ r2;have r3:=k5.k.get _ _ r3;have r9:=k5.k.get _ _ r9;have m9:=k5.w.nlt r9;simp only[push_cast,seval,hE.z,r1,r9,m1,m9,u3,u9];rw[MW rfl,aR];simp only[push_cast,seval];refine eZ (KA hE.P) k5.w (lo:=hh.next) k5.k.next o5 rfl rfl Nr Nr ?_;intro v6 H6 a6 nx6;have k6:=k5.app kw4.w o5 a6;have o6:=a6.own;obtain⟨va6,vc6,hv6⟩:=a6.sl;subst hv6;have g9:=a6.get _ _ r9 (λhb=>by have:=(o5.lt k5.w _ hb).1;omega)
     have d0:=a6.get _ _ r0 (λhb=>by have:=(o5.lt k5.w _ hb).1;have:=(kw4.w.live _ _ ‹hh.get h.next=_›).2;omega)
     have hk:∃(k:Nat) (b:Bool),aj t 7=.bool b/\k=b.toNat/\a+k<=S.tab.length/\R=(⟨S.l++[e],S.tab.take a++[⟨e.c,e.n,⟨0,S.l.length+1⟩⟩]++S.tab.drop (a+k)⟩,⟨0,S.l.length+1⟩):=by
      subst hpl
      first
      |exact⟨0,false,f7,rfl,Nr,hgo.symm⟩
      |(have:=hs x hv;exact⟨1,true,f7,rfl,Nr,hgo.symm⟩)
     obtain⟨k,b7,hb7,hk1,hk2,hk3⟩:=hk;simp only[push_cast,seval];rw[u7,hb7];refine dJ (λtm' h'=>h'=H6/\aj tm' 10=iv (a+k)/\aj tm' 11=.slice va6 (a+1) vc6/\aj tm' 2=.pointer (some ⟨h.next,0,none⟩)/\aj tm' 4=.pointer (some ⟨h.next+1+1,0,none⟩)/\aj tm' 5=.pointer (some ⟨h.next+1+1+1,0,none⟩)/\aj tm' 9=.pointer (some ⟨H3.next,0,none⟩)) ?_ ?_
     ·rintro tm' h' ⟨rfl,u10,u11,u2,u4,u5,u9⟩;obtain⟨za,zc,hz,hzs⟩:=h2.from (P:=Tryz.prog) (t:=41) Tryz.underlying41 GM hctl hk2;have g0:=a6.get _ _ r0 (λhb=>by have:=(o5.lt k5.w _ hb).1;have:=(kw4.w.live _ _ ‹hh.get h.next=_›).2;omega)
      simp only[push_cast,seval,hE.z,u10,u11,u2,g0,m0];rw[hz,ab];simp only[push_cast,seval];refine ej (KA hE.P) k6.w (hG.aK (kw4.trans k6).k) (lo:=hh.next) k6.k.next o6 hzs (by rw[List.length_drop,hctl,<-Nat.sub_mul]) (h3.drop (a+k)).nj Nr Nr ?_;intro v7 H7 a7;have o7:=a7.own;have k7:=k6.app kw4.w o6 a7;obtain⟨va7,vc7,hv7⟩:=a7.sl;subst hv7;have q0:=k7.k.get _ _ R0;have q2:=k7.k.get _ _ R2;have q3:=k7.k.get _ _ R3;have q9:=k7.k.get _ _ R9;have n9:=k7.w.nlt q9;simp only[push_cast,seval,hE.z,u2,q0];refine aB [(1,2)] Nt Nt Nt ?_;simp only[push_cast,seval,hE.z,u2,u4,u5,u9,q2,q3,q9,m0,n9,n2,n3,y0,y2];obtain⟨H8,hH8⟩:∃H8,H8=(((H7.put h.next (.cells [.bool false,.slice va3 (S.l.length+1) vc3,.slice none 0 0,.slice va7 (a+1+(S.tab.length-(a+k))) vc7] 43 true)).put (h.next+1+1) (.cells [.bool false,.slice va3 (S.l.length+1) vc3,.slice none 0 0,.slice va7 (a+1+(S.tab.length-(a+k))) vc7] 43 true)).put (h.next+1+1+1) (.cells [.int .i64 0,.int .i64 (S.l.length+1),.slice none 0 0] 64 true)):=⟨_,rfl⟩;have kw7:=kw4.trans k7;have nx7:=k7.k.next;have nx3':=k3.k.next;have kw8:KW E h H8:=by rw[hH8];exact(by repeat (first|assumption|exact KW.refl hW|apply KW.push|refine KW.put ?_ NB NB hW))
      rw[<-hH8];have g78:∀b o,H1.next<=b->H7.get b=some o->H8.get b=some o:=by intro b o hb hg;rw[hH8];simp only[ai];rw[if_neg Nr,if_neg Nr,if_neg Nr];exact hg
      have o3:Own H8 60 3 h.next (S.l.length+1) (cq S.l++[iv e.c,iv e.n,.string e.t]) (.slice va3 (S.l.length+1) vc3):=by refine Own.low (lo:=H1.next) (a3'.own.at λb o hb hg=>?_) Nr;have hb1:=a3'.own.lt k3.w b hb;refine g78 b o hb1.1 (k7.k.get _ _ ?_);rw[hH4];simp only[ai,ah,dI];rw[if_neg Nr,if_neg Nr,if_neg Nr];exact hg
      have o8:Own H8 116 5 h.next (a+1+(S.tab.length-(a+k))) (ct.take (a*5)++[iv e.c,iv e.n,.int .i64 0,.int .i64 (S.l.length+1),.slice none 0 0]++ct.drop ((a+k)*5)) (.slice va7 (a+1+(S.tab.length-(a+k))) vc7):=by exact Own.low (lo:=hh.next) (o7.at λb o hb hg=>g78 b o (by have:=(o7.lt k7.w b hb).1;have:=k3.k.next;omega) hg) Nr
      obtain⟨G1,z1,x1⟩:=Own.frz hW hG kw8 o3;obtain⟨G2,z2,x2,s2,_⟩:=x1.iY o8;subst hk3;have hz1:Fz E G2 3 (S.l++[e]).length (cq (S.l++[e])) (.slice va3 (S.l.length+1) vc3):=by have:=z1.sub s2;rw[show cq S.l++[iv e.c,iv e.n,.string e.t]=cq (S.l++[e]) by simp[cq,fo]]at this;simpa using this
      have hr1:LaR E G2 ⟨e.c,e.n,⟨0,S.l.length+1⟩⟩ [iv e.c,iv e.n,.int .i64 0,.int .i64 (S.l.length+1),.slice none 0 0]:=⟨_,rfl,Fz.nil⟩
      have hz3:fZ E G2 (S.tab.take a++[(⟨e.c,e.n,⟨0,S.l.length+1⟩⟩:La)]++S.tab.drop (a+k)) (ct.take (a*5)++[iv e.c,iv e.n,.int .i64 0,.int .i64 (S.l.length+1),.slice none 0 0]++ct.drop ((a+k)*5)) :=
       (((h3.sub x2.sub).take a).app (fZ.one hr1)).app ((h3.sub x2.sub).drop (a+k))
      have hlen:(S.tab.take a++[(⟨e.c,e.n,⟨0,S.l.length+1⟩⟩:La)]++S.tab.drop (a+k)).length=a+1+(S.tab.length-(a+k)):=Nu;exact⟨G2,_,_,x2,⟨_,_,_,rfl,hz1,by rw[hlen];exact z2,hz3⟩,⟨_,_,rfl,Fz.nil⟩,rfl⟩
     ·cases b7
      ·simp only[push_cast,seval,u2,u4,u5,u9,u10];subst hk1;rfl
      ·simp only[push_cast,seval,u2,u4,u5,u9,u10];subst hk1;exact bk Nr
end
end Go.Proofs.YthbjaiilnkakcaaGreatDoor
namespace Vr
variable{l:List La}{s:Sv}{P:PR}{k:Nat}
def bj(l:List Ent):Sv:=l.foldl (λs e=>(bq s e).1) ⟨[],[]⟩
def cK(n:Nat):List UInt8:=if h:n<128 then [n.toUInt8] else(n%128+128).toUInt8::cK (n/128)
termination_by n
decreasing_by omega
def fq(e:Ent):List UInt8:=cK e.c++cK e.n++cK e.t.size++e.t.data.toList
def save(s:Sv):List UInt8:=1::s.l.flatMap fq
def eV(b:List UInt8):Bool:=match b with| []=>true|_=>false
noncomputable def iT(b:List UInt8):Sv:=open Classical in if h:∃l:List Ent,(bj l).l=l/\b=save (bj l) then bj h.choose else⟨[],[]⟩
def PR.bM(P:PR)(m:Mg):Mg:={m with op:=P.op,cm:=P.cm,bs:=P.bs,log:=P.log,img:=if 0<P.bs then save P.sv else m.img}
noncomputable def au(P:PR)(m:Mg):PR :=
 if P.cm<m.bs then {P with sv:=iT m.img,cm:=m.cm,bs:=m.bs,log:=m.log}
 else if P.bs<=m.bs then {P with log:=P.log.take (m.bs-P.bs)++m.log}
 else {P with log:=m.log.drop (P.bs-m.bs)}
def bK(P:PR)(v s:Nat):PR :=
 {P with told:=if v=P.vw then P.told else List.replicate P.n 0,vw:=v,st:=s,nm:=if s=0 then v else P.nm}
def bO(P:PR)(v:Nat):PR×List Mg :=
 let Q:={bK P v 1 with aG:=List.replicate P.n false,aJ:=false,aH:=List.replicate P.n {}}
 (Q,Q.allM {k:=5,vw:=v})
def dy(l:List Bool):Nat:=(l.filter id).length
def bI(l:List Mg):List (Nat×Mg):=(l.zipIdx.map λp=>(p.2,p.1)).filter λp=>p.2.k != 0
def better(c b:Mg):Bool:=decide (b.nm<c.nm)||(c.nm==b.nm&&decide (b.op<c.op))
def dV:List (Nat×Mg)->Option (Nat×Mg)
 |l=>l.foldl (λb c=>match b with|none=>some c|some b=>if better c.2 b.2 then some c else some b) none
def eP(l:List Mg):Nat:=l.foldl (λa m=>max a m.cm) 0
noncomputable def fD(P:PR)(b:Nat×Mg):PR×List Mg :=
 let Q:=if b.1=P.me then P else au P b.2;let R:={Q with st:=0,nm:=P.vw,told:=List.replicate P.n 0};let out:=R.allM (R.bM {k:=7,vw:=P.vw});let c:=aq R (eP P.aH)
 (c.1,out++c.2)
noncomputable def dD(P:PR)(m:Mg):PR×List Mg :=
 let Q:=if (P.aH.getD m.fr {}).k=0 then {P with aH:=P.aH.set m.fr m} else P
 if (bI Q.aH).length<=P.F\/(Q.aH.getD P.me {}).k=0 then(Q,[]) else
 match dV (bI Q.aH) with
 |none=>(Q,[])
 |some b=>fD Q b
noncomputable def ep(P:PR)(fr:Nat):PR×List Mg :=
 let Q:={P with aG:=P.aG.set fr true}
 if P.aJ\/dy Q.aG<P.F then(Q,[]) else
 let Q:={Q with aJ:=true};let m:=Q.toM (Q.bM {k:=6,vw:=P.vw,nm:=P.nm}) (P.vw%P.n)
 if P.vw%P.n=P.me then dD Q m else(Q,[m])
def okM(P:PR)(i:Nat):Mg:=P.toM {k:=3,vw:=P.vw,op:=P.op} i
noncomputable def bg(P:PR)(m:Mg):PR×List Mg :=
 if P.st=2 then(P,[]) else
 if m.k=7 then
  if m.vw<P.vw\/(m.vw=P.vw/\P.st≠1)\/m.op<P.cm then(P,[]) else
  let Q:=bK (au P m) m.vw 0;let a:=aq Q m.cm
  (a.1,a.2++[okM a.1 m.fr])
 else
  let a:=if P.vw<m.vw then bO P m.vw else(P,[])
  if m.vw≠a.1.vw\/a.1.st≠1 then a else
  if m.k=5 then let b:=ep a.1 m.fr;(b.1,a.2++b.2)
  else if !a.1.bF then a
  else let b:=dD a.1 m;(b.1,a.2++b.2)
def cJ(P:PR)(m:Mg):List Mg :=
 if P.st≠0 then [] else
 let a:Mg:={k:=9,vw:=P.vw,nc:=m.nc}
 [P.toM (if P.bF then P.bM a else a) m.fr]
def cU(l:List Mg):Nat:=(bI l).foldl (λa p=>max a p.2.vw) 0
noncomputable def cp(P:PR)(m:Mg):PR×List Mg :=
 if P.st≠2\/m.nc≠P.nc then(P,[]) else
 let Q:={P with ans:=P.ans.set m.fr m};let v:=cU Q.ans;let w:=Q.ans.getD (v%P.n) {}
 if (bI Q.ans).length<=P.F\/v<P.vw\/w.k=0\/w.vw≠v then(Q,[]) else
 let R:=bK (au Q w) v 0;let a:=aq R w.cm
 (a.1,a.2++[okM a.1 (v%P.n)])
def bP(P:PR)(m:Mg):List Mg :=
 if P.st≠0\/m.vw≠P.vw\/P.op<m.op then [] else
 let a:Mg:={k:=11,vw:=P.vw,op:=P.op,cm:=P.cm,bs:=m.op}
 [P.toM (if m.op<P.bs then P.bM a else {a with log:=dv P m.op}) m.fr]
noncomputable def cP(P:PR)(m:Mg):PR×List Mg :=
 if P.st≠0\/m.vw<P.vw\/(m.vw=P.vw/\m.op<=P.op) then(P,[]) else
 let go (Q:PR):PR×List Mg :=
  let a:=aq (bK Q m.vw 0) m.cm
  (a.1,a.2++if a.1.bF then [] else [okM a.1 (m.vw%P.n)])
 if !eV m.img then
  if m.bs<=P.cm\/m.op<P.cm then(P,[]) else go (au P m)
 else if m.vw=P.vw then
  if P.op<m.bs then(P,[]) else go {P with log:=P.log++m.log.drop (P.op-m.bs)}
 else if P.cm<m.bs\/m.op<P.cm then(P,[]) else go (au P m)
def fU(m:Mg):Bool:=decide (m.bs<=m.cm)&&decide (m.cm<=m.op)&&m.log.length==m.op-m.bs
def fW(P:PR)(m:Mg):Bool :=
 m.to==P.me&&decide (1<=m.k)&&decide (m.k<=11)&&(m.k==1||(decide (m.fr<P.n)&&m.fr != P.me)) &&
 (if m.k=6\/m.k=7\/m.k=9 then fU m
  else if m.k=11 then(decide (m.bs<=m.cm)||eV m.img)&&decide (m.bs<=m.op)&&decide (m.cm<=m.op)&&m.log.length==m.op-m.bs else true)
noncomputable def bX(P:PR)(m:Mg):PR×List Mg :=
 if !fW P m then(P,[]) else
 if m.k=1 then request P m else
 if m.k<=4 then aX P m else
 if m.k<=7 then bg P m else
 if m.k=8 then(P,cJ P m) else
 if m.k=9 then cp P m else
 if m.k=10 then(P,bP P m) else cP P m
def bw(P:PR):PR×List Mg :=
 if P.st=2 then(P,P.allM {k:=8,nc:=P.nc}) else
 if P.st=0/\P.bF then(P,[]) else bO P (P.vw+1)
def bH(P:PR)(nonce:Nat):PR×List Mg :=
 let Q:={PR.new P.me P.n with vw:=P.vw,st:=2,nc:=nonce}
 (Q,Q.allM {k:=8,nc:=nonce})
def eO(P:PR)(aK:Nat):PR :=
 let k:=max P.bs (P.cm-aK)
 {P with log:=dv P k,bs:=k}
def srt(l:List La):Prop:=l.Pairwise λa b=>a.c<b.c
theorem lV(c:Nat):∀(l:List La) (i a:Nat),srt l->a<=i->placeOf c l i a=if (l.filter λx=>decide (x.c<c)).length=0 then a else i+(l.filter λx=>decide (x.c<c)).length
 |[],i,a,_,_=>by simp[placeOf]
 | x::l,i,a,hs,ha=>by
   obtain⟨h1,h2⟩:=List.pairwise_cons.1 hs;rw[placeOf];by_cases hx:x.c<c
   ·rw[if_pos hx,lV c l _ _ h2 (Nat.le_refl _)];rw[List.filter_cons_of_pos NW];simp only[List.length_cons];split
    ·rename_i h0;simp[h0]
    ·rw[if_neg Nr];omega
   ·rw[if_neg hx,lV c l _ _ h2 Nr];rw[List.filter_cons_of_neg NW];have:l.filter (λx=>decide (x.c<c))=[]:=by rw[List.filter_eq_nil_iff];intro y hy;have:=h1 y hy;simp;omega
    rw[this];simp
theorem lU{c:Nat}(h:srt l):placeOf c l 0 0=(l.filter λx=>decide (x.c<c)).length:=by rw[lV c l 0 0 h (Nat.le_refl _)];split<;>omega
theorem jt{c:Nat}:∀{l:List La} {x:La},bt l c=some x->x∈l/\x.c=c
 |[],x,h=>by simp[bt]at h
 | y::l,x,h=>by
   rw[bt]at h;split at h
   ·rename_i hc;injection h with h;subst h;exact⟨Nw,hc⟩
   ·obtain⟨h1,h2⟩:=jt h;exact⟨N6,h2⟩
theorem tM{c:Nat}(h:srt l){x:La}(hx:bt l c=some x):placeOf c l 0 0<l.length:=by rw[lU h];obtain⟨h1,h2⟩:=jt hx;refine Nat.lt_of_le_of_ne (List.length_filter_le _ _) λe=>?_;have:=(List.length_filter_eq_length_iff).1 e x h1;simp at this;omega
theorem qu{c:Nat}:∀{l:List La},srt l->l.take ((l.filter λx=>decide (x.c<c)).length)=l.filter (λx=>decide (x.c<c))/\l.drop ((l.filter λx=>decide (x.c<c)).length)=l.filter (λx=>!decide (x.c<c))
 |[],_=>Nw
 | x::l,hs=>by
   obtain⟨h1,h2⟩:=List.pairwise_cons.1 hs;obtain⟨e1,e2⟩:=qu (c:=c) h2;by_cases hx:x.c<c
   ·rw[List.filter_cons_of_pos NW,List.filter_cons_of_neg NW];simp only[List.length_cons,List.take_succ_cons,List.drop_succ_cons,e1,e2,and_self]
   ·have h0:l.filter (λx=>decide (x.c<c))=[]:=by rw[List.filter_eq_nil_iff];intro y hy;have:=h1 y hy;simp;omega
    have h3:l.filter (λx=>!decide (x.c<c))=l:=by rw[List.filter_eq_self];intro y hy;have:=h1 y hy;simp;omega
    rw[List.filter_cons_of_neg NW,List.filter_cons_of_pos NW,h0,h3];simp
theorem oO{e:Ent}(h:srt s.tab):srt (bq s e).1.tab:=by
 have key:∀k,(k=0->bt s.tab e.c=none)->(k=1->∃x,bt s.tab e.c=some x)->k<=1->srt (s.tab.take (placeOf e.c s.tab 0 0)++[⟨e.c,e.n,⟨0,s.l.length+1⟩⟩]++s.tab.drop (placeOf e.c s.tab 0 0+k)):=by
  intro k h0 h1 hk;rw[lU h,<-List.drop_drop];obtain⟨e1,e2⟩:=qu (c:=e.c) h;rw[e1,e2];unfold srt;rw[List.append_assoc,List.pairwise_append];refine⟨h.filter _,?_,?_⟩
  ·rw[List.singleton_append,List.pairwise_cons];refine⟨λy hy=>?_,((h.filter _).sublist (List.drop_sublist _ _))⟩;have hge:y∈s.tab.filter (λx=>!decide (x.c<e.c)):=List.mem_of_mem_drop hy;have hy2:=List.mem_filter.1 hge;simp at hy2;refine Nat.lt_of_le_of_ne hy2.2 λhe=>?_;have hlast:∀{l:List La} {y:La},srt l->y∈l->bt l y.c=some y:=by
    intro l
    induction l with
    |nil=>intro y _ hy;simp at hy
    | cons z l ih =>
      intro y hs hy;obtain⟨a1,a2⟩:=List.pairwise_cons.1 hs;rw[bt];rcases List.mem_cons.1 hy with rfl|hy
      ·rw[if_pos rfl]
      ·rw[if_neg (by have:=a1 y hy;omega)];exact ih a2 hy
   have hl:=hlast h hy2.1;rw[<-he]at hl;rcases Nat.eq_zero_or_pos k with hk0|hk1
   ·have:=h0 hk0;rw[this]at hl;cases hl
   ·have hk1:k=1:=Nr;subst hk1;have hsg:srt (s.tab.filter λx=>!decide (x.c<e.c)):=h.filter _;generalize hg:s.tab.filter (λx=>!decide (x.c<e.c))=g at *
    cases g with
    |nil=>simp at hge
    | cons z g =>
      obtain⟨a1,a2⟩:=List.pairwise_cons.1 hsg;simp only[List.drop_succ_cons,List.drop_zero]at hy;have hz:=a1 y hy;have hzm:z∈s.tab.filter (λx=>!decide (x.c<e.c)):=by rw[hg];simp
      have:=List.mem_filter.1 hzm;simp at this;have h4:e.c=y.c:=he;omega
  ·intro a ha b hb;have ha1:=List.mem_filter.1 ha;simp at ha1;have ha2:=ha1.2;rcases List.mem_append.1 hb with hb|hb
   ·simp at hb;subst hb;exact ha2
   ·have:=List.mem_filter.1 (List.mem_of_mem_drop hb);simp at this;omega
 unfold bq;split
 ·rename_i h0;exact key 0 (λ_=>h0) (λhk=>by omega) Nr
 ·rename_i x hx;split
  ·exact h
  ·split
   ·exact h
   ·exact key 1 (λhk=>by omega) (λ_=>⟨x,hx⟩) Nr
theorem ux{e:Ent}:(bq s e).1.l.length<=s.l.length+1/\(bq s e).1.tab.length<=s.tab.length+1:=by
 unfold bq;split
 ·constructor
  ·simp
  ·simp;omega
 ·split
  ·constructor<;>simp
  ·split
   ·constructor<;>simp
   ·constructor
    ·simp
    ·simp;omega
structure PR.Sz(P:PR):Prop where
 n:3<=P.n/\P.n<=7
 odd:P.n%2=1
 me:P.me<P.n
 vw:P.vw<=1000000
 bs:P.bs<=P.cm
 cm:P.cm<=P.op
 op:P.op<=1000000
 told:P.told.length=P.n
 aG:P.aG.length=P.n
 aH:P.aH.length=P.n
 ans:P.ans.length=P.n
 tab:P.sv.tab.length<=P.cm
 svl:P.sv.l.length<=P.cm
 srt:srt P.sv.tab
 ent:∀e,e∈P.log->e.c<=1000000/\e.n<=1000000
theorem PR.Sz.br{P:PR}(z:P.Sz)(h:P.cm<P.op){e:Ent}:(Vr.br P e).1.Sz:=by have:=ux (s:=P.sv) (e:=e);exact⟨z.n,z.odd,z.me,z.vw,by have:=z.bs;show P.bs<=P.cm+1;omega,h,z.op,z.told,z.aG,z.aH,z.ans,by have:=z.tab;show(bq P.sv e).1.tab.length<=P.cm+1;omega,by have:=z.svl;show(bq P.sv e).1.l.length<=P.cm+1;omega,oO z.srt,z.ent⟩
theorem PR.Sz.push{P:PR}(z:P.Sz)(h:P.op<1000000){e:Ent}(he:e.c<=1000000/\e.n<=1000000):PR.Sz {P with log:=P.log++[e]}:=by
 have hop:PR.op {P with log:=P.log++[e]}=P.op+1:=Oc
 exact⟨z.n,z.odd,z.me,z.vw,z.bs,by rw[hop];have:=z.cm;show P.cm<=P.op+1;omega,Pb,z.told,z.aG,z.aH,z.ans,z.tab,z.svl,z.srt,λx hx=>by
  rcases List.mem_append.1 hx with h1|h1
  ·exact z.ent x h1
  ·simp at h1;subst h1;exact he⟩
theorem mG:∀(l:List Ent) (P:PR),(dt l P).2.length<=l.length
 |[],P=>by simp[dt]
 | e::l,P=>by
   rw[dt];have:=mG l (br P e).1;have h1:(br P e).2.length<=1:=Pm;simp only[List.length_append,List.length_cons];omega
theorem df:∀(l:List Ent) (P:PR),(dt l P).1.op=P.op/\(dt l P).1.vw=P.vw/\(dt l P).1.me=P.me/\(dt l P).1.n=P.n/\(dt l P).1.st=P.st
 |[],P=>⟨rfl,rfl,rfl,rfl,rfl⟩
 | e::l,P=>by
   rw[dt];exact df l (br P e).1
theorem eE(P:PR)(k:Nat):(aq P k).2.length<=P.op:=by refine Nat.le_trans (mG _ _) ?_;unfold PR.todo PR.op;simp;omega
theorem rX{e:Ent}(hk:P.cm<k)(hb:P.bs<=P.cm)(he:P.log[P.cm-P.bs]? = some e):aq P k=((aq (br P e).1 k).1,(br P e).2++(aq (br P e).1 k).2):=by
 have hlt:P.cm-P.bs<P.log.length:=(List.getElem?_eq_some_iff.1 he).1;have heq:P.log[P.cm-P.bs]=e:=(List.getElem?_eq_some_iff.1 he).2;have h1:P.todo k=e::(br P e).1.todo k:=by
  unfold PR.todo
  rw[List.drop_eq_getElem_cons hlt,heq,show k-P.cm=(k-(P.cm+1))+1 by omega,List.take_succ_cons];show e::((P.log.drop (P.cm-P.bs+1)).take (k-(P.cm+1)))=e::((P.log.drop (P.cm+1-P.bs)).take (k-(P.cm+1)));rw[show P.cm-P.bs+1=P.cm+1-P.bs by omega]
 unfold aq;rw[h1,dt]
theorem iO(hb:P.bs<=P.cm)(h:k<=P.cm\/P.op<=P.cm):aq P k=(P,[]):=by
 have:P.todo k=[]:=by
  unfold PR.todo PR.op at *;rcases h with h|h
  ·rw[show k-P.cm=0 by omega,List.take_zero]
  ·rw[List.drop_eq_nil_iff.2 Nr,List.take_nil]
 unfold aq;rw[this];rfl
def PR.pA(P:PR):Bool:=P.st==1&&P.aJ
def PR.pV(P:PR):List Bool:=if P.st=1 then P.aG else List.replicate P.n false
def PR.pC(P:PR):List Mg:=if P.st=1 then P.aH else if P.st=2 then P.ans else []
end Vr
namespace Go.Tm
open Vr
variable{q:Nat->Bool}{a b d:Int}{v:Value}{h:ag}
theorem tO{r:Operand}{name:String}{l:Array Operand}{ts:Array TypeId}:(Call.operands ⟨.invoke r name,l,ts⟩).toList=r::l.toList:=by simp[Call.operands]
theorem GZ(h:scQ q v=true):scQ q (.agg #[.int .i64 a,.int .i64 b,v])=true:=by simp[scQ,iK,j5,h]
theorem GY{c:Int}(h:scQ q v=true):scQ q (.agg #[.int .i64 a,.int .i64 b,.int .i64 c,.int .i64 d,v])=true:=by simp[scQ,iK,j5,h]
theorem yM{c:Int}{f:Bool}(h:scQ q v=true):scQ q (.tuple #[.agg #[.int .i64 a,.int .i64 b,.int .i64 c,.int .i64 d,v],.bool f])=true:=by simp[scQ,iK,j5,h]
theorem cR{motive:ag->Prop}(p:ag->Prop)(hp:p h)(K:∀H,p H->motive H):motive h:=K h hp
def awb(v:Value)(b:Bool):Bool:=match v with| .bool c=>c==b|_=>false
theorem vf{O:List Oper}{tm:Tr Value}{d:Option Nat}{op:Op}{ty:TypeId}{pos:String}{aft:Array Edge}{j:Nat}{b:Bool}:bf O tm ⟨d,op,ty,pos,aft,some (j,b)⟩=awb (sx O j tm) b:=by
 simp only[bf,sx,awb]
 cases hj:(O[j]?).bind (·.dst) with
 |none=>simp[undef]
 |some d'=>simp only;cases aj tm d'<;>simp
theorem Iy{c b:Bool}:awb (.bool c) b=(c==b):=rfl
attribute [push_cast] vf Iy implies_true
abbrev mgC(m:Mg)(s1 s2 s3:Value):List Value:=[iv m.k,iv m.fr,iv m.to,iv m.vw,iv m.op,iv m.cm,iv m.bs,iv m.nm,iv m.nc,s1,s2,iv m.en.c,iv m.en.n,.string m.en.t,iv m.rp.e,iv m.rp.n,s3]
abbrev mCS(m:Mg)(b1:Option Addr)(d1:Nat)(b2:Option Addr)(d2:Nat)(b3:Option Addr)(d3:Nat):List Value:=mgC m (.slice b1 m.log.length d1) (.slice b2 m.img.length d2) (.slice b3 0 d3)
attribute [push_cast] mgC
abbrev ptr(b:Nat):Value:=.pointer (some ⟨b,0,none⟩)
def CmR(E:Env)(G:Mem)(es:List MapEntry)(ck:Nat)(L:List Mg):Prop :=
 ((es.map (·.born)).Nodup/\∀e,e∈es->e.born<ck)/\∃ks:List Nat,ks.Nodup/\es.length=ks.length/\(∀i,i∈ks↔∃m,L[i]? = some m/\m.k≠0) /\
  ∀(j k:Nat),ks[j]? = some k->∃e m cs,es[j]? = some e/\e.key=iv k/\e.val=.agg cs.toArray/\L[k]? = some m/\MgR E G m cs
theorem CmR.sub{E:Env}{G G':Mem}(s:Sub G G'){es:List MapEntry}{ck:Nat}{L:List Mg}(h:CmR E G es ck L):CmR E G' es ck L:=by obtain⟨h0,ks,h1,h2,h3,h4⟩:=h;refine⟨h0,ks,h1,h2,h3,λj k hj=>?_⟩;obtain⟨e,m,cs,a1,a2,a3,a4,a5⟩:=h4 j k hj;exact⟨e,m,cs,a1,a2,a3,a4,a5.sub s⟩
theorem CmR.none{E:Env}{G:Mem}{ck:Nat}{L:List Mg}(h:∀m,m∈L->m.k=0):CmR E G [] ck L:=⟨⟨List.nodup_nil,λe h=>N7⟩,[],List.nodup_nil,rfl,λi=>by
 constructor
 ·intro h;simp at h
 ·rintro⟨m,hm,hk⟩;exact absurd (h m (List.mem_of_getElem? hm)) hk,λj k h=>N7⟩
theorem CmR.nil{E:Env}{G:Mem}{ck:Nat}:CmR E G [] ck []:=CmR.none (λm h=>by simp at h)
abbrev qC(P:PR)(t c:Nat)(vl vt vv vo:Value):List Value :=
 [iv P.me,iv P.n,.iface 47 (ptr t),iv P.vw,iv P.st,iv P.nm,iv P.op,iv P.cm,iv P.bs,iv P.nc,vl,vt,vv,.bool P.pA,.map (some c),vo]
attribute [push_cast] qC
structure SO(E:Env)(G:Mem)(h:ag)(X:Nat->Prop):Prop where
 wf:WF E h
 frz:Frz E G h
 dis:∀b c,G b=some c->¬X b
 lt:∀b,X b->b<h.next
structure PX(E:Env)(G:Mem)(h:ag)(X:Nat->Prop)(G':Mem)(h':ag)(X':Nat->Prop):Prop where
 sub:Sub G G'
 new:∀b c,G' b=some c->G b=some c\/h.next<=b
 kx:KX X h h'
 xs:∀b,X' b->X b\/h.next<=b
 so:SO E G' h' X'
theorem PX.refl{E:Env}{G:Mem}{h:ag}{X:Nat->Prop}(s:SO E G h X):PX E G h X G h X:=⟨Sub.refl _,λb c x=>.inl x,KX.refl _ _,λb x=>.inl x,s⟩
theorem PX.trans{E:Env}{G G1 G2:Mem}{h h1 h2:ag}{X X1 X2:Nat->Prop}(hW:WF E h)(a:PX E G h X G1 h1 X1)(b:PX E G1 h1 X1 G2 h2 X2):PX E G h X G2 h2 X2 :=
 ⟨a.sub.trans b.sub,λx c hx=>by
  rcases b.new x c hx with h3|h3
  ·exact a.new x c h3
  ·right;have:=a.kx.next;omega,a.kx.then hW b.kx a.xs,λx hx=>by
  rcases b.xs x hx with h3|h3
  ·exact a.xs x h3
  ·right;have:=a.kx.next;omega,b.so⟩
theorem SO.ext{E:Env}{G G':Mem}{h h':ag}{X:Nat->Prop}(s:SO E G h X)(x:Ext E G h G' h'):SO E G' h' X:=⟨x.wf,x.frz,λb c hb hx=>by
 rcases x.new b c hb with h3|h3
 ·exact s.dis b c h3 hx
 ·have:=s.lt b hx;omega,λb hx=>Nat.lt_of_lt_of_le (s.lt b hx) x.aK.next⟩
theorem PX.ext{E:Env}{G G':Mem}{h h':ag}{X:Nat->Prop}(s:SO E G h X)(x:Ext E G h G' h'):PX E G h X G' h' X:=⟨x.sub,x.new,x.aK.x X,λb x=>.inl x,s.ext x⟩
theorem SO.kw{E:Env}{G:Mem}{h h':ag}{X:Nat->Prop}(s:SO E G h X)(k:KW E h h'):SO E G h' X:=s.ext (k.ext s.frz)
theorem PX.kw{E:Env}{G:Mem}{h h':ag}{X:Nat->Prop}(s:SO E G h X)(k:KW E h h'):PX E G h X G h' X:=PX.ext s (k.ext s.frz)
theorem PX.put{E:Env}{G:Mem}{h:ag}{X:Nat->Prop}(s:SO E G h X){b:Nat}{o o':bz}(hx:X b)(hb:h.get b=some o'):PX E G h X G (h.put b o) X:=by
 have hfr:∀x p,¬X x->h.get x=some p->(h.put b o).get x=some p:=λx p hn hg=>by
  rw[ai,if_neg (λe=>hn (by rw[<-e];exact hx))];exact hg
 refine⟨Sub.refl _,λb c x=>.inl x,⟨hfr,Nw⟩,λb x=>.inl x,s.wf.put hb,λx c hc=>?_,s.dis,λb hx=>by simpa using s.lt b hx⟩;obtain⟨e,fx,hg⟩:=s.frz x c hc;exact⟨e,fx,hfr _ _ (s.dis x c hc) hg⟩
theorem PX.fresh{E:Env}{G G':Mem}{h1:ag}{X X':Nat->Prop}(hW:WF E h)(p:PX E G h X G' h1 X'){b:Nat}{o o':bz}(hn:h.next<=b)(hG:G' b=none)(hb:h1.get b=some o'):PX E G h X G' (h1.put b o) X':=by
 refine⟨p.sub,p.new,⟨λx q hx hg=>?_,by simpa using p.kx.next⟩,p.xs,p.so.wf.put hb,λx c hc=>?_,p.so.dis,λx hx=>by simpa using p.so.lt x hx⟩
 ·rw[ai,if_neg (by have:=(hW.live _ _ hg).2;omega)];exact p.kx.get x q hx hg
 ·obtain⟨e,fx,hg⟩:=p.so.frz x c hc;exact⟨e,fx,by rw[ai,if_neg (λe=>by subst e;rw[hG]at hc;cases hc)];exact hg⟩
theorem SO.eH{E:Env}{G:Mem}{h:ag}{X:Nat->Prop}(s:SO E G h X){b:Nat}(hb:h.next<=b):G b=none:=by
 cases hg:G b with
 |none=>rfl
 |some c =>obtain⟨e,fx,hh⟩:=s.frz b c hg;have:=(s.wf.live _ _ hh).2;omega
theorem PX.app{E:Env}{G:Mem}{h h':ag}{X:Nat->Prop}(s:SO E G h X){e z lo m:Nat}{cs':List Value}{v v':Value}(a:Apd E h h' e z lo m cs' v v')(hx:∀b,b∈slB v->X b):PX E G h X G h' (λb=>X b\/b∈slB v'):=by
 refine⟨Sub.refl _,λb c x=>.inl x,⟨λb o hn hb=>a.get b o hb λhs=>hn (hx b hs),a.next⟩,λb hb=>?_,a.wf,λb c hb=>?_,λb c hb=>?_,λb hb=>?_⟩
 ·rcases hb with hb|hb
  ·exact .inl hb
  ·rcases a.blk b hb with h1|h1
   ·exact .inl (hx b h1)
   ·exact .inr h1
 ·obtain⟨e,fx,hg⟩:=s.frz b c hb;exact⟨e,fx,a.get _ _ hg λhs=>s.dis b c hb (hx b hs)⟩
 ·rintro(h1|h1)
  ·exact s.dis b c hb h1
  ·rcases a.blk b h1 with h2|h2
   ·exact s.dis b c hb (hx b h2)
   ·obtain⟨e,fx,hg⟩:=s.frz b c hb;have:=(s.wf.live _ _ hg).2;omega
 ·rcases hb with h1|h1
  ·exact Nat.lt_of_lt_of_le (s.lt b h1) a.next
  ·exact(a.own.lt a.wf b h1).2
theorem Own.tag{h:ag}{e z lo n:Nat}{cs:List Value}{v:Value}(H:Own h e z lo n cs v){b:Nat}{o:bz}(hb:h.get b=some o)(ho:∀c fx,o≠.cells c e fx):b∉slB v:=by
 rcases H with⟨rfl,_⟩|⟨j,cap,rest,fx,rfl,hg,_⟩
 ·simp[slB]
 ·simp only[slB,List.mem_singleton];intro e1;subst e1;rw[hb]at hg;injection hg with hg;exact ho _ _ hg
structure QD where
 c:Nat
 vl:Value
 vt:Value
 vv:Value
 vo:Value
structure QR'(E:Env)(G:Mem)(h:ag)(X:Nat->Prop)(P:PR)(out:List Mg)(r t:Nat)(D:QD):Prop where
 hr:h.get r=some (.cells (qC P t D.c D.vl D.vt D.vv D.vo) 78 true)
 ht:∃ss,h.get t=some (.cells ss 45 true)/\SvR E G P.sv ss
 hl:Own h 60 3 0 P.log.length (cq P.log) D.vl
 htl:Own h 3 1 0 P.told.length (bT P.told) D.vt
 hv:Own h 4 1 0 P.pV.length (cF P.pV) D.vv
 ho:∃co,Own h 66 17 0 out.length co D.vo/\bu E G out co
 hc:∃es ck,h.get D.c=some (.map es ck)/\CmR E G es ck P.pC
 hx:∀b,b∈r::t::D.c::(slB D.vl++slB D.vt++slB D.vv++slB D.vo)->X b
def QR(E:Env)(G:Mem)(h:ag)(X:Nat->Prop)(P:PR)(out:List Mg)(r t:Nat):Prop:=∃D,QR' E G h X P out r t D
theorem QR'.out{E:Env}{G G':Mem}{h h':ag}{X X':Nat->Prop}{P P':PR}{out out':List Mg}{r t:Nat}{D:QD}{vo':Value}(q:QR' E G h X P out r t D)(sub:Sub G G')
 (hr:h'.get r=some (.cells (qC P' t D.c D.vl D.vt D.vv vo') 78 true)) (k:∀b o,b≠r->b∉slB D.vo->h.get b=some o->h'.get b=some o)
 (hl:P'.log=P.log) (hs:P'.sv=P.sv) (ht:P'.told=P.told) (hv:P'.pV=P.pV) (hc:P'.pC=P.pC)
 (ho:∃co,Own h' 66 17 0 out'.length co vo'/\bu E G' out' co) (hx:∀b,X b->X' b) (hx':∀b,b∈slB vo'->X' b):QR' E G' h' X' P' out' r t {D with vo:=vo'}:=by
 obtain⟨co,o1,o2⟩:=q.ho;obtain⟨ss,t1,t2⟩:=q.ht;obtain⟨es,ck,c1,c2⟩:=q.hc
 have key:∀b o,h.get b=some o->(∀c fx,o≠.cells c 66 fx)->(∀c fx,o≠.cells c 78 fx)->h'.get b=some o:=λb o hb h1 h2=>k b o (λe=>by
  subst e;rw[q.hr]at hb;injection hb with hb
  exact h2 _ _ hb.symm) (o1.tag hb h1) hb
 have own:∀{e n:Nat} {cs:List Value} {v:Value} {z:Nat},e≠66->e≠78->Own h e z 0 n cs v->Own h' e z 0 n cs v:=λ{e n cs v z} h1 h2 H=>by
  rcases H with H|⟨b,cap,rest,fx,rfl,hg,h3⟩
  ·exact .inl H
  ·exact .inr ⟨b,cap,rest,fx,rfl,key b _ hg (λc fx e=>by injection e with _ e;exact h1 e) (λc fx e=>by injection e with _ e;exact h2 e),h3⟩
 refine⟨hr,⟨ss,key _ _ t1 (λc fx e=>by injection e with _ e;cases e) (λc fx e=>by injection e with _ e;cases e),by rw[hs];exact t2.sub sub⟩,by rw[hl];exact own (by decide) (by decide) q.hl,by rw[ht];exact own (by decide) (by decide) q.htl,by rw[hv];exact own (by decide) (by decide) q.hv,ho,
  ⟨es,ck,key _ _ c1 (λc fx e=>by cases e) (λc fx e=>by cases e),by rw[hc];exact c2.sub sub⟩,λb hb=>?_⟩
 simp only[List.mem_cons,List.mem_append]at hb;rcases hb with h1|h1|h1|((h1|h1)|h1)|h1
 ·exact hx b (q.hx b N6)
 ·exact hx b (q.hx b N6)
 ·exact hx b (q.hx b N6)
 ·exact hx b (q.hx b N6)
 ·exact hx b (q.hx b N6)
 ·exact hx b (q.hx b N6)
 ·exact hx' b h1
theorem QR'.lW{h h':ag}{b0:Nat}{o0:bz}(h0:h.get b0=some o0)(k:∀b o,b≠b0->h.get b=some o->h'.get b=some o){e z n:Nat}{cs:List Value}{v:Value}(ht:∀c fx,o0≠.cells c e fx)(H:Own h e z 0 n cs v):Own h' e z 0 n cs v:=by refine H.at λb o hb hg=>k b o (λe1=>?_) hg;subst e1;exact H.tag h0 ht hb
theorem QR'.hdr{E:Env}{G G':Mem}{h h':ag}{X X':Nat->Prop}{P P':PR}{out:List Mg}{r t:Nat}{D:QD}(q:QR' E G h X P out r t D)(sub:Sub G G')
 (hr:h'.get r=some (.cells (qC P' t D.c D.vl D.vt D.vv D.vo) 78 true)) (k:∀b o,b≠r->h.get b=some o->h'.get b=some o)
 (hl:P'.log=P.log) (hs:P'.sv=P.sv) (ht:P'.told=P.told) (hv:P'.pV=P.pV) (hc:P'.pC=P.pC) (hx:∀b,X b->X' b):QR' E G' h' X' P' out r t D:=by
 obtain⟨co,o1,o2⟩:=q.ho;have hxo:∀b,b∈slB D.vo->X' b:=λb hb=>hx b (q.hx b NN);have:=q.out (vo':=D.vo) sub hr (λb o hb _ hg=>k b o hb hg) hl hs ht hv hc ⟨co,QR'.lW q.hr k (λc fx e=>by injection e with _ e;cases e) o1,o2.sub sub⟩ hx hxo;exact this
theorem QR'.lg{E:Env}{G G':Mem}{h h':ag}{X X':Nat->Prop}{P P':PR}{out:List Mg}{r t:Nat}{D:QD}{vl':Value}(q:QR' E G h X P out r t D)(sub:Sub G G')
 (hr:h'.get r=some (.cells (qC P' t D.c vl' D.vt D.vv D.vo) 78 true)) (k:∀b o,b≠r->b∉slB D.vl->h.get b=some o->h'.get b=some o)
 (hl:Own h' 60 3 0 P'.log.length (cq P'.log) vl') (hs:P'.sv=P.sv) (ht:P'.told=P.told) (hv:P'.pV=P.pV) (hc:P'.pC=P.pC)
 (hx:∀b,X b->X' b) (hx':∀b,b∈slB vl'->X' b):QR' E G' h' X' P' out r t {D with vl:=vl'}:=by
 obtain⟨co,o1,o2⟩:=q.ho;obtain⟨ss,t1,t2⟩:=q.ht;obtain⟨es,ck,c1,c2⟩:=q.hc
 have key:∀b o,h.get b=some o->(∀c fx,o≠.cells c 60 fx)->(∀c fx,o≠.cells c 78 fx)->h'.get b=some o:=λb o hb h1 h2=>k b o (λe=>by
  subst e;rw[q.hr]at hb;injection hb with hb
  exact h2 _ _ hb.symm) (q.hl.tag hb h1) hb
 have own:∀{e n:Nat} {cs:List Value} {v:Value} {z:Nat},e≠60->e≠78->Own h e z 0 n cs v->Own h' e z 0 n cs v:=λ{e n cs v z} h1 h2 H=>by
  rcases H with H|⟨b,cap,rest,fx,rfl,hg,h3⟩
  ·exact .inl H
  ·exact .inr ⟨b,cap,rest,fx,rfl,key b _ hg (λc fx e=>by injection e with _ e;exact h1 e) (λc fx e=>by injection e with _ e;exact h2 e),h3⟩
 refine⟨hr,⟨ss,key _ _ t1 (λc fx e=>by injection e with _ e;cases e) (λc fx e=>by injection e with _ e;cases e),by rw[hs];exact t2.sub sub⟩,hl,by rw[ht];exact own (by decide) (by decide) q.htl,by rw[hv];exact own (by decide) (by decide) q.hv,⟨co,own Nz Nz o1,o2.sub sub⟩,
  ⟨es,ck,key _ _ c1 (λc fx e=>by cases e) (λc fx e=>by cases e),by rw[hc];exact c2.sub sub⟩,λb hb=>?_⟩
 simp only[List.mem_cons,List.mem_append]at hb;rcases hb with h1|h1|h1|((h1|h1)|h1)|h1
 ·exact hx b (q.hx b N6)
 ·exact hx b (q.hx b N6)
 ·exact hx b (q.hx b N6)
 ·exact hx' b h1
 ·exact hx b (q.hx b N6)
 ·exact hx b (q.hx b N6)
 ·exact hx b (q.hx b N6)
theorem QR'.toy{E:Env}{G G':Mem}{h h':ag}{X X':Nat->Prop}{P:PR}{s':Sv}{out:List Mg}{r t:Nat}{D:QD}{scv:List Value}(q:QR' E G h X P out r t D)(sub:Sub G G')
 (ht:h'.get t=some (.cells scv 45 true)) (hs:SvR E G' s' scv) (k:∀b o,b≠t->h.get b=some o->h'.get b=some o) (hx:∀b,X b->X' b):QR' E G' h' X' {P with sv:=s'} out r t D:=by
 obtain⟨co,o1,o2⟩:=q.ho;obtain⟨ss,t1,t2⟩:=q.ht;obtain⟨es,ck,c1,c2⟩:=q.hc;refine⟨k _ _ (λe=>?_) q.hr,⟨scv,ht,hs⟩,QR'.lW t1 k (λc fx e=>by injection e with _ e;cases e) q.hl,QR'.lW t1 k (λc fx e=>by injection e with _ e;cases e) q.htl,QR'.lW t1 k (λc fx e=>by injection e with _ e;cases e) q.hv,⟨co,QR'.lW t1 k (λc fx e=>by injection e with _ e;cases e) o1,o2.sub sub⟩,⟨es,ck,k _ _ (λe=>?_) c1,c2.sub sub⟩,λb hb=>hx b (q.hx b hb)⟩
 ·have h1:=q.hr;rw[e,t1]at h1;injection h1 with h1;injection h1 with _ h1;cases h1
 ·rw[e,t1]at c1;injection c1 with c1;cases c1
theorem QR'.aK{E:Env}{G G':Mem}{h h':ag}{X:Nat->Prop}{P:PR}{out:List Mg}{r t:Nat}{D:QD}(q:QR' E G h X P out r t D)(sub:Sub G G')(k:gu h h'):QR' E G' h' X P out r t D:=by obtain⟨co,o1,o2⟩:=q.ho;obtain⟨ss,t1,t2⟩:=q.ht;obtain⟨es,ck,c1,c2⟩:=q.hc;exact⟨k.get _ _ q.hr,⟨ss,k.get _ _ t1,t2.sub sub⟩,q.hl.aK k,q.htl.aK k,q.hv.aK k,⟨co,o1.aK k,o2.sub sub⟩,⟨es,ck,k.get _ _ c1,c2.sub sub⟩,q.hx⟩
theorem QR.ext{E:Env}{G G':Mem}{h h':ag}{X:Nat->Prop}{P:PR}{out:List Mg}{r t:Nat}(q:QR E G h X P out r t)(x:Ext E G h G' h'):QR E G' h' X P out r t:=by obtain⟨D,q⟩:=q;exact⟨D,q.aK x.sub x.aK⟩
end Go.Tm
