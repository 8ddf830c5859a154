/- Part 8. -/
import Derived.Test.YthbjaiilnkakcaaGreatDoorT07
set_option linter.all false
set_option maxRecDepth 10000
set_option maxHeartbeats 8000000
namespace Go.Tm
open Vr
variable{E:Env}
theorem lx{t e z by_:Nat}(T:jW E t e z by_):mL E.P t 0 []=some (λb=>.slice (some ⟨b,0,none⟩) 0 0,.cells [] e true):=by
 obtain⟨i,hi,hiz⟩:∃i,E.P.info? e=some i/\(i.size,i.bytes)=(z,by_):=by have:=T.info;rw[Option.map_eq_some_iff]at this;exact this
 injection hiz with hz1 hz2;subst hz1;subst hz2;obtain⟨zv,hzv,hzl⟩:=T.zero;obtain⟨z',hz'⟩:∃z',i.size=z'+1:=⟨i.size-1,by have:=T.pos;omega⟩;have hs:asz E.P e=some (z'+1):=by simp[asz,hi,hz']
 simp only[mL,T.und,hs,hzv];rw[if_pos ⟨Nr,by rw[hzl,hz']⟩];simp[dP,bR]
theorem Own.empty{E:Env}{h:ag}{e z lo:Nat}(hl:lo<=h.next):Own (h.push (.cells [] e true)) e z lo 0 [] (.slice (some ⟨h.next,0,none⟩) 0 0) :=
 .inr ⟨h.next,0,[],true,rfl,by simp[ah],Nw,Nw,Nr,hl,Nr⟩
theorem iA:∀(L:List UInt8),(cM L).all Value.oneCell'=true
 |[]=>rfl
 | x::L=>by
   have:=iA L;unfold cM at this|-;rw[List.map_cons,List.all_cons,this];rfl
theorem QR'.mh{E:Env}{G G':Mem}{h h':ag}{X:Nat->Prop}{P:PR}{out:List Mg}{r t:Nat}{D:QD}(q:QR' E G h X P out r t D)(sub:Sub G G')(k:∀b o,X b->h.get b=some o->h'.get b=some o):QR' E G' h' X P out r t D:=by obtain⟨co,o1,o2⟩:=q.ho;obtain⟨ss,t1,t2⟩:=q.ht;obtain⟨es,ck,c1,c2⟩:=q.hc;have kx:∀b,b∈r::t::D.c::(slB D.vl++slB D.vt++slB D.vv++slB D.vo)->∀o,h.get b=some o->h'.get b=some o:=λb hb o hg=>k b o (q.hx b hb) hg;exact⟨kx _ Nw _ q.hr,⟨ss,kx _ Nw _ t1,t2.sub sub⟩,q.hl.at λb o hb=>kx b NN o,q.htl.at λb o hb=>kx b NN o,q.hv.at λb o hb=>kx b NN o,⟨co,o1.at λb o hb=>kx b NN o,o2.sub sub⟩,⟨es,ck,kx _ Nw _ c1,c2.sub sub⟩,q.hx⟩
theorem QR'.tl{E:Env}{G:Mem}{h h':ag}{X:Nat->Prop}{P:PR}{out:List Mg}{r t:Nat}{D:QD}{T:List Nat}(q:QR' E G h X P out r t D)(k:∀b o,b∉slB D.vt->h.get b=some o->h'.get b=some o)(ho:Own h' 3 1 0 T.length (bT T) D.vt):QR' E G h' X {P with told:=T} out r t D:=by
 obtain⟨co,o1,o2⟩:=q.ho;obtain⟨ss,t1,t2⟩:=q.ht;obtain⟨es,ck,c1,c2⟩:=q.hc;have key:∀b o,h.get b=some o->(∀c fx,o≠.cells c 3 fx)->h'.get b=some o:=λb o hb h1=>k b o (q.htl.tag hb h1) hb
 have own:∀{e n:Nat} {cs:List Value} {v:Value} {z:Nat},e≠3->Own h e z 0 n cs v->Own h' e z 0 n cs v:=λ{e n cs v z} h1 H=>by
  rcases H with H|⟨b,cap,rest,fx,rfl,hg,h3⟩
  ·exact .inl H
  ·exact .inr ⟨b,cap,rest,fx,rfl,key b _ hg (λc fx e=>by injection e with _ e;exact h1 e),h3⟩
 exact⟨key _ _ q.hr (λc fx e=>by injection e with _ e;cases e),⟨ss,key _ _ t1 (λc fx e=>by injection e with _ e;cases e),t2⟩,own Nz q.hl,ho,own Nz q.hv,⟨co,own Nz o1,o2⟩,
  ⟨es,ck,key _ _ c1 (λc fx e=>by cases e),c2⟩,q.hx⟩
theorem PX.pb{E:Env}{G:Mem}{h h1 h2:ag}{X:Nat->Prop}(hS:SO E G h X)(p:PX E G h X G h1 X){b:Nat}{o:bz}(hb:h.next<=b)(a:PB E h1 h2 b o):PX E G h X G h2 X :=
 ⟨p.sub,p.new,⟨λx q hx hg=>a.oth x q (λe=>by have:=(hS.wf.live _ _ hg).2;omega) (p.kx.get x q hx hg),by rw[a.next];exact p.kx.next⟩,p.xs,
  ⟨a.wf,λx c hc=>by
   obtain⟨e,fx,hg⟩:=p.so.frz x c hc
   exact⟨e,fx,a.oth _ _ (λe=>by subst e;rw[hS.eH hb]at hc;cases hc) hg⟩,p.so.dis,λx hx=>by rw[a.next];exact p.so.lt x hx⟩⟩
end Go.Tm
theorem Go.Tm.aO{E:Env}{f:FuncId}{a:List Value}{H:ag}{tm:Tr Value}{d:Option Nat}{R:bl}(ks:List Nat)(K:∀t,(∀i,i∈ks->aj t i=aj tm i)->af E f a H (dS t d R)):af E f a H (dS tm d R):=K tm λ_ _=>rfl
namespace Go.Proofs.YthbjaiilnkakcaaGreatDoor
open Go.Tm Vr
variable{E:Env}(hE:EOk E)
include hE
theorem FU{G:Mem}{h:ag}(hW:WF E h)(hG:Frz E G h){n:Nat}{cs:List Value}{v:Value}(hv:Sl E G 1 n cs v)(ho:cs.all Value.oneCell'=true)(hl:cs.length=n)(hn:0<n/\n<=1000000):af E 74 [v] h λv' h'=>Own h' 3 1 h.next n cs v'/\KW E h h':=by
 obtain⟨a,c,rfl,hc1,hc2⟩:=hv.slice;have hv':=hv;obtain⟨a',c',e1,_,_,⟨h3,_⟩,h4⟩:=hv';injection e1 with e1 _ e2;subst e1;subst e2;rcases a with _|a
 ·rcases h4 with⟨h5,_⟩|⟨b,h5,_⟩
  ·omega
  ·cases h5
 ·refine en hE Tryz.func74 rfl rfl Tryz.ntmps74 rfl Nv (rs:=[.tmp 2]) rfl ?_;simp only[push_cast,seval,hE.P];have hnil:hJ Tryz.prog true 27 (.slice (some a) n c) (.slice none 0 0)=some false:=by simp[hJ,Tryz.underlying27]
  have hz:mL Tryz.prog 27 0 []=some (λb=>.slice (some ⟨b,0,none⟩) 0 0,.cells [] 3 true):=by have:=lx (KB hE.P);rwa[hE.P]at this
  rw[hnil];simp only[push_cast,seval,hE.P,ab,Option.map_some];rw[hz,aR];simp only[push_cast,seval];have k0:=(KW.refl hW).push (o:=.cells [] 3 true);refine ej (KB hE.P) (hW.push _) (hG.aK k0.k) (lo:=h.next) Nw (Own.empty (E:=E) (Nat.le_refl _)) hv Nr ho Nr Nr ?_;intro v' h' a';simp only[push_cast,seval];have o':=a'.own;rw[Nat.zero_add,List.nil_append]at o';exact⟨o',k0.app hW (Own.empty (E:=E) (Nat.le_refl _)) a'⟩
section
variable{G:Mem}{h:ag}{X:Nat->Prop}(hS:SO E G h X){P:PR}{out:List Mg}{r t:Nat}(hQ:QR E G h X P out r t)
include hS hQ
theorem xe(z:P.Sz)(ho:out.length<=100){m:Mg}{ms:List Value}(hm:MgR E G m ms)(hk:m.k=3)(hmo:m.op<=P.op)(hfr:m.fr<P.n):af E 36 [ptr r,.agg ms.toArray] h λv h'=>v=.tuple #[]/\∃G' X',PX E G h X G' h' X'/\QR E G' h' X' (aX P m).1 (out++(aX P m).2) r t:=by
 have hm0:=hm;obtain⟨b1,d1,b2,d2,b3,d3,rfl,m1,m2,m3⟩:=hm.e;refine en hE Tryz.func36 rfl rfl Tryz.ntmps36 rfl Nv (rs:=[]) rfl ?_;simp only[push_cast,seval];have k0:=(KW.refl hS.wf).push (o:=.cells (mCS m b1 d1 b2 d2 b3 d3) 66 true);have p0:=PX.kw hS k0;have q0:=hQ.ext (k0.ext hS.frz);have ge:(h.push (.cells (mCS m b1 d1 b2 d2 b3 d3) 66 true)).get h.next=some (.cells (mCS m b1 d1 b2 d2 b3 d3) 66 true):=NI;refine gtA [0,3] λt1 hf=>?_;simp only[push_cast,seval,gz]at hf;obtain⟨f0,f3⟩:=hf;refine cR (motive:=λH=>aF E _ _ _ H) (λH=>PX E G h X G H X/\QR E G H X P out r t/\H.get h.next=some (.cells (mCS m b1 d1 b2 d2 b3 d3) 66 true)) ⟨p0,q0,ge⟩ ?_;clear p0 q0 ge k0;rintro H ⟨p0,q0,ge⟩;have q0':=q0;obtain⟨⟨dc,vl,vt,vv,vo⟩,q⟩:=q0';have hr:=q.hr;have nr:=p0.so.wf.nlt hr;have ne:=p0.so.wf.nlt ge;have zn:=z.n;have zt:=z.told;have zm:=z.me;have hn:1<=P.n/\P.n<=1000:=⟨Nr,Nr⟩;have hvw:P.vw<=1099511627776:=Of;generalize hR:aX P m=R;unfold aX at hR;refine ax Nt ?_;simp only[push_cast,seval,f0];refine(gP hE p0.so q0 hn hvw).mono ?_;intro v h5 hvh;rw[hvh.1,hvh.2];clear hvh;by_cases hst:P.st=0
 ·rw[if_neg Nr,if_pos hk]at hR;cases hp:P.bF
  ·have hb:(P.st==0&&false)=false:=Nw;rw[hp,if_pos (.inl rfl)]at hR;subst hR;simp only[push_cast,seval,hb];exact⟨G,X,p0,OI⟩
  ·have hb:(P.st==0&&true)=true:=NV;by_cases hv:m.vw=P.vw
   ·have hb2:((m.vw:Int) != (P.vw:Int))=false:=PG;rw[hp,if_neg PG]at hR;simp only[push_cast,seval,hE.P,f0,f3,hb,hr,nr,ge,ne,hb2];refine ax Nt ?_;obtain⟨tb,tc,hvt,htr⟩:=q.htl.elem p0.so.wf (show m.fr<P.told.length by omega);simp only at hvt;subst hvt;have hbf:=q.htl;rcases hbf with⟨hx,_⟩|⟨tb',cap,rest,fx,hx,hg,hg1,hg2,hg3,hg4,hg5⟩
    ·cases hx
    ·injection hx with hx _ hx2;injection hx with hx;injection hx with hx;subst hx;subst hx2;have ntr:(tb=r)=False:=by simp;intro e;rw[e,hr]at hg;injection hg with hg;injection hg with _ hg;cases hg
     have r1:=fV p0.so.wf hg (i:=m.fr) Nr;obtain⟨mx,hmx⟩:∃mx,mx=max (P.told.getD m.fr 0) m.op:=⟨_,rfl⟩;rw[<-hmx]at hR;have w1:=iw hg (i:=m.fr) (x:=mx) Nr;have hmv:max ((P.told.getD m.fr 0:Nat):Int) (min (m.op:Int) (P.op:Int))=(mx:Int):=Nr;simp only[push_cast,seval,hE.P,f0,f3,hr,nr,ge,ne];rw[jQ rfl Nr Nr,ab];simp only[push_cast,seval,hE.P,f0,f3,hr,nr,ge,ne,Nat.zero_add,↓r1,Int.toNat_natCast];rw[hmv,jQ rfl Nr Nr,ab];simp only[push_cast,seval,hE.P,f0,hr,nr,Nat.zero_add,↓w1,ey,Int.toNat_natCast,ntr];have p1:=p0.trans hS.wf (PX.put (o:=.cells (bT (P.told.set m.fr mx)++rest) 3 fx) p0.so (q.hx tb OA) hg);have hlt:(P.told.set m.fr mx).length=P.told.length:=Nw;have q1:QR' E G (H.put tb (.cells (bT (P.told.set m.fr mx)++rest) 3 fx)) X {P with told:=P.told.set m.fr mx} out r t ⟨dc,vl,.slice (some ⟨tb,0,none⟩) P.told.length tc,vv,vo⟩:=by refine q.tl (T:=P.told.set m.fr mx) (λb o hb hg'=>by rw[ai,if_neg (λe=>hb (by simp[slB];exact e.symm))];exact hg') ?_;exact .inr ⟨tb,tc,rest,fx,by rw[hlt],ND,by simp[bT],by rw[hlt];exact hg2,by rw[hlt];exact hg3,Nat.zero_le _,hg5⟩
     have hs1:(H.put tb (.cells (bT (P.told.set m.fr mx)++rest) 3 fx)).get tb=some (.cells (bT (P.told.set m.fr mx)++rest) 3 fx):=ND;have hw3:(Value.int .i64 (IntKind.i64.wrap ((P.n:Int)-(P.n:Int)/2)))=.int .i64 ((P.n-P.n/2:Nat):Int):=OU;refine cR (motive:=λH=>af E 74 _ H _) (λH2=>PX E G h X G H2 X/\QR' E G H2 X {P with told:=P.told.set m.fr mx} out r t ⟨dc,vl,.slice (some ⟨tb,0,none⟩) P.told.length tc,vv,vo⟩) ⟨p1,q1⟩ ?_;clear p1 q1 hs1;rintro H2 ⟨p2,q2⟩;refine aO [0,3] ?_;intro t2 hf;simp only[push_cast,seval,gz,f0,f3]at hf;obtain⟨f0,f3⟩:=hf;have htl2:=q2.htl;simp only[hlt]at htl2;obtain⟨G1,hs1,hsub1,hf1,hn1⟩:=htl2.Gd p2.so.wf p2.so.frz;refine(FU hE p2.so.wf hf1 hs1 (qH _) (by simp[bT]) Nr).mono ?_;rintro v3 H3 ⟨o3,kw3⟩;rcases o3 with⟨_,hx,_⟩|⟨cb,cc,crest,cfx,rfl,hcg,hc1,hc2,hc3,hc4,hc5⟩
     ·omega
     have p3:=p2.trans hS.wf (PX.kw p2.so kw3);have q3:=q2.aK (Sub.refl _) kw3.k;have hr3:=q3.hr;have nr3:=p3.so.wf.nlt hr3;have w3:bQ H3 ⟨cb,P.me,none⟩ [.int .i64 0]=some (H3.put cb (.cells (bT ((P.told.set m.fr mx).set P.me 0)++crest) 3 cfx)):=iw hcg (i:=P.me) (x:=0) Nu;have pb1:=(PB.refl kw3.w hcg).put (o':=.cells (bT ((P.told.set m.fr mx).set P.me 0)++crest) 3 cfx);simp only[push_cast,seval,hE.P,f0,hr3,nr3];rw[jQ rfl Nr Nr,ab];simp only[push_cast,seval,hE.P,Nat.zero_add,↓w3,ey,Int.toNat_natCast];refine(Je hE pb1.wf pb1.get (L:=(P.told.set m.fr mx).set P.me 0) (n:=P.told.length) Nw (by have:=z.odd;omega) hc3).mono ?_;rintro v4 H4 ⟨rfl,L',hperm,hsrt,pb2⟩;have hL':L'.length=P.n:=by rw[hperm.length_eq];simp[zt]
     have hcbX:¬X cb:=λhx=>by have:=p2.so.lt _ hx;omega
     have p4:=PX.pb hS (PX.pb hS p3 (by have:=p2.kx.next;omega) pb1) (by have:=p2.kx.next;omega) pb2;have q4:=q3.mh (h':=H4) (Sub.refl _) (λb o hb hg=>pb2.oth _ _ (λe=>hcbX (by rw[<-e];exact hb)) (pb1.oth _ _ (λe=>hcbX (by rw[<-e];exact hb)) hg));have hr4:=q4.hr;have nr4:=p4.so.wf.nlt hr4;have hz4:PR.Sz {P with told:=P.told.set m.fr mx}:=⟨z.n,z.odd,z.me,z.vw,z.bs,z.cm,z.op,by simp[zt],z.aG,z.aH,z.ans,z.tab,z.svl,z.srt,z.ent⟩;refine aB [(5,7)] Nt Nt Nt ?_;simp only[push_cast,seval,hE.P,f0,hr4,nr4];refine(JB hE p4.so ⟨_,q4⟩ (by show 1<=P.n/\P.n<=1000;exact hn)).mono ?_;intro v5 h5 hvh;rw[hvh.1,hvh.2];clear hvh;have hr5:=fV p4.so.wf pb2.get (i:=P.n-P.n/2) Nr;simp only[push_cast,seval,hE.P];rw[hw3,jQ rfl Nr Nr,ab];simp only[push_cast,seval,hE.P,Nat.zero_add,↓hr5,Int.toNat_natCast];have hcb:aq {P with told:=P.told.set m.fr mx} (gV {P with told:=P.told.set m.fr mx} (P.op-P.cm) (P.cm+1) 0)=aq {P with told:=P.told.set m.fr mx} (L'.getD (P.n-P.n/2) 0):=by
      refine Ak (P:={P with told:=P.told.set m.fr mx}) z.bs z.cm λk hk1=>?_;have hF:PR.F {P with told:=P.told.set m.fr mx}=P.n/2:=by have:=z.odd;show(P.n-1)/2=P.n/2;omega
      rw[hF,DE hk1 (by simp[zt]) (by show P.me<P.n;exact zm)];show P.n/2<=jd ((P.told.set m.fr mx).set P.me 0) k↔_;rw[<-BW hperm,FQ hsrt Nr Nr,hL']
     refine(kh hE p4.so ⟨_,q4⟩ hz4 Nr _).mono ?_;rintro v6 h6 ⟨rfl,G6,X6,px6,q6⟩;simp only[push_cast,seval,hE.P,hr4,nr4,aV];subst hR;rw[hcb];exact⟨G6,X6,p4.trans hS.wf px6,q6⟩
   ·have hb2:((m.vw:Int) != (P.vw:Int))=true:=Nu;rw[hp,if_pos (.inr hv)]at hR;subst hR;simp only[push_cast,seval,hE.P,f0,f3,hb,hr,nr,ge,ne,hb2];exact⟨G,X,p0,OI⟩
 ·have hb:∀b,(P.st==0&&b)=false:=NV;rw[if_pos hst]at hR;subst hR;simp only[push_cast,seval,hb];exact⟨G,X,p0,OI⟩
end
end Go.Proofs.YthbjaiilnkakcaaGreatDoor
namespace Go.Tm
theorem Ext.kw{E:Env}{G G':Mem}{h h1 h2:ag}(x:Ext E G h G' h1)(k:KW E h1 h2):Ext E G h G' h2:=⟨x.sub,x.frz.aK k.k,x.new,x.aK.trans k.k,k.w⟩
theorem Ext.put{E:Env}{G G':Mem}{h h1:ag}(x:Ext E G h G' h1)(hW:WF E h){b:Nat}{o o':bz}(hn:h.next<=b)(hG:G' b=none)(hb:h1.get b=some o'):Ext E G h G' (h1.put b o) :=
 ⟨x.sub,λj c hj=>by
  obtain⟨e,fx,hg⟩:=x.frz j c hj
  exact⟨e,fx,by rw[ai,if_neg (λe=>by subst e;rw[hG]at hj;cases hj)];exact hg⟩,x.new,⟨λj p hj=>by
  rw[ai,if_neg (by have:=(hW.live _ _ hj).2;omega)];exact x.aK.get j p hj,by simpa using x.aK.next⟩,x.wf.put hb⟩
theorem Ext.app{E:Env}{G G':Mem}{h h1 h2:ag}(x:Ext E G h G' h1)(hW:WF E h){e z lo n:Nat}{cs:List Value}{v v':Value}(a:Apd E h1 h2 e z lo n cs v v')(hv:∀b,b∈slB v->h.next<=b/\G' b=none):Ext E G h G' h2 :=
 ⟨x.sub,λj c hj=>by
  obtain⟨e,fx,hg⟩:=x.frz j c hj
  exact⟨e,fx,a.get _ _ hg λhs=>by rw[(hv _ hs).2]at hj;cases hj⟩,x.new,⟨λj p hj=>a.get _ _ (x.aK.get j p hj) λhs=>by
  have:=(hv _ hs).1
  have:=(hW.live _ _ hj).2;omega,Nat.le_trans x.aK.next a.next⟩,a.wf⟩
theorem Ext.eH{E:Env}{G G':Mem}{h h1:ag}(x:Ext E G h G' h1){b:Nat}(hb:h1.next<=b):G' b=none:=by
 cases hg:G' b with
 |none=>rfl
 |some c =>obtain⟨e,fx,hh⟩:=x.frz b c hg;have:=(x.wf.live _ _ hh).2;omega
end Go.Tm
theorem Go.Tm.oW{E:Env}{b:Code}{Q:cY}{tm:Tr Value}{h:ag}(H:wpc E b (rO (λ_ _ _=>False) 0 Q) tm h)(hm:gQ b=false:=by rfl):wpc E (.loop b) Q tm h:=by
 refine .inl ⟨hm,λn tm' h'=>tm'=tm/\h'=h,0,⟨rfl,rfl⟩,?_⟩;rintro n _ _ ⟨rfl,rfl⟩;refine oX b (λe tm h he=>?_) _ _ H
 cases e with
 |normal=>obtain⟨_,_,x⟩:=he;exact x.elim
 |ret=>exact he
 |exit i=>exact he
 |goto l=>exact he
namespace Go.Proofs.YthbjaiilnkakcaaGreatDoor
open Go.Tm Vr
variable{E:Env}(hE:EOk E)
include hE
theorem FP{h:ag}(hW:WF E h){e n:Nat}{a:Option Addr}{c:Nat}:af E 45 [.agg #[iv e,iv n,.slice a 0 c]] h λv h'=>KW E h h'/\∃b,Own h' 133 5 h.next 0 [] (.slice (some ⟨b,0,none⟩) 0 0)/\v=.agg #[iv e,iv n,.slice (some ⟨b,0,none⟩) 0 0]:=by have w0:=hW.b0;have w1:=hW.b1;refine en hE Tryz.func45 rfl rfl Tryz.ntmps45 rfl Nv (rs:=[.cell 2 64]) rfl ?_;simp only[push_cast,seval,hE.z,w0];rw[MP Nr Nr Nr Nr,aR];simp only[push_cast,seval,hE.z,w0];refine oW ?_;simp only[push_cast,seval,hE.z,w0,w1];refine⟨(by repeat (first|assumption|exact KW.refl hW|apply KW.push|refine KW.put ?_ NB NB hW)),h.next+1+1+1,.inr ⟨_,0,[],true,rfl,?_,rfl,rfl,Nr,Nr,Nr⟩,rfl⟩;simp[ai,ah,bR];omega
section
variable{G:Mem}{h:ag}{X:Nat->Prop}(hS:SO E G h X){P:PR}{out:List Mg}{r t:Nat}(hQ:QR E G h X P out r t)
include hS hQ
theorem jh(ho:out.length<=10000000)(hol:∀m,m∈out->m.log.length<=1000000/\m.img.length<=100000000):af E 26 [ptr r] h λv h'=>∃G' co,PX E G h X G' h' X/\QR E G' h' X P [] r t/\Fz E G' 17 out.length co v/\bu E G' out co:=by
 obtain⟨⟨dc,vl,vt,vv,vo⟩,q⟩:=hQ;obtain⟨co,o1,o2⟩:=q.ho;obtain⟨ao,ac,hvo,_⟩:=o1.fh;simp only at hvo;subst hvo;have hr:=q.hr;have nr:=hS.wf.nlt hr;have e1:=hS.wf.ne hr;refine en hE Tryz.func26 rfl rfl Tryz.ntmps26 rfl Nv (rs:=[.tmp 2]) rfl ?_;simp only[push_cast,seval,hE.z,hr,nr];rw[Ff Nr Nr Nr Nr,aR];simp only[push_cast,seval,hE.z,hr,nr,e1];have kA:=(KW.refl hS.wf).push (o:=.cells (bR out.length [.int .i64 0,.int .i64 0,.int .i64 0,.int .i64 0,.int .i64 0,.int .i64 0,.int .i64 0,.int .i64 0,.int .i64 0,.slice none 0 0,.slice none 0 0,.int .i64 0,.int .i64 0,.string ByteArray.empty,.int .i64 0,.int .i64 0,.slice none 0 0]) 66 true)
 refine bG (λk tm h2=>∃i G2 co2 v3,k=out.length-i/\i<=out.length/\aj tm 0=ptr r/\aj tm 3=v3/\aj tm 15=.slice ao out.length ac/\aj tm 16=iv out.length/\aj tm 17=iv i /\
  Ext E G h G2 h2/\Own h2 66 17 h.next i co2 v3/\bu E G2 (out.take i) co2/\(∀b,b∈slB v3->G2 b=none)/\h.next<h2.next) out.length ?_ ?_
 ·simp only[push_cast,seval];exact⟨0,G,[],_,Nr,Nr,rfl,rfl,kA.ext hS.frz,Own.made rfl (Nat.le_refl _) Nr,rfl,λb hb=>by simp only[slB,List.mem_singleton]at hb;subst hb;exact hS.eH (Nat.le_refl _),Nw⟩
 ·rintro k tm h2 ⟨i,G2,co2,v3,rfl,hi,f0,f3,f15,f16,f17,x2,ov,om,hng,hlt0⟩;simp only[push_cast,seval,f16,f17];by_cases hlt:i<out.length
  ·have hb:decide ((i:Int)<(out.length:Int))=true:=Nu;obtain⟨ob,oc,hov,hel⟩:=(o1.aK x2.aK).elem x2.wf hlt;injection hov with hov _ hov2;subst hov;subst hov2;have hmi:=(o2.at i _ (List.getElem?_eq_getElem hlt)).sub x2.sub;obtain⟨b1,d1,b2,d2,b3,d3,hcc,m1,m2,m3⟩:=hmi.e;rw[hcc]at hel;have hsz:=hol _ (List.getElem_mem hlt);have htk:out.take (i+1)=out.take i++[out[i]]:=by rw[List.take_succ_eq_append_getElem hlt]
   generalize out[i]=m at *;simp only[push_cast,seval,hE.z,f15,f17,hb];rw[jw rfl Nr Nr,ab];simp only[push_cast,seval,hE.z,Nat.zero_add,↓hel,Int.toNat_natCast];have hhn:h.next<=h2.next:=x2.aK.next;have kB:=(KW.refl x2.wf).push (o:=.cells [iv m.k,iv m.fr,iv m.to,iv m.vw,iv m.op,iv m.cm,iv m.bs,iv m.nm,iv m.nc,.slice b1 m.log.length d1,.slice b2 m.img.length d2,iv m.en.c,iv m.en.n,.string m.en.t,iv m.rp.e,iv m.rp.n,.slice b3 0 d3] 66 true);have xB:=x2.kw kB;have oB:=ov.aK kB.k;have gB:(h2.push (.cells [iv m.k,iv m.fr,iv m.to,iv m.vw,iv m.op,iv m.cm,iv m.bs,iv m.nm,iv m.nc,.slice b1 m.log.length d1,.slice b2 m.img.length d2,iv m.en.c,iv m.en.n,.string m.en.t,iv m.rp.e,iv m.rp.n,.slice b3 0 d3] 66 true)).get h2.next=some (.cells [iv m.k,iv m.fr,iv m.to,iv m.vw,iv m.op,iv m.cm,iv m.bs,iv m.nm,iv m.nc,.slice b1 m.log.length d1,.slice b2 m.img.length d2,iv m.en.c,iv m.en.n,.string m.en.t,iv m.rp.e,iv m.rp.n,.slice b3 0 d3] 66 true):=NI;have hgB:=x2.eH (Nat.le_refl _);refine gtA [0,3,5,15,16,17] λt1 hf=>?_;simp only[push_cast,seval,gz,f0,f3,f15,f16,f17]at hf;obtain⟨f0,f3,f5,f15,f16,f17⟩:=hf;refine cR (motive:=λH=>aF E _ _ _ H) (λH=>Ext E G h G2 H/\Own H 66 17 h.next i co2 v3/\H.get h2.next=some (.cells [iv m.k,iv m.fr,iv m.to,iv m.vw,iv m.op,iv m.cm,iv m.bs,iv m.nm,iv m.nc,.slice b1 m.log.length d1,.slice b2 m.img.length d2,iv m.en.c,iv m.en.n,.string m.en.t,iv m.rp.e,iv m.rp.n,.slice b3 0 d3] 66 true)) ⟨xB,oB,gB⟩ ?_;clear xB oB gB kB;rintro H1 ⟨xB,oB,gB⟩;have nB:=xB.wf.nlt gB;have eB:=xB.wf.ne gB;refine aB [(5,3)] Nt Nt Nt ?_;simp only[push_cast,seval,hE.z,f5,gB,nB];rw[Mc Nr Nr Nr Nr,aR];simp only[push_cast,seval,hE.z,f5,gB,nB,eB];have kC0:=(KW.refl xB.wf).push (o:=.cells (bR m.log.length [.int .i64 0,.int .i64 0,.string ByteArray.empty]) 60 true);refine ej (jS hE.P) (xB.wf.push _) (xB.frz.aK kC0.k) (lo:=H1.next) Nw (Own.made rfl (Nat.le_refl _) Nr) (m1.sub (Sub.refl _)).1 (cB _) (de _) Nr Nr ?_;intro v4 Hc aC;obtain⟨va,vc,hv4⟩:=aC.sl;have kC:=kC0.app xB.wf (Own.made rfl (Nat.le_refl _) Nr) aC;have oC:=aC.own;rw[Nat.zero_add,List.nil_append]at oC;rw[Nat.zero_add]at hv4;subst hv4;have hn1:h2.next<H1.next:=(xB.wf.live _ _ gB).2;have gC:=kC.k.get _ _ gB;simp only[push_cast,seval,hE.z,f5,gB,nB,eB,gC,aU];obtain⟨G3,z3,x3,s3,g3⟩:=(xB.kw kC).iY (oC.low (lo':=h.next) Nr);have hg3:G3 h2.next=none:=by
    cases hg:G3 h2.next with
    |none=>rfl
    | some c =>
      rcases g3 _ _ hg with h5|h5
      ·rw[hgB]at h5;cases h5
      ·have:=(oC.lt kC.w _ h5).1;omega
   have hng3:∀b,b∈slB v3->G3 b=none:=λb hb=>by
    cases hg:G3 b with
    |none=>rfl
    | some c =>
      rcases g3 _ _ hg with h5|h5
      ·rw[hng b hb]at h5;cases h5
      ·have h6:=(oC.lt kC.w _ h5).1;have h7:=(oB.lt xB.wf b hb).2;omega
   have xD:=x3.put hS.wf (o:=.cells [iv m.k,iv m.fr,iv m.to,iv m.vw,iv m.op,iv m.cm,iv m.bs,iv m.nm,iv m.nc,.slice va m.log.length vc,.slice b2 m.img.length d2,iv m.en.c,iv m.en.n,.string m.en.t,iv m.rp.e,iv m.rp.n,.slice b3 0 d3] 66 true) Nr hg3 gC
   have oD:Own (Hc.put h2.next (.cells [iv m.k,iv m.fr,iv m.to,iv m.vw,iv m.op,iv m.cm,iv m.bs,iv m.nm,iv m.nc,.slice va m.log.length vc,.slice b2 m.img.length d2,iv m.en.c,iv m.en.n,.string m.en.t,iv m.rp.e,iv m.rp.n,.slice b3 0 d3] 66 true)) 66 17 h.next i co2 v3:=(oB.aK kC.k).at λb o hb hg=>by
    rw[ai,if_neg (λe=>by have:=(ov.lt x2.wf b hb).2;omega)];exact hg
   have gD:(Hc.put h2.next (.cells [iv m.k,iv m.fr,iv m.to,iv m.vw,iv m.op,iv m.cm,iv m.bs,iv m.nm,iv m.nc,.slice va m.log.length vc,.slice b2 m.img.length d2,iv m.en.c,iv m.en.n,.string m.en.t,iv m.rp.e,iv m.rp.n,.slice b3 0 d3] 66 true)).get h2.next=some (.cells [iv m.k,iv m.fr,iv m.to,iv m.vw,iv m.op,iv m.cm,iv m.bs,iv m.nm,iv m.nc,.slice va m.log.length vc,.slice b2 m.img.length d2,iv m.en.c,iv m.en.n,.string m.en.t,iv m.rp.e,iv m.rp.n,.slice b3 0 d3] 66 true):=ND;refine gtA [0,3,5,15,16,17] λt1 hf=>?_;simp only[push_cast,seval,gz,f0,f3,f5,f15,f16,f17]at hf;obtain⟨f0,f3,f5,f15,f16,f17⟩:=hf;refine cR (motive:=λH=>aF E _ _ _ H) (λH=>Ext E G h G3 H/\Own H 66 17 h.next i co2 v3/\H.get h2.next=some (.cells [iv m.k,iv m.fr,iv m.to,iv m.vw,iv m.op,iv m.cm,iv m.bs,iv m.nm,iv m.nc,.slice va m.log.length vc,.slice b2 m.img.length d2,iv m.en.c,iv m.en.n,.string m.en.t,iv m.rp.e,iv m.rp.n,.slice b3 0 d3] 66 true)) ⟨xD,oD,gD⟩ ?_;clear xD oD gD;rintro H3 ⟨xD,oD,gD⟩;have nD:=xD.wf.nlt gD;have eD:=xD.wf.ne gD;refine aB [(5,3)] Nt Nt Nt ?_;simp only[push_cast,seval,hE.z,f5,gD,nD];rw[MQ Nr Nr Nr Nr,aR];simp only[push_cast,seval,hE.z,f5,gD,nD,eD];have kE0:=(KW.refl xD.wf).push (o:=.cells (bR m.img.length [.int .u8 0]) 5 true);refine ej (BR hE.P) (xD.wf.push _) (xD.frz.aK kE0.k) (lo:=H3.next) Nw (Own.made rfl (Nat.le_refl _) Nr) (m2.sub s3).1 (by simp[cM]) (iA _) Nr Nr ?_;intro v5 He aE;obtain⟨wa,wc,hv5⟩:=aE.sl;have kE:=kE0.app xD.wf (Own.made rfl (Nat.le_refl _) Nr) aE;have oE:=aE.own;rw[Nat.zero_add,List.nil_append]at oE;rw[Nat.zero_add]at hv5;subst hv5;have hn3:h2.next<H3.next:=(xD.wf.live _ _ gD).2;have gE:=kE.k.get _ _ gD;simp only[push_cast,seval,hE.z,f5,gD,nD,eD,gE,aU];obtain⟨G4,z4,x4,s4,g4⟩:=(xD.kw kE).iY (oE.low (lo':=h.next) (by have:=xD.aK.next;omega));have hg4:G4 h2.next=none:=by
    cases hg:G4 h2.next with
    |none=>rfl
    | some c =>
      rcases g4 _ _ hg with h5|h5
      ·rw[hg3]at h5;cases h5
      ·have:=(oE.lt kE.w _ h5).1;omega
   have hng4:∀b,b∈slB v3->G4 b=none:=λb hb=>by
    cases hg:G4 b with
    |none=>rfl
    | some c =>
      rcases g4 _ _ hg with h5|h5
      ·rw[hng3 b hb]at h5;cases h5
      ·have h6:=(oE.lt kE.w _ h5).1;have h7:=(oD.lt xD.wf b hb).2;omega
   have xF:=x4.put hS.wf (o:=.cells [iv m.k,iv m.fr,iv m.to,iv m.vw,iv m.op,iv m.cm,iv m.bs,iv m.nm,iv m.nc,.slice va m.log.length vc,.slice wa m.img.length wc,iv m.en.c,iv m.en.n,.string m.en.t,iv m.rp.e,iv m.rp.n,.slice b3 0 d3] 66 true) Nr hg4 gE
   have oF:Own (He.put h2.next (.cells [iv m.k,iv m.fr,iv m.to,iv m.vw,iv m.op,iv m.cm,iv m.bs,iv m.nm,iv m.nc,.slice va m.log.length vc,.slice wa m.img.length wc,iv m.en.c,iv m.en.n,.string m.en.t,iv m.rp.e,iv m.rp.n,.slice b3 0 d3] 66 true)) 66 17 h.next i co2 v3:=(oD.aK kE.k).at λb o hb hg=>by
    rw[ai,if_neg (λe=>by have:=(ov.lt x2.wf b hb).2;omega)];exact hg
   have gF:(He.put h2.next (.cells [iv m.k,iv m.fr,iv m.to,iv m.vw,iv m.op,iv m.cm,iv m.bs,iv m.nm,iv m.nc,.slice va m.log.length vc,.slice wa m.img.length wc,iv m.en.c,iv m.en.n,.string m.en.t,iv m.rp.e,iv m.rp.n,.slice b3 0 d3] 66 true)).get h2.next=some (.cells [iv m.k,iv m.fr,iv m.to,iv m.vw,iv m.op,iv m.cm,iv m.bs,iv m.nm,iv m.nc,.slice va m.log.length vc,.slice wa m.img.length wc,iv m.en.c,iv m.en.n,.string m.en.t,iv m.rp.e,iv m.rp.n,.slice b3 0 d3] 66 true):=ND;refine cR (motive:=λH=>af E 45 _ H _) (λH=>Ext E G h G4 H/\Own H 66 17 h.next i co2 v3/\H.get h2.next=some (.cells [iv m.k,iv m.fr,iv m.to,iv m.vw,iv m.op,iv m.cm,iv m.bs,iv m.nm,iv m.nc,.slice va m.log.length vc,.slice wa m.img.length wc,iv m.en.c,iv m.en.n,.string m.en.t,iv m.rp.e,iv m.rp.n,.slice b3 0 d3] 66 true)) ⟨xF,oF,gF⟩ ?_;clear xF oF gF;rintro H5 ⟨xF,oF,gF⟩;refine Go.Tm.aO [0,3,5,15,16,17] ?_;intro t2 hf;simp only[push_cast,seval,gz,f0,f3,f5,f15,f16,f17]at hf;obtain⟨f0,f3,f5,f15,f16,f17⟩:=hf;refine(FP hE xF.wf).mono ?_;rintro v6 H6 ⟨kG,db,oG,rfl⟩;have gG:=kG.k.get _ _ gF;have nG:=kG.w.nlt gG;simp only[push_cast,seval,hE.z,f3,f5,gG,nG];have hn5:h2.next<H5.next:=(xF.wf.live _ _ gF).2;obtain⟨G5,z5,x5,s5,g5⟩:=(xF.kw kG).iY (oG.low (lo':=h.next) (by have:=xF.aK.next;omega));have hg5:G5 h2.next=none:=by
    cases hg:G5 h2.next with
    |none=>rfl
    | some c =>
      rcases g5 _ _ hg with h5|h5
      ·rw[hg4]at h5;cases h5
      ·have:=(oG.lt kG.w _ h5).1;omega
   have hng5:∀b,b∈slB v3->G5 b=none:=λb hb=>by
    cases hg:G5 b with
    |none=>rfl
    | some c =>
      rcases g5 _ _ hg with h5|h5
      ·rw[hng4 b hb]at h5;cases h5
      ·have h6:=(oG.lt kG.w _ h5).1;have h7:=(oF.lt xF.wf b hb).2;omega
   have xH:=x5.put hS.wf (o:=.cells [iv m.k,iv m.fr,iv m.to,iv m.vw,iv m.op,iv m.cm,iv m.bs,iv m.nm,iv m.nc,.slice va m.log.length vc,.slice wa m.img.length wc,iv m.en.c,iv m.en.n,.string m.en.t,iv m.rp.e,iv m.rp.n,.slice (some ⟨db,0,none⟩) 0 0] 66 true) Nr hg5 gG
   have oH:Own (H6.put h2.next (.cells [iv m.k,iv m.fr,iv m.to,iv m.vw,iv m.op,iv m.cm,iv m.bs,iv m.nm,iv m.nc,.slice va m.log.length vc,.slice wa m.img.length wc,iv m.en.c,iv m.en.n,.string m.en.t,iv m.rp.e,iv m.rp.n,.slice (some ⟨db,0,none⟩) 0 0] 66 true)) 66 17 h.next i co2 v3:=(oF.aK kG.k).at λb o hb hg=>by
    rw[ai,if_neg (λe=>by have:=(ov.lt x2.wf b hb).2;omega)];exact hg
   rw[lf rfl,aR];simp only[push_cast,seval];refine eZ (mz hE.P) xH.wf (lo:=h.next) xH.aK.next oH rfl rfl Nr Nr ?_;intro v7 H7 aI hnx;have xI:=xH.app hS.wf aI λb hb=>⟨(oH.lt xH.wf b hb).1,hng5 b hb⟩;simp only[push_cast,seval,f0,f15,f16,f17];have hmc:MgR E G5 m [iv m.k,iv m.fr,iv m.to,iv m.vw,iv m.op,iv m.cm,iv m.bs,iv m.nm,iv m.nc,.slice va m.log.length vc,.slice wa m.img.length wc,iv m.en.c,iv m.en.n,.string m.en.t,iv m.rp.e,iv m.rp.n,.slice (some ⟨db,0,none⟩) 0 0]:=⟨_,_,_,rfl,(z3.sub s4).sub s5,z4.sub s5,z5⟩;refine⟨out.length-(i+1),Nr,i+1,G5,_,v7,rfl,Nr,rfl,bk Nr,xI,aI.own,?_,λb hb=>?_,?_⟩
   ·rw[htk];exact((om.sub s3).sub s4 |>.sub s5).app (bu.one hmc)
   ·rcases aI.blk b hb with h6|h6
    ·exact hng5 b h6
    ·exact xH.eH h6
   ·have:=xH.aK.next;have:=aI.next;omega
  ·have hb:decide ((i:Int)<(out.length:Int))=false:=Nu;have he:i=out.length:=Nr;subst he;have hr2:=x2.aK.get _ _ hr;simp only[push_cast,seval,hE.z,f0,f3,hb,hr2];rw[List.take_length]at om;obtain⟨G3,z3,x3,s3,g3⟩:=x2.iY ov;have px:=(PX.ext hS x3).trans hS.wf (PX.put (o:=.cells (qC P t dc vl vt vv (.slice none 0 0)) 78 true) (hS.ext x3) (q.hx r Nw) hr2);have q3:=q.aK x3.sub x3.aK;exact⟨G3,_,px,⟨_,q3.out (vo':=.slice none 0 0) (out':=[]) (P':=P) (Sub.refl _) ND (λb o hb _ hg=>by rw[ai,if_neg (λe=>hb e.symm)];exact hg) rfl rfl rfl rfl rfl ⟨[],Own.nil _ _ _ _,rfl⟩ (λ_ hx=>hx) (λb hb=>by simp[slB]at hb)⟩,z3,om.sub s3⟩
end
end Go.Proofs.YthbjaiilnkakcaaGreatDoor
namespace Go.Tm
theorem ed{E:Env}{t:TypeId}{m k x:Operand}{d:Option Nat}{R:bl}{tm:Tr Value}{h:ag}:cr E (.insert t m k x) d R tm h↔kwr (eK E h t (opd tm m) (opd tm k) (opd tm x)) undef d R tm h:=by
 simp only[cr,dT,kindOf,iE,dS,kwr,Option.map_eq_some_iff];constructor
 ·rintro⟨r,⟨h',h1,rfl⟩,h2⟩;exact⟨h',h1,h2⟩
 ·rintro⟨h',h1,h2⟩;exact⟨_,⟨h',h1,rfl⟩,h2⟩
end Go.Tm
namespace Go.Proofs.YthbjaiilnkakcaaGreatDoor
open Go.Tm Vr
variable{b f n:Nat}{w:Bool}{m:Mg}{ms:List Value}
variable{E:Env}(hE:EOk E)
include hE
def hnd:List (Nat×Nat×Bool):=[(1,34,false),(2,35,false),(3,36,false),(4,37,false),(5,38,false),(6,39,true),(7,40,true),(8,41,false),(9,42,false),(10,43,false),(11,44,false)]
def uU(p:(Nat×Nat×Bool)×Nat):MapEntry:={key:=.int .i64 (p.1.1:Int),val:=.agg #[.func (.func p.1.2.1) #[] #[],.bool p.1.2.2],born:=p.2}
omit hE in
theorem MJ{E:Env}(hP:E.P=Tryz.prog){h:ag}{mb clock:Nat}{es:List MapEntry}{v:Value}(hm:h.get mb=some (.map es clock))(hk:es.map (·.key)=(List.range n).map λi=>.int .i64 ((i+1:Nat):Int)) :
 eK E h 86 (.map (some mb)) (.int .i64 ((n+1:Nat):Int)) v=some (h.put mb (.map (es++[{key:=.int .i64 ((n+1:Nat):Int),val:=v,born:=clock}]) (clock+1))):=by
 have h1:∀(es:List MapEntry) (n:Nat) (l:List Nat),es.map (·.key)=l.map (λi=>Value.int .i64 ((i+1:Nat):Int))->(∀i,i∈l->i<n)->fg Tryz.prog 3 (.int .i64 ((n+1:Nat):Int)) es=true/\cE (.int .i64 ((n+1:Nat):Int)) es=none:=by
  intro es
  induction es with
  |nil=>intro n l _ _;exact⟨by simp[fg,Tryz.underlying3],rfl⟩
  | cons e es ih =>
    intro n l hl hn
    cases l with
    |nil=>simp at hl
    | cons i l =>
      simp only[List.map_cons,List.cons.injEq]at hl;obtain⟨a1,a2⟩:=ih n l hl.2 λj hj=>hn j (by simp[hj]);have hi:=hn i Nw;constructor
      ·simp only[fg,Tryz.underlying3,List.all_cons,hl.1,Bool.and_eq_true]at a1|-;exact⟨Nw,a1⟩
      ·simp only[cE,hl.1];rw[if_neg Nr,a2];rfl
 obtain⟨a1,a2⟩:=h1 es n (List.range n) hk λi hi=>Pn;unfold eK;rw[hP,Tryz.underlying86];simp only[hm,a1,a2,if_true]
omit hE in
theorem kup{E:Env}(hP:E.P=Tryz.prog){h:ag}{es:List MapEntry}{c:Nat}{k:Int}{v:Value}{R:bl}{tm:Tr Value}(hk:k=((n+1:Nat):Int))(hes:es.map (·.key)=(List.range n).map λi=>.int .i64 ((i+1:Nat):Int))
 (K:R tm (h.push (.map (es++[{key:=.int .i64 k,val:=v,born:=c}]) (c+1)))):kwr (eK E (h.push (.map es c)) 86 (.map (some h.next)) (.int .i64 k) v) undef none R tm (h.push (.map es c)):=by
 subst hk;rw[MJ hP NI hes,ey,tL];exact K
theorem zW{h:ag}(hW:WF E h):af E 23 [] h λv h'=>v=.map (some h.next)/\h'=h.push (.map (hnd.zipIdx.map uU) 11):=by refine en hE Tryz.func23 rfl rfl Tryz.ntmps23 rfl Nv (rs:=[.tmp 0]) rfl ?_;simp only[push_cast,seval,hE.z,ed];refine kup hE.P (n:=0) rfl rfl ?_;simp only[push_cast,seval,hE.z,ed];refine kup hE.P (n:=1) rfl rfl ?_;simp only[push_cast,seval,hE.z,ed];refine kup hE.P (n:=2) rfl rfl ?_;simp only[push_cast,seval,hE.z,ed];refine kup hE.P (n:=3) rfl rfl ?_;simp only[push_cast,seval,hE.z,ed];refine kup hE.P (n:=4) rfl rfl ?_;simp only[push_cast,seval,hE.z,ed];refine kup hE.P (n:=5) rfl rfl ?_;simp only[push_cast,seval,hE.z,ed];refine kup hE.P (n:=6) rfl rfl ?_;simp only[push_cast,seval,hE.z,ed];refine kup hE.P (n:=7) rfl rfl ?_;simp only[push_cast,seval,hE.z,ed];refine kup hE.P (n:=8) rfl rfl ?_;simp only[push_cast,seval,hE.z,ed];refine kup hE.P (n:=9) rfl rfl ?_;simp only[push_cast,seval,hE.z,ed];refine kup hE.P (n:=10) rfl rfl ?_;simp only[push_cast,seval];rfl
omit hE in
theorem Ko{E:Env}(hP:E.P=Tryz.prog){h:ag}{k:Nat}(hb:h.get b=some (.map (hnd.zipIdx.map uU) 11))(hk:1<=k)(hh:hnd[k-1]? = some (k,f,w)) :
 fe E h 86 (.map (some b)) (iv k) true=some (.tuple #[.agg #[.func (.func f) #[] #[],.bool w],.bool true]):=by
 have hk2:k<=11:=by have:=(List.getElem?_eq_some_iff.1 hh).1;have h2:hnd.length=11:=rfl;omega
 unfold fe nI;rw[hP,Tryz.underlying86];simp only[hb];have hkk:k=1\/k=2\/k=3\/k=4\/k=5\/k=6\/k=7\/k=8\/k=9\/k=10\/k=11:=Nr;have hu:=Tryz.underlying3
 rcases hkk with rfl|rfl|rfl|rfl|rfl|rfl|rfl|rfl|rfl|rfl|rfl <;>
 ·injection hh with hh;injection hh with _ hh;injection hh with hh1 hh2;subst hh1;subst hh2;rw[show fg Tryz.prog 3 _ (hnd.zipIdx.map uU)=true by simp only[fg,hu];rfl];rfl
omit hE in
theorem bs6{a c d e:Nat}:mL Tryz.prog 27 6 [(0,iv a),(1,iv b),(2,iv c),(3,iv d),(4,iv e),(5,iv f)]=some (λb=>.slice (some ⟨b,0,none⟩) 6 6,.cells [iv a,iv b,iv c,iv d,iv e,iv f] 3 true):=by unfold mL;rw[Tryz.underlying27];simp[sz3,zr3,aM,dP,bR,bJ]
theorem CQ{h:ag}(hW:WF E h){c0 c1 c2 c3 c4 c5:Nat}(hb:h.get b=some (.cells [iv c0,iv c1,iv c2,iv c3,iv c4,iv c5] 3 true)):af E 24 [.slice (some ⟨b,0,none⟩) 6 6] h λv h'=>(∃k:Nat,v=iv k)/\h'=h:=by
 have nb:=hW.nlt hb;have hg:h.get b=some (.cells (bT [c0,c1,c2,c3,c4,c5]++[]) 3 true):=hb;refine en hE Tryz.func24 rfl rfl Tryz.ntmps24 rfl Nv (rs:=[.tmp 2]) rfl ?_;simp only[push_cast,seval,hE.z];rw[jQ rfl Nr Nr,ab];simp only[push_cast,seval,hE.z,hb,nb];refine bG (λk tm h2=>∃i x:Nat,k=6-i/\i<=6/\h2=h/\aj tm 0=.slice (some ⟨b,0,none⟩) 6 6/\aj tm 3=iv x/\aj tm 4=iv i) 5 ?_ ?_
 ·simp only[push_cast,seval];exact⟨1,c0,Nr,Nr,rfl,rfl⟩
 ·rintro k tm h2 ⟨i,x,rfl,hi,rfl,f0,f3,f4⟩;simp only[push_cast,seval,hE.z,f0,f4];by_cases hlt:i<6
  ·have hb1:decide ((i:Int)<6)=true:=Nu;have r0:=fV hW hg (i:=i) (by simpa using hlt);simp only[push_cast,seval,hE.z,f0,f3,f4,hb1];rw[jQ rfl Nr Nr,ab];simp only[push_cast,seval,hE.z,f0,f4,Nat.zero_add,↓r0,Int.toNat_natCast];exact⟨6-(i+1),Nr,i+1,min x ([c0,c1,c2,c3,c4,c5].getD i 0),rfl,Nr,by show Value.int .i64 _=Value.int .i64 _;congr 1;omega,bk Nr⟩
  ·have hb1:decide ((i:Int)<6)=false:=Nu;simp only[push_cast,seval,f3,hb1];exact⟨_,rfl⟩
theorem sX{G:Mem}{h:ag}(hW:WF E h)(hm:MgR E G m ms)(hmd:fU m=true)(hsz:m.op<=1000000000):af E 25 [.agg ms.toArray] h λv h'=>v=.bool true/\KW E h h':=by
 obtain⟨b1,d1,b2,d2,b3,d3,rfl,m1,m2,m3⟩:=hm.e;unfold fU at hmd;simp only[Bool.and_eq_true,decide_eq_true_eq,beq_iff_eq]at hmd;obtain⟨⟨h1,h2⟩,h3⟩:=hmd;have nb:=hW.nb0;have c1:decide ((m.bs:Int)<=(m.cm:Int))=true:=Nu;have c2:decide ((m.cm:Int)<=(m.op:Int))=true:=Nu;have c3:IntKind.i64.wrap ((m.op:Int)-(m.bs:Int))=((m.op-m.bs:Nat):Int):=NG;have c4:((m.log.length:Int)==((m.op-m.bs:Nat):Int))=true:=by rw[h3];simp
 refine en hE Tryz.func25 rfl rfl Tryz.ntmps25 rfl Nv (rs:=[.tmp 2]) rfl ?_;simp only[push_cast,seval,hE.z,nb,c1,c2,c3,c4];exact(KW.refl hW).push
section
variable{G:Mem}{h:ag}{X:Nat->Prop}(hS:SO E G h X){P:PR}{r t:Nat}(hQ:QR E G h X P [] r t)
include hS hQ
theorem JU{P':PR}{out':List Mg}(z:P.Sz)(hm:MgR E G m ms)(hk1:1<=m.k)(hk:hnd[m.k-1]? = some (m.k,f,w))(hto:m.to=P.me)(hfr:m.k=1\/m.fr<P.n/\m.fr≠P.me)(hw:w=true->fU m=true)(hop:m.op<=1000000000)
 (hol:out'.length<=10000000/\∀m,m∈out'->m.log.length<=1000000/\m.img.length<=100000000)
 (hf:∀{G1:Mem} {H:ag} {X1:Nat->Prop},SO E G1 H X1->QR E G1 H X1 P [] r t->MgR E G1 m ms->af E f [ptr r,.agg ms.toArray] H λv h'=>v=.tuple #[]/\∃G' X',PX E G1 H X1 G' h' X'/\QR E G' h' X' P' out' r t) :
 af E 14 [ptr r,.agg ms.toArray] h λv h'=>∃G' X' co,PX E G h X G' h' X'/\QR E G' h' X' P' [] r t/\Fz E G' 17 out'.length co v/\bu E G' out' co:=by
 have hm0:=hm;obtain⟨b1,d1,b2,d2,b3,d3,rfl,m1,m2,m3⟩:=hm.e;refine en hE Tryz.func14 rfl rfl Tryz.ntmps14 rfl Nv (rs:=[.tmp 4]) rfl ?_;simp only[push_cast,seval];have k0:=(KW.refl hS.wf).push (o:=.cells (mCS m b1 d1 b2 d2 b3 d3) 66 true);have p0:=PX.kw hS k0;have q0:=hQ.ext (k0.ext hS.frz);have ge:(h.push (.cells (mCS m b1 d1 b2 d2 b3 d3) 66 true)).get h.next=some (.cells (mCS m b1 d1 b2 d2 b3 d3) 66 true):=NI;refine gtA [0,3] λt1 hf'=>?_;simp only[push_cast,seval,gz]at hf';obtain⟨f0,f3⟩:=hf';refine cR (motive:=λH=>aF E _ _ _ H) (λH=>PX E G h X G H X/\QR E G H X P [] r t/\H.get h.next=some (.cells (mCS m b1 d1 b2 d2 b3 d3) 66 true)) ⟨p0,q0,ge⟩ ?_;clear p0 q0 ge k0;rintro H ⟨p0,q0,ge⟩;have ne:=p0.so.wf.nlt ge;have e1:=p0.so.wf.ne ge;have k1:=(KW.refl p0.so.wf).push (o:=.map (hnd.zipIdx.map uU) 11);have hlk:=Ko (E:=E) hE.P (h:=H.push (.map (hnd.zipIdx.map uU) 11)) (b:=H.next) (k:=m.k) NI hk1 hk;refine dE [(2,[0,1]),(3,[1])] [0,7,8] [(7,[])] [(0,(10,[0])),(1,(11,[1])),(2,(12,[2,1])),(3,(13,[3,0,1,2])),(4,(9,[4,0,1,2,3])),(5,(14,[5,0,1,2,3,4])),(6,(15,[6,0,1,2,3,4])),(7,(5,[7])),(9,(6,[9,0,1,2,3,4,5,6,7,8]))] [0,1,2,3,4,5,6,7,8,9] Nt Nt Nt Nt Nt Nv rfl ?_;simp only[push_cast,seval];refine(zW hE p0.so.wf).mono ?_;rintro v h5 ⟨rfl,rfl⟩;simp only[push_cast,seval,hE.z,f3,ge,ne,e1,hlk,ab];have he0:h.next<H.next:=(p0.so.wf.live _ _ ge).2;refine⟨⟨?_,?_,?_,?_,?_⟩,?_⟩
 ·simp
 ·simp only[push_cast,seval,hE.z,ge,ne,e1,hlk,jo,aV];simp[veq,wJ,su]
 ·simp only[push_cast,seval,jx,Op.operands,ef,Go.Tm.sc,scA,scL];exact⟨λ_ x=>x.elim,Nw⟩
 ·simp only[push_cast,seval,hE.z,aOk];rfl
 ·simp only[push_cast,seval,dOk];have hq1:∀q:Nat->Bool,scQ q (.agg #[.func (.func f) #[] #[],.bool w])=true:=λq=>by simp[scQ,iK,j5]
  have hq2:∀q:Nat->Bool,scQ q (.tuple #[.agg #[.func (.func f) #[] #[],.bool w],.bool true])=true:=λq=>by simp[scQ,iK,j5]
  exact⟨dA (k:=0) Nz (Nat.le_refl _) (Nat.lt_succ_self _),dU 0 Nr he0,rfl,hq2 _,hq2 _,hq1 _,rfl,dA (k:=7) Nz (Nat.le_refl _) (Nat.lt_succ_self _),rfl⟩
 ·have k2:=(k1.push (o:=.cells [.nilFunc,.bool false] 84 true));have hW1:=p0.so.wf;have k3:KW E H (((H.push (.map (hnd.zipIdx.map uU) 11)).push (.cells [.nilFunc,.bool false] 84 true)).put (H.next+1) (.cells [.func (.func f) #[] #[],.bool w] 84 true)):=KW.put k2 Nr Nw hW1;have p3:=p0.trans hS.wf (PX.kw p0.so k3);have q3:=q0.ext (k3.ext p0.so.frz);have g3:=k3.k.get _ _ ge;have gh:(((H.push (.map (hnd.zipIdx.map uU) 11)).push (.cells [.nilFunc,.bool false] 84 true)).put (H.next+1) (.cells [.func (.func f) #[] #[],.bool w] 84 true)).get (H.next+1)=some (.cells [.func (.func f) #[] #[],.bool w] 84 true):=ND;refine gtA [0,3,5,6] λt2 hf'=>?_;simp only[push_cast,seval,gz,f0,f3]at hf';obtain⟨f0,f3,f5,f6⟩:=hf';generalize H.next+1=hb at *;refine cR (motive:=λH=>aF E _ _ _ H) (λH=>PX E G h X G H X/\QR E G H X P [] r t/\H.get h.next=some (.cells (mCS m b1 d1 b2 d2 b3 d3) 66 true)/\H.get hb=some (.cells [.func (.func f) #[] #[],.bool w] 84 true)) ⟨p3,q3,g3,gh⟩ ?_;clear p3 q3 g3 gh k3 k2 k1 hlk;rintro H2 ⟨p3,q3,g3,gh⟩;have n3:=p3.so.wf.nlt g3;have q3':=q3;obtain⟨D,q⟩:=q3';have hr:=q.hr;have nr:=p3.so.wf.nlt hr;refine ax Nt ?_;have c0:(((m.to:Nat):Int) != (P.me:Int))=false:=by simp[hto]
  by_cases h1:m.k=1
  ·have c1:((m.k:Int) != 1)=false:=N6;simp only[push_cast,seval,hE.z,f3,g3,n3,c1,cH];refine gtm (motive:=iX _ _ _) [0,3,5,6,7] λt3 hf'=>?_;simp only[push_cast,seval,gz,f0,f3,f5,f6]at hf';obtain⟨f0,f3,f5,f6,f7⟩:=hf';rw[bs6,aR];have k4:=(KW.refl p3.so.wf).push (o:=.cells [iv m.vw,iv m.op,iv m.cm,iv m.bs,iv m.nm,iv m.nc] 3 true);have p4:=p3.trans hS.wf (PX.kw p3.so k4);have q4:=q3.ext (k4.ext p3.so.frz);have g4:=k4.k.get _ _ g3;have gh4:=k4.k.get _ _ gh;have gi:(H2.push (.cells [iv m.vw,iv m.op,iv m.cm,iv m.bs,iv m.nm,iv m.nc] 3 true)).get H2.next=some (.cells [iv m.vw,iv m.op,iv m.cm,iv m.bs,iv m.nm,iv m.nc] 3 true):=NI;simp only[push_cast,seval];refine(CQ hE p4.so.wf gi).mono ?_;rintro v5 h5 ⟨⟨kk,rfl⟩,rfl⟩;have ck:decide ((kk:Int)<0)=false:=Nw;obtain⟨D4,qq4⟩:=q4;have hr4:=qq4.hr;have nr4:=p4.so.wf.nlt hr4;have n5:=p4.so.wf.nlt g4;have n6:=p4.so.wf.nlt gh4;simp only[push_cast,seval,ck];refine ax Nt ?_;simp only[push_cast,seval,hE.z,f0,f3,f5,f6,f7,c0,hr4,nr4,g4,n5,gh4,n6];cases w
   ·simp only[push_cast,seval,hE.z,f0,f3,f5,g4,n5,gh4,n6,ju];have px:=p4;have qx:QR E G _ X P [] r t:=⟨D4,qq4⟩;refine(hf px.so qx (hm0.sub px.sub)).mono ?_;rintro v7 h7 ⟨rfl,G7,X7,p7,q7⟩;simp only[push_cast,seval,f0];refine(jh hE p7.so q7 hol.1 hol.2).mono ?_;rintro v8 h8 ⟨G8,co8,p8,q8,z8,r8⟩;simp only[push_cast,seval];exact⟨G8,X7,co8,(px.trans hS.wf p7).trans hS.wf p8,q8,z8,r8⟩
   ·simp only[push_cast,seval,hE.z,f3,g4,n5];refine(sX hE p4.so.wf (hm0.sub p4.sub) (hw rfl) hop).mono ?_;rintro v6 h6 ⟨rfl,km⟩;have g6:=km.k.get _ _ g4;have gh6:=km.k.get _ _ gh4;have px:=p4.trans hS.wf (PX.kw p4.so km);have qx:QR E G _ X P [] r t:=QR.ext ⟨D4,qq4⟩ (km.ext p4.so.frz);simp only[push_cast,seval,hE.z,f0,f3,f5,g6,n5,gh6,n6,ju];refine(hf px.so qx (hm0.sub px.sub)).mono ?_;rintro v7 h7 ⟨rfl,G7,X7,p7,q7⟩;simp only[push_cast,seval,f0];refine(jh hE p7.so q7 hol.1 hol.2).mono ?_;rintro v8 h8 ⟨G8,co8,p8,q8,z8,r8⟩;simp only[push_cast,seval];exact⟨G8,X7,co8,(px.trans hS.wf p7).trans hS.wf p8,q8,z8,r8⟩
  ·have c1:((m.k:Int) != 1)=true:=Nu;have c2:decide ((m.fr:Int)<0)=false:=Nw;have c3:decide ((P.n:Int)<=(m.fr:Int))=false:=Nu;have c4:((m.fr:Int)==(P.me:Int))=false:=Nu;simp only[push_cast,seval,hE.z,f0,f3,hr,nr,g3,n3,c1,c2,c3,c4];refine gtm (motive:=iX _ _ _) [0,3,5,6,7] λt3 hf'=>?_;simp only[push_cast,seval,gz,f0,f3,f5,f6]at hf';obtain⟨f0,f3,f5,f6,f7⟩:=hf';rw[bs6,aR];have k4:=(KW.refl p3.so.wf).push (o:=.cells [iv m.vw,iv m.op,iv m.cm,iv m.bs,iv m.nm,iv m.nc] 3 true);have p4:=p3.trans hS.wf (PX.kw p3.so k4);have q4:=q3.ext (k4.ext p3.so.frz);have g4:=k4.k.get _ _ g3;have gh4:=k4.k.get _ _ gh;have gi:(H2.push (.cells [iv m.vw,iv m.op,iv m.cm,iv m.bs,iv m.nm,iv m.nc] 3 true)).get H2.next=some (.cells [iv m.vw,iv m.op,iv m.cm,iv m.bs,iv m.nm,iv m.nc] 3 true):=NI;simp only[push_cast,seval];refine(CQ hE p4.so.wf gi).mono ?_;rintro v5 h5 ⟨⟨kk,rfl⟩,rfl⟩;have ck:decide ((kk:Int)<0)=false:=Nw;obtain⟨D4,qq4⟩:=q4;have hr4:=qq4.hr;have nr4:=p4.so.wf.nlt hr4;have n5:=p4.so.wf.nlt g4;have n6:=p4.so.wf.nlt gh4;simp only[push_cast,seval,ck];refine ax Nt ?_;simp only[push_cast,seval,hE.z,f0,f3,f5,f6,f7,c0,hr4,nr4,g4,n5,gh4,n6];cases w
   ·simp only[push_cast,seval,hE.z,f0,f3,f5,g4,n5,gh4,n6,ju];have px:=p4;have qx:QR E G _ X P [] r t:=⟨D4,qq4⟩;refine(hf px.so qx (hm0.sub px.sub)).mono ?_;rintro v7 h7 ⟨rfl,G7,X7,p7,q7⟩;simp only[push_cast,seval,f0];refine(jh hE p7.so q7 hol.1 hol.2).mono ?_;rintro v8 h8 ⟨G8,co8,p8,q8,z8,r8⟩;simp only[push_cast,seval];exact⟨G8,X7,co8,(px.trans hS.wf p7).trans hS.wf p8,q8,z8,r8⟩
   ·simp only[push_cast,seval,hE.z,f3,g4,n5];refine(sX hE p4.so.wf (hm0.sub p4.sub) (hw rfl) hop).mono ?_;rintro v6 h6 ⟨rfl,km⟩;have g6:=km.k.get _ _ g4;have gh6:=km.k.get _ _ gh4;have px:=p4.trans hS.wf (PX.kw p4.so km);have qx:QR E G _ X P [] r t:=QR.ext ⟨D4,qq4⟩ (km.ext p4.so.frz);simp only[push_cast,seval,hE.z,f0,f3,f5,g6,n5,gh6,n6,ju];refine(hf px.so qx (hm0.sub px.sub)).mono ?_;rintro v7 h7 ⟨rfl,G7,X7,p7,q7⟩;simp only[push_cast,seval,f0];refine(jh hE p7.so q7 hol.1 hol.2).mono ?_;rintro v8 h8 ⟨G8,co8,p8,q8,z8,r8⟩;simp only[push_cast,seval];exact⟨G8,X7,co8,(px.trans hS.wf p7).trans hS.wf p8,q8,z8,r8⟩
end
section
variable{G:Mem}{h:ag}{X:Nat->Prop}(hS:SO E G h X){P:PR}{r t:Nat}
include hS
theorem Jz(hQ:QR E G h X P [] r t)(z:P.Sz):af E 49 [ptr r] h λv h'=>∃G' X' co,PX E G h X G' h' X'/\QR E G' h' X' P [] r t/\Fz E G' 17 (idle P).length co v/\bu E G' (idle P) co:=by
 have hQ0:=hQ;obtain⟨⟨dc,vl,vt,vv,vo⟩,q⟩:=hQ;have hr:=q.hr;have nr:=hS.wf.nlt hr;have zn:=z.n;have zo:=z.op;have zb:=z.bs;have zc:=z.cm;have hn:1<=P.n/\P.n<=1000:=⟨Nr,Nr⟩;have hvw:P.vw<=1099511627776:=Of;have hall:∀m:Mg,m.log=[]->m.img=[]->(P.allM m).length<=10000000/\∀x,x∈P.allM m->x.log.length<=1000000/\x.img.length<=100000000:=by intro m h1 h2;refine⟨by have:=iQ P m P.n;unfold PR.allM;omega,λx hx=>?_⟩;unfold PR.allM qZ at hx;obtain⟨j,_,rfl⟩:=List.mem_map.1 hx;simp[PR.toM,h1,h2]
 refine en hE Tryz.func49 rfl rfl Tryz.ntmps49 rfl Nv (rs:=[.tmp 2]) rfl ?_;simp only[push_cast,seval,hE.z];refine(gP hE hS hQ0 hn hvw).mono ?_;intro v h5 hvh;rw[hvh.1,hvh.2];clear hvh;generalize hR:idle P=R;unfold idle at hR;by_cases hl:P.st=0/\P.bF=true
 ·have hb:(P.st==0&&P.bF)=true:=PC;rw[if_neg PC]at hR;simp only[push_cast,seval,hb];refine ax Nt ?_;by_cases hc:P.cm<P.op
  ·have hb2:decide ((P.cm:Int)<(P.op:Int))=true:=Nu;rw[if_pos hc]at hR;subst hR;have hll:0<P.log.length:=by unfold PR.op at hc;omega
   obtain⟨lb,lc,hvl,hel⟩:=q.hl.elem hS.wf (show P.log.length-1<P.log.length by omega);simp only at hvl;subst hvl;rw[eU (List.getElem?_eq_getElem (show P.log.length-1<P.log.length by omega))]at hel;unfold fo at hel;have hlast:P.log.getLastD ⟨0,0,.empty⟩=P.log[P.log.length-1]:=by rw[List.getLastD_eq_getLast?,List.getLast?_eq_getElem?,List.getElem?_eq_getElem Nr];rfl
   rw[hlast];generalize P.log[P.log.length-1]=e at *;have hlz:P.log.length<=P.op:=NH;have hw:(Value.int .i64 (IntKind.i64.wrap ((P.log.length:Int)-1)))=.int .i64 ((P.log.length-1:Nat):Int):=OU;simp only[push_cast,seval,hE.z,hr,nr,hb2];refine ax Nt ?_;simp only[push_cast,seval,hE.z,hr,nr];rw[hw,jP rfl Nr Nr,ab];simp only[push_cast,seval,hE.z,Nat.zero_add,↓hel,Int.toNat_natCast];refine(mJ hE hS hQ0 Nr Nw (m:={k:=2,vw:=P.vw,op:=P.op,cm:=P.cm,en:=e}) ⟨_,_,_,rfl,Fz.nil,Fz.nil,Fz.nil⟩).mono ?_;rintro v ha ⟨rfl,X6,px6,q6⟩;simp only[push_cast,seval];have hh:=hall {k:=2,vw:=P.vw,op:=P.op,cm:=P.cm,en:=e} rfl rfl;refine(jh hE px6.so q6 hh.1 hh.2).mono ?_;rintro v8 h8 ⟨G8,co8,p8,q8,z8,r8⟩;simp only[push_cast,seval];exact⟨G8,X6,co8,px6.trans hS.wf p8,q8,z8,r8⟩
  ·have hb2:decide ((P.cm:Int)<(P.op:Int))=false:=Nu;rw[if_neg hc]at hR;subst hR;simp only[push_cast,seval,hE.z,hr,nr,hb2];refine ax Nt ?_;simp only[push_cast,seval,hE.z,hr,nr];refine(mJ hE hS hQ0 Nr Nw (m:={k:=4,vw:=P.vw,cm:=P.cm}) ⟨_,_,_,rfl,Fz.nil,Fz.nil,Fz.nil⟩).mono ?_;rintro v ha ⟨rfl,X6,px6,q6⟩;simp only[push_cast,seval];have hh:=hall {k:=4,vw:=P.vw,cm:=P.cm} rfl rfl;refine(jh hE px6.so q6 hh.1 hh.2).mono ?_;rintro v8 h8 ⟨G8,co8,p8,q8,z8,r8⟩;simp only[push_cast,seval];exact⟨G8,X6,co8,px6.trans hS.wf p8,q8,z8,r8⟩
 ·have hb:(P.st==0&&P.bF)=false:=by cases hp:P.bF<;>simp_all
  rw[if_pos (by cases hp:P.bF<;>simp_all)]at hR;subst hR;simp only[push_cast,seval,hb];refine(jh hE hS hQ0 Nw (λm hm=>by simp at hm)).mono ?_;rintro v8 h8 ⟨G8,co8,p8,q8,z8,r8⟩;simp only[push_cast,seval];exact⟨G8,X,co8,p8,q8,z8,r8⟩
theorem oh(hQ:QR E G h X P [] r t):af E 11 [ptr r] h λv h'=>v=iv P.vw/\h'=h:=by obtain⟨D,q⟩:=hQ;have hr:=q.hr;have nr:=hS.wf.nlt hr;refine en hE Tryz.func11 rfl rfl Tryz.ntmps11 rfl Nv (rs:=[.tmp 2]) rfl ?_;simp only[push_cast,seval,hE.z,hr,nr]
theorem kX(hQ:QR E G h X P [] r t):af E 12 [ptr r] h λv h'=>v=iv P.st/\h'=h:=by obtain⟨D,q⟩:=hQ;have hr:=q.hr;have nr:=hS.wf.nlt hr;refine en hE Tryz.func12 rfl rfl Tryz.ntmps12 rfl Nv (rs:=[.tmp 2]) rfl ?_;simp only[push_cast,seval,hE.z,hr,nr]
theorem xt(hQ:QR E G h X P [] r t):af E 87 [ptr r] h λv h'=>v=iv P.nm/\h'=h:=by obtain⟨D,q⟩:=hQ;have hr:=q.hr;have nr:=hS.wf.nlt hr;refine en hE Tryz.func87 rfl rfl Tryz.ntmps87 rfl Nv (rs:=[.tmp 2]) rfl ?_;simp only[push_cast,seval,hE.z,hr,nr]
theorem zZ(hQ:QR E G h X P [] r t):af E 17 [ptr r] h λv h'=>v=iv P.op/\h'=h:=by obtain⟨D,q⟩:=hQ;have hr:=q.hr;have nr:=hS.wf.nlt hr;refine en hE Tryz.func17 rfl rfl Tryz.ntmps17 rfl Nv (rs:=[.tmp 2]) rfl ?_;simp only[push_cast,seval,hE.z,hr,nr]
theorem pM(hQ:QR E G h X P [] r t):af E 18 [ptr r] h λv h'=>v=iv P.cm/\h'=h:=by obtain⟨D,q⟩:=hQ;have hr:=q.hr;have nr:=hS.wf.nlt hr;refine en hE Tryz.func18 rfl rfl Tryz.ntmps18 rfl Nv (rs:=[.tmp 2]) rfl ?_;simp only[push_cast,seval,hE.z,hr,nr]
theorem BL(hQ:QR E G h X P [] r t):af E 88 [ptr r] h λv h'=>v=iv P.bs/\h'=h:=by obtain⟨D,q⟩:=hQ;have hr:=q.hr;have nr:=hS.wf.nlt hr;refine en hE Tryz.func88 rfl rfl Tryz.ntmps88 rfl Nv (rs:=[.tmp 2]) rfl ?_;simp only[push_cast,seval,hE.z,hr,nr]
theorem uV(hQ:QR E G h X P [] r t)(z:P.Sz):af E 89 [ptr r] h λv h'=>v=.bool P.bF/\h'=h:=by have hQ0:=hQ;obtain⟨D,q⟩:=hQ;have hr:=q.hr;have nr:=hS.wf.nlt hr;refine en hE Tryz.func89 rfl rfl Tryz.ntmps89 rfl Nv (rs:=[.tmp 2]) rfl ?_;simp only[push_cast,seval];refine aB [(5,1)] Nt Nt Nt ?_;simp only[push_cast,seval];refine(jr hE hS hQ0 ⟨Ow,Ow⟩ Of).mono ?_;intro v h5 hvh;rw[hvh.1,hvh.2];clear hvh;simp only[push_cast,seval,hE.z,hr,nr,aV];unfold PR.bF;rw[<-Int.natCast_emod,Bool.beq_eq_decide_eq,Bool.beq_eq_decide_eq];congr 1;exact decide_eq_decide.2 Nr
theorem FB(hQ:QR E G h X P [] r t)(z:P.Sz):af E 90 [ptr r] h λv h'=>∃G',Ext E G h G' h'/\Fz E G' 3 P.log.length (cq P.log) v:=by obtain⟨⟨dc,vl,vt,vv,vo⟩,q⟩:=hQ;have hr:=q.hr;have nr:=hS.wf.nlt hr;obtain⟨la,lc,hvl,_⟩:=q.hl.fh;simp only at hvl;subst hvl;have hlz:P.log.length<=P.op:=NH;have zo:=z.op;have e1:=hS.wf.ne hr;refine en hE Tryz.func90 rfl rfl Tryz.ntmps90 rfl Nv (rs:=[.tmp 2]) rfl ?_;simp only[push_cast,seval];refine aB [(9,5)] Nt Nt Nt ?_;simp only[push_cast,seval,hE.z,hr,nr];rw[Mc Nr Nr Nr Nr,aR];simp only[push_cast,seval,hE.z,hr,nr,e1];have k0:=(KW.refl hS.wf).push (o:=.cells (bR P.log.length [.int .i64 0,.int .i64 0,.string .empty]) 60 true);refine tU (jS hE.P) (hS.wf.push _) (lo:=h.next) Nw (Own.made rfl (Nat.le_refl _) Nr) (q.hl.aK k0.k) (de _) Nr Nr ?_;intro v4 Hc aC;obtain⟨va,vc,hv4⟩:=aC.sl;have kC:=k0.app hS.wf (Own.made rfl (Nat.le_refl _) Nr) aC;have oC:=aC.own;rw[Nat.zero_add,List.nil_append]at oC;rw[Nat.zero_add]at hv4;subst hv4;simp only[push_cast,seval,hE.z,hr,nr,e1,aU];obtain⟨G',z',x'⟩:=oC.frz hS.wf hS.frz kC;exact⟨G',x',z'⟩
end
end Go.Proofs.YthbjaiilnkakcaaGreatDoor
namespace Go.Tm
open Vr
theorem PX.BO{E:Env}{G:Mem}{h h':ag}{X:Nat->Prop}(hS:SO E G h X)(k:KW E h h'):PX E G h X G h' (λb=>X b\/(h.next<=b/\b<h'.next)):=by
 refine⟨Sub.refl _,λb c x=>.inl x,k.k.x X,λb hb=>hb.imp id (·.1),⟨k.w,hS.frz.aK k.k,λb c hb hx=>?_,λb hx=>?_⟩⟩
 ·rcases hx with hx|hx
  ·exact hS.dis b c hb hx
  ·rw[hS.eH hx.1]at hb;cases hb
 ·rcases hx with hx|hx
  ·exact Nat.lt_of_lt_of_le (hS.lt b hx) k.k.next
  ·exact hx.2
theorem PX.one{E:Env}{G:Mem}{h h':ag}{X:Nat->Prop}(hS:SO E G h X)(k:KW E h h'){b0:Nat}(h1:h.next<=b0)(h2:b0<h'.next):PX E G h X G h' (λb=>X b\/b=b0):=by
 refine⟨Sub.refl _,λb c x=>.inl x,k.k.x X,λb hb=>hb.imp id (λe=>by omega),⟨k.w,hS.frz.aK k.k,λb c hb hx=>?_,λb hx=>?_⟩⟩
 ·rcases hx with hx|hx
  ·exact hS.dis b c hb hx
  ·subst hx;rw[hS.eH h1]at hb;cases hb
 ·rcases hx with hx|hx
  ·exact Nat.lt_of_lt_of_le (hS.lt b hx) k.k.next
  ·omega
theorem gx(n:Nat):bR n [.int .i64 0]=bT (List.replicate n 0):=by
 induction n with
 |zero=>rfl
 |succ n ih=>simp only[bR,ih,List.replicate_succ];rfl
theorem iD(n:Nat):bR n [.bool false]=cF (List.replicate n false):=by
 induction n with
 |zero=>rfl
 |succ n ih=>simp only[bR,ih,List.replicate_succ];rfl
theorem mZ(E:Env)(G:Mem)(n:Nat):bu E G (List.replicate n {}) (bR n [.int .i64 0,.int .i64 0,.int .i64 0,.int .i64 0,.int .i64 0,.int .i64 0,.int .i64 0,.int .i64 0,.int .i64 0,.slice none 0 0,.slice none 0 0,.int .i64 0,.int .i64 0,.string ByteArray.empty,.int .i64 0,.int .i64 0,.slice none 0 0]):=by
 induction n with
 |zero=>rfl
 |succ n ih=>exact⟨_,_,rfl,⟨_,_,_,rfl,Fz.nil,Fz.nil,Fz.nil⟩,ih⟩
theorem Own.whole{h:ag}{b e z lo n:Nat}{cs:List Value}(hb:h.get b=some (.cells cs e true))(hl:cs.length=n*z)(hlo:lo<=b)(hn:n<=9223372036854775807):Own h e z lo n cs (.slice (some ⟨b,0,none⟩) n n) :=
 .inr ⟨b,n,[],true,rfl,by rw[List.append_nil];exact hb,hl,Nw,Nat.le_refl _,hlo,hn⟩
end Go.Tm
namespace Go.Proofs.YthbjaiilnkakcaaGreatDoor
open Go.Tm Vr
variable{me n t:Nat}
variable{E:Env}(hE:EOk E)
include hE
section
variable{G:Mem}{h:ag}{X:Nat->Prop}(hS:SO E G h X)
include hS
theorem HG(hn:n=3\/n=5\/n=7)(hme:me<n):af E 32 [iv me,iv n,.iface 47 (ptr t)] h λv h'=>v=.bool true/\h'=h:=by
 have hnil:hJ Tryz.prog true 75 (.iface 47 (ptr t)) .nilIface=some false:=by simp[hJ,Tryz.underlying75]
 have c2:((0:Int)<=(me:Int))=True:=Nw;refine en hE Tryz.func32 rfl rfl Tryz.ntmps32 rfl Nv (rs:=[.tmp 6]) rfl ?_;rcases hn with rfl|rfl|rfl
 ·have c1:decide ((me:Int)<3)=true:=Nu;simp only[push_cast,seval,hE.z,c1,c2,hnil,Option.map_some,ab]
 ·have c1:decide ((me:Int)<5)=true:=Nu;simp only[push_cast,seval,hE.z,c1,c2,hnil,Option.map_some,ab]
 ·have c1:decide ((me:Int)<7)=true:=Nu;simp only[push_cast,seval,hE.z,c1,c2,hnil,Option.map_some,ab]
theorem Hx{ss:List Value}(hn:n=3\/n=5\/n=7)(hme:me<n)(ht:h.get t=some (.cells ss 45 true))(hs:SvR E G ⟨[],[]⟩ ss)(hXt:X t) :
 af E 21 [iv me,iv n,.iface 47 (ptr t)] h λv h'=>∃r X',v=.tuple #[ptr r,iv 0]/\PX E G h X G h' X'/\QR E G h' X' (PR.new me n) [] r t:=by
 have w1:=hS.wf.b1;refine en hE Tryz.func21 rfl rfl Tryz.ntmps21 rfl Nv (rs:=[.tmp 6,.tmp 7]) rfl ?_;simp only[push_cast,seval];refine(HG hE hS hn hme).mono ?_;intro v h5 hvh;rw[hvh.1,hvh.2];clear hvh;simp only[push_cast,seval,hE.z];rw[xh Nr Nr Nr Nr,aR];simp only[push_cast,seval,hE.z]
 have hclear:af E 33 [ptr (h.next+1)] ((h.push (.cells (bR n [.int .i64 0]) 3 true)).push (.cells [iv me,iv n,.iface 47 (ptr t),iv 0,iv 0,iv 0,iv 0,iv 0,iv 0,iv 0,.slice none 0 0,.slice (some ⟨h.next,0,none⟩) n n,.slice none 0 0,.bool false,.map none,.slice none 0 0] 78 true)) λv h'=>v=.tuple #[] /\
  h'=((((h.push (.cells (bR n [.int .i64 0]) 3 true)).push (.cells [iv me,iv n,.iface 47 (ptr t),iv 0,iv 0,iv 0,iv 0,iv 0,iv 0,iv 0,.slice none 0 0,.slice (some ⟨h.next,0,none⟩) n n,.slice none 0 0,.bool false,.map none,.slice none 0 0] 78 true)).push (.cells (bR n [.bool false]) 4 true)).push (.map [] 0)).put (h.next+1) (.cells [iv me,iv n,.iface 47 (ptr t),iv 0,iv 0,iv 0,iv 0,iv 0,iv 0,iv 0,.slice none 0 0,.slice (some ⟨h.next,0,none⟩) n n,.slice (some ⟨h.next+2,0,none⟩) n n,.bool false,.map (some (h.next+3)),.slice none 0 0] 78 true):=by
  refine en hE Tryz.func33 rfl rfl Tryz.ntmps33 rfl Nv (rs:=[]) rfl ?_;simp only[push_cast,seval,hE.z,w1];rw[Bt Nr Nr Nr Nr,aR];simp only[push_cast,seval,hE.z]
 refine hclear.mono ?_;rintro v h5 ⟨rfl,rfl⟩;simp only[push_cast,seval];have wA:=hS.wf.push (.cells (bR n [.int .i64 0]) 3 true);have wB:=wA.push (.cells [iv me,iv n,.iface 47 (ptr t),iv 0,iv 0,iv 0,iv 0,iv 0,iv 0,iv 0,.slice none 0 0,.slice (some ⟨h.next,0,none⟩) n n,.slice none 0 0,.bool false,.map none,.slice none 0 0] 78 true);have wC:=wB.push (.cells (bR n [.bool false]) 4 true);have kA:=(KW.refl hS.wf).push (o:=.cells (bR n [.int .i64 0]) 3 true);have kB:=(KW.refl wA).push (o:=(.cells [iv me,iv n,.iface 47 (ptr t),iv 0,iv 0,iv 0,iv 0,iv 0,iv 0,iv 0,.slice none 0 0,.slice (some ⟨h.next,0,none⟩) n n,.slice none 0 0,.bool false,.map none,.slice none 0 0] 78 true));have kC:=(KW.refl wB).push (o:=.cells (bR n [.bool false]) 4 true);have kD:=(KW.refl wC).push (o:=.map [] 0);have k4:=((kA.trans kB).trans kC).trans kD;have g0:=kD.k.get _ _ (kC.k.get _ _ (kB.k.get h.next _ NI));have g2:=kD.k.get (h.next+2) _ NO;have g3:((((h.push (.cells (bR n [.int .i64 0]) 3 true)).push (.cells [iv me,iv n,.iface 47 (ptr t),iv 0,iv 0,iv 0,iv 0,iv 0,iv 0,iv 0,.slice none 0 0,.slice (some ⟨h.next,0,none⟩) n n,.slice none 0 0,.bool false,.map none,.slice none 0 0] 78 true)).push (.cells (bR n [.bool false]) 4 true)).push (.map [] 0)).get (h.next+3)=some (.map [] 0):=NO;have hn4:((((h.push (.cells (bR n [.int .i64 0]) 3 true)).push (.cells [iv me,iv n,.iface 47 (ptr t),iv 0,iv 0,iv 0,iv 0,iv 0,iv 0,iv 0,.slice none 0 0,.slice (some ⟨h.next,0,none⟩) n n,.slice none 0 0,.bool false,.map none,.slice none 0 0] 78 true)).push (.cells (bR n [.bool false]) 4 true)).push (.map [] 0)).next=h.next+4:=Nw
 have k5:=k4.put (o:=.cells [iv me,iv n,.iface 47 (ptr t),iv 0,iv 0,iv 0,iv 0,iv 0,iv 0,iv 0,.slice none 0 0,.slice (some ⟨h.next,0,none⟩) n n,.slice (some ⟨h.next+2,0,none⟩) n n,.bool false,.map (some (h.next+3)),.slice none 0 0] 78 true) (b:=h.next+1) Nr Nr hS.wf;refine⟨h.next+1,_,rfl,PX.BO hS k5,⟨h.next+3,.slice none 0 0,.slice (some ⟨h.next,0,none⟩) n n,.slice (some ⟨h.next+2,0,none⟩) n n,.slice none 0 0⟩,?_,⟨ss,k5.k.get _ _ ht,hs⟩,Own.nil _ _ _ _,?_,?_,⟨[],Own.nil _ _ _ _,rfl⟩,⟨[],0,?_,CmR.nil⟩,?_⟩
 ·rw[ai,if_pos rfl];rfl
 ·refine .inr ⟨h.next,n,[],true,Po,?_,by simp[PR.new,bT],Po,Po,Nat.zero_le _,Nr⟩;rw[ai,if_neg Nr,g0,gx,List.append_nil];rfl
 ·have hpv:(PR.new me n).pV=List.replicate n false:=rfl;rw[hpv];refine .inr ⟨h.next+2,n,[],true,Nw,?_,by simp[cF],Nw,Nw,Nat.zero_le _,Nr⟩;rw[ai,if_neg Nr,g2,iD,List.append_nil]
 ·rw[ai,if_neg (show¬h.next+1=h.next+3 by omega),g3]
 ·intro b hb;simp only[slB,List.mem_cons,List.mem_append,List.not_mem_nil,or_false,false_or]at hb;rw[dI,hn4];rcases hb with hb|hb|hb|hb|hb
  ·right;omega
  ·left;rw[hb];exact hXt
  ·right;omega
  ·right;omega
  ·right;omega
theorem CP{me:Nat}(hn:n=3\/n=5\/n=7) :
 af E 22 [iv me,iv n,.agg #[.bool false,.slice none 0 0,.slice none 0 0,.slice none 0 0]] h λv h'=>∃G' rc,Ext E G h G' h'/\PRR E G' (PR.new me n) rc/\v=.agg rc.toArray:=by
 refine en hE Tryz.func22 rfl rfl Tryz.ntmps22 rfl Nv (rs:=[.cell 6 49]) rfl ?_;simp only[push_cast,seval,hE.z];refine gtA [0,1,5,6] λt1 hf=>?_;simp only[push_cast,seval,gz]at hf;obtain⟨f0,f1,f5,f6⟩:=hf;refine cR (motive:=λH=>aF E _ _ _ H) (λH=>KW E h H/\H.get h.next=some (.cells zCS 43 true)/\H.get (h.next+1)=some (.cells zCR 49 true)) ⟨((KW.refl hS.wf).push.push),O2,NO⟩ ?_;rintro H ⟨kH,gS,gR⟩;have n0:=kH.w.nlt gS;have n1:=kH.w.nlt gR;have lR:=(kH.w.live _ _ gR).2;have x0:(H.next=h.next+1)=False:=Nu;have x1:(H.next+1=h.next+1)=False:=Nu;have x2:(H.next+1+1=h.next+1)=False:=Nu;have x3:(H.next+1+1+1=h.next+1)=False:=Nu;refine dE [(2,[0])] [4,6,8,10,12] [(4,[3]),(6,[5]),(8,[7]),(10,[9])] [(0,(7,[0])),(1,(8,[1])),(2,(9,[2])),(3,(10,[3])),(4,(11,[4,3])),(5,(12,[5])),(6,(13,[6,5])),(7,(14,[7])),(8,(15,[8,7])),(9,(16,[9])),(10,(17,[10,9])),(11,(18,[11,0,1,2,3,4,5,6,7,8,9,10]))] [0,1,2,3,4,5,6,7,8,9,10,11,12] Nt Nt Nt Nt Nt Nv rfl ?_;simp only[push_cast,seval,hE.z,f0,f1,f5,gS,n0];rw[xh Nr Nr Nr Nr,aR];simp only[push_cast,seval,hE.z,f1];rw[Bt Nr Nr Nr Nr,aR];simp only[push_cast,seval,hE.z,f1];rw[Ff Nr Nr Nr Nr,aR];simp only[push_cast,seval,hE.z,f1];rw[Ff Nr Nr Nr Nr,aR];simp only[push_cast,seval,hE.z,f6,gR,n1,x0,x1,x2,x3];refine⟨⟨?_,?_,?_,?_,?_⟩,?_⟩
 ·simp
 ·simp only[push_cast,seval,hE.z,f5,gS,n0,jo,bp,aU,aW,ba,bn]
 ·simp only[push_cast,seval,f6,jx,Op.operands,Go.Tm.sc,scA,scL];simp;omega
 ·simp only[push_cast,seval,hE.z,aOk,wz];have zz:∀q:Nat->Bool,jH q (.cells (bR n [.int .i64 0,.int .i64 0,.int .i64 0,.int .i64 0,.int .i64 0,.int .i64 0,.int .i64 0,.int .i64 0,.int .i64 0,.slice none 0 0,.slice none 0 0,.int .i64 0,.int .i64 0,.string ByteArray.empty,.int .i64 0,.int .i64 0,.slice none 0 0]) 66 true)=true:=λq=>tx rfl;have zb:∀q:Nat->Bool,jH q (.cells (bR n [.bool false]) 4 true)=true:=λq=>tx rfl;exact⟨⟨_,xh Nr Nr Nr Nr,CB⟩,⟨_,Bt Nr Nr Nr Nr,zb _⟩,⟨_,Ff Nr Nr Nr Nr,zz _⟩,⟨_,Ff Nr Nr Nr Nr,zz _⟩⟩
 ·simp only[push_cast,seval,dOk];refine⟨rfl,rfl,rfl,rfl,eW (K:=4) Nz (Nat.le_refl _) (Nat.lt_succ_self _),rfl,eW (K:=6) Nz (Nat.le_refl _) (Nat.lt_succ_self _),rfl,eW (K:=8) Nz (Nat.le_refl _) (Nat.lt_succ_self _),rfl,eW (K:=10) Nz (Nat.le_refl _) (Nat.lt_succ_self _),?_⟩;simp only[scQ,iK,j5,Bool.and_true,Bool.true_and,Bool.and_eq_true];exact⟨dA (k:=4) Nz (Nat.le_refl _) (Nat.lt_succ_self _),dA (k:=6) Nz (Nat.le_refl _) (Nat.lt_succ_self _),dA (k:=8) Nz (Nat.le_refl _) (Nat.lt_succ_self _),dA (k:=10) Nz (Nat.le_refl _) (Nat.lt_succ_self _)⟩
 ·have wA:=kH.w.push (.cells (bR n [.int .i64 0]) 3 true);have wB:=wA.push (.cells (bR n [.bool false]) 4 true);have wC:=wB.push (.cells (bR n [.int .i64 0,.int .i64 0,.int .i64 0,.int .i64 0,.int .i64 0,.int .i64 0,.int .i64 0,.int .i64 0,.int .i64 0,.slice none 0 0,.slice none 0 0,.int .i64 0,.int .i64 0,.string ByteArray.empty,.int .i64 0,.int .i64 0,.slice none 0 0]) 66 true);have kA:=(KW.refl kH.w).push (o:=(.cells (bR n [.int .i64 0]) 3 true));have kB:=(KW.refl wA).push (o:=(.cells (bR n [.bool false]) 4 true));have kC:=(KW.refl wB).push (o:=(.cells (bR n [.int .i64 0,.int .i64 0,.int .i64 0,.int .i64 0,.int .i64 0,.int .i64 0,.int .i64 0,.int .i64 0,.int .i64 0,.slice none 0 0,.slice none 0 0,.int .i64 0,.int .i64 0,.string ByteArray.empty,.int .i64 0,.int .i64 0,.slice none 0 0]) 66 true));have kD:=(KW.refl wC).push (o:=(.cells (bR n [.int .i64 0,.int .i64 0,.int .i64 0,.int .i64 0,.int .i64 0,.int .i64 0,.int .i64 0,.int .i64 0,.int .i64 0,.slice none 0 0,.slice none 0 0,.int .i64 0,.int .i64 0,.string ByteArray.empty,.int .i64 0,.int .i64 0,.slice none 0 0]) 66 true));have g0:=kD.k.get _ _ (kC.k.get _ _ (kB.k.get H.next _ NI));have g1:=kD.k.get _ _ (kC.k.get (H.next+1) _ NO);have g2:=kD.k.get (H.next+1+1) _ NO;have g3:((((H.push (.cells (bR n [.int .i64 0]) 3 true)).push (.cells (bR n [.bool false]) 4 true)).push (.cells (bR n [.int .i64 0,.int .i64 0,.int .i64 0,.int .i64 0,.int .i64 0,.int .i64 0,.int .i64 0,.int .i64 0,.int .i64 0,.slice none 0 0,.slice none 0 0,.int .i64 0,.int .i64 0,.string ByteArray.empty,.int .i64 0,.int .i64 0,.slice none 0 0]) 66 true)).push (.cells (bR n [.int .i64 0,.int .i64 0,.int .i64 0,.int .i64 0,.int .i64 0,.int .i64 0,.int .i64 0,.int .i64 0,.int .i64 0,.slice none 0 0,.slice none 0 0,.int .i64 0,.int .i64 0,.string ByteArray.empty,.int .i64 0,.int .i64 0,.slice none 0 0]) 66 true)).get (H.next+1+1+1)=some (.cells (bR n [.int .i64 0,.int .i64 0,.int .i64 0,.int .i64 0,.int .i64 0,.int .i64 0,.int .i64 0,.int .i64 0,.int .i64 0,.slice none 0 0,.slice none 0 0,.int .i64 0,.int .i64 0,.string ByteArray.empty,.int .i64 0,.int .i64 0,.slice none 0 0]) 66 true):=NO;have hn4:((((H.push (.cells (bR n [.int .i64 0]) 3 true)).push (.cells (bR n [.bool false]) 4 true)).push (.cells (bR n [.int .i64 0,.int .i64 0,.int .i64 0,.int .i64 0,.int .i64 0,.int .i64 0,.int .i64 0,.int .i64 0,.int .i64 0,.slice none 0 0,.slice none 0 0,.int .i64 0,.int .i64 0,.string ByteArray.empty,.int .i64 0,.int .i64 0,.slice none 0 0]) 66 true)).push (.cells (bR n [.int .i64 0,.int .i64 0,.int .i64 0,.int .i64 0,.int .i64 0,.int .i64 0,.int .i64 0,.int .i64 0,.int .i64 0,.slice none 0 0,.slice none 0 0,.int .i64 0,.int .i64 0,.string ByteArray.empty,.int .i64 0,.int .i64 0,.slice none 0 0]) 66 true)).next=H.next+4:=Nw
  have k4:=(((kH.trans kA).trans kB).trans kC).trans kD;refine cR (motive:=λH5=>∃G' rc,Ext E G h G' H5/\PRR E G' (PR.new me n) rc/\_=Value.agg rc.toArray) (λH5=>KW E h H5/\H5.get H.next=some (.cells (bR n [.int .i64 0]) 3 true)/\H5.get (H.next+1)=some (.cells (bR n [.bool false]) 4 true)/\H5.get (H.next+1+1)=some (.cells (bR n [.int .i64 0,.int .i64 0,.int .i64 0,.int .i64 0,.int .i64 0,.int .i64 0,.int .i64 0,.int .i64 0,.int .i64 0,.slice none 0 0,.slice none 0 0,.int .i64 0,.int .i64 0,.string ByteArray.empty,.int .i64 0,.int .i64 0,.slice none 0 0]) 66 true)/\H5.get (H.next+1+1+1)=some (.cells (bR n [.int .i64 0,.int .i64 0,.int .i64 0,.int .i64 0,.int .i64 0,.int .i64 0,.int .i64 0,.int .i64 0,.int .i64 0,.slice none 0 0,.slice none 0 0,.int .i64 0,.int .i64 0,.string ByteArray.empty,.int .i64 0,.int .i64 0,.slice none 0 0]) 66 true)) ⟨k4.put Nr Nr hS.wf,by rw[ai,if_neg (by omega)];exact g0,by rw[ai,if_neg (by omega)];exact g1,by rw[ai,if_neg (by omega)];exact g2,by rw[ai,if_neg (by omega)];exact g3⟩ ?_;rintro H5 ⟨k5,q0,q1,q2,q3⟩;have hnn:=kH.k.next;have o0:=Own.whole (lo:=h.next) (z:=1) (n:=n) q0 P3 hnn Nr;have o1:=Own.whole (lo:=h.next) (z:=1) (n:=n) q1 P3 Nr Nr;have o2:=Own.whole (lo:=h.next) (z:=17) (n:=n) q2 P3 Nr Nr;have o3:=Own.whole (lo:=h.next) (z:=17) (n:=n) q3 P3 Nr Nr;rw[gx]at o0;rw[iD]at o1;obtain⟨G0,z0,y0⟩:=Own.frz hS.wf hS.frz k5 o0;obtain⟨G1,z1,y1,s1,_⟩:=y0.iY o1;obtain⟨G2,z2,y2,s2,_⟩:=y1.iY o2;obtain⟨G3,z3,y3,s3,_⟩:=y2.iY o3;have l1:(PR.new me n).told.length=n:=Po;have l2:(PR.new me n).aG.length=n:=Po;have l3:(PR.new me n).aH.length=n:=Po;have l4:(PR.new me n).ans.length=n:=Po;exact⟨G3,_,y3,PRR.of (P:=PR.new me n) (ct:=[]) Fz.nil Fz.nil Fz.nil rfl (by rw[l1];exact((z0.sub s1).sub s2).sub s3) (by rw[l2];exact(z1.sub s2).sub s3) ⟨by rw[l3];exact z2.sub s3,mZ _ _ _⟩ ⟨by rw[l4];exact z3,mZ _ _ _⟩,rfl⟩
theorem Ac(hn:n=3\/n=5\/n=7)(hme:me<n):af E 13 [iv me,iv n] h λv h'=>∃G' X' r t rc,PX E G h X G' h' X'/\QR E G' h' X' (PR.new me n) [] r t/\PRR E G' (PR.new me n) rc/\v=.tuple #[.agg (ptr r::ptr t::rc).toArray,.bool true]:=by
 refine en hE Tryz.func13 rfl rfl Tryz.ntmps13 rfl Nv (rs:=[.cell 4 51,.tmp 5]) rfl ?_;simp only[push_cast,seval,hE.z];rw[Tryz.underlying47];simp only[ab];simp only[push_cast,seval];have k0:=((KW.refl hS.wf).push (o:=(.cells [.pointer none,.pointer none,.int .i64 0,.int .i64 0,.int .i64 0,.int .i64 0,.int .i64 0,.int .i64 0,.int .i64 0,.int .i64 0,.slice none 0 0,.bool false,.slice none 0 0,.slice none 0 0,.slice none 0 0,.slice none 0 0,.slice none 0 0,.bool false,.slice none 0 0,.slice none 0 0] 51 true))).push (o:=(.cells zCS 45 true));have p0:=PX.one hS k0 (b0:=h.next+1) Nr Nw;refine cR (motive:=λH=>af E 21 _ H _) (λH=>PX E G h X G H (λb=>X b\/b=h.next+1)/\H.get h.next=some (.cells [.pointer none,.pointer none,.int .i64 0,.int .i64 0,.int .i64 0,.int .i64 0,.int .i64 0,.int .i64 0,.int .i64 0,.int .i64 0,.slice none 0 0,.bool false,.slice none 0 0,.slice none 0 0,.slice none 0 0,.slice none 0 0,.slice none 0 0,.bool false,.slice none 0 0,.slice none 0 0] 51 true)/\H.get (h.next+1)=some (.cells zCS 45 true)) ⟨p0,O2,NO⟩ ?_;clear p0 k0;rintro H ⟨p0,gN,gT⟩;refine(Hx hE p0.so hn hme gT ⟨_,_,_,rfl,Fz.nil,Fz.nil,rfl⟩ (.inr rfl)).mono ?_;rintro v1 H1 ⟨r,X1,rfl,p1,q1⟩
 have hX1:¬X1 h.next:=λhx=>by
  rcases p1.xs _ hx with(h5|h5)|h5
  ·have:=hS.lt _ h5;omega
  ·omega
  ·have:=(p0.so.wf.live _ _ gN).2;omega
 have gN1:=p1.kx.get _ _ (λhx=>by
  rcases hx with h5|h5
  ·have:=hS.lt _ h5;omega
  ·omega) gN
 simp only[push_cast,seval,hE.z];refine(CP hE p1.so (me:=me) (n:=n) hn).mono ?_;rintro v2 H2 ⟨G2,rc,x2,hrc,rfl⟩;have gN2:=x2.aK.get _ _ gN1;have nN2:=x2.wf.nlt gN2;have p2:=(p0.trans hS.wf p1).trans hS.wf (PX.ext p1.so x2);have hg2:G2 h.next=none:=by
  cases hg:G2 h.next with
  |none=>rfl
  | some c =>
    rcases x2.new _ _ hg with h5|h5
    ·rw[hS.eH (Nat.le_refl _)]at h5;cases h5
    ·have:=(p1.so.wf.live _ _ gN1).2;omega
 obtain⟨a1,c1,a2,c2,a3,c3,a4,c4,a5,c5,a6,c6,a7,c7,ct,cc,ca,rfl,hP⟩:=hrc.e;have hnil:hJ Tryz.prog true 46 (ptr r) (.pointer none)=some true.not:=by simp[hJ,Tryz.underlying46]
 simp only[push_cast,seval,hE.z,gN2,nN2,hnil,Option.map_some,ab];have p3:=PX.fresh hS.wf p2 (b:=h.next) (o:=.cells [ptr r,ptr (h.next+1),iv (PR.new me n).me,iv (PR.new me n).n,iv (PR.new me n).vw,iv (PR.new me n).st,iv (PR.new me n).nm,iv (PR.new me n).bs,iv (PR.new me n).cm,iv (PR.new me n).nc,.slice a1 (PR.new me n).log.length c1,.bool false,.slice a2 (PR.new me n).sv.l.length c2,.slice none 0 0,.slice a3 (PR.new me n).sv.tab.length c3,.slice a4 (PR.new me n).told.length c4,.slice a5 (PR.new me n).aG.length c5,.bool (PR.new me n).aJ,.slice a6 (PR.new me n).aH.length c6,.slice a7 (PR.new me n).ans.length c7] 51 true) (Nat.le_refl _) hg2 gN2;have q2:=q1.ext x2;obtain⟨D,q2⟩:=q2;exact⟨G2,X1,r,h.next+1,_,p3,⟨D,q2.mh (Sub.refl _) λb o hb hg=>by rw[ai,if_neg (λe=>hX1 (by rw[e];exact hb))];exact hg⟩,hrc,rfl⟩
end
end Go.Proofs.YthbjaiilnkakcaaGreatDoor
theorem Go.Tm.Ext.andthen{E:Env}{G G1 G2:Mem}{h h1 h2:ag}(x:Ext E G h G1 h1)(y:Ext E G1 h1 G2 h2):Ext E G h G2 h2 :=
 ⟨x.sub.trans y.sub,y.frz,λb c hb=>by
  rcases y.new b c hb with h3|h3
  ·exact x.new b c h3
  ·right;exact Nat.le_trans x.aK.next h3,x.aK.trans y.aK,y.wf⟩
theorem Go.Tm.Ext.nn{E:Env}{G G':Mem}{h h':ag}(y:Ext E G h G' h'){b:Nat}(hb:b<h.next)(hg:G b=none):G' b=none:=by
 cases hh:G' b with
 |none=>rfl
 | some c =>
   rcases y.new b c hh with h3|h3
   ·rw[hg]at h3;cases h3
   ·omega
namespace Go.Proofs.YthbjaiilnkakcaaGreatDoor
open Go.Tm Vr
abbrev rC(P:PR)(s1 s2 s3 s4 s5 s6 s7:Value):List Value:=[iv P.me,iv P.n,iv P.vw,iv P.st,iv P.nm,iv P.bs,iv P.cm,iv P.nc,s1,.bool false,s2,.slice none 0 0,s3,s4,s5,.bool P.aJ,s6,s7]
abbrev rCS(P:PR)(a1:Option Addr)(c1:Nat)(a2:Option Addr)(c2:Nat)(a3:Option Addr)(c3:Nat)(a4:Option Addr)(c4:Nat)(a5:Option Addr)(c5:Nat)(a6:Option Addr)(c6:Nat)(a7:Option Addr)(c7:Nat):List Value:=rC P (.slice a1 P.log.length c1) (.slice a2 P.sv.l.length c2) (.slice a3 P.sv.tab.length c3) (.slice a4 P.told.length c4) (.slice a5 P.aG.length c5) (.slice a6 P.aH.length c6) (.slice a7 P.ans.length c7)
attribute [push_cast] rC
theorem J2:((false==true)=true)=False:=Nw
variable{E:Env}(hE:EOk E)
include hE
section
variable{G:Mem}{h:ag}(hW:WF E h)(hG:Frz E G h){P:PR}{cs:List Value}(hP:PRR E G P cs)
include hW hG hP
theorem gl(z:P.Sz)(k:Nat):af E 94 [.agg cs.toArray,iv k] h λv h'=>∃G' rc' co v2,Ext E G h G' h'/\PRR E G' (aq P k).1 rc'/\Own h' 66 17 h.next (aq P k).2.length co v2/\bu E G' (aq P k).2 co/\(∀b,b∈slB v2->G' b=none)/\v=.tuple #[.agg rc'.toArray,v2]:=by
 have hP0:=hP;obtain⟨a1,c1,a2,c2,a3,c3,a4,c4,a5,c5,a6,c6,a7,c7,ct,cc,ca,hcs,hP'⟩:=hP.e;subst hcs;refine en hE Tryz.func94 rfl rfl Tryz.ntmps94 rfl Nv (rs:=[.cell 4 49,.tmp 5]) rfl ?_;simp only[push_cast,seval,hE.z]
 have hgn:∀b,h.next<=b->G b=none:=λb hb=>by
  cases hg:G b with
  |none=>rfl
  |some c =>obtain⟨e,fx,hh⟩:=hG b c hg;have:=(hW.live _ _ hh).2;omega
 refine bG (λj tm h2=>∃G2 P2 o2 rc2 co2 v6 rz,j=P.op-P2.cm/\aj tm 1=iv k/\aj tm 2=ptr h.next/\aj tm 4=ptr (h.next+1)/\aj tm 6=v6 /\
  Ext E G h G2 h2/\PRR E G2 P2 rc2/\h2.get h.next=some (.cells rc2 49 true)/\h2.get (h.next+1)=some (.cells rz 49 true)/\rz.length=18/\G2 h.next=none/\G2 (h.next+1)=none /\
  Own h2 66 17 h.next o2.length co2 v6/\bu E G2 o2 co2/\(∀b,b∈slB v6->G2 b=none)/\P2.Sz/\P2.op=P.op/\o2.length+P.cm<=P2.cm/\aq P k=((aq P2 k).1,o2++(aq P2 k).2)) (P.op-P.cm) ?_ ?_
 ·simp only[push_cast,seval];refine⟨G,P,[],_,[],_,_,rfl,rfl,((KW.refl hW).push.push).ext hG,hP0,rfl,rfl,rfl,hgn _ (Nat.le_refl _),hgn _ Nr,Own.nil _ _ _ _,rfl,λb hb=>by simp[slB]at hb,z,rfl,Nw,Nw⟩
 ·rintro j tm h2 ⟨G2,P2,o2,rc2,co2,v6,rz,rfl,f1,f2,f4,f6,x2,hp2,g2,g3,hrz,hn2,hn3,ov,om,hng,z2,hop,hol,hcm⟩;have hp0:=hp2;obtain⟨a1,c1,a2,c2,a3,c3,a4,c4,a5,c5,a6,c6,a7,c7,ct,cc,ca,hcs,q1,⟨q2,q3,q4⟩,q5,q6,q7,q8⟩:=hp2.e;subst hcs;have hd:List.drop 18 rz=[]:=List.drop_eq_nil_iff.2 Nr;have hle:(18<=rz.length)=True:=Nu;have n2:=x2.wf.nlt g2;have n3:=x2.wf.nlt g3;have zb:=z2.bs;have zc:=z2.cm;have zo:=z2.op;have hll:P2.log.length<=P2.op:=NH;have hbb:P2.bs<=1099511627776:=Nr;have hopR:=dK hE x2.wf hp0 hbb Nr;simp only[push_cast,seval];refine aB [(6,8)] Nt Nt Nt ?_;by_cases h1:P2.cm<k
  ·have hb1:decide ((P2.cm:Int)<(k:Int))=true:=Nu;simp only[push_cast,seval,hE.z,f1,f2,g2,n2,hb1];refine hopR.mono ?_;rintro v h3 ⟨rfl,kw3⟩;have g2':=kw3.k.get _ _ g2;by_cases h2c:P2.cm<P2.op
   ·have hb2:decide ((P2.cm:Int)<(P2.op:Int))=true:=Nu;simp only[push_cast,seval,hE.z,f2,g2,n2,hb2,g2',aV];have hi:P2.cm-P2.bs<P2.log.length:=by unfold PR.op at h2c;omega
    have hw:(Value.int .i64 (IntKind.i64.wrap ((P2.cm:Int)-(P2.bs:Int))))=.int .i64 ((P2.cm-P2.bs:Nat):Int):=iu Nr zb;have x3:=x2.kw kw3;obtain⟨lb,lc,e1',hsp,hac⟩:=q1.1.elem x3.frz hi;injection e1' with e1' _ e3';subst e1';subst e3';rw[eU (List.getElem?_eq_getElem hi)]at hac;unfold fo at hac;have hen:=z2.ent _ (List.getElem_mem hi);have hst:=rX h1 zb (List.getElem?_eq_getElem hi);generalize P2.log[P2.cm-P2.bs]=e at *;rw[hw,jP hsp Nr Nr,ab];have g3':=kw3.k.get _ _ g3;have lh3:h.next<h3.next:=(x3.wf.live _ _ g2').2;have w3:=x3.wf.b0;have e9:=x3.wf.ne g2';simp only[push_cast,seval,hE.z,f2,g2',n2,↓hac,Int.toNat_natCast,w3,e9];have kE:=(KW.refl x3.wf).push (o:=.cells [iv e.c,iv e.n,.string e.t] 60 true);have x4:=x3.kw kE;refine Go.Tm.aO [1,2,4,6,7] ?_;intro t1 hf;simp only[push_cast,seval,gz,f1,f2,f4,f6]at hf;obtain⟨f1,f2,f4,f6,f7⟩:=hf;refine cR (motive:=λH=>af E 105 _ H _) (λH=>Ext E G h G2 H/\H.get h.next=some (.cells (rCS P2 (some lb) c1 a2 c2 a3 c3 a4 c4 a5 c5 a6 c6 a7 c7) 49 true)/\H.get (h.next+1)=some (.cells rz 49 true)/\H.get h3.next=some (.cells [iv e.c,iv e.n,.string e.t] 60 true)/\Own H 66 17 h.next o2.length co2 v6/\h3.next<H.next) ⟨x4,kE.k.get _ _ g2',kE.k.get _ _ g3',NI,(ov.aK kw3.k).aK kE.k,Nw⟩ ?_;clear x4 kE hac;rintro H ⟨x4,gR,gZ,gE,oH,lH⟩;have hap:=qV hE x4.wf x4.frz (S:=P2.sv) ⟨_,_,_,rfl,q2,q3,q4⟩ (e:=e) Nr (by have:=z2.tab;omega) (by have:=z2.svl;omega) (λx hx=>tM z2.srt hx);unfold fo at hap;refine hap.mono ?_;rintro v H5 ⟨G5,scv,rcv,y5,hsc,hrc,rfl⟩;obtain⟨ra,rb,rfl,hrd⟩:=hrc;obtain⟨s1,d1,s2,d2,ct2,rfl,t1',t2',t3'⟩:=hsc.e;have x5:=x4.andthen y5;have gR5:=y5.aK.get _ _ gR;have gZ5:=y5.aK.get _ _ gZ;have gE5:=y5.aK.get _ _ gE;have lR5:=(x4.wf.live _ _ gR).2;have lZ5:=(x4.wf.live _ _ gZ).2;have hx5:=y5.aK.next;have n5:=x5.wf.nlt gR5;have w5:=x5.wf.b0;have p1:(H5.next=h.next)=False:=Nu;have p2:(H5.next+1=h.next)=False:=Nu;have hw2:(Value.int .i64 (IntKind.i64.wrap ((P2.cm:Int)+1)))=iv (P2.cm+1):=bk Nr;simp only[push_cast,seval,hE.z,f2,gR5,n5,w5,p1,p2,hw2];have k6:=((KW.refl x5.wf).push (o:=.cells zCS 43 true)).push (o:=.cells [.int .i64 0,.int .i64 0,.slice none 0 0] 64 true);have hW5:=x5.wf;have k7:KW E H5 ((((H5.push (.cells zCS 43 true)).push (.cells [.int .i64 0,.int .i64 0,.slice none 0 0] 64 true)).put H5.next (.cells [.bool false,.slice s1 (bq P2.sv e).1.l.length d1,.slice none 0 0,.slice s2 (bq P2.sv e).1.tab.length d2] 43 true)).put (H5.next+1) (.cells [iv (bq P2.sv e).2.e,iv (bq P2.sv e).2.n,.slice ra 0 rb] 64 true)):=KW.put (KW.put k6 Nr Nu hW5) Nr Nw hW5;have hn5:=y5.nn lR5 hn2;have hn6:=y5.nn lZ5 hn3;have x7:=(x5.kw k7).put hW (o:=(.cells (rC (br P2 e).1 (.slice (some lb) P2.log.length c1) (.slice s1 (bq P2.sv e).1.l.length d1) (.slice s2 (bq P2.sv e).1.tab.length d2) (.slice a4 P2.told.length c4) (.slice a5 P2.aG.length c5) (.slice a6 P2.aH.length c6) (.slice a7 P2.ans.length c7)) 49 true)) (Nat.le_refl _) hn5 (k7.k.get _ _ gR5);have oH5:=oH.aK y5.aK
    have oH7:Own (((((H5.push (.cells zCS 43 true)).push (.cells [.int .i64 0,.int .i64 0,.slice none 0 0] 64 true)).put H5.next (.cells [.bool false,.slice s1 (bq P2.sv e).1.l.length d1,.slice none 0 0,.slice s2 (bq P2.sv e).1.tab.length d2] 43 true)).put (H5.next+1) (.cells [iv (bq P2.sv e).2.e,iv (bq P2.sv e).2.n,.slice ra 0 rb] 64 true)).put h.next (.cells (rC (br P2 e).1 (.slice (some lb) P2.log.length c1) (.slice s1 (bq P2.sv e).1.l.length d1) (.slice s2 (bq P2.sv e).1.tab.length d2) (.slice a4 P2.told.length c4) (.slice a5 P2.aG.length c5) (.slice a6 P2.aH.length c6) (.slice a7 P2.ans.length c7)) 49 true)) 66 17 h.next o2.length co2 v6:=(oH5.aK k7.k).at λb o hb hg=>by
     rw[ai,if_neg (λe=>?_)]
     ·exact hg
     ·subst e;exact oH5.tag gR5 (λc fx e=>by injection e with _ e;cases e) hb
    have hp7:PRR E G5 (br P2 e).1 (rC (br P2 e).1 (.slice (some lb) P2.log.length c1) (.slice s1 (bq P2.sv e).1.l.length d1) (.slice s2 (bq P2.sv e).1.tab.length d2) (.slice a4 P2.told.length c4) (.slice a5 P2.aG.length c5) (.slice a6 P2.aH.length c6) (.slice a7 P2.ans.length c7)) :=
     PRR.of (P:=(br P2 e).1) (q1.sub y5.sub) t1' t2' t3' (q5.sub y5.sub) (q6.sub y5.sub) ⟨q7.1.sub y5.sub,q7.2.sub y5.sub⟩ ⟨q8.1.sub y5.sub,q8.2.sub y5.sub⟩
    have hng5:∀b,b∈slB v6->G5 b=none:=λb hb=>y5.nn (oH.lt x4.wf b hb).2 (hng b hb);have z4:=z2.br h2c (e:=e);have hol1:(br P2 e).2.length<=1:=Pm;refine gtm (motive:=dL _ _ _ _) [1,2,4,6,7,9,45,46] λt2 hf=>?_;simp only[push_cast,seval,gz,f1,f2,f4,f6,f7]at hf;obtain⟨f1,f2,f4,f6,f7,f9,f45,f46⟩:=hf;refine cR (motive:=λH=>dL _ _ _ _ _ H) (λH=>Ext E G h G5 H/\H.get h.next=some (.cells (rC (br P2 e).1 (.slice (some lb) P2.log.length c1) (.slice s1 (bq P2.sv e).1.l.length d1) (.slice s2 (bq P2.sv e).1.tab.length d2) (.slice a4 P2.told.length c4) (.slice a5 P2.aG.length c5) (.slice a6 P2.aH.length c6) (.slice a7 P2.ans.length c7)) 49 true)/\H.get (h.next+1)=some (.cells rz 49 true)/\H.get h3.next=some (.cells [iv e.c,iv e.n,.string e.t] 60 true)/\H.get (H5.next+1)=some (.cells [iv (bq P2.sv e).2.e,iv (bq P2.sv e).2.n,.slice ra 0 rb] 64 true)/\Own H 66 17 h.next o2.length co2 v6) ⟨x7,by rw[ai,if_pos rfl];rfl,by rw[ai,if_neg (by omega)];exact k7.k.get _ _ gZ5,by rw[ai,if_neg (by omega)];exact k7.k.get _ _ gE5,by rw[ai,if_neg (by omega),ai,if_pos rfl],oH7⟩ ?_;clear x7 oH7 k6 k7;rintro H6 ⟨x7,gR7,gZ7,gE7,gP7,oH7⟩;have n7:=x7.wf.nlt gR7;have nE7:=x7.wf.nlt gE7;have nP7:=x7.wf.nlt gP7;have hnx:P.op-(P2.cm+1)<P.op-P2.cm:=Nr;by_cases hst0:P2.st=0
    ·have hb3:((P2.st:Int)==0)=true:=by simp[hst0]
     simp only[push_cast,seval,hE.z,f2,f46,hb3,gR7,n7];refine(dH hE x7.wf hp7 ⟨by have:=z2.n;show 1<=P2.n;omega,by have:=z2.n;show P2.n<=1000;omega⟩ (by have:=z2.vw;show P2.vw<=_;omega)).mono ?_;rintro v H8 ⟨rfl,k8⟩;have hpp:(br P2 e).1.bF=P2.bF:=rfl;rw[hpp];have x8:=x7.kw k8;have gR8:=k8.k.get _ _ gR7;have gZ8:=k8.k.get _ _ gZ7;have gE8:=k8.k.get _ _ gE7;have gP8:=k8.k.get _ _ gP7;have oH8:=oH7.aK k8.k;cases hp:P2.bF
     ·have hco:(br P2 e).2=[]:=by unfold br;simp[hp]
      simp only[push_cast,seval,f1,f2,f4,f6,f46,hb3];exact⟨P.op-(P2.cm+1),hnx,G5,(br P2 e).1,o2,_,co2,v6,rz,rfl,rfl,x8,hp7,gR8,gZ8,hrz,hn5,hn6,oH8,om.sub y5.sub,hng5,z4,hop,O7,by rw[hcm,hst,hco];rfl⟩
     ·have hco:(br P2 e).2=[P2.toM {k:=12,en:=⟨e.c,e.n,.empty⟩,rp:=(bq P2.sv e).2} (100+e.c)]:=by unfold br;simp[hp,hst0]
      have hi2:(Value.int .i64 (IntKind.i64.wrap (100+(e.c:Int))))=iv (100+e.c):=NJ;simp only[push_cast,seval,hE.z,f2,f6,f7,f9,f46,hb3,gR8,n7,gE8,nE7,gP8,nP7,hi2];refine(iU hE x8.wf hp7 (m:={k:=12,en:=⟨e.c,e.n,.empty⟩,rp:=(bq P2.sv e).2}) ⟨_,_,_,rfl,Fz.nil,Fz.nil,hrd⟩ (100+e.c)).mono ?_;rintro v H9 ⟨mc,rfl,hmc,k9⟩;have x9:=x8.kw k9;have gR9:=k9.k.get _ _ gR8;have gZ9:=k9.k.get _ _ gZ8;have oH9:=oH8.aK k9.k;have hme:=hmc;obtain⟨e1,e2,e3,e4,e5,e6,rfl,_⟩:=hmc.e;simp only[push_cast,seval,hE.z];rw[lf rfl,aR];simp only[push_cast,seval];refine eZ (mz hE.P) x9.wf (lo:=h.next) x9.aK.next oH9 rfl rfl Nr Nr ?_;intro v7 H10 aI hnx10;have x10:=x9.app hW aI λb hb=>⟨(oH9.lt x9.wf b hb).1,hng5 b hb⟩;have gR10:=aI.get _ _ gR9 (oH9.tag gR9 (λc fx e=>by injection e with _ e;cases e));have gZ10:=aI.get _ _ gZ9 (oH9.tag gZ9 (λc fx e=>by injection e with _ e;cases e));simp only[push_cast,seval,f1,f2,f4];refine⟨P.op-(P2.cm+1),hnx,G5,(br P2 e).1,o2++(br P2 e).2,_,_,v7,rz,rfl,rfl,x10,hp7,gR10,gZ10,hrz,hn5,hn6,by rw[hco,List.length_append];exact aI.own,by rw[hco];exact(om.sub y5.sub).app (bu.one hme),λb hb=>?_,z4,hop,by rw[List.length_append];show _+P.cm<=P2.cm+1;omega,by rw[hcm,hst,List.append_assoc]⟩
      rcases aI.blk b hb with h6|h6
      ·exact hng5 b h6
      ·exact x9.eH h6
    ·have hb3:((P2.st:Int)==0)=false:=Nu;have hco:(br P2 e).2=[]:=by unfold br;simp[hst0]
     simp only[push_cast,seval,f1,f2,f4,f6,f46,hb3];exact⟨P.op-(P2.cm+1),hnx,G5,(br P2 e).1,o2,_,co2,v6,rz,rfl,rfl,x7,hp7,gR7,gZ7,hrz,hn5,hn6,oH7,om.sub y5.sub,hng5,z4,hop,O7,by rw[hcm,hst,hco];rfl⟩
   ·have hb2:decide ((P2.cm:Int)<(P2.op:Int))=false:=Nu;have g3':=kw3.k.get _ _ g3;simp only[push_cast,seval,hE.z,f2,f4,f6,g2,n2,hb2,g2',aV,g3',n3,hd,hle];have x4:=(x2.kw kw3).put hW (o:=.cells (rCS P2 a1 c1 a2 c2 a3 c3 a4 c4 a5 c5 a6 c6 a7 c7) 49 true) Nr hn3 (kw3.k.get _ _ g3);have hd2:aq P2 k=(P2,[]):=iO z2.bs Nr;rw[hd2,List.append_nil]at hcm;rw[hcm];refine⟨G2,_,co2,v6,x4,hp0,(ov.aK kw3.k).at λb o hb hg=>?_,om,hng,rfl⟩;rw[ai,if_neg (λe=>?_)]
    ·exact hg
    ·have hgg:=(kw3.k.get _ _ g3);subst e;exact(ov.aK kw3.k).tag hgg (λc fx e=>by injection e with _ e;cases e) hb
  ·have hb1:decide ((P2.cm:Int)<(k:Int))=false:=Nu;simp only[push_cast,seval,hE.z,f1,f2,f4,f6,g2,n2,hb1,J2,false_implies,true_and,g3,n3,hd,hle];have x4:=x2.put hW (o:=.cells (rCS P2 a1 c1 a2 c2 a3 c3 a4 c4 a5 c5 a6 c6 a7 c7) 49 true) Nr hn3 g3;have hd2:aq P2 k=(P2,[]):=iO z2.bs Nr;rw[hd2,List.append_nil]at hcm;rw[hcm];refine⟨G2,_,co2,v6,x4,hp0,(ov).at λb o hb hg=>?_,om,hng,rfl⟩;rw[ai,if_neg (λe=>?_)]
   ·exact hg
   ·have hgg:=g3;subst e;exact(ov).tag hgg (λc fx e=>by injection e with _ e;cases e) hb
end
end Go.Proofs.YthbjaiilnkakcaaGreatDoor
