/- Part 17. -/
import Derived.Test.YthbjaiilnkakcaaGreatDoorT16
set_option linter.all false
set_option maxRecDepth 10000
set_option maxHeartbeats 8000000
namespace Vr
noncomputable def iG(P:PR):PR×List Mg :=
 if (bI P.aH).length<=P.F\/(P.aH.getD P.me {}).k=0 then(P,[]) else
 match dV (bI P.aH) with
 |none=>(P,[])
 |some b=>fD P b
theorem pW(P:PR)(m:Mg):dD P m=iG {P with aH:=cO P m}:=by unfold dD iG cO;split<;>rfl
structure KJ(P:PR):Prop where
 st:P.st=1
 cm:∀x,x∈P.aH->x.cm<=10000
 fr:∀(i:Nat) x,P.aH[i]? = some x->x.k≠0->x.fr=i
 c0:∀x,x∈P.aH->x.k=0->x.cm=0
 bs:¬((bI P.aH).length<=P.F\/(P.aH.getD P.me {}).k=0)->∀b,dV (bI P.aH)=some b->b.1≠P.me->fU b.2=true/\b.2.Ok/\P.cm<=b.2.op/\(P.cm<b.2.bs->jC b.2)
end Vr
namespace Go.Tm
open Vr
theorem RW.tlf{E:Env}{G:Mem}{h h1:ag}{X:Nat->Prop}{M M':PM}{out:List Mg}{r t:Nat}{D:QD}{vt':Value}(hS:SO E G h X)(q:RW E G h X M out r t D)(k:KW E h h1)(o:Own h1 3 1 h.next M'.told.length (bT M'.told) vt')
 (hs:M'.sv=M.sv) (hl:M'.log=M.log) (hv:M'.vs=M.vs) (hc:M'.aH=M.aH) :
 ∃X',PX E G h X G (h1.put r (.cells (rwC M' t D.c D.vl vt' D.vv D.vo) 78 true)) X'/\RW E G (h1.put r (.cells (rwC M' t D.c D.vl vt' D.vv D.vo) 78 true)) X' M' out r t {D with vt:=vt'}:=by
 obtain⟨ss,t1,t2⟩:=q.ht;obtain⟨co,o1,o2⟩:=q.ho;obtain⟨es,ck,c1,c2⟩:=q.hc;have hr:=q.hr;have hXr:X r:=q.hx r Nw
 have key:∀b o,b≠r->h.get b=some o->(h1.put r (.cells (rwC M' t D.c D.vl vt' D.vv D.vo) 78 true)).get b=some o:=λb o hb hg=>by
  rw[ai,if_neg (λe=>hb e.symm)];exact k.k.get _ _ hg
 have tne:t≠r:=λe=>N1;have cne:D.c≠r:=λe=>OQ;have hlt:=o.lt k.w;have hrn:=(hS.wf.live _ _ hr).2;refine⟨_,PX.pO hS k hr hXr,⟨ND,⟨ss,key _ _ tne t1,by rw[hs];exact t2⟩,by rw[hl];exact RW.own hr key (by decide) q.hl,?_,by rw[hv];exact RW.own hr key (by decide) q.hv,⟨co,RW.own hr key Nz o1,o2⟩,⟨es,ck,key _ _ cne c1,by rw[hc];exact c2⟩,?_⟩⟩
 ·refine(o.low (Nat.zero_le _)).at λb p hb hg=>?_;rw[ai,if_neg (λe=>by have:=hlt b hb;omega)];exact hg
 ·intro b hb;simp only[List.mem_cons,List.mem_append]at hb|-;have hxq:=q.hx;rcases hb with hb|hb|hb|((hb|hb)|hb)|hb
  ·left;exact hxq b NN
  ·left;exact hxq b NN
  ·left;exact hxq b NN
  ·left;exact hxq b NN
  ·right;exact hlt b hb
  ·left;exact hxq b NN
  ·left;exact hxq b NN
theorem PY.drop{E:Env}{G G':Mem}{h H:ag}{X X':Nat->Prop}{B:List (Nat×bz)}(c:PY E G h X G' H X' B)(k:Nat):PY E G h X G' H X' (B.drop k) :=
 ⟨c.p,⟨λb o h=>c.bx.get b o (List.mem_of_mem_drop h),λb o h=>c.bx.out b o (List.mem_of_mem_drop h),N2⟩,λb o h=>c.lo b o (List.mem_of_mem_drop h)⟩
theorem PY.Ab{E:Env}{G G':Mem}{h H:ag}{X X':Nat->Prop}{B:List (Nat×bz)}{P:PR}{out:List Mg}{r t:Nat}{D:QD}{motive:ag->Prop}(c:PY E G h X G' H X' B)(q:QR' E G' H X' P out r t D)(K:∀H,PY E G h X G' H X' B->QR' E G' H X' P out r t D->motive H):motive H:=K H c q
theorem PY.qk'{E:Env}{G G':Mem}{h H:ag}{X X':Nat->Prop}{B:List (Nat×bz)}{P:PR}{out:List Mg}{r t:Nat}{D:QD}{o:bz}(c:PY E G h X G' H X' B)(q:QR' E G' H X' P out r t D):QR' E G' (H.push o) X' P out r t D:=q.aK (Sub.refl _) ((KW.refl c.p.so.wf).push).k
theorem PY.qp'{E:Env}{G G':Mem}{h H:ag}{X X':Nat->Prop}{B:List (Nat×bz)}{P:PR}{out:List Mg}{r t:Nat}{D:QD}{o o':bz}(c:PY E G h X G' H X' B)(q:QR' E G' H X' P out r t D)(i:Nat){b:Nat}(hi:B[i]? = some (b,o)):QR' E G' (H.put b o') X' P out r t D:=by refine q.mh (Sub.refl _) λd p hd hg=>?_;rw[ai,if_neg (λe=>(c.bx.out b o (List.mem_of_getElem? hi)).1 (by rw[e];exact hd))];exact hg
theorem jg{a:Option Nat}:veq (.map a) (.map a)=true:=by cases a<;>simp[veq]
theorem jf{l:List Value}:veq (.tuple ⟨l⟩) (.tuple ⟨l⟩)=su l l:=by simp[veq,wJ]
theorem alk{E:Env}{h H:ag}{c:Nat}{es:List MapEntry}{ck ck':Nat}{t:TypeId}{k:Value}{ok:Bool}(h1:h.get c=some (.map es ck))(h2:H.get c=some (.map es ck')):fe E H t (.map (some c)) k ok=fe E h t (.map (some c)) k ok:=by unfold fe nI;simp only[h1,h2]
end Go.Tm
namespace Go.Proofs.YthbjaiilnkakcaaGreatDoor
open Go.Tm Vr
variable{E:Env}(hE:EOk E)
include hE
section
variable{G:Mem}{h:ag}{X:Nat->Prop}(hS:SO E G h X){P:PR}{out:List Mg}{r t:Nat}(hQ:QR E G h X P out r t)
include hS hQ
theorem wj(z:P.Ok)(ho:out.length<=100)(hc:KJ P):af E 80 [ptr r] h λv h'=>v=.tuple #[]/\∃G' X',PX E G h X G' h' X'/\QR E G' h' X' (iG P).1 (out++(iG P).2) r t:=by
 have zn:=z.n;have zm:=z.me;have zl:=z.aH;have hW:=hS.wf;have hF:P.n/2=P.F:=Py;have Y1:=PY.start hS;obtain⟨⟨dc,vl,vt,vv,vo⟩,q⟩:=hQ;have f1:=Y1.r0 q.hr q.xr;obtain⟨es,ck,c1,c2⟩:=q.hc;have hpC:P.pC=P.aH:=by unfold PR.pC;rw[if_pos hc.st]
 rw[hpC]at c2;have hgD:P.aH.getD P.me {}=P.aH[P.me]' Nr:=by rw[List.getD_eq_getElem?_getD,List.getElem?_eq_getElem Nr];rfl
 refine en hE Tryz.func80 rfl rfl Tryz.ntmps80 rfl Nv (rs:=[]) rfl ?_;simp only[push_cast,seval];refine aB [(3,12),(7,12),(8,12)] Nt Nt Nt ?_;simp only[push_cast,seval,hE.P,f1];have c1':∀o,(h.push o).get dc=some (.map es ck):=λo=>(((KW.refl hW).push (o:=o)).k.get _ _ c1);rcases mX hE c1 c2 P.me true with⟨m0,cs0,l1,l2,l3,l4⟩|⟨l1,l4⟩
 ·simp only[if_true]at l4;obtain⟨x1,y1,x2,y2,x3,y3,hm0,_⟩:=l3.e;subst hm0;rw[l4,ab];simp only[push_cast,seval,hE.P,bQ,f1,alk c1 (c1' _),l4,aV,bp,aU,aW,ba,bn,dq,jg,jf];rw[Ap hE (c1' _) c2,ab];have hgm:P.aH[P.me]? = some (P.aH[P.me]' Nr):=List.getElem?_eq_getElem Nr;have hk0:(P.aH.getD P.me {}).k≠0:=by rw[hgD];rw[l1]at hgm;injection hgm with hgm;rw[<-hgm];exact l2
  simp only[push_cast,seval];refine Go.Tm.aO [0,26,31] λ_ f=>?_;simp only[push_cast,seval,gz]at f;refine PY.Ab (B:=[]) (motive:=λH=>af E _ _ H _) ((Y1.new hW).drop 1) (Y1.qk' q) λH2 Y2 q2=>?_;refine(JB hE Y2.p.so ⟨_,q2⟩ ⟨Nr,Nr⟩).mono ?_;rintro w H3 ⟨rfl,rfl⟩;rw[hF];have f2:=Y2.r0 q2.hr q2.xr;have hw1:IntKind.i64.wrap ((P.F:Int)+1)=(P.F:Int)+1:=cx Nr Nr;by_cases hnF:(bI P.aH).length<=P.F
  ·have g1:decide (((bI P.aH).length:Int)<(P.F:Int)+1)=true:=Nu;simp only[push_cast,seval,f,hw1,g1];have hR:iG P=(P,[]):=by unfold iG;rw[if_pos (.inl hnF)]
   rw[hR];exact⟨G,X,Y2.p,by rw[List.append_nil];exact⟨_,q2⟩⟩
  ·have g1:decide (((bI P.aH).length:Int)<(P.F:Int)+1)=false:=Nu;simp only[push_cast,seval,hE.P,f,f2,hw1,g1];have hma:MgR E G {} (mgC {} (.slice none 0 0) (.slice none 0 0) (.slice none 0 0)):=⟨_,_,_,rfl,Fz.nil,Fz.nil,Fz.nil⟩;refine gtm (motive:=wpc E _ _) [0,4,5,6,40,41] λ_ f3=>?_;simp only[push_cast,seval,gz,f]at f3;refine PY.Ab (B:=[(H3.next,.cells (mgC {} (.slice none 0 0) (.slice none 0 0) (.slice none 0 0)) 66 true)]) (motive:=λH=>wpc E _ _ _ H) (Y2.new hW) (Y2.qk' q2) λH4 Y4 q4=>?_;simp only[push_cast,seval,hE.z];refine bG (λk tm h2=>∃i bm bs,k=P.n-i/\i<=P.n/\(aj tm 0=ptr r/\aj tm 4=ptr H3.next/\aj tm 40=iv P.n/\aj tm 41=iv i/\aj tm 5=iv (eP (P.aH.take i))/\aj tm 6=.bool (dV (bI (P.aH.take i))).isSome)/\(∀b,dV (bI (P.aH.take i))=some b->bm=b.2)/\MgR E G bm bs/\PY E G h X G h2 X [(H3.next,.cells bs 66 true)]/\QR' E G h2 X P out r t ⟨dc,vl,vt,vv,vo⟩) P.n ?_ ?_
   ·exact⟨0,{},_,Nr,Nr,by simp only[push_cast,seval,f3];exact⟨rfl,rfl,rfl⟩,λb hb=>by simp[bI,dV]at hb,hma,Y4,q4⟩
   rintro k tm h2 ⟨i,bm,bs,rfl,hi,ff,hb,hbm,Y5,q5⟩;have hbm0:=hbm;obtain⟨b1,d1,b2,d2,b3,d3,hbs,_⟩:=hbm.e;subst hbs;have f5:=Y5.r1 q5.hr q5.xr;by_cases hlt:i<P.n
   ·have g2:decide ((i:Int)<(P.n:Int))=true:=Nu;obtain⟨es5,ck5,c5,c6⟩:=q5.hc;rw[hpC]at c6;simp only[push_cast,seval,hE.z,ff,f5,g2];have hgi:P.aH[i]? = some (P.aH[i]' Nr):=List.getElem?_eq_getElem Nr;have htk:=tt hgi;have hck:=ld hgi;rcases mX hE c5 c6 i true with⟨m5,cs5,l5,l6,l7,l8⟩|⟨l5,l8⟩
    ·simp only[if_true]at l8;obtain⟨x1,y1,x2,y2,x3,y3,hm5,_⟩:=l7.e;subst hm5;rw[l8,ab];rw[hgi]at l5;injection l5 with l5;rw[l5]at htk hck;rw[if_neg l6]at hck;have hbs:=sg (bI (P.aH.take i)) (i,m5);rw[<-hck]at hbs;have Y6:=Y5.new hW (o:=.cells (mCS m5 x1 y1 x2 y2 x3 y3) 66 true);have q6:=Y5.qk' q5 (o:=.cells (mCS m5 x1 y1 x2 y2 x3 y3) 66 true);have f6:=Y6.r2 q6.hr q6.xr;have htv:(Value.int .i64 (max (eP (P.aH.take i):Int) (m5.cm:Int)))=iv (eP (P.aH.take (i+1))):=by rw[htk];show Value.int .i64 _=Value.int .i64 _;congr 1;omega
     cases hbo:dV (bI (P.aH.take i)) with
     |none =>rw[hbo]at ff hbs;simp only[Option.isSome_none]at ff hbs;simp only[push_cast,seval,hE.P,bQ,ff,f5,f6,htv,cH];exact⟨P.n-(i+1),Nr,i+1,m5,_,rfl,Nr,⟨bk Nr,rfl,by rw[hbs];rfl⟩,λb hb=>ON,l7,(Y6.put hW 1 rfl).drop 1,Y6.qp' q6 1 rfl⟩
     | some b =>
       rw[hbo]at ff hbs;have hbb:=hb b hbo;subst hbb;simp only[Option.isSome_some]at ff hbs;by_cases h1:b.2.nm<m5.nm
       ·have g3:decide ((b.2.nm:Int)<(m5.nm:Int))=true:=Nu;have hbt:better m5 b.2=true:=by unfold better;simp[h1]
        simp only[hbt,if_true]at hbs;simp only[push_cast,seval,hE.P,bQ,ff,f5,f6,htv,g3,cH];exact⟨P.n-(i+1),Nr,i+1,m5,_,rfl,Nr,⟨bk Nr,rfl,by rw[hbs];rfl⟩,λb hb=>ON,l7,(Y6.put hW 1 rfl).drop 1,Y6.qp' q6 1 rfl⟩
       have g3:decide ((b.2.nm:Int)<(m5.nm:Int))=false:=Nu;by_cases h2:m5.nm=b.2.nm
       ·have g4:((m5.nm:Int)==(b.2.nm:Int))=true:=Pg;by_cases h3:b.2.op<m5.op
        ·have g5:decide ((b.2.op:Int)<(m5.op:Int))=true:=Nu;have hbt:better m5 b.2=true:=by unfold better;simp[h2,h3]
         simp only[hbt,if_true]at hbs;simp only[push_cast,seval,hE.P,bQ,ff,f5,f6,htv,g3,g4,g5];exact⟨P.n-(i+1),Nr,i+1,m5,_,rfl,Nr,⟨bk Nr,rfl,by rw[hbs];rfl⟩,λb hb=>ON,l7,(Y6.put hW 1 rfl).drop 1,Y6.qp' q6 1 rfl⟩
        ·have g5:decide ((b.2.op:Int)<(m5.op:Int))=false:=Nu;have hbt:better m5 b.2=false:=by unfold better;simp[h1,h3]
         simp only[hbt,Bool.false_eq_true,if_false]at hbs;simp only[push_cast,seval,hE.P,bQ,ff,f5,f6,htv,g3,g4,g5];exact⟨P.n-(i+1),Nr,i+1,b.2,_,rfl,Nr,⟨bk Nr,rfl,by rw[hbs];rfl⟩,λc hc=>by rw[hbs]at hc;injection hc with hc;rw[hc],hbm0,Y6.drop 1,q6⟩
       ·have g4:((m5.nm:Int)==(b.2.nm:Int))=false:=NF;have hbt:better m5 b.2=false:=by unfold better;simp[h1,h2]
        simp only[hbt,Bool.false_eq_true,if_false]at hbs;simp only[push_cast,seval,hE.P,bQ,ff,f5,f6,htv,g3,g4];exact⟨P.n-(i+1),Nr,i+1,b.2,_,rfl,Nr,⟨bk Nr,rfl,by rw[hbs];rfl⟩,λc hc=>by rw[hbs]at hc;injection hc with hc;rw[hc],hbm0,Y6.drop 1,q6⟩
    ·simp only[if_true]at l8;have hz:=l5 _ hgi;have hz0:=hc.c0 _ (List.mem_of_getElem? hgi) hz;rw[l8,ab];rw[if_pos hz,List.append_nil]at hck;rw[hz0,Nat.max_zero]at htk;simp only[push_cast,seval,hE.z,ff];exact⟨P.n-(i+1),Nr,i+1,bm,_,rfl,Nr,⟨bk Nr,by rw[htk,hck];exact⟨rfl,rfl⟩⟩,by rw[hck];exact hb,hbm0,(Y5.new hW).drop 1,Y5.qk' q5⟩
   ·have g2:decide ((i:Int)<(P.n:Int))=false:=Nu;have he:i=P.n:=Nr;subst he;simp only[push_cast,seval,ff,g2];have hLf:P.aH.take P.n=P.aH:=List.take_of_length_le Nr;rw[hLf]at ff hb;obtain⟨b,hbo⟩:∃b,dV (bI P.aH)=some b:=by
     cases hcc:bI P.aH with
     |nil=>rw[hcc]at hnF;simp at hnF
     |cons x l=>exact sf x l
    have hbb:=hb b hbo;subst hbb;obtain⟨hb1,hb2⟩:=jA (iB hbo);have hfr:=hc.fr _ _ hb1 hb2;have hR:iG P=fD P b:=by unfold iG;rw[if_neg (by rintro(h|h);exact hnF h;exact hk0 h),hbo]
    refine gtA [0,4,5] λ_ fa=>?_;simp only[push_cast,seval,gz,ff]at fa;refine ax Nt ?_;rcases Classical.em (b.1=P.me) with hbe|hbe
    case' inl =>
     have g3:((b.2.fr:Int) != (P.me:Int))=false:=by rw[hfr];simp[hbe]
     obtain⟨Q,hQd⟩:∃Q,Q=P:=⟨_,rfl⟩;have zQ:Q.Ok:=by rw[hQd];exact z
     have hQ4:Q.n=P.n/\Q.me=P.me/\Q.vw=P.vw:=by rw[hQd];exact⟨rfl,rfl,rfl⟩
     have hQb:(if b.1=P.me then P else au P b.2)=Q:=by rw[if_pos hbe,hQd]
     simp only[push_cast,seval,hE.z,fa,f5,g3];have q7:QR E G h2 X Q out r t:=by rw[hQd];exact⟨_,q5⟩
     have Y7:=Y5
    case' inr =>
     have g3:((b.2.fr:Int) != (P.me:Int))=true:=by rw[hfr];simp;omega
     simp only[push_cast,seval,hE.z,fa,f5,g3];obtain⟨h1,h2',h3',h4'⟩:=hc.bs (by rintro(h|h);exact hnF h;exact hk0 h) b hbo hbe;obtain⟨w1,w2,w3⟩:=js h1;refine(jv hE Y5.p.so ⟨_,q5⟩ z hbm0 w3 h2' Nr h3' (λh=>⟨w1,w2,h4' h⟩)).mono ?_;rintro w H7 ⟨rfl,G7,X7,p7,q7⟩;obtain⟨zQ,-,hQn,hQm,hQv⟩:=z.install h1 h2' h3' h4';obtain⟨Q,hQd⟩:∃Q,Q=au P b.2:=⟨_,rfl⟩;rw[<-hQd]at zQ hQn hQm hQv q7;have hQ4:Q.n=P.n/\Q.me=P.me/\Q.vw=P.vw:=⟨hQn,hQm,hQv⟩;have hQb:(if b.1=P.me then P else au P b.2)=Q:=by rw[if_neg hbe,hQd]
     have Y7:=Y5.call hW p7;obtain⟨D7,hr7,hx7⟩:=q7.dd;have f7:=Y7.r1 hr7 hx7;simp only[push_cast,seval,hE.z,fa,f7]
    all_goals
     obtain⟨e1,e2,e3⟩:=hQ4;obtain⟨D8,hr8,hx8⟩:=q7.dd;have f8:=Y7.r1 hr8 hx8
     try simp only[push_cast,seval,hE.z,fa,f8]
     try rw[e3]
     refine Go.Tm.aO [0,5] λ_ fb=>?_;simp only[push_cast,seval,gz,fa]at fb;refine PY.gen (motive:=λH=>af E _ _ H _) (B:=[(H3.next,_)]) Y7 q7 λH8 Y8 q8=>?_;refine(mY hE Y8.p.so q8 Nr P.vw).mono ?_;rintro w H9 ⟨rfl,X9,p9,q9⟩;have Y9:=Y8.call hW p9;obtain⟨⟨dc9,vl9,vt9,vv9,vo9⟩,q9⟩:=q9;obtain⟨V,hV⟩:∃V,V=bK Q P.vw 0:=⟨_,rfl⟩;rw[<-hV]at q9;have en:V.n=P.n:=by rw[hV];exact e1
     have f9:=Y9.r1 q9.hr q9.xr;simp only[push_cast,seval,hE.z,fb,f9];rw[xh Nr Nr Nr Nr,aR];have hr9:=q9.hr;simp only[push_cast,seval,hE.z,fb,f9];have kA:=(KW.refl Y9.p.so.wf).push (o:=.cells (bR V.n [.int .i64 0]) 3 true)
     obtain⟨X10,p10,q10⟩:=RW.tlf (vt':=.slice (some ⟨H9.next,0,none⟩) V.n V.n) (M':={V.pm with told:=List.replicate V.n 0}) Y9.p.so q9.raw kA (by
      refine .inr ⟨H9.next,V.n,[],true,Nw,?_,by simp[bT],Nw,Nw,Nat.le_refl _,Nr⟩
      rw[ah,if_pos rfl,gx,List.append_nil]) rfl rfl rfl rfl
     have Y10:=Y9.call hW p10;obtain⟨R,hRd⟩:∃R:PR,R={Q with st:=0,nm:=P.vw,told:=List.replicate P.n 0}:=⟨_,rfl⟩;have hpm:({V.pm with told:=List.replicate V.n 0}:PM)=R.pm:=by rw[hRd,hV,<-e3,<-e1];rfl
     have q11:=q10.qr hpm;have hVw:V.vw=P.vw:=by rw[hV];rfl
     have zR:R.Ok:=by rw[hRd];exact⟨⟨zQ.n,zQ.odd,zQ.me,zQ.vw,zQ.bs,zQ.cm,zQ.op,by show(List.replicate P.n 0).length=Q.n;simp[e1],zQ.aG,zQ.aH,zQ.ans,zQ.tab,zQ.svl,zQ.srt,zQ.ent⟩,zQ.es,zQ.op4⟩
     have hRn:R.n=P.n:=by rw[hRd];exact e1
     have hB:fD P b=((aq R (eP P.aH)).1,R.allM (R.bM {k:=7,vw:=P.vw})++(aq R (eP P.aH)).2):=by unfold fD;simp only[hQb];rw[<-hRd]
     refine Go.Tm.aO [0,5] λ_ fc=>?_;simp only[push_cast,seval,gz,fb]at fc;refine PY.gen (motive:=λH=>af E _ _ H _) (B:=[(H3.next,_)]) Y10 ⟨_,q11⟩ λH11 Y11 q11=>?_;rw[hVw]
     refine(mO hE Y11.p.so q11 zR.toSz (λe he=>by
      have:=zR.es e he
      exact⟨Og,N3,N8⟩) (m:={k:=7,vw:=P.vw}) ⟨_,_,_,rfl,Fz.nil,Fz.nil,Fz.nil⟩).mono ?_
     rintro w H12 ⟨G12,mc,rfl,rB,x12⟩;have Y12:=Y11.ext hW x12;have q12:=q11.ext x12;rw[hR,hB];generalize R.bM {k:=7,vw:=P.vw}=W at rB|-;have rB0:=rB;obtain⟨y1,u1,y2,u2,y3,u3,hmB,_⟩:=rB.e;subst hmB;have Y13:=(Y12.new hW (o:=.cells (mCS W y1 u1 y2 u2 y3 u3) 66 true)).drop 1;have q13:=Y12.qk q12 (o:=.cells (mCS W y1 u1 y2 u2 y3 u3) 66 true);obtain⟨D12,hr12,hx12⟩:=q12.dd;have f12:=Y12.r1 hr12 hx12;simp only[push_cast,seval,hE.z,fc,f12];refine Go.Tm.aO [0,5] λ_ fd=>?_;simp only[push_cast,seval,gz,fc]at fd;refine PY.gen (motive:=λH=>af E _ _ H _) (B:=[(H3.next,_)]) Y13 q13 λH13 Y13 q13=>?_;refine(mJ hE Y13.p.so q13 Nr Nr rB0).mono ?_;rintro w H14 ⟨rfl,X14,p14,q14⟩;simp only[push_cast,seval,fd];have hal:=ke R W;refine(kh hE p14.so q14 zR.toSz N0 (eP P.aH)).mono ?_;rintro w H15 ⟨rfl,G15,X15,p15,q15⟩
     try simp only[push_cast,seval]
     exact⟨G15,X15,((Y13.call hW p14).call hW p15).p,by rw[List.append_assoc]at q15;exact q15⟩
 ·simp only[if_true]at l4;rw[l4,ab];simp only[push_cast,seval,hE.P,bQ,f1,alk c1 (c1' _),l4,aV,bp,aU,aW,ba,bn,dq,jg,jf];have hR:iG P=(P,[]):=by unfold iG;rw[if_pos (.inr (by rw[hgD];exact l1 _ (List.getElem?_eq_getElem Nr)))]
  rw[hR];exact⟨G,X,(Y1.new hW).p,by simpa using(Y1.qk ⟨_,q⟩)⟩
end
end Go.Proofs.YthbjaiilnkakcaaGreatDoor
namespace Vr
structure oS(P:PR):Prop where
 fr:∀(i:Nat) x,P.aH[i]? = some x->x.k≠0->x.fr=i
 c0:∀x,x∈P.aH->x.k=0->x.cm=0
theorem oS.start{P:PR}{v:Nat}:oS (bO P v).1:=by have key:∀x,x∈(bO P v).1.aH->x={}:=λx hx=>List.eq_of_mem_replicate (show x∈List.replicate P.n {} from hx);exact⟨λi x hx hk=>absurd (by rw[key x (List.mem_of_getElem? hx)]) hk,λx hx _=>by rw[key x hx]⟩
theorem oS.aH{P:PR}(c:oS P){m:Mg}(hk:m.k≠0)(hst:P.st=1)(h:lu P m):KJ {P with aH:=cO P m}:=by
 refine⟨hst,h.1,λi x hx hxk=>?_,λx hx hxk=>?_,h.2⟩
 ·simp only[cO]at hx;split at hx
  ·rw[List.getElem?_set]at hx;split at hx
   ·rename_i e;split at hx
    ·injection hx with hx;rw[<-hx];exact e
    ·cases hx
   ·exact c.fr i x hx hxk
  ·exact c.fr i x hx hxk
 ·simp only[cO]at hx;split at hx
  ·rcases List.mem_or_eq_of_mem_set hx with hx|hx
   ·exact c.c0 x hx hxk
   ·rw[hx]at hxk;exact absurd hxk hk
  ·exact c.c0 x hx hxk
end Vr
namespace Go.Tm
open Vr
theorem QR'.cm{E:Env}{G:Mem}{h:ag}{X:Nat->Prop}{P:PR}{out:List Mg}{r t:Nat}{D:QD}{es es':List MapEntry}{ck ck':Nat}{L:List Mg}(hS:SO E G h X)(q:QR' E G h X P out r t D)(hst:P.st=1)(hc:h.get D.c=some (.map es ck))(hn:CmR E G es' ck' L) :
 PX E G h X G (h.put D.c (.map es' ck')) X/\QR' E G (h.put D.c (.map es' ck')) X {P with aH:=L} out r t D:=by
 have hX:X D.c:=q.hx D.c Nw;obtain⟨ss,t1,t2⟩:=q.ht;obtain⟨co,o1,o2⟩:=q.ho
 have k:∀b o,b≠D.c->h.get b=some o->(h.put D.c (.map es' ck')).get b=some o:=λb o hb hg=>by
  rw[ai,if_neg (λe=>hb e.symm)];exact hg
 have rne:r≠D.c:=λe=>by have:=q.hr;rw[e,hc]at this;cases this
 have tne:t≠D.c:=λe=>by rw[e,hc]at t1;cases t1
 refine⟨PX.put hS hX hc,⟨k _ _ rne q.hr,⟨ss,k _ _ tne t1,t2⟩,QR'.lW hc k (λc fx e=>by cases e) q.hl,QR'.lW hc k (λc fx e=>by cases e) q.htl,QR'.lW hc k (λc fx e=>by cases e) q.hv,⟨co,QR'.lW hc k (λc fx e=>by cases e) o1,o2⟩,⟨es',ck',ND,?_⟩,q.hx⟩⟩;have:({P with aH:=L}:PR).pC=L:=by unfold PR.pC;rw[if_pos hst]
 rw[this];exact hn
end Go.Tm
namespace Go.Proofs.YthbjaiilnkakcaaGreatDoor
open Go.Tm Vr
variable{E:Env}(hE:EOk E)
include hE
section
variable{G:Mem}{h:ag}{X:Nat->Prop}(hS:SO E G h X){P:PR}{out:List Mg}{r t:Nat}(hQ:QR E G h X P out r t)
include hS hQ
theorem sF(z:P.Ok)(ho:out.length<=50){m:Mg}{ms:List Value}(hm:MgR E G m ms)(k:m.Ok)(hk:m.k=6)(hfr:m.fr<P.n)(hst:P.st≠2)(hc:Cn P m)(hcm:P.st=1->oS P):af E 39 [ptr r,.agg ms.toArray] h λv h'=>v=.tuple #[]/\∃G' X',PX E G h X G' h' X'/\QR E G' h' X' (bg P m).1 (out++(bg P m).2) r t:=by
 have zn:=z.n;have ko:=k.n;have hW:=hS.wf;have hm0:=hm;have tf:(true==false)=false:=rfl;obtain⟨b1,d1,b2,d2,b3,d3,rfl,m1,m2,m3⟩:=hm.e;have Y1:=(PY.start hS).new hS.wf (o:=.cells (mCS m b1 d1 b2 d2 b3 d3) 66 true);have q1:=(PY.start hS).qk hQ (o:=.cells (mCS m b1 d1 b2 d2 b3 d3) 66 true);have g1:((P.st:Int)==2)=false:=Nu;obtain⟨D,hr,hx⟩:=q1.dd;have f1:=Y1.r1 hr hx;refine en hE Tryz.func39 rfl rfl Tryz.ntmps39 rfl Nv (rs:=[]) rfl ?_;simp only[push_cast,seval,hE.z,f1,g1];refine gtA [0,3] λ_ f=>?_;simp only[push_cast,seval,gz]at f;refine PY.gen (motive:=λH=>aF E _ _ _ H) Y1 q1 λH1 Y1 q1=>?_;obtain⟨D1,hr1,hx1⟩:=q1.dd;have f1:=Y1.r1 hr1 hx1;refine ax Nt ?_;by_cases hv:P.vw<m.vw
 case' pos =>
  have g2:decide ((P.vw:Int)<(m.vw:Int))=true:=Nu;simp only[push_cast,seval,hE.z,f,f1,g2];refine(qQ hE Y1.p.so q1 z.toSz Nr m.vw).mono ?_;rintro w H2 ⟨rfl,X2,p2,q2⟩;have Y2:=Y1.call hW p2;obtain⟨a,ha⟩:∃a,a=bO P m.vw:=⟨_,rfl⟩;have zA:a.1.Ok:=by rw[ha];exact z.start (by omega)
  have hal:a.2.length<=7:=by rw[ha];have:(bO P m.vw).2.length<=P.n:=ke _ _;omega
  have hac:a.1.st=1->oS a.1:=λ_=>by rw[ha];exact oS.start
  have han:a.1.n=P.n/\a.1.me=P.me:=by rw[ha];exact⟨rfl,rfl⟩
  have haa:(if P.vw<m.vw then bO P m.vw else(P,[]))=a:=by rw[if_pos hv,ha]
  have hav:a.1.vw<=1000000:=zA.vw;rw[<-ha]at q2
  try simp only[push_cast,seval]
 case' neg =>
  have g2:decide ((P.vw:Int)<(m.vw:Int))=false:=Nu;simp only[push_cast,seval,hE.z,f,f1,g2];obtain⟨a,ha⟩:∃a:PR×List Mg,a=(P,[]):=⟨_,rfl⟩;have Y2:=Y1;have q2:QR E G H1 X a.1 (out++a.2) r t:=by rw[ha,List.append_nil];exact q1
  have zA:a.1.Ok:=by rw[ha];exact z
  have hal:a.2.length<=7:=by rw[ha];simp
  have hac:a.1.st=1->oS a.1:=λh=>by rw[ha]at h|-;exact hcm h
  have han:a.1.n=P.n/\a.1.me=P.me:=by rw[ha];exact⟨rfl,rfl⟩
  have haa:(if P.vw<m.vw then bO P m.vw else(P,[]))=a:=by rw[if_neg hv,ha]
  have hav:a.1.vw<=1000000:=zA.vw
 all_goals
  have hchg:bg P m=if m.vw≠a.1.vw\/a.1.st≠1 then a else if !a.1.bF then a else((dD a.1 m).1,a.2++(dD a.1 m).2):=by unfold bg;rw[if_neg hst,if_neg Nr];simp only[haa];rw[if_neg (by omega:¬m.k=5)]
  have hca:=(hc.2 (.inr hk) a.1 (by rw[haa]));refine gtA [0,3] λ_ f2=>?_;simp only[push_cast,seval,gz,f]at f2;refine PY.gen (motive:=λH=>aF E _ _ _ H) Y2 q2 λH2 Y2 q2=>?_;obtain⟨D2,hr2,hx2⟩:=q2.dd;have f3:=Y2.r1 hr2 hx2;obtain⟨e1,e2⟩:=han;refine aB [(20,16)] Nt Nt Nt ?_;by_cases h1:m.vw=a.1.vw
  case neg =>have g3:((m.vw:Int) != (a.1.vw:Int))=true:=Nu;simp only[push_cast,seval,hE.z,f2,f3,g3,tf,Bool.false_eq_true,false_implies,true_and];rw[hchg,if_pos (.inl h1)];exact⟨G,_,Y2.p,q2⟩
  have g3:((m.vw:Int) != (a.1.vw:Int))=false:=N6;by_cases h2:a.1.st=1
  case neg =>have g4:((a.1.st:Int) != 1)=true:=Nu;simp only[push_cast,seval,hE.z,f2,f3,g3,g4,tf,Bool.false_eq_true,false_implies,true_and];rw[hchg,if_pos (.inr h2)];exact⟨G,_,Y2.p,q2⟩
  have g4:((a.1.st:Int) != 1)=false:=Pg;have hpr:=jr hE Y2.p.so q2 ⟨Nr,Nr⟩ Nr;obtain⟨pr,hpd⟩:∃pr,pr=a.1.vw%a.1.n:=⟨_,rfl⟩;rw[<-hpd]at hpr;rw[if_neg (by rintro(h|h);exact h h1;exact h h2)]at hchg;simp only[push_cast,seval,hE.z,f2,f3,g3,g4];refine hpr.mono ?_;rintro w H3 ⟨rfl,rfl⟩;by_cases hpm:pr=a.1.me
  case neg =>
   have g5:((pr:Int) != (a.1.me:Int))=true:=Nu;have hpp:a.1.bF=false:=by unfold PR.bF;rw[<-hpd];simp[hpm]
   rw[hpp,if_pos (by rfl)]at hchg;simp only[push_cast,seval,hE.z,f2,f3,g5,aV];rw[hchg];exact⟨G,_,Y2.p,q2⟩
  have g5:((pr:Int) != (a.1.me:Int))=false:=by simp[hpm]
  have hpp:a.1.bF=true:=by unfold PR.bF;rw[<-hpd];simp[hpm]
  rw[hpp,if_neg Nw]at hchg;simp only[push_cast,seval,hE.z,f2,f3,g5,aV];refine gtA [0,3] λ_ f4=>?_;simp only[push_cast,seval,gz,f2]at f4;obtain⟨⟨dc,vl,vt,vv,vo⟩,q⟩:=q2;have f3:=Y2.r1 q.hr q.xr;obtain⟨es,ck,c1,c2⟩:=q.hc;have hpC:a.1.pC=a.1.aH:=by unfold PR.pC;rw[if_pos h2]
  rw[hpC]at c2;have hcl:=zA.aH;have hgi:a.1.aH[m.fr]? = some (a.1.aH[m.fr]' Nr):=List.getElem?_eq_getElem Nr;have hgD:a.1.aH.getD m.fr {}=a.1.aH[m.fr]' Nr:=by rw[List.getD_eq_getElem?_getD,hgi];rfl
  have c1':∀o,(H3.push o).get dc=some (.map es ck):=λo=>(((KW.refl Y2.p.so.wf).push (o:=o)).k.get _ _ c1);have zC:({a.1 with aH:=cO a.1 m}:PR).Ok:=by
   have hl:(cO a.1 m).length=a.1.n:=by unfold cO;split;rw[List.length_set];exact hcl;exact hcl
   exact⟨⟨zA.n,zA.odd,zA.me,zA.vw,zA.bs,zA.cm,zA.op,zA.told,zA.aG,hl,zA.ans,zA.tab,zA.svl,zA.srt,zA.ent⟩,zA.es,zA.op4⟩
  have hCa:KJ {a.1 with aH:=cO a.1 m}:=(hac h2).aH Nr h2 ((hca h1 h2).2 hk hpp)
  have fin:∀{H:ag} {X7:Nat->Prop},PX E G h X G H X7->QR E G H X7 {a.1 with aH:=cO a.1 m} (out++a.2) r t->af E 80 [ptr r] H λv h'=>v=.tuple #[]/\∃G' X',PX E G h X G' h' X'/\QR E G' h' X' (bg P m).1 (out++(bg P m).2) r t:=λp q=>by
   refine(wj hE p.so q zC N0 hCa).mono ?_;rintro w H9 ⟨rfl,G9,X9,p9,q9⟩;rw[hchg,pW];exact⟨rfl,G9,X9,p.trans hW p9,by rw[List.append_assoc]at q9;exact q9⟩
  refine aB [(3,10),(5,10),(6,10)] Nt Nt Nt ?_;simp only[push_cast,seval,hE.z,f4,f3];have lb:=Y2.lt 0 rfl;rcases mX hE c1 c2 m.fr true with⟨m0,cs0,l1,l2,l3,l4⟩|⟨l1,l4⟩
  ·simp only[if_true]at l4;obtain⟨x1,y1,x2,y2,x3,y3,hm0',_⟩:=l3.e;subst hm0';rw[l4,ab];simp only[push_cast,seval,hE.z,f4,f3,alk c1 (c1' _),l4,aV,bp,aU,aW,ba,bn,dq,jg,jf];have hcq:cO a.1 m=a.1.aH:=by unfold cO;rw[hgD,if_neg];rw[hgi]at l1;injection l1 with l1;rw[l1];exact l2
   refine(fin (Y2.new hW).p (by rw[hcq];exact Y2.qk ⟨_,q⟩)).mono ?_;rintro w H9 ⟨rfl,G9,X9,p9,q9⟩
   try simp only[push_cast,seval]
   exact⟨G9,X9,p9,q9⟩
  ·simp only[if_true]at l4;rw[l4,ab];simp only[push_cast,seval,hE.z,f3,alk c1 (c1' _),l4,aV,bp,aU,aW,ba,bn,dq,jg,jf];have hcq:cO a.1 m=a.1.aH.set m.fr m:=by unfold cO;rw[hgD,if_pos (l1 _ hgi)]
   have Y6:=Y2.new hW (o:=.cells (mgC {} (.slice none 0 0) (.slice none 0 0) (.slice none 0 0)) 66 true);have q6:=Y2.qk' q (o:=.cells (mgC {} (.slice none 0 0) (.slice none 0 0) (.slice none 0 0)) 66 true);have f6:=Y6.r2 q6.hr q6.xr;refine gtA [0,3] λ_ f5=>?_;simp only[push_cast,seval,gz,f4]at f5;refine ax Nt ?_;simp only[push_cast,seval,hE.z,f5,f6];obtain⟨es',ck',hup,hcm'⟩:=uk hE (c1' _) c2 (k:=m.fr) Nr hm0 Nr;rw[hup,ey];obtain⟨p7,q7⟩:=q6.cm Y6.p.so h2 (c1' _) hcm';simp only[push_cast,seval,f5];refine(fin (Y6.p.trans hW p7) (by rw[hcq];exact⟨_,q7⟩)).mono ?_;rintro w H9 ⟨rfl,G9,X9,p9,q9⟩
   try simp only[push_cast,seval]
   exact⟨G9,X9,p9,q9⟩
end
end Go.Proofs.YthbjaiilnkakcaaGreatDoor
namespace Vr
noncomputable def jN(P:PR):PR×List Mg :=
 if P.aJ\/dy P.aG<P.F then(P,[]) else
 let Q:={P with aJ:=true};let m:=Q.toM (Q.bM {k:=6,vw:=P.vw,nm:=P.nm}) (P.vw%P.n)
 if P.vw%P.n=P.me then dD Q m else(Q,[m])
theorem yr(P:PR)(fr:Nat):ep P fr=jN {P with aG:=P.aG.set fr true}:=rfl
theorem yq{L:List Bool}{i:Nat}{b:Bool}(h:L[i]? = some b):dy (L.take (i+1))=dy (L.take i)+if b then 1 else 0:=by have hi:i<L.length:=(List.getElem?_eq_some_iff.1 h).1;have hm:L[i]=b:=(List.getElem?_eq_some_iff.1 h).2;unfold dy;rw[List.take_succ_eq_append_getElem hi,List.filter_append,List.length_append,hm];cases b<;>rfl
end Vr
namespace Go.Proofs.YthbjaiilnkakcaaGreatDoor
open Go.Tm Vr
variable{E:Env}(hE:EOk E)
include hE
section
variable{G:Mem}{h:ag}{X:Nat->Prop}(hS:SO E G h X){P:PR}{out:List Mg}{r t:Nat}(hQ:QR E G h X P out r t)
include hS hQ
theorem Gx(z:P.Ok)(ho:out.length<=60)(hst:P.st=1)(hcm:oS P)(hown:P.aJ=false->(P.aH.getD P.me {}).k=0)(hc:P.vw%P.n=P.me->lu {P with aJ:=true} (PR.toM {P with aJ:=true} (PR.bM {P with aJ:=true} {k:=6,vw:=P.vw,nm:=P.nm}) (P.vw%P.n))):af E 78 [ptr r] h λv h'=>v=.tuple #[]/\∃G' X',PX E G h X G' h' X'/\QR E G' h' X' (jN P).1 (out++(jN P).2) r t:=by
 have zn:=z.n;have zv:=z.vw;have zvl:=z.aG;have hW:=hS.wf;have hF:P.n/2=P.F:=Py;have Y1:=PY.start hS;obtain⟨⟨dc,vl,vt,vv,vo⟩,q⟩:=hQ;have hpV:P.pV=P.aG:=by unfold PR.pV;rw[if_pos hst]
 have hv:=q.hv;rw[hpV]at hv;obtain⟨vb,vc,hvv,_⟩:=hv.elem hW (i:=0) Nr;simp only at hvv;subst hvv;have f1:=Y1.r0 q.hr q.xr;refine en hE Tryz.func78 rfl rfl Tryz.ntmps78 rfl Nv (rs:=[]) rfl ?_;simp only[push_cast,seval,hE.z,f1];refine bG (λk tm h2=>∃i,k=P.aG.length-i/\i<=P.aG.length/\(aj tm 0=ptr r/\aj tm 10=.slice (some ⟨vb,0,none⟩) P.aG.length vc/\aj tm 11=iv P.aG.length/\aj tm 12=iv i/\aj tm 2=iv (dy (P.aG.take i)))/\h2=h) P.aG.length ?_ ?_
 ·exact⟨0,Nr,Nr,by simp only[push_cast,seval];exact⟨rfl,rfl⟩,rfl⟩
 rintro k tm h2 ⟨i,rfl,hi,ff,rfl⟩;by_cases hlt:i<P.aG.length
 ·have g1:decide ((i:Int)<(P.aG.length:Int))=true:=Nu;have hgi:P.aG[i]? = some P.aG[i]:=List.getElem?_eq_getElem hlt;have htk:=yq hgi;have hvb:dy (P.aG.take i)<=i:=OJ;obtain⟨vb',vc',e1,hac⟩:=hv.elem hW (i:=i) hlt;injection e1 with e1 _ _;injection e1 with e1;injection e1 with e1 _ _;subst e1;have hby:((cF P.aG).drop (i*1)).take 1=[.bool P.aG[i]]:=by
   have h2:i<(cF P.aG).length:=by simp[cF,hlt]
   rw[Nat.mul_one,List.drop_eq_getElem_cons h2,List.take_succ_cons,List.take_zero];simp[cF]
  rw[hby,Nat.mul_one]at hac;simp only[push_cast,seval,hE.z,ff,g1];rw[mu rfl Nr Nr,ab]
  cases hbi:P.aG[i] with
  |true =>rw[hbi]at hac htk;have hw:(Value.int .i64 (IntKind.i64.wrap ((dy (P.aG.take i):Int)+1)))=iv (dy (P.aG.take i)+1):=bk Nr;simp only[push_cast,seval,hE.z,ff,Nat.zero_add,Nat.mul_one,Int.toNat_natCast,↓hac,hw];exact⟨P.aG.length-(i+1),Nr,i+1,rfl,Nr,bk Nr,by rw[htk];rfl⟩
  |false =>rw[hbi]at hac htk;simp only[push_cast,seval,hE.z,ff,Nat.zero_add,Nat.mul_one,Int.toNat_natCast,↓hac];exact⟨P.aG.length-(i+1),Nr,i+1,rfl,Nr,bk Nr,by rw[htk];rfl⟩
 ·have g1:decide ((i:Int)<(P.aG.length:Int))=false:=Nu;have he:i=P.aG.length:=Nr;subst he;rw[List.take_length]at ff
  have fin0:jN P=(P,[])->∃G' X',PX E G h2 X G' h2 X'/\QR E G' h2 X' (jN P).1 (out++(jN P).2) r t:=λe=>by
   rw[e,List.append_nil];exact⟨G,X,Y1.p,⟨_,q⟩⟩
  have hpA:P.pA=P.aJ:=by unfold PR.pA;rw[hst];simp
  cases hs:P.aJ with
  |true =>rw[hs]at hpA;simp only[push_cast,seval,hE.z,ff,f1,g1,hpA];exact fin0 (by unfold jN;rw[if_pos (.inl hs)])
  | false =>
    rw[hs]at hpA;simp only[push_cast,seval,hE.z,ff,f1,g1,hpA];refine(JB hE hS ⟨_,q⟩ ⟨Nr,Nr⟩).mono ?_;rintro w H3 ⟨rfl,rfl⟩;rw[hF];by_cases hlt:dy P.aG<P.F
    ·have g2:decide ((dy P.aG:Int)<(P.F:Int))=true:=Nu;simp only[push_cast,seval,g2];exact fin0 (by unfold jN;rw[if_pos (.inr hlt)])
    ·have g2:decide ((dy P.aG:Int)<(P.F:Int))=false:=Nu;simp only[push_cast,seval,hE.z,ff,f1,g2];obtain⟨Q,hQd⟩:∃Q:PR,Q={P with aJ:=true}:=⟨_,rfl⟩;have p4:PX E G H3 X G (H3.put r (.cells (rwC {P.pm with asked:=true} t dc vl vt (.slice (some ⟨vb,0,none⟩) P.aG.length vc) vo) 78 true)) X:=PX.put hS q.xr q.hr;have q4:=q.raw.hdr (h':=H3.put r (.cells (rwC {P.pm with asked:=true} t dc vl vt (.slice (some ⟨vb,0,none⟩) P.aG.length vc) vo) 78 true)) (M':={P.pm with asked:=true}) (X':=X) ND (λc o hc hg=>by rw[ai,if_neg (λe=>hc e.symm)];exact hg) rfl rfl rfl rfl rfl (λc hc=>hc);have hpm:({P.pm with asked:=true}:PM)=Q.pm:=by rw[hQd];unfold PR.pm PR.pA PR.pV PR.pC;simp[hst];rfl
     have q5:=q4.qr hpm;have Y5:PY E G H3 X G _ X []:=Y1.call hW p4;have zQ:Q.Ok:=by rw[hQd];exact⟨⟨z.n,z.odd,z.me,z.vw,z.bs,z.cm,z.op,z.told,z.aG,z.aH,z.ans,z.tab,z.svl,z.srt,z.ent⟩,z.es,z.op4⟩
     refine gtA [0] λ_ fa=>?_;simp only[push_cast,seval,gz,ff]at fa;refine PY.Ab (motive:=λH=>aF E _ _ _ H) Y5 q5 λH5 Y5 q5=>?_;have f5:=Y5.r0 q5.hr q5.xr;refine dE [(4,[0]),(8,[0])] [10,14,15] [(14,[])] [(0,(34,[0])),(1,(35,[1])),(2,(36,[2,1])),(3,(37,[3,1,2])),(4,(38,[4,1,2,3])),(5,(39,[5])),(6,(40,[6,5])),(7,(41,[7,5,6])),(8,(42,[8,5,6,7])),(9,(43,[9,1,2,3,4,5,6,7,8])),(10,(44,[10,0,1,2,3,4,5,6,7,8,9])),(11,(33,[11,0,1,2,3,4,5,6,7,8,9,10])),(12,(45,[12,0,1,2,3,4,5,6,7,8,9,10,11])),(13,(46,[13,0,1,2,3,4,5,6,7,8,9,10,11])),(14,(5,[14])),(16,(6,[16,0,1,2,3,4,5,6,7,8,9,10,11,12,13,14,15]))] [0,1,2,3,4,5,6,7,8,9,10,11,12,13,14,15,16] Nt Nt Nt Nt Nt Nv rfl ?_;simp only[push_cast,seval,hE.z,fa,f5]
     refine(mO hE Y5.p.so ⟨_,q5⟩ zQ.toSz (λe he=>by
      have:=zQ.es e he
      exact⟨Og,N3,N8⟩) (m:={k:=6,vw:=Q.vw,nm:=Q.nm}) ⟨_,_,_,rfl,Fz.nil,Fz.nil,Fz.nil⟩).mono ?_
     rintro w H6 ⟨G6,mc,rfl,rB,x6⟩;have Y6:=Y5.ext hW x6;have q6:=q5.aK x6.sub x6.aK;generalize hWd:Q.bM {k:=6,vw:=Q.vw,nm:=Q.nm}=W at rB;have rB0:=rB;obtain⟨y1,u1,y2,u2,y3,u3,hmB,_⟩:=rB.e;subst hmB;simp only[push_cast,seval,hE.z];have nAB:=x6.aK.next;have lr:=(Y5.p.so.wf.live _ _ q5.hr).2;have sW:=rB0.sc x6.wf x6.frz;have p0:∀o:Nat,Go.Tm.sc H5.next (.pointer (some ⟨r,o,none⟩))=true:=λo=>by simpa[Go.Tm.sc] using lr
     refine⟨⟨Nr,?_,?_,?_,?_⟩,?_⟩
     ·simp only[push_cast,seval,hE.z,f5,jo,aV]
     ·simp only[push_cast,seval,jx,Op.operands,ef];exact⟨⟨rfl,p0 0,rfl⟩,λ_ h=>h.elim,by simp[Go.Tm.sc],JV sW (Nat.le_succ _)⟩
     ·simp only[push_cast,seval,hE.z,aOk];rfl
     ·simp only[push_cast,seval,dOk]
      repeat' apply And.intro
      all_goals first
       |exact cQ 0 Nr (p0 0)
       |exact cQ 0 Nr (p0 3)
       |exact cQ 0 Nr (p0 5)
       |exact dA (k:=14) Nz (Nat.le_refl _) (Nat.lt_succ_self _)
       |exact cQ 11 Nz (wQ sW rfl)
       |exact cQ 11 Nz sW
       |rfl
     ·have hQ3:Q.vw=P.vw/\Q.n=P.n/\Q.me=P.me/\Q.nm=P.nm/\Q.st=1:=by rw[hQd];exact⟨rfl,rfl,rfl,rfl,hst⟩
      obtain⟨e1,e2,e3,e4,e5⟩:=hQ3;obtain⟨pr,hpd⟩:∃pr,pr=P.vw%P.n:=⟨_,rfl⟩;have hvd:jN P=if pr=P.me then dD Q (Q.toM W pr) else(Q,[Q.toM W pr]):=by unfold jN;rw[if_neg (by rintro(h|h);rw[hs]at h;cases h;exact hlt h)];simp only[<-hQd,<-hpd];rw[<-e4];rw[<-e1,hWd]
      refine gtA [0,5] λ_ fb=>?_;simp only[push_cast,seval,gz,fa]at fb;have Y7:=Y6.new hW (o:=.cells (mCS W y1 u1 y2 u2 y3 u3) 66 true);have q7:=Y6.qk' q6 (o:=.cells (mCS W y1 u1 y2 u2 y3 u3) 66 true);refine PY.Ab (B:=[(H6.next,.cells (mCS W y1 u1 y2 u2 y3 u3) 66 true)]) (motive:=λH=>aF E _ _ _ H) Y7 q7 λH7 Y7 q7=>?_;have f7:=Y7.r1 q7.hr q7.xr;have hpr:=jr hE Y7.p.so ⟨_,q7⟩ ⟨Nr,Nr⟩ Nr;rw[e1,e2,<-hpd]at hpr;refine aB [(5,1)] Nt Nt Nt ?_;simp only[push_cast,seval,fb];refine hpr.mono ?_;rintro w H8 ⟨rfl,rfl⟩;by_cases hpm:pr=P.me
      case neg =>have g5:((pr:Int) != (Q.me:Int))=true:=Ps;simp only[push_cast,seval,hE.z,fb,f7,g5,aV];refine gtA [0,5] λ_ fc=>?_;simp only[push_cast,seval,gz,fb]at fc;refine aB [(3,2)] Nt Nt Nt ?_;simp only[push_cast,seval,fc];refine hpr.mono ?_;rintro w H9 ⟨rfl,rfl⟩;simp only[push_cast,seval,hE.z,fc,f7];refine(gd hE Y7.p.so ⟨_,q7⟩ Nr rB0 pr).mono ?_;rintro w H10 ⟨rfl,X10,p10,q10⟩;simp only[push_cast,seval,hE.z,fc,f7,aV,bp,aU,aW,ba,dq];rw[hvd,if_neg hpm];exact⟨G6,X10,(Y7.call hW p10).p,q10⟩
      case pos =>
       have g5:((pr:Int) != (Q.me:Int))=false:=by rw[e3];simp[hpm]
       simp only[push_cast,seval,hE.z,fb,f7,g5,aV];refine gtA [0,5] λ_ fc=>?_;simp only[push_cast,seval,gz,fb]at fc;refine aB [(7,9)] Nt Nt Nt ?_;simp only[push_cast,seval,hE.z,fc,f7,aV];have hM:Q.toM W pr={W with fr:=Q.me,to:=Q.me}:=by rw[hpm,<-e3];rfl
       obtain⟨M,hMd⟩:∃M:Mg,M={W with fr:=Q.me,to:=Q.me}:=⟨_,rfl⟩;rw[<-hMd]at hM;rw[hM,if_pos hpm]at hvd;have hWk:W.k=6:=by rw[<-hWd];unfold PR.bM;split<;>rfl
       have rM:MgR E G6 M (mgC M (.slice y1 W.log.length u1) (.slice y2 W.img.length u2) (.slice y3 0 u3)):=by obtain⟨sl,si,sd,c1,c2,c3,c4⟩:=rB0;injection c1 with _ c1;injection c1 with _ c1;injection c1 with _ c1;injection c1 with _ c1;injection c1 with _ c1;injection c1 with _ c1;injection c1 with _ c1;injection c1 with _ c1;injection c1 with _ c1;injection c1 with h1 c1;injection c1 with h2 c1;injection c1 with _ c1;injection c1 with _ c1;injection c1 with _ c1;injection c1 with _ c1;injection c1 with _ c1;injection c1 with h3 _;rw[hMd];exact⟨_,_,_,rfl,by rw[h1];exact c2,by rw[h2];exact c3,by rw[h3];exact c4⟩
       have Y9:=Y7.put hW 0 rfl (o':=.cells (mgC {W with fr:=Q.me,to:=Q.me} (.slice y1 W.log.length u1) (.slice y2 W.img.length u2) (.slice y3 0 u3)) 66 true);have q9:=Y7.qp' q7 (o':=.cells (mgC {W with fr:=Q.me,to:=Q.me} (.slice y1 W.log.length u1) (.slice y2 W.img.length u2) (.slice y3 0 u3)) 66 true) 0 rfl;have f9:=Y9.r1 q9.hr q9.xr;refine gtA [0,5] λ_ fd=>?_;simp only[push_cast,seval,gz,fc]at fd;refine PY.Ab (motive:=λH=>aF E _ _ _ H) Y9 q9 λH9 Y9 q9=>?_;have f9:=Y9.r1 q9.hr q9.xr;refine ax Nt ?_;simp only[push_cast,seval,hE.z,fd,f9];obtain⟨es,ck,c1,c2⟩:=q9.hc;have hpC:Q.pC=Q.aH:=by unfold PR.pC;rw[if_pos e5]
       rw[hpC]at c2;have zcl:=zQ.aH;have zqm:=zQ.me;obtain⟨es',ck',hup,hcm'⟩:=uk hE c1 c2 (k:=Q.me) Nr rM (by rw[hMd];show W.k≠0;omega);rw[hMd]at hup;rw[hup,ey];obtain⟨p10,q10⟩:=q9.cm Y9.p.so e5 c1 hcm';simp only[push_cast,seval,fd];have hcq:cO Q M=Q.aH.set Q.me M:=by
        unfold cO;have:M.fr=Q.me:=by rw[hMd]
        rw[this,if_pos];have:=hown hs;rw[e3];rw[hQd];exact this
       have hqc:oS Q:=by rw[hQd];exact⟨hcm.fr,hcm.c0⟩
       have hCaO:lu Q M:=by have:=hc (by rw[<-hpd];exact hpm);rw[<-hQd,<-hpd,<-e1,<-e4,hWd,hM]at this;exact this
       have zC:({Q with aH:=cO Q M}:PR).Ok:=by
        have hl:(cO Q M).length=Q.n:=by rw[hcq,List.length_set];exact zcl
        exact⟨⟨zQ.n,zQ.odd,zQ.me,zQ.vw,zQ.bs,zQ.cm,zQ.op,zQ.told,zQ.aG,hl,zQ.ans,zQ.tab,zQ.svl,zQ.srt,zQ.ent⟩,zQ.es,zQ.op4⟩
       have hCa:=hqc.aH (m:=M) (by rw[hMd];show W.k≠0;omega) e5 hCaO;refine(wj hE p10.so (by rw[hcq];exact⟨_,q10⟩) zC Nr hCa).mono ?_;rintro w H11 ⟨rfl,G11,X11,p11,q11⟩
       try simp only[push_cast,seval]
       rw[hvd,pW];exact⟨G11,X11,(Y9.p.trans hW p10).trans hW p11,q11⟩
end
end Go.Proofs.YthbjaiilnkakcaaGreatDoor
namespace Go.Tm
open Vr
theorem QR'.vt{E:Env}{G:Mem}{h h':ag}{X:Nat->Prop}{P:PR}{out:List Mg}{r t:Nat}{D:QD}{T:List Bool}(q:QR' E G h X P out r t D)(hst:P.st=1)(k:∀b o,b∉slB D.vv->h.get b=some o->h'.get b=some o)(ho:Own h' 4 1 0 T.length (cF T) D.vv):QR' E G h' X {P with aG:=T} out r t D:=by
 obtain⟨co,o1,o2⟩:=q.ho;obtain⟨ss,t1,t2⟩:=q.ht;obtain⟨es,ck,c1,c2⟩:=q.hc;have key:∀b o,h.get b=some o->(∀c fx,o≠.cells c 4 fx)->h'.get b=some o:=λb o hb h1=>k b o (q.hv.tag hb h1) hb
 have own:∀{e n:Nat} {cs:List Value} {v:Value} {z:Nat},e≠4->Own h e z 0 n cs v->Own h' e z 0 n cs v:=λ{e n cs v z} h1 H=>by
  rcases H with H|⟨b,cap,rest,fx,rfl,hg,h3⟩
  ·exact .inl H
  ·exact .inr ⟨b,cap,rest,fx,rfl,key b _ hg (λc fx e=>by injection e with _ e;exact h1 e),h3⟩
 have hpV:({P with aG:=T}:PR).pV=T:=by unfold PR.pV;rw[if_pos hst]
 exact⟨key _ _ q.hr (λc fx e=>by injection e with _ e;cases e),⟨ss,key _ _ t1 (λc fx e=>by injection e with _ e;cases e),t2⟩,own Nz q.hl,own Nz q.htl,by rw[hpV];exact ho,⟨co,own Nz o1,o2⟩,
  ⟨es,ck,key _ _ c1 (λc fx e=>by cases e),c2⟩,q.hx⟩
end Go.Tm
namespace Go.Proofs.YthbjaiilnkakcaaGreatDoor
open Go.Tm Vr
variable{E:Env}(hE:EOk E)
include hE
section
variable{G:Mem}{h:ag}{X:Nat->Prop}(hS:SO E G h X){P:PR}{out:List Mg}{r t:Nat}(hQ:QR E G h X P out r t)
include hS hQ
theorem nU(z:P.Ok)(ho:out.length<=50){m:Mg}{ms:List Value}(hm:MgR E G m ms)(k:m.Ok)(hk:m.k=5)(hfr:m.fr<P.n)(hst:P.st≠2)(hc:Cn P m)(hcm:P.st=1->oS P/\(P.aJ=false->(P.aH.getD P.me {}).k=0)):af E 38 [ptr r,.agg ms.toArray] h λv h'=>v=.tuple #[]/\∃G' X',PX E G h X G' h' X'/\QR E G' h' X' (bg P m).1 (out++(bg P m).2) r t:=by
 have zn:=z.n;have ko:=k.n;have hW:=hS.wf;have hm0:=hm;obtain⟨b1,d1,b2,d2,b3,d3,rfl,m1,m2,m3⟩:=hm.e;have Y1:=(PY.start hS).new hS.wf (o:=.cells (mCS m b1 d1 b2 d2 b3 d3) 66 true);have q1:=(PY.start hS).qk hQ (o:=.cells (mCS m b1 d1 b2 d2 b3 d3) 66 true);have g1:((P.st:Int)==2)=false:=Nu;obtain⟨D,hr,hx⟩:=q1.dd;have f1:=Y1.r1 hr hx;refine en hE Tryz.func38 rfl rfl Tryz.ntmps38 rfl Nv (rs:=[]) rfl ?_;simp only[push_cast,seval,hE.z];refine gtA [0,3] λ_ f=>?_;simp only[push_cast,seval,gz]at f;refine PY.gen (motive:=λH=>aF E _ _ _ H) Y1 q1 λH1 Y1 q1=>?_;obtain⟨D1,hr1,hx1⟩:=q1.dd;have f1:=Y1.r1 hr1 hx1;refine ax Nt ?_;by_cases h1:m.vw<P.vw
 case pos =>
  have g2:decide ((m.vw:Int)<(P.vw:Int))=true:=Nu;simp only[push_cast,seval,hE.z,f,f1,g1,g2,cH];have hR:bg P m=(P,[]):=by unfold bg;rw[if_neg hst,if_neg Nr];simp only[if_neg (show¬P.vw<m.vw by omega)];rw[if_pos (.inl Nr)]
  rw[hR];exact⟨G,X,Y1.p,Om⟩
 have g2:decide ((m.vw:Int)<(P.vw:Int))=false:=Nu;by_cases h2:m.vw=P.vw/\P.st≠1
 case pos =>
  have g3:((m.vw:Int)==(P.vw:Int))=true:=by simp[h2.1]
  have g4:((P.st:Int) != 1)=true:=Nu;simp only[push_cast,seval,hE.z,f,f1,g1,g2,g3,g4];have hR:bg P m=(P,[]):=by unfold bg;rw[if_neg hst,if_neg Nr];simp only[if_neg (show¬P.vw<m.vw by omega)];rw[if_pos (.inr h2.2)]
  rw[hR];exact⟨G,X,Y1.p,Om⟩
 by_cases hv:P.vw<m.vw
 case' pos =>
  have g3:((m.vw:Int)==(P.vw:Int))=false:=NF;have g5:decide ((P.vw:Int)<(m.vw:Int))=true:=Nu;simp only[push_cast,seval,hE.z,f,f1,g1,g2,g3];refine ax Nt ?_;simp only[push_cast,seval,hE.z,f,f1,g5];refine(qQ hE Y1.p.so q1 z.toSz Nr m.vw).mono ?_;rintro w H2 ⟨rfl,X2,p2,q2⟩;have Y2:=Y1.call hW p2;obtain⟨a,ha⟩:∃a,a=bO P m.vw:=⟨_,rfl⟩;have zA:a.1.Ok:=by rw[ha];exact z.start (by omega)
  have hal:a.2.length<=7:=by rw[ha];have:(bO P m.vw).2.length<=P.n:=ke _ _;omega
  have hac:oS a.1/\(a.1.aJ=false->(a.1.aH.getD a.1.me {}).k=0):=by rw[ha];refine⟨oS.start,λ_=>?_⟩;show((List.replicate P.n ({}:Mg)).getD P.me {}).k=0;rw[List.getD_eq_getElem?_getD,List.getElem?_replicate];split<;>rfl
  have han:a.1.n=P.n/\a.1.me=P.me/\m.vw=a.1.vw/\a.1.st=1:=by rw[ha];exact⟨rfl,rfl,rfl,rfl⟩
  have haa:(if P.vw<m.vw then bO P m.vw else(P,[]))=a:=by rw[if_pos hv,ha]
  rw[<-ha]at q2
  try simp only[push_cast,seval]
 case' neg =>
  have hve:m.vw=P.vw:=Nr;have hs1:P.st=1:=by
   by_cases h:P.st=1
   ·exact h
   ·exact absurd ⟨hve,h⟩ h2
  have g3:((m.vw:Int)==(P.vw:Int))=true:=by simp[hve]
  have g4:((P.st:Int) != 1)=false:=by simp[hs1]
  have g5:decide ((P.vw:Int)<(m.vw:Int))=false:=Nu;simp only[push_cast,seval,hE.z,f,f1,g1,g2,g3,g4];refine ax Nt ?_;simp only[push_cast,seval,hE.z,f,f1,g5];obtain⟨a,ha⟩:∃a:PR×List Mg,a=(P,[]):=⟨_,rfl⟩;have Y2:=Y1;have q2:QR E G H1 X a.1 (out++a.2) r t:=by rw[ha,List.append_nil];exact q1
  have zA:a.1.Ok:=by rw[ha];exact z
  have hal:a.2.length<=7:=by rw[ha];simp
  have hac:oS a.1/\(a.1.aJ=false->(a.1.aH.getD a.1.me {}).k=0):=by rw[ha];exact hcm hs1
  have han:a.1.n=P.n/\a.1.me=P.me/\m.vw=a.1.vw/\a.1.st=1:=by rw[ha];exact⟨rfl,rfl,hve,hs1⟩
  have haa:(if P.vw<m.vw then bO P m.vw else(P,[]))=a:=by rw[if_neg hv,ha]
 all_goals
  obtain⟨e1,e2,e3,e4⟩:=han;have hchg:bg P m=((ep a.1 m.fr).1,a.2++(ep a.1 m.fr).2):=by unfold bg;rw[if_neg hst,if_neg Nr];simp only[haa];rw[if_neg (by rintro(h|h);exact h e3;exact h e4),if_pos hk]
  have hca:=(hc.2 (.inl hk) a.1 (by rw[haa])) e3 e4;refine gtA [0,3] λ_ f2=>?_;simp only[push_cast,seval,gz,f]at f2;refine PY.gen (motive:=λH=>aF E _ _ _ H) Y2 q2 λH2 Y2 q2=>?_;obtain⟨⟨dc,vl,vt,vv,vo⟩,q⟩:=q2;have hpV:a.1.pV=a.1.aG:=by unfold PR.pV;rw[if_pos e4]
  have hvo:=q.hv;rw[hpV]at hvo;have zvl:=zA.aG
  obtain⟨vb,vc,p,o',hvv,hgp,hbs,hwr,o5⟩:=(OL.write (G':=G) ⟨hvo,λb hb=>by
   cases hg:G b with
   |none=>rfl
   |some c=>exact absurd (q.hx b NN) (Y2.p.so.dis b c hg)⟩ Y2.p.so.wf (i:=m.fr) Nr (xs:=[.bool true]) rfl rfl)
  simp only at hvv;subst hvv;rw[um Nr]at o5;have f3:=Y2.r1 q.hr q.xr;refine ax Nt ?_;simp only[push_cast,seval,hE.P,f2,f3];rw[mu rfl Nr Nr,ab];rw[Nat.mul_one]at hwr;simp only[push_cast,seval,hE.P,f2,Nat.zero_add,Nat.mul_one,Int.toNat_natCast,↓hwr,ey];have p5:PX E G H2 _ G (H2.put vb o') _:=PX.put Y2.p.so (q.hx vb OA) hgp
  have q6:=q.vt (h':=H2.put vb o') (T:=a.1.aG.set m.fr true) e4 (λb o hb hg=>by
   rw[ai,if_neg (λe=>hb (by simp[slB];exact e.symm))];exact hg) (by rw[List.length_set];exact o5.own)
  have zV:({a.1 with aG:=a.1.aG.set m.fr true}:PR).Ok:=⟨⟨zA.n,zA.odd,zA.me,zA.vw,zA.bs,zA.cm,zA.op,zA.told,by show(a.1.aG.set m.fr true).length=a.1.n;rw[List.length_set];exact zvl,zA.aH,zA.ans,zA.tab,zA.svl,zA.srt,zA.ent⟩,zA.es,zA.op4⟩;refine(Gx hE p5.so ⟨_,q6⟩ zV N0 e4 ⟨hac.1.fr,hac.1.c0⟩ hac.2 (hca.1 hk)).mono ?_;rintro w H9 ⟨rfl,G9,X9,p9,q9⟩
  try simp only[push_cast,seval]
  rw[hchg,yr];exact⟨G9,X9,(Y2.p.trans hW p5).trans hW p9,by rw[List.append_assoc]at q9;exact q9⟩
end
end Go.Proofs.YthbjaiilnkakcaaGreatDoor
namespace Go.Tm
open Vr
theorem QR'.an{E:Env}{G:Mem}{h:ag}{X:Nat->Prop}{P:PR}{out:List Mg}{r t:Nat}{D:QD}{es es':List MapEntry}{ck ck':Nat}{L:List Mg}(hS:SO E G h X)(q:QR' E G h X P out r t D)(hst:P.st=2)(hc:h.get D.c=some (.map es ck))(hn:CmR E G es' ck' L) :
 PX E G h X G (h.put D.c (.map es' ck')) X/\QR' E G (h.put D.c (.map es' ck')) X {P with ans:=L} out r t D:=by
 have hX:X D.c:=q.hx D.c Nw;obtain⟨ss,t1,t2⟩:=q.ht;obtain⟨co,o1,o2⟩:=q.ho
 have k:∀b o,b≠D.c->h.get b=some o->(h.put D.c (.map es' ck')).get b=some o:=λb o hb hg=>by
  rw[ai,if_neg (λe=>hb e.symm)];exact hg
 have rne:r≠D.c:=λe=>by have:=q.hr;rw[e,hc]at this;cases this
 have tne:t≠D.c:=λe=>by rw[e,hc]at t1;cases t1
 refine⟨PX.put hS hX hc,⟨k _ _ rne q.hr,⟨ss,k _ _ tne t1,t2⟩,QR'.lW hc k (λc fx e=>by cases e) q.hl,QR'.lW hc k (λc fx e=>by cases e) q.htl,QR'.lW hc k (λc fx e=>by cases e) q.hv,⟨co,QR'.lW hc k (λc fx e=>by cases e) o1,o2⟩,⟨es',ck',ND,?_⟩,q.hx⟩⟩;have:({P with ans:=L}:PR).pC=L:=by unfold PR.pC;rw[if_neg (by show¬P.st=1;omega),if_pos hst]
 rw[this];exact hn
theorem KW.iter{E:Env}{H:ag}(hW:WF E H){o:bz}:KW E H ((H.push o).kill H.next):=by
 have k:=(KW.refl hW).push (o:=o);refine⟨⟨λb p hg=>?_,by rw[gw];exact k.k.next⟩,⟨by rw[gw];exact k.w.base,λb p hg=>?_⟩⟩
 ·have:=(hW.live _ _ hg).2;rw[dC,if_neg Nr];exact k.k.get _ _ hg
 ·rw[dC]at hg;split at hg
  ·cases hg
  ·rw[gw];exact k.w.live _ _ hg
theorem DB(L:List Mg):(∀p,p∈bI L->p.2.vw<=cU L)/\(cU L=0\/∃p,p∈bI L/\p.2.vw=cU L):=by
 unfold cU;generalize bI L=l;have gen:∀(l:List (Nat×Mg)) (a:Nat),a<=l.foldl (λa p=>max a p.2.vw) a/\(∀p,p∈l->p.2.vw<=l.foldl (λa p=>max a p.2.vw) a)/\(l.foldl (λa p=>max a p.2.vw) a=a\/∃p,p∈l/\p.2.vw=l.foldl (λa p=>max a p.2.vw) a):=by
  intro l
  induction l with
  |nil=>intro a;exact⟨Nat.le_refl _,Nw,.inl rfl⟩
  | cons x l ih =>
    intro a;obtain⟨h1,h2,h3⟩:=ih (max a x.2.vw);simp only[List.foldl_cons];refine⟨Nr,λp hp=>?_,?_⟩
    ·rcases List.mem_cons.1 hp with hp|hp
     ·subst hp;omega
     ·exact h2 p hp
    ·rcases h3 with h3|⟨p,hp,h4⟩
     ·rcases Nat.le_total x.2.vw a with h5|h5
      ·left;omega
      ·right;exact⟨x,Nw,Nr⟩
     ·right;exact⟨p,by simp[hp],h4⟩
 exact⟨(gen l 0).2.1,(gen l 0).2.2⟩
theorem izU{L:List Mg}{i:Nat}{m:Mg}:(i,m)∈bI L↔L[i]? = some m/\m.k≠0:=by
 unfold bI;simp only[List.mem_filter,List.mem_map,bne_iff_ne,Prod.exists];constructor
 ·rintro⟨⟨x,j,hx,e⟩,hk⟩;injection e with e1 e2;subst e1;subst e2;exact⟨List.mem_zipIdx_iff_getElem?.1 hx,hk⟩
 ·rintro⟨ha,hb⟩;exact⟨⟨m,i,List.mem_zipIdx_iff_getElem?.2 ha,rfl⟩,hb⟩
theorem CmR.msg{E:Env}{G:Mem}{es:List MapEntry}{ck:Nat}{L:List Mg}(q:CmR E G es ck L){e:MapEntry}(he:e∈es):∃(i:Nat) (m:Mg) (cs:List Value),L[i]? = some m/\m.k≠0/\e.val=.agg ⟨cs⟩/\MgR E G m cs:=by obtain⟨ks,h1,h2,h3,h4,h5⟩:=q.keys;obtain⟨j,hj⟩:=List.mem_iff_getElem?.1 he;have hl:=(List.getElem?_eq_some_iff.1 hj).1;obtain⟨e',m,cs,a1,a2,a3,a4,a5⟩:=h5 j _ (List.getElem?_eq_getElem Nr);rw[hj]at a1;injection a1 with a1;subst a1;obtain⟨m',b1,b2⟩:=(h4 _).1 (List.mem_of_getElem? (List.getElem?_eq_getElem (i:=j) Nr));rw[a4]at b1;injection b1 with b1;subst b1;exact⟨_,m,cs,a4,b2,a3,a5⟩
end Go.Tm
namespace Go.Proofs.YthbjaiilnkakcaaGreatDoor
open Go.Tm Vr
variable{m:Mg}{ms:List Value}
theorem tS{E:Env}{G:Mem}{cs:List Value}(h:MgR E G m cs){e:MapEntry}(he:e.val=.agg ⟨cs⟩):ja e=(m.vw:Int)/\cs.length=17/\cs.all Value.oneCell'=true/\cs[3]? = some (.int .i64 (m.vw:Int)):=by obtain⟨b1,d1,b2,d2,b3,d3,rfl,_⟩:=h.e;exact⟨by unfold ja;rw[he];rfl,rfl,rfl,rfl⟩
theorem JH{E:Env}{G:Mem}{es:List MapEntry}{ck:Nat}{L:List Mg}(q:CmR E G es ck L):kL es 0=(cU L:Int):=by
 obtain⟨t1,t2⟩:=DB L;obtain⟨ks,h1,h2,h3,h4,h5⟩:=q.keys;refine Jr Nr (λe he=>?_) ?_
 ·obtain⟨i,m,cs,a1,a2,a3,a4⟩:=q.msg he;rw[(tS a4 a3).1];have:=t1 (i,m) (izU.2 ⟨a1,a2⟩);simp only at this;omega
 ·rcases t2 with t2|⟨p,hp,t2⟩
  ·left;rw[t2];rfl
  ·right;obtain⟨a1,a2⟩:=izU.1 (show(p.1,p.2)∈bI L from hp);obtain⟨j,hj⟩:=List.mem_iff_getElem?.1 ((h4 p.1).2 ⟨_,a1,a2⟩);obtain⟨e,m,cs,c1,c2,c3,c4,c5⟩:=h5 j _ hj;rw[a1]at c4;injection c4 with c4;subst c4;exact⟨e,List.mem_of_getElem? c1,by rw[(tS c5 c3).1,t2]⟩
variable{E:Env}(hE:EOk E)
include hE
section
variable{G:Mem}{h:ag}{X:Nat->Prop}(hS:SO E G h X){P:PR}{out:List Mg}{r t:Nat}(hQ:QR E G h X P out r t)
include hS hQ
theorem yY(z:P.Ok)(ho:out.length<=50)(hm:MgR E G m ms)(k:m.Ok)(hk:m.k=9)(hfr:m.fr<P.n)(hc:JQ P m)(hfa:∀(i:Nat) x,P.ans[i]? = some x->x.k≠0->x.fr=i):af E 42 [ptr r,.agg ms.toArray] h λv h'=>v=.tuple #[]/\∃G' X',PX E G h X G' h' X'/\QR E G' h' X' (cp P m).1 (out++(cp P m).2) r t:=by
 have zn:=z.n;have za:=z.ans;have hW:=hS.wf;have hm0:=hm;have hF:P.n/2=P.F:=Py;obtain⟨b1,d1,b2,d2,b3,d3,rfl,m1,m2,m3⟩:=hm.e;have Y1:=(PY.start hS).new hS.wf (o:=.cells (mCS m b1 d1 b2 d2 b3 d3) 66 true);have q1:=(PY.start hS).qk hQ (o:=.cells (mCS m b1 d1 b2 d2 b3 d3) 66 true);refine en hE Tryz.func42 rfl rfl Tryz.ntmps42 rfl Nv (rs:=[]) rfl ?_;simp only[push_cast,seval];refine gtA [0,3] λ_ f=>?_;simp only[push_cast,seval,gz]at f;refine PY.gen (motive:=λH=>aF E _ _ _ H) Y1 q1 λH1 Y1 q1=>?_;obtain⟨D1,hr1,hx1⟩:=q1.dd;have f1:=Y1.r1 hr1 hx1;refine ax Nt ?_;by_cases hst:P.st=2
 case neg =>
  have g1:((P.st:Int) != 2)=true:=Nu;simp only[push_cast,seval,hE.z,f,f1,g1];have hR:cp P m=(P,[]):=by unfold cp;rw[if_pos (.inl hst)]
  rw[hR];exact⟨G,X,Y1.p,Om⟩
 have g1:((P.st:Int) != 2)=false:=NV;by_cases hnc:m.nc=P.nc
 case neg =>
  have g2:((m.nc:Int) != (P.nc:Int))=true:=Nu;simp only[push_cast,seval,hE.z,f,f1,g1,g2];have hR:cp P m=(P,[]):=by unfold cp;rw[if_pos (.inr hnc)]
  rw[hR];exact⟨G,X,Y1.p,Om⟩
 have g2:((m.nc:Int) != (P.nc:Int))=false:=by simp[hnc]
 simp only[push_cast,seval,hE.z,f,f1,g1,g2];obtain⟨hcv,hcw⟩:=hc hst hnc;obtain⟨⟨dc,vl,vt,vv,vo⟩,q⟩:=q1;have f1:=Y1.r1 q.hr q.xr;obtain⟨es,ck,c1,c2⟩:=q.hc;have hpC:P.pC=P.ans:=by unfold PR.pC;rw[if_neg (by omega),if_pos hst]
 rw[hpC]at c2;obtain⟨es',ck',hup,hcm'⟩:=uk hE c1 c2 (k:=m.fr) Nr hm0 Nr;refine gtA [0,3] λ_ f2=>?_;simp only[push_cast,seval,gz,f]at f2;refine ax Nt ?_;simp only[push_cast,seval,hE.z,f2,f1];rw[hup,ey];obtain⟨p2,q2⟩:=q.an Y1.p.so hst c1 hcm';have Y2:=Y1.call hW p2;obtain⟨L,hL⟩:∃L,L=P.ans.set m.fr m:=⟨_,rfl⟩;have hLn:L.length=P.n:=by rw[hL,List.length_set];exact za
 rw[<-hL]at q2 hcm' hcv hcw;obtain⟨Q,hQd⟩:∃Q:PR,Q={P with ans:=L}:=⟨_,rfl⟩;rw[<-hQd]at q2;have f3:=Y2.r1 q2.hr q2.xr;have c3:(H1.put dc (.map es' ck')).get dc=some (.map es' ck'):=ND;simp only[push_cast,seval,hE.z,f2,f3];rw[Ap hE c3 hcm',ab];simp only[push_cast,seval,f2];refine Go.Tm.aO [0,3,34] λ_ f4=>?_;simp only[push_cast,seval,gz,f2]at f4;refine PY.Ab (motive:=λH=>af E _ _ H _) Y2 q2 λH2 Y2 q2=>?_;refine(JB hE Y2.p.so ⟨_,q2⟩ ⟨by rw[hQd];show 1<=P.n;omega,by rw[hQd];show P.n<=1000;omega⟩).mono ?_;rintro w H3 ⟨rfl,rfl⟩;have hQ4:Q.n=P.n/\Q.F=P.F/\Q.vw=P.vw/\Q.st=2/\Q.ans=L/\Q.me=P.me:=by rw[hQd];exact⟨rfl,rfl,rfl,hst,rfl,rfl⟩
 obtain⟨e1,e2,e3,e4,e5,e6⟩:=hQ4;have hans:cp P m=if (bI L).length<=P.F\/cU L<P.vw\/(L.getD (cU L%P.n) {}).k=0\/(L.getD (cU L%P.n) {}).vw≠cU L then(Q,[]) else((aq (bK (au Q (L.getD (cU L%P.n) {})) (cU L) 0) (L.getD (cU L%P.n) {}).cm).1,(aq (bK (au Q (L.getD (cU L%P.n) {})) (cU L) 0) (L.getD (cU L%P.n) {}).cm).2++[okM (aq (bK (au Q (L.getD (cU L%P.n) {})) (cU L) 0) (L.getD (cU L%P.n) {}).cm).1 (cU L%P.n)]):=by unfold cp;rw[if_neg (by rintro(h|h);exact h hst;exact h hnc)];simp only[<-hL,<-hQd]
 have fin0:∀{H:ag},cp P m=(Q,[])->PX E G h X G H X->QR E G H X Q out r t->∃G' X',PX E G h X G' H X'/\QR E G' H X' (cp P m).1 (out++(cp P m).2) r t:=λe p q=>by
  rw[e];exact⟨G,X,p,PZ⟩
 have hF2:Q.n/2=P.F:=by rw[e1];exact hF
 rw[hF2];have f4':=Y2.r1 q2.hr q2.xr;have hw1:IntKind.i64.wrap ((P.F:Int)+1)=(P.F:Int)+1:=cx Nr Nr;by_cases hnF:(bI L).length<=P.F
 case pos =>have g3:decide (((bI L).length:Int)<(P.F:Int)+1)=true:=Nu;simp only[push_cast,seval,f4,hw1,g3];exact fin0 (by rw[hans,if_pos (.inl hnF)]) Y2.p ⟨_,q2⟩
 have g3:decide (((bI L).length:Int)<(P.F:Int)+1)=false:=Nu;obtain⟨es3,ck3,c5,c6⟩:=q2.hc;have hpC3:Q.pC=L:=by unfold PR.pC;rw[if_neg (by omega),if_pos e4,e5]
 rw[hpC3]at c6;have hu76:E.P.underlying 76=some (.map 3 66):=Ph;have hamr:jL E H3 76 (.map (some dc))=some (.pointer (some ⟨H3.next,0,none⟩),H3.push (.miter dc ck3)):=by unfold jL;rw[hu76];simp only[c5]
 simp only[push_cast,seval,hE.P,f4,f4',hw1,g3,th hu76,hamr,zH];refine gtm (motive:=wpc E _ _) [0,3,4,43] λ_ f5=>?_;simp only[push_cast,seval,gz,f4]at f5;simp only[push_cast,seval,hE.z];have hgi:(H3.push (.miter dc ck3)).get H3.next=some (.miter dc ck3):=NI;have hgm:(H3.push (.miter dc ck3)).get dc=some (.map es3 ck3):=((KW.refl Y2.p.so.wf).push (o:=.miter dc ck3)).k.get _ _ c5
 refine Dn rfl (by rw[hE.lY];exact Fe f5.2.2.2 hgi f5.2.2.1 hgm c6.1.1 (λe he=>by
  obtain⟨i,mm,cs,a1,a2,a3,a4⟩:=c6.msg he;obtain⟨v1,v2,v3,v4⟩:=tS a4 a3
  exact⟨c6.1.2 e he,cs,_,a3,v2,v3,v4⟩)) ?_
 rw[JH c6];have kI:=KW.iter Y2.p.so.wf (o:=.miter dc ck3);have Y4:=Y2.kw hW kI;have q4:=q2.aK (Sub.refl _) kI.k;simp only[push_cast,seval];refine gtA [0,3,4] λ_ f6=>?_;simp only[push_cast,seval,gz,f5]at f6;refine PY.Ab (motive:=λH=>aF E _ _ _ H) Y4 q4 λH4 Y4 q4=>?_;have f7:=Y4.r1 q4.hr q4.xr;obtain⟨es4,ck4,c7,c8⟩:=q4.hc;rw[hpC3]at c8;obtain⟨pv,hpv⟩:∃pv,pv=cU L%P.n:=⟨_,rfl⟩;rw[<-hpv]at hans hcw;have nz:((Q.n:Int)=0)=False:=by rw[e1];simp;omega
 have hmod:((cU L:Int).tmod (Q.n:Int))=(pv:Int):=by rw[e1,<-Int.ofNat_tmod,hpv]
 have htv:cU L<=10000:=Cv L 10000 hcv;have c7':∀o,(H4.push o).get dc=some (.map es4 ck4):=λo=>(((KW.refl Y4.p.so.wf).push (o:=o)).k.get _ _ c7);have lb:=Y4.lt 0 rfl;refine aB [(3,14),(8,14),(10,14)] Nt Nt Nt ?_;simp only[push_cast,seval,hE.z,f6,f7,nz,hmod];rcases mX hE c7 c8 pv true with⟨w,cs0,l1,l2,l3,l4⟩|⟨l1,l4⟩
 case' inr =>
  simp only[if_true]at l4;rw[l4,ab];have hgk:(L.getD pv {}).k=0:=by
   rw[List.getD_eq_getElem?_getD]
   cases hl:L[pv]? with
   |none=>rfl
   |some x=>exact l1 x hl
  have hR:=fin0 (H:=H4.push (.cells (mgC {} (.slice none 0 0) (.slice none 0 0) (.slice none 0 0)) 66 true)) (by rw[hans,if_pos (.inr (.inr (.inl hgk)))]) (Y4.new hW).p ⟨_,Y4.qk' q4⟩;by_cases hlt:cU L<P.vw
  ·have g5:decide ((cU L:Int)<(Q.vw:Int))=true:=Ps;simp only[push_cast,seval,hE.z,f6,f7,g5,alk c7 (c7' _),l4,aV,bp,aU,aW,ba,bn,dq,jg,jf];exact hR
  ·have g5:decide ((cU L:Int)<(Q.vw:Int))=false:=Ps;simp only[push_cast,seval,hE.z,f6,f7,g5,alk c7 (c7' _),l4,aV,bp,aU,aW,ba,bn,dq,jg,jf];exact hR
 simp only[if_true]at l4;have l30:=l3;obtain⟨x1,y1,x2,y2,x3,y3,hm0',_⟩:=l3.e;subst hm0';rw[l4,ab];have hgD:L.getD pv {}=w:=by rw[List.getD_eq_getElem?_getD,l1];rfl
 rw[hgD]at hans hcw;have Y5:=Y4.new hW (o:=.cells (mCS w x1 y1 x2 y2 x3 y3) 66 true);have q5:=Y4.qk' q4 (o:=.cells (mCS w x1 y1 x2 y2 x3 y3) 66 true);have f8:=Y5.r2 q5.hr q5.xr;by_cases hlt:cU L<P.vw
 case pos =>have g5:decide ((cU L:Int)<(Q.vw:Int))=true:=Ps;simp only[push_cast,seval,hE.z,f6,f7,f8,g5,alk c7 (c7' _),l4,aV,bp,aU,aW,ba,bn,dq,jg,jf];exact fin0 (by rw[hans,if_pos (.inr (.inl hlt))]) Y5.p ⟨_,q5⟩
 have g5:decide ((cU L:Int)<(Q.vw:Int))=false:=Ps;by_cases hwv:w.vw=cU L
 case neg =>have g6:((w.vw:Int) != (cU L:Int))=true:=Nu;simp only[push_cast,seval,hE.z,f6,f7,f8,g5,g6,alk c7 (c7' _),l4,aV,bp,aU,aW,ba,bn,dq,jg,jf];exact fin0 (by rw[hans,if_pos (.inr (.inr (.inr hwv)))]) Y5.p ⟨_,q5⟩
 have g6:((w.vw:Int) != (cU L:Int))=false:=by simp[hwv]
 simp only[push_cast,seval,hE.z,f6,f7,f8,g5,g6,alk c7 (c7' _),l4,aV,bp,aU,aW,ba,bn,dq,jg,jf];have hno:¬((bI L).length<=P.F\/cU L<P.vw\/w.k=0\/w.vw≠cU L):=by
  rintro(h|h|h|h)
  ·exact hnF h
  ·exact hlt h
  ·exact l2 h
  ·exact h hwv
 rw[if_neg hno]at hans;obtain⟨wm,wo,wc,wi⟩:=hcw w rfl hno;obtain⟨v1,v2,v3⟩:=js wm;have wn:=wo.n;have zQ:Q.Ok:=by rw[hQd];exact⟨⟨z.n,z.odd,z.me,z.vw,z.bs,z.cm,z.op,z.told,z.aG,z.aH,hLn,z.tab,z.svl,z.srt,z.ent⟩,z.es,z.op4⟩
 have hQc:Q.cm=P.cm:=by rw[hQd]
 have hwf:w.fr=pv:=by
  rw[hL,List.getElem?_set]at l1;split at l1
  ·rename_i e;split at l1
   ·injection l1 with l1;rw[<-l1];exact e
   ·cases l1
  ·exact hfa _ _ l1 l2
 refine Go.Tm.aO [0,4,7] λ_ f9=>?_;simp only[push_cast,seval,gz,f6]at f9;refine PY.Ab (B:=[(H4.next,_),(h.next,_)]) (motive:=λH=>af E _ _ H _) Y5 q5 λH5 Y5 q5=>?_;refine(sX hE Y5.p.so.wf l30 wm Nr).mono ?_;rintro w1 H6 ⟨rfl,k6⟩;have Y6:=Y5.kw hW k6;have q6:=q5.aK (Sub.refl _) k6.k;have f10:=Y6.r2 q6.hr q6.xr;simp only[push_cast,seval,hE.z,f9,f10];refine(jv hE Y6.p.so ⟨_,q6⟩ zQ l30 v3 wo Nr Nr (λh=>⟨v1,v2,wi Nr⟩)).mono ?_;rintro w2 H7 ⟨rfl,G7,X7,p7,q7⟩;obtain⟨zi,hi1,hi2,hi3,hi4⟩:=zQ.install wm wo Nr (λh=>wi Nr);have Y7:=Y6.call hW p7;obtain⟨D7,hr7,hx7⟩:=q7.dd;simp only[push_cast,seval,f9];refine Go.Tm.aO [0,4,7] λ_ fa=>?_;simp only[push_cast,seval,gz,f9]at fa;refine(mY hE p7.so q7 Nr (cU L)).mono ?_;rintro w3 H8 ⟨rfl,X8,p8,q8⟩;have Y8:=Y7.call hW p8;obtain⟨D8,hr8,hx8⟩:=q8.dd;have f12:=Y8.r2 hr8 hx8;have zv3:=zi.view (v:=cU L) (s:=0) Nr;simp only[push_cast,seval,hE.z,fa,f12];refine(kh hE p8.so q8 zv3.toSz Nr w.cm).mono ?_;rintro w4 H9 ⟨rfl,G9,X9,p9,q9⟩;have Y9:=Y8.call hW p9;obtain⟨D9,hr9,hx9⟩:=q9.dd;have f13:=Y9.r2 hr9 hx9
 try simp only[push_cast,seval]
 refine gtA [0,7] λ_ fb=>?_;simp only[push_cast,seval,gz,fa]at fb;refine ax Nt ?_;simp only[push_cast,seval,hE.z,fb,f13];have hcl2:=eE (bK (au Q w) (cU L) 0) w.cm;rw[hwf];refine(gd hE p9.so q9 (by rw[List.length_append];have:=zv3.op4;omega) (m:={k:=3,vw:=(aq (bK (au Q w) (cU L) 0) w.cm).1.vw,op:=(aq (bK (au Q w) (cU L) 0) w.cm).1.op}) ⟨_,_,_,rfl,Fz.nil,Fz.nil,Fz.nil⟩ pv).mono ?_;rintro w5 H10 ⟨rfl,X10,p10,q10⟩
 try simp only[push_cast,seval]
 rw[hans];exact⟨G9,X10,(Y9.call hW p10).p,by rw[List.append_assoc]at q10;exact q10⟩
end
section
variable{G:Mem}{h:ag}(hW:WF E h)(hG:Frz E G h){P:PR}{cs:List Value}(hP:PRR E G P cs)
include hW hG hP
theorem xR{v o fr:Nat}:af E 95 [.agg cs.toArray,iv v,iv o,iv fr] h λr h'=>∃co,Own h' 66 17 h.next 1 co r/\bu E G (Vr.ask P v o fr) co/\KW E h h':=by have hP0:=hP;obtain⟨a1,c1,a2,c2,a3,c3,a4,c4,a5,c5,a6,c6,a7,c7,ct,cc,ca,hrc,_⟩:=hP.e;subst hrc;refine en hE Tryz.func95 rfl rfl Tryz.ntmps95 rfl Nv (rs:=[.tmp 8]) rfl ?_;simp only[push_cast,seval,hE.z,hW.b0];have kA:=(KW.refl hW).push (o:=.cells (rCS P a1 c1 a2 c2 a3 c3 a4 c4 a5 c5 a6 c6 a7 c7) 49 true);refine(iU hE kA.w hP0 (m:={k:=10,vw:=v,op:=o}) ⟨_,_,_,rfl,Fz.nil,Fz.nil,Fz.nil⟩ fr).mono ?_;rintro w H ⟨r,rfl,rR,k1⟩;have rR0:=rR;obtain⟨i1,j1,i2,j2,i3,j3,hr,_⟩:=rR.e;subst hr;simp only[push_cast,seval,hE.z];rw[lf rfl,aR];simp only[push_cast,seval];have k2:=kA.trans k1;exact⟨_,.inr ⟨H.next,1,[],true,rfl,by rw[ah,if_pos rfl,List.append_nil],rfl,rfl,Nat.le_refl _,k2.k.next,Nr⟩,bu.one rR0,k2.push⟩
theorem Br(z:P.Ok)(hm:MgR E G m ms)(hk:2<=m.k/\m.k<=4)(hc:P.st≠0\/(m.k=3/\(P.bF=false\/m.vw≠P.vw))\/(m.k≠3/\(m.vw<P.vw\/(m.vw=P.vw/\P.bF=true)))) :
 af E 59 [.agg cs.toArray,.agg ms.toArray] h λv h'=>∃G' rc' co v2,Ext E G h G' h'/\PRR E G' (aX P m).1 rc'/\Fz E G' 17 (aX P m).2.length co v2/\bu E G' (aX P m).2 co/\v=.tuple #[.agg rc'.toArray,v2]:=by
 have hP0:=hP;have hm0:=hm;obtain⟨a1,c1,a2,c2,a3,c3,a4,c4,a5,c5,a6,c6,a7,c7,ct,cc,ca,hrc,q1,⟨q2,q3,q4⟩,q5,q6,q7,q8⟩:=hP.e;subst hrc;obtain⟨b1,d1,b2,d2,b3,d3,hrm,m1,m2,m3⟩:=hm.e;subst hrm;have zn:=z.n;have zv:=z.vw;have X1:=(((MX.start hW hG).new (o:=.cells (rCS P a1 c1 a2 c2 a3 c3 a4 c4 a5 c5 a6 c6 a7 c7) 49 true)).new (o:=.cells (mCS m b1 d1 b2 d2 b3 d3) 66 true)).new (o:=.cells zCR 49 true)
 have fin0:∀H rz,aX P m=(P,[])->MX E G h G H rz->rz[0]? = some (h.next+1+1,.cells zCR 49 true)->∃G' rc' co v2,Ext E G h G' (H.put (h.next+1+1) (.cells (rCS P a1 c1 a2 c2 a3 c3 a4 c4 a5 c5 a6 c6 a7 c7) 49 true))/\PRR E G' (aX P m).1 rc'/\Fz E G' 17 (aX P m).2.length co v2/\bu E G' (aX P m).2 co/\(Value.tuple #[.agg (rCS P a1 c1 a2 c2 a3 c3 a4 c4 a5 c5 a6 c6 a7 c7).toArray,.slice none 0 0])=.tuple #[.agg rc'.toArray,v2]:=λH rz e X hz=>by
  rw[e];exact⟨G,_,[],_,(X.put hW 0 hz).x,hP0,Fz.nil,rfl,rfl⟩
 by_cases hst:P.st=0
 ·have g1:((P.st:Int) != 0)=false:=NV;rcases hc with hc|⟨h3,hc⟩|⟨h3,hc⟩
  ·exact absurd hst hc
  ·have g3:((m.k:Int)==3)=true:=by simp[h3]
   have hno:aX P m=(P,[]):=by
    unfold aX;rw[if_neg NV,if_pos h3,if_pos];rcases hc with h|h
    ·left;simp[h]
    ·right;exact h
   refine en hE Tryz.func59 rfl rfl Tryz.ntmps59 rfl Nv (rs:=[.cell 4 49,.tmp 5]) rfl ?_;simp only[push_cast,seval,hE.z,hW.b0,hW.b1,g1,g3];refine Go.Tm.aO [2,3,4] λ_ f=>?_;simp only[push_cast,seval,gz]at f;refine MX.gen (motive:=λH=>af E _ _ H _) (B:=[(h.next+1+1,_),(h.next+1,_),(h.next,_)]) X1 λH1 X1=>?_;refine(dH hE X1.x.wf (hP0.sub X1.x.sub) ⟨Nr,Nr⟩ Nr).mono ?_;rintro w H2 ⟨rfl,k2⟩;have X2:=X1.kw k2
   cases hp:P.bF with
   |false =>simp only[push_cast,seval,hE.z,f,X2.f3];exact fin0 _ _ hno X2 rfl
   | true =>
     have hvw:m.vw≠P.vw:=by
      rcases hc with h|h
      ·rw[hp]at h;cases h
      ·exact h
     have g4:((m.vw:Int) != (P.vw:Int))=true:=Nu;simp only[push_cast,seval,hE.z,f,X2.f3,g4];exact fin0 _ _ hno X2 rfl
  ·have g3:((m.k:Int)==3)=false:=NF;have hno:aX P m=(P,[]):=by
    unfold aX;rw[if_neg NV,if_neg h3];rcases hc with hh|⟨hh,hp⟩
    ·rw[if_pos hh]
    ·rw[if_neg Nr,if_neg Nr,if_pos hp]
   rcases hc with hh|⟨hh,hp⟩
   ·have g4:decide ((m.vw:Int)<(P.vw:Int))=true:=Nu;refine en hE Tryz.func59 rfl rfl Tryz.ntmps59 rfl Nv (rs:=[.cell 4 49,.tmp 5]) rfl ?_;simp only[push_cast,seval,hE.z,hW.b0,hW.b1,hW.b2,g1,g3,g4];exact fin0 _ _ hno X1 rfl
   ·have g4:decide ((m.vw:Int)<(P.vw:Int))=false:=Nu;have g5:decide ((P.vw:Int)<(m.vw:Int))=false:=Nu;refine en hE Tryz.func59 rfl rfl Tryz.ntmps59 rfl Nv (rs:=[.cell 4 49,.tmp 5]) rfl ?_;simp only[push_cast,seval,hE.z,hW.b0,hW.b1,g1,g3,g4,g5];refine Go.Tm.aO [2,3,4] λ_ f=>?_;simp only[push_cast,seval,gz]at f;refine MX.gen (motive:=λH=>af E _ _ H _) (B:=[(h.next+1+1,_),(h.next+1,_),(h.next,_)]) X1 λH1 X1=>?_;refine(dH hE X1.x.wf (hP0.sub X1.x.sub) ⟨Nr,Nr⟩ Nr).mono ?_;rintro w H2 ⟨rfl,k2⟩;have X2:=X1.kw k2;rw[hp];simp only[push_cast,seval,hE.z,f,X2.f3];exact fin0 _ _ hno X2 rfl
 ·have g1:((P.st:Int) != 0)=true:=Nu;refine en hE Tryz.func59 rfl rfl Tryz.ntmps59 rfl Nv (rs:=[.cell 4 49,.tmp 5]) rfl ?_;simp only[push_cast,seval,hE.z,hW.b0,hW.b2,g1];exact fin0 _ _ (by unfold aX;rw[if_pos hst]) X1 rfl
theorem zr(z:P.Ok)(hm:MgR E G m ms)(hst:P.st=0)(hk:m.k=2\/m.k=4)(k:m.Ok)(hc:P.vw<m.vw\/(m.vw=P.vw/\P.bF=false/\(m.k=4->P.op<m.cm)/\(m.k=2->P.op+1<m.op))) :
 af E 59 [.agg cs.toArray,.agg ms.toArray] h λv h'=>∃G' rc' co v2,Ext E G h G' h'/\PRR E G' (aX P m).1 rc'/\Fz E G' 17 (aX P m).2.length co v2/\bu E G' (aX P m).2 co/\v=.tuple #[.agg rc'.toArray,v2]:=by
 have hP0:=hP;have hm0:=hm;obtain⟨a1,c1,a2,c2,a3,c3,a4,c4,a5,c5,a6,c6,a7,c7,ct,cc,ca,hrc,q1,⟨q2,q3,q4⟩,q5,q6,q7,q8⟩:=hP.e;subst hrc;obtain⟨b1,d1,b2,d2,b3,d3,hrm,m1,m2,m3⟩:=hm.e;subst hrm;have zn:=z.n;have zb:=z.bs;have zc:=z.cm;have zo:=z.op4;have hPl:P.log.length<=P.op:=NH;have hn1:h.next<=h.next+3:=Nr;have X1:=(((MX.start hW hG).new (o:=.cells (rCS P a1 c1 a2 c2 a3 c3 a4 c4 a5 c5 a6 c6 a7 c7) 49 true)).new (o:=.cells (mCS m b1 d1 b2 d2 b3 d3) 66 true)).new (o:=.cells zCR 49 true);have ko:=k.n;have g1:((P.st:Int) != 0)=false:=NV;have g3:((m.k:Int)==3)=false:=NF;have g4:decide ((m.vw:Int)<(P.vw:Int))=false:=Nu
 have fin1:∀H HA v o l co,aX P m=(P,Vr.ask P v o m.fr)->MX E G h G HA [(h.next+1+1,.cells zCR 49 true),(h.next+1,.cells (mCS m b1 d1 b2 d2 b3 d3) 66 true),(h.next,.cells (rCS P a1 c1 a2 c2 a3 c3 a4 c4 a5 c5 a6 c6 a7 c7) 49 true)]->KW E HA H->Own H 66 17 HA.next 1 co l->bu E G (Vr.ask P v o m.fr) co->∃G' rc' co v2,Ext E G h G' (H.put (h.next+1+1) (.cells (rCS P a1 c1 a2 c2 a3 c3 a4 c4 a5 c5 a6 c6 a7 c7) 49 true))/\PRR E G' (aX P m).1 rc'/\Fz E G' 17 (aX P m).2.length co v2/\bu E G' (aX P m).2 co/\(Value.tuple #[.agg (rCS P a1 c1 a2 c2 a3 c3 a4 c4 a5 c5 a6 c6 a7 c7).toArray,l])=.tuple #[.agg rc'.toArray,v2]:=λH HA v o l co e X k ow mo=>by
  rw[e];have lA:=X.lt 0 rfl;have ol:=OL.of X k ow (lo:=h.next+3) Nr;obtain⟨GG,zG,XG,sG,_⟩:=(X.kw k).still hW ol (djM (Nat.le_refl _)) hn1;exact⟨GG,_,_,_,(XG.put hW 0 rfl).x,hP0.sub XG.x.sub,zG,mo.sub XG.x.sub,rfl⟩
 by_cases hv:P.vw<m.vw
 ·have g5:decide ((P.vw:Int)<(m.vw:Int))=true:=Nu;have hno:aX P m=(P,Vr.ask P m.vw P.cm m.fr):=by unfold aX;rw[if_neg NV,if_neg Nr,if_neg Nr,if_pos hv]
  refine en hE Tryz.func59 rfl rfl Tryz.ntmps59 rfl Nv (rs:=[.cell 4 49,.tmp 5]) rfl ?_;simp only[push_cast,seval,hE.z,hW.b0,hW.b1,g1,g3,g4,g5];refine gtA [2,3,4] λ_ f=>?_;simp only[push_cast,seval,gz]at f;refine MX.gen (motive:=λH=>aF E _ _ _ H) (B:=[(h.next+1+1,_),(h.next+1,_),(h.next,_)]) X1 λH1 X1=>?_;have bx1:=X1.f3;refine aB [(0,8)] Nt Nt Nt ?_;simp only[push_cast,seval,hE.z,f,bx1];refine(xR hE X1.x.wf X1.x.frz (hP0.sub X1.x.sub)).mono ?_;rintro w H2 ⟨co,ow,mo,k2⟩;have bx2:=(X1.kw k2).f3;simp only[push_cast,seval,hE.z,f,bx1,bx2,aV,bp,aU,aW,ba,bn];exact fin1 _ _ _ _ _ _ hno X1 k2 ow mo
 ·have hc:m.vw=P.vw/\P.bF=false/\(m.k=4->P.op<m.cm)/\(m.k=2->P.op+1<m.op):=by
   rcases hc with h|h
   ·exact absurd h hv
   ·exact h
  obtain⟨h5,hp,h6,h7⟩:=hc;have g5:decide ((P.vw:Int)<(m.vw:Int))=false:=Nu;have hno:aX P m=(P,Vr.ask P P.vw P.op m.fr):=by
   unfold aX;rw[if_neg NV,if_neg Nr,if_neg Nr,if_neg hv,if_neg (by simp[hp])];rcases hk with hk|hk
   ·rw[if_neg Nr,if_pos (h7 hk)]
   ·rw[if_pos hk,if_pos (h6 hk)]
  refine en hE Tryz.func59 rfl rfl Tryz.ntmps59 rfl Nv (rs:=[.cell 4 49,.tmp 5]) rfl ?_;simp only[push_cast,seval,hE.z,hW.b0,hW.b1,g1,g3,g4,g5];refine Go.Tm.aO [2,3,4] λ_ f=>?_;simp only[push_cast,seval,gz]at f;refine MX.gen (motive:=λH=>af E _ _ H _) (B:=[(h.next+1+1,_),(h.next+1,_),(h.next,_)]) X1 λH1 X1=>?_;refine(dH hE X1.x.wf (hP0.sub X1.x.sub) ⟨Nr,Nr⟩ Nr).mono ?_;rintro w H2 ⟨rfl,k2⟩;have X2:=X1.kw k2;rw[hp];rcases hk with hk|hk
  ·have g6:((m.k:Int)==4)=false:=NF;have bx2:=X2.f3;simp only[push_cast,seval,hE.z,f,bx2,g6];refine gtA [2,3,4] λ_ f1=>?_;simp only[push_cast,seval,gz,f]at f1;refine aB [(1,3)] Nt Nt Nt ?_;simp only[push_cast,seval,hE.z,f1,bx2];refine(dK hE X2.x.wf (hP0.sub X2.x.sub) Nr Nr).mono ?_;rintro w H3 ⟨rfl,k3⟩;have X3:=X2.kw k3;have bx3:=X3.f3;have g7:decide (IntKind.i64.wrap ((P.op:Int)+1)<(m.op:Int))=true:=by rw[cx (by omega) (by omega)];simp;have:=h7 hk;omega
   simp only[push_cast,seval,hE.z,bx2,bx3,g7,aV];refine gtA [2,3,4] λ_ f2=>?_;simp only[push_cast,seval,gz,f1]at f2;refine aB [(0,5),(0,8),(1,5),(3,5),(7,5)] Nt Nt Nt ?_;simp only[push_cast,seval,hE.z,f2,bx3];refine(dK hE X3.x.wf (hP0.sub X3.x.sub) Nr Nr).mono ?_;rintro w H4 ⟨rfl,k4⟩;have X4:=X3.kw k4;have bx4:=X4.f3;simp only[push_cast,seval,hE.z,f2,bx3,bx4];refine(xR hE X4.x.wf X4.x.frz (hP0.sub X4.x.sub)).mono ?_;rintro w H5 ⟨co,ow,mo,k5⟩;have bx5:=(X4.kw k5).f3;simp only[push_cast,seval,hE.z,f2,bx3,bx4,bx5,aV,bp,aU,aW,ba,bn];exact fin1 _ _ _ _ _ _ hno X4 k5 ow mo
  ·have g6:((m.k:Int)==4)=true:=NC;have bx2:=X2.f3;simp only[push_cast,seval,hE.z,f,bx2,g6];refine gtA [2,3,4] λ_ f1=>?_;simp only[push_cast,seval,gz,f]at f1;refine aB [(1,3)] Nt Nt Nt ?_;simp only[push_cast,seval,hE.z,f1,bx2];refine(dK hE X2.x.wf (hP0.sub X2.x.sub) Nr Nr).mono ?_;rintro w H3 ⟨rfl,k3⟩;have X3:=X2.kw k3;have bx3:=X3.f3;have g7:decide ((P.op:Int)<(m.cm:Int))=true:=by simp;have:=h6 hk;omega
   simp only[push_cast,seval,hE.z,bx2,bx3,g7,aV];refine gtA [2,3,4] λ_ f2=>?_;simp only[push_cast,seval,gz,f1]at f2;refine aB [(0,5),(0,8),(1,5),(3,5),(7,5)] Nt Nt Nt ?_;simp only[push_cast,seval,hE.z,f2,bx3];refine(dK hE X3.x.wf (hP0.sub X3.x.sub) Nr Nr).mono ?_;rintro w H4 ⟨rfl,k4⟩;have X4:=X3.kw k4;have bx4:=X4.f3;simp only[push_cast,seval,hE.z,f2,bx3,bx4];refine(xR hE X4.x.wf X4.x.frz (hP0.sub X4.x.sub)).mono ?_;rintro w H5 ⟨co,ow,mo,k5⟩;have bx5:=(X4.kw k5).f3;simp only[push_cast,seval,hE.z,f2,bx3,bx4,bx5,aV,bp,aU,aW,ba,bn];exact fin1 _ _ _ _ _ _ hno X4 k5 ow mo
theorem y9(z:P.Ok)(hm:MgR E G m ms)(hc:m.en.c<=1000000/\m.en.n<=1000000)(hst:P.st=0)(hp:P.bF=true){x:La}(hx:bt P.sv.tab m.en.c=some x)(hn:m.en.n=x.n) :
 af E 58 [.agg cs.toArray,.agg ms.toArray] h λv h'=>∃G' rc' co v2,Ext E G h G' h'/\PRR E G' (request P m).1 rc'/\Fz E G' 17 (request P m).2.length co v2/\bu E G' (request P m).2 co/\v=.tuple #[.agg rc'.toArray,v2]:=by
 have hR:request P m=(P,[P.toM {k:=12,en:=⟨m.en.c,m.en.n,.empty⟩,rp:=x.r} (100+m.en.c)]):=by unfold request;rw[if_neg (by simp[hst,hp])];simp only[hx];rw[if_neg Nr,if_pos hn]
 rw[hR];have hP0:=hP;have hm0:=hm;obtain⟨a1,c1,a2,c2,a3,c3,a4,c4,a5,c5,a6,c6,a7,c7,ct,cc,ca,hrc,q1,⟨q2,q3,q4⟩,q5,q6,q7,q8⟩:=hP.e;subst hrc;obtain⟨b1,d1,b2,d2,b3,d3,hrm,m1,m2,m3⟩:=hm.e;subst hrm;have zn:=z.n;have zv:=z.vw;have g2:decide ((m.en.n:Int)<(x.n:Int))=false:=Nu;have g3:((m.en.n:Int)==(x.n:Int))=true:=by simp[hn]
 have X1:=(((MX.start hW hG).new (o:=.cells (rCS P a1 c1 a2 c2 a3 c3 a4 c4 a5 c5 a6 c6 a7 c7) 49 true)).new (o:=.cells (mCS m b1 d1 b2 d2 b3 d3) 66 true)).new (o:=.cells zCR 49 true);have g1:((P.st:Int) != 0)=false:=NV;refine en hE Tryz.func58 rfl rfl Tryz.ntmps58 rfl Nv (rs:=[.cell 4 49,.tmp 5]) rfl ?_;simp only[push_cast,seval,hE.z,hW.b0,g1];refine Go.Tm.aO [2,3,4,12,13] λ_ f=>?_;simp only[push_cast,seval,gz]at f;refine MX.gen (motive:=λH=>af E _ _ H _) (B:=[(h.next+1+1,_),(h.next+1,_),(h.next,_)]) X1 λH1 X1=>?_;refine(dH hE X1.x.wf (hP0.sub X1.x.sub) ⟨Nr,Nr⟩ Nr).mono ?_;rintro w H2 ⟨rfl,k2⟩;have X2:=X1.kw k2;rw[hp];simp only[push_cast,seval,hE.z,f,X2.f3];refine Go.Tm.aO [2,3,4,6] λ_ f1=>?_;simp only[push_cast,seval,gz,f]at f1;refine MX.gen (motive:=λH=>af E _ _ H _) (B:=[(H2.next,_),(h.next+1+1,_),(h.next+1,_),(h.next,_)]) (X2.new (o:=.cells [iv m.en.c,iv m.en.n,.string m.en.t] 60 true)) λH3 X3=>?_;refine(pI hE X3.x.wf X3.x.frz (S:=P.sv) ⟨_,_,_,rfl,q2.sub X3.x.sub,q3.sub X3.x.sub,q4.sub X3.x.sub⟩ m.en.c (by have:=z.tab;have:=z.cm;have:=z.op4;omega)).mono ?_;rintro v H4 ⟨k4,rr,hrr,rfl⟩;simp only[hx,Option.getD_some,Option.isSome_some]at hrr|-;obtain⟨sd,rfl,hsd⟩:=hrr;obtain⟨ra,rb,rfl,_,_⟩:=hsd.slice;have X4:=X3.kw k4;simp only[push_cast,seval,hE.z,f1,X4.f4];refine gtK [2,3,4,6,7,8] λ_ f2=>?_;simp only[push_cast,seval,gz,f1]at f2;refine MX.gen (motive:=λH=>kif E _ _ _ _ _ H) (B:=[(H4.next,_),(H2.next,_),(h.next+1+1,_),(h.next+1,_),(h.next,_)]) (X4.new (o:=.cells [iv x.c,iv x.n,iv x.r.e,iv x.r.n,.slice ra 0 rb] 116 true)) λH5 X5=>?_;have b5:=X5.f5;simp only[push_cast,seval,hE.z,f2,b5,g2,g3];refine gtA [2,3,4,6,7] λ_ f3=>?_;simp only[push_cast,seval,gz,f2]at f3;refine pa 14 Nt (jm [(0,[0,14]),(1,[0]),(3,[0]),(5,[0]),(8,[0]),(11,[0])] [13,14,15] [(15,[1,2,3,4,5,6,7,8,9,10,11,12,13])] [(0,(46,[0])),(1,(47,[1])),(2,(48,[2])),(3,(49,[3,2])),(4,(50,[4])),(5,(51,[5,4])),(6,(52,[6,2,3,4,5])),(7,(53,[7])),(8,(54,[8,7])),(9,(55,[9,2,3,4,5,6,7,8])),(10,(56,[10])),(11,(57,[11,10])),(12,(58,[12,10,11])),(13,(59,[13,1,2,3,4,5,6,7,8,9,10,11,12])),(15,(60,[15,1,2,3,4,5,6,7,8,9,10,11,12,13])),(16,(5,[16,0,1,2,3,4,5,6,7,8,9,10,11,12,13,14,15]))] [0,1,2,3,4,5,6,7,8,9,10,11,12,13,14,15,16] Nt Nt Nt Nt Nt Nv rfl ?_);have hw:(Value.int .i64 (IntKind.i64.wrap (100+(m.en.c:Int))))=iv (100+m.en.c):=by rw[cx (by omega) (by omega)];simp[iv]
 simp only[push_cast,seval,hE.z,f3,b5,hw];have hmr:MgR E G {k:=12,en:=⟨m.en.c,m.en.n,.empty⟩,rp:=x.r} (mgC {k:=12,en:=⟨m.en.c,m.en.n,.empty⟩,rp:=x.r} (.slice none 0 0) (.slice none 0 0) (.slice ra 0 rb)):=⟨_,_,_,rfl,Fz.nil,Fz.nil,hsd⟩;refine(iU hE X5.x.wf (hP0.sub X5.x.sub) (hmr.sub X5.x.sub) (100+m.en.c)).mono ?_;rintro w HB ⟨r,rfl,rR,kB⟩;have XB:=X5.kw kB;generalize hM:P.toM {k:=12,en:=⟨m.en.c,m.en.n,.empty⟩,rp:=x.r} (100+m.en.c)=M at rR|-;have rR0:=rR;obtain⟨i1,j1,i2,j2,i3,j3,hr,_⟩:=rR.e;rw[hr];have bB:=XB.f5;simp only[push_cast,seval,hE.z,f3,bB];rw[lf rfl,aR];simp only[push_cast,seval,hE.z,f3,b5,bB];have nAB:=kB.k.next;have sP:=hP0.sc X5.x.wf X5.x.frz;have sW:=hmr.sc X5.x.wf X5.x.frz;have sR:=rR0.sc XB.x.wf XB.x.frz;have sRA:=rR0.sc X5.x.wf X5.x.frz;have sP':=hP0.sc XB.x.wf XB.x.frz;rw[hr]at sR sRA;have sD:Go.Tm.sc H5.next (.agg #[iv x.r.e,iv x.r.n,.slice ra 0 rb])=true:=by have s1:=(hsd.sub (X5.x.sub)).1.sc X5.x.wf X5.x.frz;rw[<-ij]at s1|-;unfold scQ iK;simp only[iJ,List.forall_mem_cons,List.not_mem_nil,false_implies,implies_true,and_true];exact⟨rfl,rfl,s1⟩
 have p2:∀o:Nat,Go.Tm.sc H5.next (.pointer (some ⟨H2.next,o,none⟩))=true:=λo=>by simpa[Go.Tm.sc] using X5.lt 1 rfl
 have p4:∀o:Nat,Go.Tm.sc H5.next (.pointer (some ⟨H4.next,o,none⟩))=true:=λo=>by simpa[Go.Tm.sc] using X5.lt 0 rfl
 refine⟨⟨Nr,?_,?_,?_,?_⟩,?_⟩
 ·simp only[push_cast,seval,hE.z,f3,b5,bB,jo,aV,bp,aU,aW,ba,bn]
 ·simp only[push_cast,seval,f3,jx,Op.operands,ef,sP,sR,sP'];exact⟨⟨rfl,sW,rfl⟩,by simpa[Go.Tm.sc] using XB.lt 2 rfl⟩
 ·simp only[push_cast,seval,hE.z,aOk,gH];rw[lf rfl];exact⟨_,rfl,wR (cQ 0 Nr sRA)⟩
 ·simp only[push_cast,seval,dOk]
  repeat' apply And.intro
  all_goals first
   |exact cQ 0 Nr sP
   |exact cQ 0 Nr (p2 0)
   |exact cQ 0 Nr (p2 1)
   |exact cQ 0 Nr (p4 2)
   |exact cQ 0 Nr sD
   |exact cQ 0 Nr sW
   |exact cQ 0 Nr sRA
   |exact eW (K:=15) Nz (Nat.le_refl _) (Nat.lt_succ_self _)
   |rfl
 ·obtain⟨XD,oD⟩:=(XB.put hW 2 rfl (o':=.cells (rCS P a1 c1 a2 c2 a3 c3 a4 c4 a5 c5 a6 c6 a7 c7) 49 true)).Hy (lo:=HB.next) (e:=66) (n:=1) (z:=17) (cs:=mCS M i1 j1 i2 j2 i3 j3) rfl Nr O0;have hXB:h.next<=HB.next:=XB.x.aK.next;obtain⟨GE,zE,XE,sE,_⟩:=XD.still hW oD (((((Dj.nil.low (XB.lt 4 rfl)).low (XB.lt 3 rfl)).low (XB.lt 2 rfl)).low (XB.lt 1 rfl)).low (XB.lt 0 rfl)) hXB;rw[hr]at rR0;exact⟨GE,_,_,_,XE.x,hP0.sub sE,zE,bu.one (rR0.sub sE),rfl⟩
theorem j9(hm:MgR E G m ms)(k:m.Ok)(hk:5<=m.k)(hg:fW P m=true):af E 57 [.agg cs.toArray,.agg ms.toArray] h λv h'=>v=.bool true/\KW E h h':=by
 obtain⟨a1,c1,a2,c2,a3,c3,a4,c4,a5,c5,a6,c6,a7,c7,ct,cc,ca,hcs,hP'⟩:=hP.e;obtain⟨b1,d1,b2,d2,b3,d3,hms,m1,m2,m3⟩:=hm.e;subst hcs;subst hms;have kn:=k.n;unfold fW at hg;simp only[Bool.and_eq_true,Bool.or_eq_true,decide_eq_true_eq,beq_iff_eq,bne_iff_ne]at hg;obtain⟨⟨⟨⟨hto,hk1⟩,hk2⟩,hfr⟩,hg⟩:=hg;have hfr:m.fr<P.n/\m.fr≠P.me:=by
  rcases hfr with hf|hf
  ·omega
  ·exact hf
 have w0:=hW.b0;have w1:=hW.b1;have c0':((m.to:Int) != (P.me:Int))=false:=by simp[hto]
 have c1':decide ((m.k:Int)<1)=false:=Nu;have c2':decide ((11:Int)<(m.k:Int))=false:=Nu;have e1:decide ((m.vw:Int)<0)=false:=Nw;have e2:decide ((m.op:Int)<0)=false:=Nw;have e3:decide ((m.cm:Int)<0)=false:=Nw;have e4:decide ((m.bs:Int)<0)=false:=Nw;have e5:decide ((m.nm:Int)<0)=false:=Nw;have e6:decide ((m.nc:Int)<0)=false:=Nw;have c3':((m.k:Int) != 1)=true:=Nu;have c4':decide ((m.fr:Int)<0)=false:=Nw;have c5':decide ((P.n:Int)<=(m.fr:Int))=false:=Nu;have c8':((m.fr:Int)==(P.me:Int))=false:=Nu;refine en hE Tryz.func57 rfl rfl Tryz.ntmps57 rfl Nv (rs:=[.tmp 4]) rfl ?_;simp only[push_cast,seval,hE.z,w0,w1,c0',c1',c2',c3',c4',c5',c8',e1,e2,e3,e4,e5,e6];by_cases h6:m.k=6\/m.k=7\/m.k=9
 ·rw[if_pos h6]at hg;obtain⟨j1,j2,j3⟩:=js hg;have f1:decide ((m.bs:Int)<=(m.cm:Int))=true:=Nu;have f2:decide ((m.cm:Int)<=(m.op:Int))=true:=Nu;have f3:((m.log.length:Int)==IntKind.i64.wrap ((m.op:Int)-(m.bs:Int)))=true:=by rw[cx (by omega) (by omega)];simp;omega
  rcases h6 with hh|hh|hh
  ·have q1:((m.k:Int)==6)=true:=P0;simp only[push_cast,seval,hE.z,w1,q1,f1,f2,f3];exact(KW.refl hW).push.push
  ·have q1:((m.k:Int)==6)=false:=P0;have q2:((m.k:Int)==7)=true:=P0;simp only[push_cast,seval,hE.z,w1,q1,q2,f1,f2,f3];exact(KW.refl hW).push.push
  ·have q1:((m.k:Int)==6)=false:=P0;have q2:((m.k:Int)==7)=false:=P0;have q3:((m.k:Int)==9)=true:=P0;simp only[push_cast,seval,hE.z,w1,q1,q2,q3,f1,f2,f3];exact(KW.refl hW).push.push
 ·rw[if_neg h6]at hg;have q1:((m.k:Int)==6)=false:=Nu;have q2:((m.k:Int)==7)=false:=Nu;have q3:((m.k:Int)==9)=false:=Nu;by_cases hh:m.k=11
  ·rw[if_pos hh]at hg;simp only[Bool.and_eq_true,Bool.or_eq_true,decide_eq_true_eq,beq_iff_eq]at hg;obtain⟨⟨⟨j0,j1⟩,j2⟩,j3⟩:=hg;have q4:((m.k:Int)==11)=true:=P0;have f1:decide ((m.bs:Int)<=(m.op:Int))=true:=Nu;have f2:decide ((m.cm:Int)<=(m.op:Int))=true:=Nu;have f3:((m.log.length:Int)==IntKind.i64.wrap ((m.op:Int)-(m.bs:Int)))=true:=by rw[cx (by omega) (by omega)];simp;omega
   by_cases hb:m.bs<=m.cm
   ·have f0:decide ((m.bs:Int)<=(m.cm:Int))=true:=Nu;simp only[push_cast,seval,hE.z,w1,q1,q2,q3,q4,f0,f1,f2,f3];exact(KW.refl hW).push.push
   ·have f0:decide ((m.bs:Int)<=(m.cm:Int))=false:=Nu;have j4:m.img.length=0:=by
     rcases j0 with h|h
     ·omega
     ·unfold eV at h
      cases hi:m.img with
      |nil=>rfl
      |cons a l=>rw[hi]at h;cases h
    have f4:((m.img.length:Int)==0)=true:=by simp[j4]
    simp only[push_cast,seval,hE.z,w1,q1,q2,q3,q4,f0,f1,f2,f3,f4];exact(KW.refl hW).push.push
  ·have q4:((m.k:Int)==11)=false:=Nu;simp only[push_cast,seval,q1,q2,q3,q4];exact(KW.refl hW).push.push
end
end Go.Proofs.YthbjaiilnkakcaaGreatDoor
