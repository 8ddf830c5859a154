/- Part 7. -/
import Derived.Test.YthbjaiilnkakcaaGreatDoorT06
set_option linter.all false
set_option maxRecDepth 10000
set_option maxHeartbeats 8000000
namespace Go.Proofs.YthbjaiilnkakcaaGreatDoor
open Go.Tm Vr
variable{m:Mg}{ms ss:List Value}{S:Sv}
variable{E:Env}(hE:EOk E)
include hE
section
variable{G:Mem}{h:ag}{X:Nat->Prop}(hS:SO E G h X){P:PR}{out:List Mg}{r t:Nat}(hQ:QR E G h X P out r t)
include hS hQ
theorem jr(hn:1<=P.n/\P.n<=1000)(hv:P.vw<=1099511627776):af E 79 [ptr r] h λv h'=>v=iv (P.vw%P.n)/\h'=h:=by obtain⟨D,q⟩:=hQ;have hr:=q.hr;have nr:=hS.wf.nlt hr;refine en hE Tryz.func79 rfl rfl Tryz.ntmps79 rfl Nv (rs:=[.tmp 2]) rfl ?_;simp only[push_cast,seval];refine ax Nt ?_;have hz:((P.n:Int)=0)=False:=Nu;simp only[push_cast,seval,hE.z,hr,nr,hz];rw[<-Int.ofNat_tmod]
theorem JB(hn:1<=P.n/\P.n<=1000):af E 76 [ptr r] h λv h'=>v=iv (P.n/2)/\h'=h:=by obtain⟨D,q⟩:=hQ;have hr:=q.hr;have nr:=hS.wf.nlt hr;refine en hE Tryz.func76 rfl rfl Tryz.ntmps76 rfl Nv (rs:=[.tmp 2]) rfl ?_;simp only[push_cast,seval,hE.z,hr,nr];rw[Int.tdiv_eq_ediv_of_nonneg Nr,cx Nr Nr];rfl
theorem gP(hn:1<=P.n/\P.n<=1000)(hv:P.vw<=1099511627776):af E 66 [ptr r] h λv h'=>v=.bool (P.st==0&&P.bF)/\h'=h:=by
 have hQ0:=hQ;obtain⟨D,q⟩:=hQ;have hr:=q.hr;have nr:=hS.wf.nlt hr;refine en hE Tryz.func66 rfl rfl Tryz.ntmps66 rfl Nv (rs:=[.tmp 2]) rfl ?_;simp only[push_cast,seval];refine aB [(11,7)] Nt Nt Nt ?_;by_cases h0:P.st=0
 ·have hb:((P.st:Int)==0)=true:=Ox;simp only[push_cast,seval,hE.z,hr,nr,hb];refine(jr hE hS hQ0 hn hv).mono ?_;rintro v h' ⟨rfl,rfl⟩;simp only[push_cast,seval,hE.z,hr,nr];unfold PR.bF;rw[h0,<-Int.natCast_emod];simp only[BEq.rfl,Bool.true_and,Bool.beq_eq_decide_eq];congr 1;exact decide_eq_decide.2 Nr
 ·have hb:((P.st:Int)==0)=false:=Nu;simp only[push_cast,seval,hE.z,hr,nr,hb];simp[h0]
theorem gd(ho:out.length<=10000000)(hm:MgR E G m ms)(i:Nat):af E 73 [ptr r,iv i,.agg ms.toArray] h λv h'=>v=.tuple #[]/\∃X',PX E G h X G h' X'/\QR E G h' X' P (out++[P.toM m i]) r t:=by
 obtain⟨⟨dc,vl,vt,vv,vo⟩,q⟩:=hQ;obtain⟨co,o1,o2⟩:=q.ho;obtain⟨ao,ac,hvo,_⟩:=o1.fh;simp only at hvo;subst hvo;obtain⟨b1,d1,b2,d2,b3,d3,rfl,m1,m2,m3⟩:=hm.e;have hr:=q.hr;have nr:=hS.wf.nlt hr;refine en hE Tryz.func73 rfl rfl Tryz.ntmps73 rfl Nv (rs:=[]) rfl ?_;have e1:=hS.wf.ne hr;have w0:=hS.wf.b0;have e3:(h.next+1=r)=False:=by have:=(hS.wf.live _ _ hr).2;simp;omega
 simp only[push_cast,seval,hE.z,hr,nr,e1];refine aB [(4,6)] Nt Nt Nt ?_;simp only[push_cast,seval,hE.z,hr,nr,e1,w0];rw[lf rfl,aR];simp only[push_cast,seval];have hx1:=hS.wf.push (.cells [iv m.k,iv P.me,iv i,iv m.vw,iv m.op,iv m.cm,iv m.bs,iv m.nm,iv m.nc,.slice b1 m.log.length d1,.slice b2 m.img.length d2,iv m.en.c,iv m.en.n,.string m.en.t,iv m.rp.e,iv m.rp.n,.slice b3 0 d3] 66 true);refine eZ (mz hE.P) hx1 (lo:=0) (Nat.zero_le _) (o1.aK ((gu.refl h).push hS.wf)) rfl rfl Nr Nr ?_;intro v' h4 a _;have k1:=(KW.refl hS.wf).push (o:=.cells [iv m.k,iv P.me,iv i,iv m.vw,iv m.op,iv m.cm,iv m.bs,iv m.nm,iv m.nc,.slice b1 m.log.length d1,.slice b2 m.img.length d2,iv m.en.c,iv m.en.n,.string m.en.t,iv m.rp.e,iv m.rp.n,.slice b3 0 d3] 66 true);have gk:∀b o,b∉slB (.slice ao out.length ac)->h.get b=some o->h4.get b=some o:=λb o hn hb=>a.get b o (k1.k.get b o hb) hn;have hr4:=gk _ _ (o1.tag hr λc fx e=>by injection e with _ e;cases e) hr;have nr4:=a.wf.nlt hr4;obtain⟨va,vc,rfl⟩:=a.sl;simp only[push_cast,seval,hE.z,hr4,nr4,hr,e1,e3,aU];have hX:∀b,b∈slB (.slice ao out.length ac)->X b:=λb hb=>q.hx b NN;have px1:=PX.kw hS k1;have px2:=px1.trans hS.wf (PX.app px1.so a hX);refine⟨_,px2.trans hS.wf (PX.put px2.so (.inl (q.hx r Nw)) hr4),_,q.out (Sub.refl _) ND (λb o hb1 hb2 hb=>by rw[ai,if_neg (λe=>hb1 e.symm)];exact gk b o hb2 hb) rfl rfl rfl rfl rfl ⟨co++[iv m.k,iv P.me,iv i,iv m.vw,iv m.op,iv m.cm,iv m.bs,iv m.nm,iv m.nc,.slice b1 m.log.length d1,.slice b2 m.img.length d2,iv m.en.c,iv m.en.n,.string m.en.t,iv m.rp.e,iv m.rp.n,.slice b3 0 d3],?_,?_⟩ (λb hb=>.inl hb) (λb hb=>.inr hb)⟩
 ·rw[List.length_append];refine a.own.at λb o hb hg=>?_;rw[ai,if_neg (λe=>?_)]
  ·exact hg
  ·subst e;exact a.own.tag hr4 (λc fx e=>by injection e with _ e;cases e) hb
 ·exact o2.app (bu.one ⟨_,_,_,rfl,m1,m2,m3⟩)
theorem mJ(hn:P.n<=1000)(ho:out.length<=10000)(hm:MgR E G m ms):af E 70 [ptr r,.agg ms.toArray] h λv h'=>v=.tuple #[]/\∃X',PX E G h X G h' X'/\QR E G h' X' P (out++P.allM m) r t:=by
 have hm0:=hm;obtain⟨b1,d1,b2,d2,b3,d3,rfl,m1,m2,m3⟩:=hm.e;have k0:=(KW.refl hS.wf).push (o:=.cells [iv m.k,iv m.fr,iv m.to,iv m.vw,iv m.op,iv m.cm,iv m.bs,iv m.nm,iv m.nc,.slice b1 m.log.length d1,.slice b2 m.img.length d2,iv m.en.c,iv m.en.n,.string m.en.t,iv m.rp.e,iv m.rp.n,.slice b3 0 d3] 66 true);have hQ1:=hQ.ext (k0.ext hS.frz);have nx:h.next<(h.push (.cells [iv m.k,iv m.fr,iv m.to,iv m.vw,iv m.op,iv m.cm,iv m.bs,iv m.nm,iv m.nc,.slice b1 m.log.length d1,.slice b2 m.img.length d2,iv m.en.c,iv m.en.n,.string m.en.t,iv m.rp.e,iv m.rp.n,.slice b3 0 d3] 66 true)).next:=Nw
 have px0:=PX.kw hS k0;refine en hE Tryz.func70 rfl rfl Tryz.ntmps70 rfl Nv (rs:=[]) rfl ?_;have hr:=(show∃D,QR' E G h X P out r t D from hQ);obtain⟨D,q⟩:=hr;have hr:=q.hr;have nr:=hS.wf.nlt hr;have e1:=hS.wf.ne hr;simp only[push_cast,seval,hE.z,hr,nr,e1]
 refine bG (λk tm h2=>∃i X2,k=P.n-i/\i<=P.n/\aj tm 0=ptr r/\aj tm 3=ptr h.next/\aj tm 8=iv P.n/\aj tm 9=iv i /\
  h2.get h.next=some (.cells [iv m.k,iv m.fr,iv m.to,iv m.vw,iv m.op,iv m.cm,iv m.bs,iv m.nm,iv m.nc,.slice b1 m.log.length d1,.slice b2 m.img.length d2,iv m.en.c,iv m.en.n,.string m.en.t,iv m.rp.e,iv m.rp.n,.slice b3 0 d3] 66 true) /\
  PX E G (h.push (.cells [iv m.k,iv m.fr,iv m.to,iv m.vw,iv m.op,iv m.cm,iv m.bs,iv m.nm,iv m.nc,.slice b1 m.log.length d1,.slice b2 m.img.length d2,iv m.en.c,iv m.en.n,.string m.en.t,iv m.rp.e,iv m.rp.n,.slice b3 0 d3] 66 true)) X G h2 X2/\QR E G h2 X2 P (out++qZ P m i) r t) P.n ?_ ?_
 ·simp only[push_cast,seval];exact⟨0,X,Nr,Nr,rfl,PX.refl px0.so,by rw[show qZ P m 0=[] from rfl,List.append_nil];exact hQ1⟩
 ·rintro k tm h2 ⟨i,X2,rfl,hi,f0,f3,f8,f9,g1,px,hQ2⟩;obtain⟨D2,q2⟩:=hQ2;have hr2:=q2.hr;have nr2:=px.so.wf.nlt hr2;have n1:=px.so.wf.nlt g1;simp only[push_cast,seval,f8,f9];by_cases hlt:i<P.n
  ·have hb:decide ((i:Int)<(P.n:Int))=true:=Nu;simp only[push_cast,seval,hE.z,f0,f9,hb,hr2,nr2];have eF:=qY P m i;have hlen:=iQ P m i;by_cases he:i=P.me
   ·have hb:((i:Int) != (P.me:Int))=false:=by simp[he]
    rw[if_pos he,List.append_nil]at eF;simp only[push_cast,seval,f0,f3,f8,f9,hb,g1];exact⟨P.n-(i+1),Nr,i+1,X2,rfl,Nr,bk Nr,px,by rw[eF];exact⟨D2,q2⟩⟩
   ·have hb:((i:Int) != (P.me:Int))=true:=Nu;rw[if_neg he]at eF;simp only[push_cast,seval,hE.z,f0,f3,hb,g1,n1];refine(gd hE px.so ⟨D2,q2⟩ N0 hm0 i).mono ?_;rintro v h3 ⟨rfl,X3,px3,hQ3⟩;have g3:=px3.kx.get _ _ (λhx=>?_) g1
    ·simp only[push_cast,seval,f0,f3,f8,f9];exact⟨P.n-(i+1),Nr,i+1,X3,rfl,Nr,bk Nr,g3,px.trans px0.so.wf px3,by rw[eF,<-List.append_assoc];exact hQ3⟩
    ·rcases px.xs _ hx with h5|h5
     ·have:=hS.lt _ h5;omega
     ·omega
  ·have hb:decide ((i:Int)<(P.n:Int))=false:=Nu;have he:i=P.n:=Nr;subst he;simp only[push_cast,seval,hb];exact⟨X2,px0.trans hS.wf px,⟨D2,q2⟩⟩
end
section
variable{G:Mem}{h:ag}{X:Nat->Prop}(hS:SO E G h X)
include hS
theorem AU{t:Nat}(ht:h.get t=some (.cells ss 45 true))(hs:SvR E G S ss)(c:Nat)(hl:S.tab.length<=1099511627776):af E 274 [ptr t,iv c] h λv h'=>KW E h h'/\∃r,LaR E G ((bt S.tab c).getD ⟨0,0,⟨0,0⟩⟩) r/\v=.tuple #[.agg r.toArray,.bool (bt S.tab c).isSome]:=by have hs0:=hs;obtain⟨a1,c1,a2,c2,ct,rfl,h1,h2,h3⟩:=hs.e;have nt:=hS.wf.nlt ht;have e1:=hS.wf.ne ht;refine en hE Tryz.func274 rfl rfl Tryz.ntmps274 rfl Nv (rs:=[.cell 4 116,.tmp 5]) rfl ?_;simp only[push_cast,seval,hE.z,ht,nt,e1];have k0:=(KW.refl hS.wf).push (o:=.cells [.int .i64 0,.int .i64 0,.int .i64 0,.int .i64 0,.slice none 0 0] 116 true);refine(pI hE k0.w (hS.frz.aK k0.k) hs0 c hl).mono ?_;rintro v h1' ⟨kw1,r,hr,rfl⟩;obtain⟨sd,rfl,hsd⟩:=hr;obtain⟨a3,c3,rfl,_,_⟩:=hsd.slice;have g0:=kw1.k.get h.next _ NI;have n0:=kw1.w.nlt g0;simp only[push_cast,seval,hE.z,g0,n0];have k1:=k0.trans kw1;have hW:=hS.wf;have hlt:=(kw1.w.live _ _ g0).2;exact⟨(by repeat (first|assumption|exact KW.refl hW|apply KW.push|refine KW.put ?_ NB NB hW)),_,⟨_,rfl,hsd⟩,rfl⟩
theorem yA{t:Nat}(ht:h.get t=some (.cells ss 45 true))(hs:SvR E G S ss)(hX:X t){e:Ent}(hb:e.c<=1099511627776/\e.n<=1099511627776)(hl:S.tab.length<=1000000)(hl2:S.l.length<=1000000)(hsr:srt S.tab) :
 af E 273 [ptr t,iv e.c,iv e.n,.string e.t] h λv h'=>∃G' sc rc,PX E G h X G' h' X/\SvR E G' (bq S e).1 sc/\RpR E G' (bq S e).2 rc/\h'.get t=some (.cells sc 45 true)/\(∀b o,b≠t->h.get b=some o->h'.get b=some o)/\v=.agg rc.toArray:=by
 have hs0:=hs;obtain⟨a1,c1,a2,c2,ct,rfl,h1,h2,h3⟩:=hs.e;have nt:=hS.wf.nlt ht;have e1:=hS.wf.ne ht;refine en hE Tryz.func273 rfl rfl Tryz.ntmps273 rfl Nv (rs:=[.cell 8 64]) rfl ?_;simp only[push_cast,seval,hE.z,ht,nt,e1];have k0:=(KW.refl hS.wf).push (o:=.cells [.int .i64 0,.int .i64 0,.slice none 0 0] 64 true);refine(qV hE k0.w (hS.frz.aK k0.k) hs0 hb hl hl2 (λx hx=>tM hsr hx)).mono ?_;rintro v h1' ⟨G',sc,rc,x1,hsc,hrc,rfl⟩;have hsc0:=hsc;obtain⟨a4,c4,a5,c5,ct2,rfl,s1,s2,s3⟩:=hsc.e;obtain⟨a6,c6,rfl,r1⟩:=hrc;have g0:=x1.aK.get h.next _ NI;have gt:=x1.aK.get t _ (k0.k.get _ _ ht);have n0:=x1.wf.nlt g0;have f0:=x1.wf.ne g0;have f1:=x1.wf.ne gt;have f4:=hS.wf.ne' ht;have y0:=x1.wf.b0;have y1:=x1.wf.b1;have l0:=(hS.wf.live _ _ ht).2;have l1:=(x1.wf.live _ _ g0).2;have p1:(h1'.next+1=t)=False:=Nu;have p2:(h1'.next+1=h.next)=False:=Nu;have p4:(t=h1'.next+1)=False:=Nu;simp only[push_cast,seval,hE.z,g0,gt,n0,f0,f1,e1,f4,y0,y1,p1,p2,p4];have s1:=hS.kw k0;have q1:=(PX.kw hS k0).trans hS.wf (PX.ext s1 x1);have k2:=((KW.refl x1.wf).push (o:=.cells zCS 43 true)).push (o:=.cells [.int .i64 0,.int .i64 0,.slice none 0 0] 64 true);have hW1:=x1.wf
 have k3:KW E h1' ((((h1'.push (.cells zCS 43 true)).push (.cells [.int .i64 0,.int .i64 0,.slice none 0 0] 64 true)).put h1'.next (.cells [.bool false,.slice a4 (bq S e).1.l.length c4,.slice none 0 0,.slice a5 (bq S e).1.tab.length c5] 43 true)).put (h1'.next+1) (.cells [iv (bq S e).2.e,iv (bq S e).2.n,.slice a6 0 c6] 64 true)) :=
  KW.put (KW.put k2 Nr Nu hW1) Nr Nw hW1
 have q2:=q1.trans hS.wf (PX.kw q1.so k3);have q3:=q2.trans hS.wf (PX.put q2.so hX (k3.k.get _ _ gt) (o:=.cells [.bool false,.slice a4 (bq S e).1.l.length c4,.slice none 0 0,.slice a5 (bq S e).1.tab.length c5] 45 true));have gn:G' h.next=none:=by
  cases hg:G' h.next with
  |none=>rfl
  | some c =>
    rcases x1.new _ _ hg with h5|h5
    ·rw[hS.eH (Nat.le_refl _)]at h5;cases h5
    ·rw[bU]at h5;omega
 refine⟨G',_,_,PX.fresh hS.wf q3 (Nat.le_refl _) gn (by rw[ai,if_neg (by omega)];exact k3.k.get _ _ g0),hsc0,⟨_,_,rfl,r1⟩,?_,λb o hne hb=>?_,rfl⟩
 ·rfl
 ·have:=(hS.wf.live _ _ hb).2;rw[if_neg Nr,if_neg Nr,if_neg Nr,if_neg Nr,if_neg Nr,if_neg Nr];exact x1.aK.get _ _ (k0.k.get _ _ hb)
end
theorem Gc : uy E.P 47 "Apply" = some 273 := by rw[hE.P]; decide +kernel
theorem IJ : uy E.P 47 "Last" = some 274 := by rw[hE.P]; decide +kernel
section
variable{G:Mem}{h:ag}{X:Nat->Prop}(hS:SO E G h X){P:PR}{out:List Mg}{r t:Nat}(hQ:QR E G h X P out r t)
include hS hQ
theorem xQ(ho:out.length<=10000000)(hm:MgR E G m ms)(op:Nat):af E 71 [ptr r,.agg ms.toArray,iv op] h λv h'=>v=.tuple #[]/\∃X',PX E G h X G h' X'/\QR E G h' X' P (out++Vr.ask P m.vw op m.fr) r t:=by obtain⟨b1,d1,b2,d2,b3,d3,rfl,m1,m2,m3⟩:=hm.e;have nb:=hS.wf.nb0;refine en hE Tryz.func71 rfl rfl Tryz.ntmps71 rfl Nv (rs:=[]) rfl ?_;simp only[push_cast,seval,hE.z,nb];have k0:=(KW.refl hS.wf).push (o:=.cells (mCS m b1 d1 b2 d2 b3 d3) 66 true);refine(gd hE (hS.kw k0) (hQ.ext (k0.ext hS.frz)) Nr (m:={k:=10,vw:=m.vw,op:=op}) ⟨_,_,_,rfl,Fz.nil,Fz.nil,Fz.nil⟩ m.fr).mono ?_;rintro v h3 ⟨rfl,X3,px3,hQ3⟩;simp only[push_cast,seval];exact⟨X3,(PX.kw hS k0).trans hS.wf px3,hQ3⟩
theorem wu(ho:out.length<=10000000){e:Ent}(hec:e.c<=1000000){rp:Rpl}{rc:List Value}(hr:RpR E G rp rc):af E 67 [ptr r,.agg (fo e).toArray,.agg rc.toArray] h λv h'=>v=.tuple #[]/\∃X',PX E G h X G h' X'/\QR E G h' X' P (out++[P.toM {k:=12,en:=⟨e.c,e.n,.empty⟩,rp:=rp} (100+e.c)]) r t:=by obtain⟨ra,rb,rfl,hr⟩:=hr;have w0:=hS.wf.b0;have w1:=hS.wf.b1;unfold fo;refine en hE Tryz.func67 rfl rfl Tryz.ntmps67 rfl Nv (rs:=[]) rfl ?_;simp only[push_cast,seval,hE.z,w0,w1];have k0:=((KW.refl hS.wf).push (o:=.cells [iv e.c,iv e.n,.string e.t] 60 true)).push (o:=.cells [iv rp.e,iv rp.n,.slice ra 0 rb] 64 true);have hi:(Value.int .i64 (IntKind.i64.wrap (100+(e.c:Int))))=iv (100+e.c):=NJ;rw[hi];refine(gd hE (hS.kw k0) (hQ.ext (k0.ext hS.frz)) Nr (m:={k:=12,en:=⟨e.c,e.n,.empty⟩,rp:=rp}) ⟨_,_,_,rfl,Fz.nil,Fz.nil,hr⟩ (100+e.c)).mono ?_;rintro v h3 ⟨rfl,X3,px3,hQ3⟩;simp only[push_cast,seval];exact⟨X3,(PX.kw hS k0).trans hS.wf px3,hQ3⟩
theorem kh(z:P.Sz)(ho:out.length<=100000)(k:Nat):af E 72 [ptr r,iv k] h λv h'=>v=.tuple #[]/\∃G' X',PX E G h X G' h' X'/\QR E G' h' X' (aq P k).1 (out++(aq P k).2) r t:=by
 refine en hE Tryz.func72 rfl rfl Tryz.ntmps72 rfl Nv (rs:=[]) rfl ?_;simp only[push_cast,seval,hE.z]
 refine bG (λj tm h2=>∃G2 X2 P2 o2,j=P.op-P2.cm/\aj tm 0=ptr r/\aj tm 1=iv k/\PX E G h X G2 h2 X2/\QR E G2 h2 X2 P2 (out++o2) r t/\P2.Sz/\P2.op=P.op/\o2.length+P.cm<=P2.cm /\
  aq P k=((aq P2 k).1,o2++(aq P2 k).2)) (P.op-P.cm) ?_ ?_
 ·simp only[push_cast,seval];exact⟨G,X,P,[],rfl,PX.refl hS,by simpa using hQ,z,rfl,Nw,Nw⟩
 ·rintro j tm h2 ⟨G2,X2,P2,o2,rfl,f0,f1,px,hQ2,z2,hop,hol,hcm⟩;have hQ0:=hQ2;obtain⟨⟨dc,vl,vt,vv,vo⟩,q2⟩:=hQ2;have hr2:=q2.hr;have nr2:=px.so.wf.nlt hr2;have e1:=px.so.wf.ne hr2;simp only[push_cast,seval];by_cases hlt:P2.cm<k/\P2.cm<P2.op
  ·have hb1:decide ((P2.cm:Int)<(k:Int))=true:=Nu;have hb2:decide ((P2.cm:Int)<(P2.op:Int))=true:=Nu;have zb:=z2.bs;have zo:=z2.op;have hi:P2.cm-P2.bs<P2.log.length:=by have:=hlt.2;unfold PR.op at this;omega
   have hw:(Value.int .i64 (IntKind.i64.wrap ((P2.cm:Int)-(P2.bs:Int))))=.int .i64 ((P2.cm-P2.bs:Nat):Int):=iu Nr zb;obtain⟨lb,lc,hvl,hel⟩:=q2.hl.elem px.so.wf hi;simp only at hvl;subst hvl;have hce:=eU (List.getElem?_eq_getElem hi);rw[hce]at hel;unfold fo at hel;have kp:=(gu.refl h2).push (o:=.cells [.int .i64 0,.int .i64 0,.string .empty] 60 true) px.so.wf;have hel2:cg E (h2.push (.cells [.int .i64 0,.int .i64 0,.string .empty] 60 true)) ⟨lb,(P2.cm-P2.bs)*3,none⟩ 3=some [iv (P2.log[P2.cm-P2.bs]).c,iv (P2.log[P2.cm-P2.bs]).n,.string (P2.log[P2.cm-P2.bs]).t]:=by obtain⟨lb',lc',hv',h5⟩:=(q2.hl.aK kp).elem (px.so.wf.push _) hi;injection hv' with hv' _ _;injection hv' with hv';injection hv' with hv';subst hv';rw[h5,hce];rfl
   refine ax Nt ?_;simp only[push_cast,seval,hE.z,hr2,nr2,f0,f1,hb1,hb2];refine aB [(3,15),(7,15),(11,15),(14,15)] Nt Nt Nt ?_;simp only[push_cast,seval,hE.z,hr2,nr2,f0];rw[hw,jP rfl Nr Nr,ab];simp only[push_cast,seval,hE.z,hr2,nr2,↓hel,↓hel2,Int.toNat_natCast,Nat.zero_add,e1,aU,aV,aW,dq];have k1:=(KW.refl px.so.wf).push (o:=.cells [iv (P2.log[P2.cm-P2.bs]).c,iv (P2.log[P2.cm-P2.bs]).n,.string (P2.log[P2.cm-P2.bs]).t] 60 true);have hen:=z2.ent _ (List.getElem_mem hi);have hst:=λh3:P2.cm<k=>rX h3 zb (List.getElem?_eq_getElem hi);generalize P2.log[P2.cm-P2.bs]=e at *;have s1:=px.so.kw k1;have q21:=q2.aK (Sub.refl _) k1.k;have p1:=PX.kw px.so k1;have ge:(h2.push (.cells [iv e.c,iv e.n,.string e.t] 60 true)).get h2.next=some (.cells [iv e.c,iv e.n,.string e.t] 60 true):=NI;generalize h2.push (.cells [iv e.c,iv e.n,.string e.t] 60 true)=H at *;refine gtA [0,1,4] λt1 hf=>?_;simp only[push_cast,seval,gz,f0,f1]at hf;obtain⟨f0,f1,f4⟩:=hf;have hrH:=q21.hr;have nrH:=s1.wf.nlt hrH;have neH:=s1.wf.nlt ge;obtain⟨ss,t1',t2'⟩:=q21.ht;refine dE [(3,[0]),(5,[0]),(7,[0]),(9,[0])] [10,11,12] [(11,[])] [(0,(38,[0])),(1,(39,[1,0])),(2,(40,[2,0,1])),(3,(41,[3,0,1,2])),(4,(42,[4])),(5,(43,[5,4])),(6,(44,[6])),(7,(45,[7,6])),(8,(46,[8])),(9,(47,[9,8])),(10,(48,[10,0,1,2,3,4,5,6,7,8,9])),(11,(5,[11]))] [0,1,2,3,4,5,6,7,8,9,10,11,12] Nt Nt Nt Nt Nt Nv rfl ?_;simp only[push_cast,seval,hE.z,hrH,nrH,ge,neH,f0,f4];rw[kR (Gc hE)];refine(yA hE s1 t1' t2' (q21.hx t Nw) Nr (by have:=z2.tab;omega) (by have:=z2.svl;omega) z2.srt).mono ?_;rintro v h3 ⟨G3,sc,rc,px3,hsc,hrc,gt3,g3,rfl⟩;obtain⟨ra,rb,rfl,hrd⟩:=hrc;simp only[push_cast,seval,hE.z,nrH,f0];have hr0:r<H.next:=(s1.wf.live _ _ hrH).2;have ht0:t<H.next:=(s1.wf.live _ _ t1').2;have he0:h2.next<H.next:=(s1.wf.live _ _ ge).2;have sr:=hrd.1.sc px3.so.wf px3.so.frz;have sr':Go.Tm.sc (h3.next+1) (.slice ra 0 rb)=true:=by
    cases ra with
    |none=>rfl
    |some x=>have:=gI sr x rfl;simp[Go.Tm.sc];omega
   refine⟨⟨⟨px3.kx.next,Nat.le_succ _⟩,?_,?_,?_,?_⟩,?_⟩
   ·simp only[push_cast,seval,hE.z,hrH,nrH,ge,neH,jo,aV,dq];simp[veq]
   ·simp only[push_cast,seval,jx,Op.operands,tO,Go.Tm.sc,scA,scL];exact⟨decide_eq_true ht0,λ_ x=>x.elim,Nw,sr'⟩
   ·simp only[push_cast,seval,hE.z,aOk];rfl
   ·simp only[push_cast,seval,dOk];refine⟨dU 0 Nr hr0,dU 0 Nr hr0,dU 0 Nr hr0,dU 0 Nr ht0,dU 0 Nr he0,rfl,dU 0 Nr he0,rfl,dU 0 Nr he0,rfl,?_,dA (k:=11) Nz (Nat.le_refl _) (Nat.lt_succ_self _)⟩;exact GZ (cV 11 Nz sr)
   ·have hr3:=g3 r _ (λe=>by subst e;rw[t1']at hrH;injection hrH with hrH;injection hrH with _ hrH;cases hrH) hrH;have q3:=q21.toy px3.sub gt3 hsc g3 λ_ hx=>hx;have ge3:=g3 h2.next _ (λe=>by subst e;rw[t1']at ge;injection ge with ge;injection ge with _ ge;cases ge) ge;have k4:=(KW.refl px3.so.wf).push (o:=.cells [iv (bq P2.sv e).2.e,iv (bq P2.sv e).2.n,.slice ra 0 rb] 64 true);have m1:=px3.so.wf.ne hr3;have m2:=px3.so.wf.ne' hr3;have m5:=px3.so.wf.nlt hr3;have m8:(r=h2.next)=False:=by simp;intro e;subst e;rw[hrH]at ge;injection ge with ge;injection ge with _ ge;cases ge
    simp only[push_cast,seval,hE.z,hr3,m1,f0];have hw:(Value.int .i64 (IntKind.i64.wrap ((P2.cm:Int)+1)))=iv (P2.cm+1):=bk Nr;rw[hw];have px4:=(((px.trans hS.wf p1).trans hS.wf px3).trans hS.wf (PX.kw px3.so k4)).trans hS.wf (PX.put (o:=.cells (qC (br P2 e).1 t dc (.slice (some ⟨lb,0,none⟩) P2.log.length lc) vt vv vo) 78 true) (px3.so.kw k4) (q3.hx r Nw) (k4.k.get _ _ hr3))
    have q4:QR E G3 ((h3.push (.cells [iv (bq P2.sv e).2.e,iv (bq P2.sv e).2.n,.slice ra 0 rb] 64 true)).put r (.cells (qC (br P2 e).1 t dc (.slice (some ⟨lb,0,none⟩) P2.log.length lc) vt vv vo) 78 true)) X2 (br P2 e).1 (out++o2) r t :=
     ⟨_,q3.hdr (P':=(br P2 e).1) (Sub.refl _) ND (λb o hb hg=>by rw[ai,if_neg (λe=>hb e.symm)];exact k4.k.get _ _ hg) rfl rfl rfl rfl rfl (λ_ hx=>hx)⟩
    have z4:=z2.br hlt.2 (e:=e);have hst:=hst hlt.1;have hol1:(br P2 e).2.length<=1:=Pm;have hco:(br P2 e).2=if (P2.st==0&&P2.bF)=true then [P2.toM {k:=12,en:=⟨e.c,e.n,.empty⟩,rp:=(bq P2.sv e).2} (100+e.c)] else []:=by unfold br;simp only;by_cases h0:P2.st=0<;>cases hp:P2.bF<;>simp[h0]
    have hpp:((br P2 e).1.st==0&&(br P2 e).1.bF)=(P2.st==0&&P2.bF):=rfl;have hg4:((h3.push (.cells [iv (bq P2.sv e).2.e,iv (bq P2.sv e).2.n,.slice ra 0 rb] 64 true)).put r (.cells (qC (br P2 e).1 t dc (.slice (some ⟨lb,0,none⟩) P2.log.length lc) vt vv vo) 78 true)).get h2.next=some (.cells [iv e.c,iv e.n,.string e.t] 60 true):=by rw[ai,if_neg (by simpa using m8)];exact k4.k.get _ _ ge3
    have hg5:((h3.push (.cells [iv (bq P2.sv e).2.e,iv (bq P2.sv e).2.n,.slice ra 0 rb] 64 true)).put r (.cells (qC (br P2 e).1 t dc (.slice (some ⟨lb,0,none⟩) P2.log.length lc) vt vv vo) 78 true)).get h3.next=some (.cells [iv (bq P2.sv e).2.e,iv (bq P2.sv e).2.n,.slice ra 0 rb] 64 true):=by rw[ai,if_neg (by simpa using m2),ah,if_pos rfl]
    refine cR (motive:=λH=>af E 66 [ptr r] H _) (λH=>PX E G h X G3 H X2/\QR E G3 H X2 (br P2 e).1 (out++o2) r t/\H.get h2.next=some (.cells [iv e.c,iv e.n,.string e.t] 60 true)/\H.get h3.next=some (.cells [iv (bq P2.sv e).2.e,iv (bq P2.sv e).2.n,.slice ra 0 rb] 64 true)) ⟨px4,q4,hg4,hg5⟩ ?_;clear px4 q4 hg4 hg5;rintro H4 ⟨px4,q4,hg4,hg5⟩;refine(gP hE px4.so q4 ⟨by have:=z2.n;show 1<=P2.n;omega,by have:=z2.n;show P2.n<=1000;omega⟩ (by have:=z2.vw;show P2.vw<=_;omega)).mono ?_;intro v h5 hvh;have hv5:=hvh.1;have hh5:=hvh.2;rw[hpp]at hv5;rw[hv5,hh5];clear hvh hv5 hh5;have n4:=px4.so.wf.nlt hg4;have n5:=px4.so.wf.nlt hg5;have hnx:P.op-(P2.cm+1)<P.op-P2.cm:=Nr;cases hb:(P2.st==0&&P2.bF)
    ·rw[hb]at hco;have hco:(br P2 e).2=[]:=hco;simp only[push_cast,seval,f0,f1];exact⟨P.op-(P2.cm+1),hnx,G3,X2,(br P2 e).1,o2,rfl,px4,q4,z4,hop,O7,by rw[hcm,hst,hco];rfl⟩
    ·rw[hb]at hco;have hco:(br P2 e).2=[P2.toM {k:=12,en:=⟨e.c,e.n,.empty⟩,rp:=(bq P2.sv e).2} (100+e.c)]:=hco;simp only[push_cast,seval,hE.z,f0,f4,hg4,hg5,n4,n5];refine(wu hE px4.so q4 N0 hen.1 ⟨_,_,rfl,hrd⟩).mono ?_;rintro v h6 ⟨rfl,X6,px6,q6⟩;simp only[push_cast,seval,f0,f1];refine⟨P.op-(P2.cm+1),hnx,G3,X6,(br P2 e).1,o2++(br P2 e).2,rfl,px4.trans hS.wf px6,?_,z4,hop,by rw[List.length_append];show _+P.cm<=P2.cm+1;omega,by rw[hcm,hst,List.append_assoc]⟩;rw[hco,<-List.append_assoc];exact q6
  ·have hd:aq P2 k=(P2,[]):=iO z2.bs Nr;rw[hd]at hcm;refine ax Nt ?_;by_cases h1:P2.cm<k
   ·have hb1:decide ((P2.cm:Int)<(k:Int))=true:=Nu;have hb2:decide ((P2.cm:Int)<(P2.op:Int))=false:=Nu;simp only[push_cast,seval,hE.z,hr2,nr2,f0,f1,hb1,hb2];exact⟨G2,X2,px,by rw[hcm,List.append_nil];exact hQ0⟩
   ·have hb1:decide ((P2.cm:Int)<(k:Int))=false:=Nu;simp only[push_cast,seval,hE.z,hr2,nr2,f0,f1,hb1];exact⟨G2,X2,px,by rw[hcm,List.append_nil];exact hQ0⟩
end
end Go.Proofs.YthbjaiilnkakcaaGreatDoor
namespace Go.Proofs.YthbjaiilnkakcaaGreatDoor
open Go.Tm Vr
variable{b:Nat}{l:List Ent}{v:Value}{m:Mg}{ms:List Value}
def iM(e x:Ent):Bool:=x.c==e.c&&decide (e.n<=x.n)
variable{E:Env}(hE:EOk E)
include hE
theorem Jk{h:ag}(hW:WF E h){e x:Ent}(hb:h.get b=some (.cells [iv e.c,iv e.n,.string e.t] 60 true)):af E 69 [.agg (fo x).toArray,ptr b] h λv h'=>v=.bool (iM e x)/\KW E h h':=by
 have nb:=hW.nlt hb;have e1:=hW.ne hb;have w0:=hW.b0;unfold fo;refine en hE Tryz.func69 rfl rfl Tryz.ntmps69 rfl Nv (rs:=[.tmp 3]) rfl ?_;simp only[push_cast,seval,hE.z,hb,nb,e1,w0];by_cases hc:x.c=e.c
 ·have h1:((x.c:Int)==(e.c:Int))=true:=by simp[hc]
  simp only[push_cast,seval,hE.z,hb,nb,e1,w0,h1];refine⟨?_,(by repeat (first|assumption|exact KW.refl hW|apply KW.push|refine KW.put ?_ NB NB hW))⟩;unfold iM;simp only[hc,BEq.rfl,Bool.true_and];congr 1;exact decide_eq_decide.2 Nr
 ·have h1:((x.c:Int)==(e.c:Int))=false:=Nu;simp only[push_cast,seval,h1];refine⟨?_,(by repeat (first|assumption|exact KW.refl hW|apply KW.push|refine KW.put ?_ NB NB hW))⟩;unfold iM;simp[hc]
theorem Fw{G:Mem}{h:ag}(hW:WF E h)(hG:Frz E G h){e:Ent}(hb:h.get b=some (.cells [iv e.c,iv e.n,.string e.t] 60 true))(hv:Sl E G 3 l.length (cq l) v)(hl:l.length<=1000000) :
 af E 100 [v,.func (.func 69) #[] #[ptr b]] h λv h'=>(∃k:Int,v=.int .i64 k/\decide (0<=k)=l.any (iM e))/\KW E h h':=by
 obtain⟨a,c,rfl,hc1,hc2⟩:=hv.slice;refine en hE Tryz.func100 rfl rfl Tryz.ntmps100 rfl Nv (rs:=[.tmp 4]) rfl ?_;simp only[push_cast,seval,hE.z];refine bG (λk tm h2=>∃i,k=l.length-i/\i<=l.length/\aj tm 0=.slice a l.length c/\aj tm 1=.func (.func 69) #[] #[ptr b]/\aj tm 7=iv l.length/\aj tm 8=iv i/\l.any (iM e)=(l.drop i).any (iM e)/\KW E h h2) l.length ?_ ?_
 ·simp only[push_cast,seval];exact⟨0,Nr,Nr,rfl,rfl,KW.refl hW⟩
 ·rintro k tm h2 ⟨i,rfl,hi,f0,f1,f7,f8,hq,kw⟩;simp only[push_cast,seval,f7,f8];by_cases hlt:i<l.length
  ·have hb1:decide ((i:Int)<(l.length:Int))=true:=Nu;obtain⟨b',d,e1,hsp,hac⟩:=hv.elem (hG.aK kw.k) hlt;injection e1 with e1 e2 e3;subst e1;subst e3;rw[eU (List.getElem?_eq_getElem hlt)]at hac;have hdr:=List.drop_eq_getElem_cons hlt;unfold fo at hac;simp only[push_cast,seval,hE.z,f0,f1,f8,hb1];rw[jP hsp Nr Nr,ab];simp only[push_cast,seval,hE.z,↓hac,Int.toNat_natCast];have hrf:=Jk hE kw.w (kw.k.get _ _ hb) (x:=l[i]);unfold fo at hrf;refine hrf.mono ?_;rintro v h3 ⟨rfl,kw3⟩;cases hp:iM e l[i]
   ·simp only[push_cast,seval,f0,f1,f7,f8];exact⟨l.length-(i+1),Nr,i+1,rfl,Nr,bk Nr,by rw[hq,hdr,List.any_cons,hp,Bool.false_or],kw.trans kw3⟩
   ·simp only[push_cast,seval];exact⟨⟨_,rfl,by rw[hq,hdr,List.any_cons,hp];simp⟩,kw.trans kw3⟩
  ·have hb1:decide ((i:Int)<(l.length:Int))=false:=Nu;have he:i=l.length:=Nr;subst he;rw[List.drop_length]at hq;simp only[push_cast,seval,hb1];exact⟨⟨_,rfl,by rw[hq];rfl⟩,kw⟩
theorem rU{G:Mem}{h:ag}(hW:WF E h)(hG:Frz E G h){e:Ent}(hb:h.get b=some (.cells [iv e.c,iv e.n,.string e.t] 60 true))(hv:Sl E G 3 l.length (cq l) v)(hl:l.length<=1000000) :
 af E 68 [v,.func (.func 69) #[] #[ptr b]] h λv h'=>v=.bool (l.any (iM e))/\KW E h h':=by
 refine en hE Tryz.func68 rfl rfl Tryz.ntmps68 rfl Nv (rs:=[.tmp 4]) rfl ?_;simp only[push_cast,seval];refine(Fw hE hW hG hb hv hl).mono ?_;rintro v h2 ⟨⟨k,rfl,hk⟩,kw⟩;simp only[push_cast,seval];rw[hk];exact⟨rfl,kw⟩
section
variable{G:Mem}{h:ag}{X:Nat->Prop}(hS:SO E G h X){P:PR}{out:List Mg}{r t:Nat}(hQ:QR E G h X P out r t)
include hS hQ
theorem tI(z:P.Sz)(ho:out.length<=100)(hop:P.op<1000000)(hm:MgR E G m ms)(hc:m.en.c<=1000000/\m.en.n<=1000000):af E 34 [ptr r,.agg ms.toArray] h λv h'=>v=.tuple #[]/\∃X',PX E G h X G h' X'/\QR E G h' X' (request P m).1 (out++(request P m).2) r t:=by
 obtain⟨b1,d1,b2,d2,b3,d3,rfl,m1,m2,m3⟩:=hm.e;have w0:=hS.wf.b1;refine en hE Tryz.func34 rfl rfl Tryz.ntmps34 rfl Nv (rs:=[]) rfl ?_;simp only[push_cast,seval];have k0:=(KW.refl hS.wf).push (o:=.cells (mCS m b1 d1 b2 d2 b3 d3) 66 true);have p0:=PX.kw hS k0;have q0:=hQ.ext (k0.ext hS.frz);have ge:(h.push (.cells (mCS m b1 d1 b2 d2 b3 d3) 66 true)).get h.next=some (.cells (mCS m b1 d1 b2 d2 b3 d3) 66 true):=NI;refine cR (motive:=λH=>af E 66 [ptr r] H _) (λH=>PX E G h X G H X/\QR E G H X P out r t/\H.get h.next=some (.cells (mCS m b1 d1 b2 d2 b3 d3) 66 true)) ⟨p0,q0,ge⟩ ?_;clear p0 q0 ge k0;rintro H ⟨p0,q0,ge⟩;refine(gP hE p0.so q0 ⟨Ow,Ow⟩ Of).mono ?_;intro v h5 hvh;have hv5:=hvh.1;have hh5:=hvh.2;rw[hv5,hh5];clear hvh hv5 hh5;have ne:=p0.so.wf.nlt ge;have e1:=p0.so.wf.ne ge;have e2:=p0.so.wf.ne' ge;have w0:=p0.so.wf.b0;have w1:=p0.so.wf.b1;generalize hR:request P m=R;unfold request at hR;by_cases hl:P.st=0/\P.bF=true
 ·have hb:(P.st==0&&P.bF)=true:=PC;rw[if_neg PC]at hR;simp only[push_cast,seval,hE.z,hb,ge,ne];have k1:=(KW.refl p0.so.wf).push (o:=.cells [iv m.en.c,iv m.en.n,.string m.en.t] 60 true);have p1:=p0.trans hS.wf (PX.kw p0.so k1);have q1:=q0.ext (k1.ext p0.so.frz);have hm1:=k1.k.get _ _ ge;have he1:(H.push (.cells [iv m.en.c,iv m.en.n,.string m.en.t] 60 true)).get H.next=some (.cells [iv m.en.c,iv m.en.n,.string m.en.t] 60 true):=NI;have hlt:h.next<H.next:=(p0.so.wf.live _ _ ge).2;refine cR (motive:=λH=>aF E _ _ _ H) (λH2=>PX E G h X G H2 X/\QR E G H2 X P out r t/\H2.get h.next=some (.cells (mCS m b1 d1 b2 d2 b3 d3) 66 true)/\H2.get H.next=some (.cells [iv m.en.c,iv m.en.n,.string m.en.t] 60 true)) ⟨p1,q1,hm1,he1⟩ ?_;clear p1 q1 hm1 he1 k1 p0 q0 ge e1 e2 w0 w1 ne;rintro H2 ⟨p1,q1,hm1,he1⟩;have n2:=p1.so.wf.nlt he1;refine gtA [0,3,4] λt1 hf=>?_;simp only[push_cast,seval,gz]at hf;obtain⟨f0,f3,f4⟩:=hf;have q1':=q1;obtain⟨D,q⟩:=q1';have hr:=q.hr;have nr:=p1.so.wf.nlt hr;obtain⟨ss,t1',t2'⟩:=q.ht;refine dE [(3,[0]),(5,[0])] [6,10,11] [(10,[])] [(0,(13,[0])),(1,(14,[1,0])),(2,(15,[2,0,1])),(3,(16,[3,0,1,2])),(4,(17,[4])),(5,(18,[5,4])),(6,(19,[6,0,1,2,3,4,5])),(7,(12,[7,0,1,2,3,4,5,6])),(8,(20,[8,0,1,2,3,4,5,6,7])),(9,(21,[9,0,1,2,3,4,5,6,7])),(10,(5,[10])),(12,(6,[12,0,1,2,3,4,5,6,7,8,9,10,11]))] [0,1,2,3,4,5,6,7,8,9,10,11,12] Nt Nt Nt Nt Nt Nv rfl ?_;simp only[push_cast,seval,hE.z,hr,nr,he1,n2,f0,f4];rw[kR (IJ hE)];refine(AU hE p1.so t1' t2' m.en.c (by have:=z.tab;have:=z.cm;have:=z.op;omega)).mono ?_;intro v h3 hvh;obtain⟨kw3,rr,hrr,hv⟩:=hvh;rw[hv];obtain⟨sd,rfl,hsd⟩:=hrr;obtain⟨ra,rb,rfl,_,_⟩:=hsd.slice;simp only[push_cast,seval,hE.z];have hr0:r<H2.next:=(p1.so.wf.live _ _ hr).2;have ht0:t<H2.next:=(p1.so.wf.live _ _ t1').2;have he0:H.next<H2.next:=(p1.so.wf.live _ _ he1).2;have sr:=hsd.1.sc kw3.w (p1.so.frz.aK kw3.k);have sr':Go.Tm.sc (h3.next+1) (.slice ra 0 rb)=true:=by
   cases ra with
   |none=>rfl
   |some x=>have:=gI sr x rfl;simp[Go.Tm.sc];omega
  refine⟨⟨⟨kw3.k.next,Nat.le_succ _⟩,?_,?_,?_,?_⟩,?_⟩
  ·simp only[push_cast,seval,hE.z,hr,nr,he1,n2,jo,aV];simp[veq]
  ·simp only[push_cast,seval,jx,Op.operands,tO,Go.Tm.sc,scA,scL];exact⟨decide_eq_true ht0,λ_ x=>x.elim,Nw,sr'⟩
  ·simp only[push_cast,seval,hE.z,aOk];rfl
  ·simp only[push_cast,seval,dOk];exact⟨dU 0 Nr hr0,dU 0 Nr hr0,dU 0 Nr hr0,dU 0 Nr ht0,dU 0 Nr he0,rfl,yM (cV 7 Nz sr),yM (cV 7 Nz sr),GY (cV 7 Nz sr),rfl,dA (k:=10) Nz (Nat.le_refl _) (Nat.lt_succ_self _),rfl⟩
  ·have k4:=kw3.push (o:=.cells [iv ((bt P.sv.tab m.en.c).getD ⟨0,0,⟨0,0⟩⟩).c,iv ((bt P.sv.tab m.en.c).getD ⟨0,0,⟨0,0⟩⟩).n,iv ((bt P.sv.tab m.en.c).getD ⟨0,0,⟨0,0⟩⟩).r.e,iv ((bt P.sv.tab m.en.c).getD ⟨0,0,⟨0,0⟩⟩).r.n,.slice ra 0 rb] 116 true);have p4:=p1.trans hS.wf (PX.kw p1.so k4);have q4:=q1.ext (k4.ext p1.so.frz);have he4:=k4.k.get _ _ he1;have hl4:(h3.push (.cells [iv ((bt P.sv.tab m.en.c).getD ⟨0,0,⟨0,0⟩⟩).c,iv ((bt P.sv.tab m.en.c).getD ⟨0,0,⟨0,0⟩⟩).n,iv ((bt P.sv.tab m.en.c).getD ⟨0,0,⟨0,0⟩⟩).r.e,iv ((bt P.sv.tab m.en.c).getD ⟨0,0,⟨0,0⟩⟩).r.n,.slice ra 0 rb] 116 true)).get h3.next=some (.cells [iv ((bt P.sv.tab m.en.c).getD ⟨0,0,⟨0,0⟩⟩).c,iv ((bt P.sv.tab m.en.c).getD ⟨0,0,⟨0,0⟩⟩).n,iv ((bt P.sv.tab m.en.c).getD ⟨0,0,⟨0,0⟩⟩).r.e,iv ((bt P.sv.tab m.en.c).getD ⟨0,0,⟨0,0⟩⟩).r.n,.slice ra 0 rb] 116 true):=NI;refine cR (motive:=λH=>dL _ _ _ _ _ H) (λH2=>PX E G h X G H2 X/\QR E G H2 X P out r t/\H2.get H.next=some (.cells [iv m.en.c,iv m.en.n,.string m.en.t] 60 true)/\H2.get h3.next=some (.cells [iv ((bt P.sv.tab m.en.c).getD ⟨0,0,⟨0,0⟩⟩).c,iv ((bt P.sv.tab m.en.c).getD ⟨0,0,⟨0,0⟩⟩).n,iv ((bt P.sv.tab m.en.c).getD ⟨0,0,⟨0,0⟩⟩).r.e,iv ((bt P.sv.tab m.en.c).getD ⟨0,0,⟨0,0⟩⟩).r.n,.slice ra 0 rb] 116 true)) ⟨p4,q4,he4,hl4⟩ ?_;clear p4 q4 he4 hl4;rintro H4 ⟨p4,q4,he4,hl4⟩;have n4:=p4.so.wf.nlt he4;have n5:=p4.so.wf.nlt hl4;rcases hv:bt P.sv.tab m.en.c with _|x
   ·simp only[hv,Option.isSome_none]at hR|-;simp only[push_cast,seval];have q4':=q4;obtain⟨⟨dc,vl,vt,vv,vo⟩,q⟩:=q4';have hr:=q.hr;have nr:=p4.so.wf.nlt hr;obtain⟨G1,hs1,hsub1,hf1,hn1⟩:=q.hl.Gd p4.so.wf p4.so.frz;have hz1:Fz E G1 3 P.log.length (cq P.log) vl:=q.hl.fz p4.so.wf hs1;have zb:=z.bs;have zc:=z.cm;have hkl:P.cm-P.bs<=P.log.length:=Pk;have hpl:P.log.length<=P.op:=NH;obtain⟨ya,yc,hy,hys⟩:=hz1.from (P:=Tryz.prog) (t:=37) Tryz.underlying37 ly (cB _) hkl;rw[eC,<-List.length_drop]at hys;have hw:(Value.int .i64 (IntKind.i64.wrap ((P.cm:Int)-(P.bs:Int))))=.int .i64 ((P.cm-P.bs:Nat):Int):=iu Nr zb;refine gtA [0,4] λt2 hf=>?_;simp only[push_cast,seval,gz,f0,f4]at hf;obtain⟨f0,f4⟩:=hf;refine ax Nt ?_;simp only[push_cast,seval,hE.z,f0,hr,nr];rw[hw,hy,ab];simp only[push_cast,seval,f4];rw[<-List.length_drop];refine(rU hE p4.so.wf hf1 he4 hys Oi).mono ?_;rintro v h5 ⟨rfl,kw5⟩;have p5:=p4.trans hS.wf (PX.kw p4.so kw5);have q5:=q4.ext (kw5.ext p4.so.frz);have he5:=kw5.k.get _ _ he4;cases hany:(P.log.drop (P.cm-P.bs)).any (iM m.en)
    ·have hR:({P with log:=P.log++[m.en]},PR.allM {P with log:=P.log++[m.en]} {k:=2,vw:=P.vw,op:=PR.op {P with log:=P.log++[m.en]},cm:=P.cm,en:=m.en})=R:=by rw[<-hR,if_neg];intro hc;have:(P.log.drop (P.cm-P.bs)).any (iM m.en)=true:=hc;rw[hany]at this;cases this
     subst hR;have q5':=q.aK (Sub.refl _) kw5.k;have hr5:=q5'.hr;have nr5:=p5.so.wf.nlt hr5;have n5:=p5.so.wf.nlt he5;have hw:(Value.int .i64 (IntKind.i64.wrap ((P.op:Int)+1)))=iv (P.op+1):=bk Nr;have m1:(r=H.next)=False:=Ou;have m2:(H.next=r)=False:=Oo;have e1:=p5.so.wf.ne hr5;have e2:=p5.so.wf.ne he5;have w0:=p5.so.wf.b0;simp only[push_cast,seval,hE.z,f0,hr5,nr5,hw];refine aB [(4,6)] Nt Nt Nt ?_;simp only[push_cast,seval,hE.z,f0,f4,nr5,he5,n5,m1];obtain⟨la,lc,hvl,_⟩:=q5'.hl.fh;simp only at hvl;subst hvl;have hX:∀b,b∈slB (.slice la P.log.length lc)->X b:=λb hb=>q5'.hx b NN;have px6:=p5.trans hS.wf (PX.put (o:=.cells [iv P.me,iv P.n,.iface 47 (ptr t),iv P.vw,iv P.st,iv P.nm,iv (P.op+1),iv P.cm,iv P.bs,iv P.nc,.slice la P.log.length lc,vt,vv,.bool P.pA,.map (some dc),vo] 78 true) p5.so (q5'.hx r Nw) hr5);have k56:∀b o,b≠r->h5.get b=some o->(h5.put r (.cells [iv P.me,iv P.n,.iface 47 (ptr t),iv P.vw,iv P.st,iv P.nm,iv (P.op+1),iv P.cm,iv P.bs,iv P.nc,.slice la P.log.length lc,vt,vv,.bool P.pA,.map (some dc),vo] 78 true)).get b=some o:=λb o hb hg=>OW;have o6:=QR'.lW hr5 k56 (λc fx e=>by injection e with _ e;cases e) q5'.hl;have hr6:(h5.put r (.cells [iv P.me,iv P.n,.iface 47 (ptr t),iv P.vw,iv P.st,iv P.nm,iv (P.op+1),iv P.cm,iv P.bs,iv P.nc,.slice la P.log.length lc,vt,vv,.bool P.pA,.map (some dc),vo] 78 true)).get r=some (.cells [iv P.me,iv P.n,.iface 47 (ptr t),iv P.vw,iv P.st,iv P.nm,iv (P.op+1),iv P.cm,iv P.bs,iv P.nc,.slice la P.log.length lc,vt,vv,.bool P.pA,.map (some dc),vo] 78 true):=ND;have he6:=k56 _ _ (λe=>by simp[e]at m2) he5;rw[qS rfl,aR];simp only[push_cast,seval];refine eZ (jS hE.P) px6.so.wf (lo:=0) (Nat.zero_le _) o6 rfl rfl Nr Nr ?_;intro v7 h7 a _;obtain⟨va,vc,rfl⟩:=a.sl;have gk:∀b o,b∉slB (.slice la P.log.length lc)->(h5.put r (.cells [iv P.me,iv P.n,.iface 47 (ptr t),iv P.vw,iv P.st,iv P.nm,iv (P.op+1),iv P.cm,iv P.bs,iv P.nc,.slice la P.log.length lc,vt,vv,.bool P.pA,.map (some dc),vo] 78 true)).get b=some o->h7.get b=some o:=λb o hn hb=>a.get b o hb hn;have hr7:=gk _ _ (o6.tag hr6 λc fx e=>by injection e with _ e;cases e) hr6;have nr7:=a.wf.nlt hr7;simp only[push_cast,seval,hE.z,hr7,nr7,e1,aU];have hop':PR.op {P with log:=P.log++[m.en]}=P.op+1:=Oc;have hX7:=PX.app px6.so a hX;have px7:=px6.trans hS.wf hX7;have px8:=px7.trans hS.wf (PX.put (o:=.cells (qC {P with log:=P.log++[m.en]} t dc (.slice va (P.log.length+1) vc) vt vv vo) 78 true) px7.so (.inl (q5'.hx r Nw)) hr7);have q8:QR E G (h7.put r (.cells (qC {P with log:=P.log++[m.en]} t dc (.slice va (P.log.length+1) vc) vt vv vo) 78 true)) (λb=>X b\/b∈slB (.slice va (P.log.length+1) vc)) {P with log:=P.log++[m.en]} out r t:=by
      refine⟨_,q5'.lg (vl':=.slice va (P.log.length+1) vc) (P':={P with log:=P.log++[m.en]}) (Sub.refl _) ND (λb o hb hn hg=>by rw[ai,if_neg (λe=>hb e.symm)];exact gk b o hn (k56 b o hb hg)) ?_ rfl rfl rfl rfl (λb hb=>.inl hb) (λb hb=>.inr hb)⟩;rw[fk,List.length_append]
      have:=a.own.at (h':=h7.put r (.cells (qC {P with log:=P.log++[m.en]} t dc (.slice va (P.log.length+1) vc) vt vv vo) 78 true)) (λb o hb hg=>by
       rw[ai,if_neg (λe=>?_)]
       ·exact hg
       ·subst e
        exact a.own.tag hr7 (λc fx e=>by injection e with _ e;cases e) hb)
      simpa[cq,fo] using this
     have he8:(h7.put r (.cells (qC {P with log:=P.log++[m.en]} t dc (.slice va (P.log.length+1) vc) vt vv vo) 78 true)).get H.next=some (.cells [iv m.en.c,iv m.en.n,.string m.en.t] 60 true):=by rw[ai,if_neg (λe=>by simp[e]at m1)];exact gk _ _ (λhb=>by have:=hS.lt _ (hX _ hb);omega) he6
     rw[<-hop'];refine gtA [0,4] λt3 hf=>?_;simp only[push_cast,seval,gz,f0,f4]at hf;obtain⟨f0,f4⟩:=hf;refine cR (motive:=λH=>aF E _ _ _ H) (λH2=>PX E G h X G H2 (λb=>X b\/b∈slB (.slice va (P.log.length+1) vc))/\QR E G H2 (λb=>X b\/b∈slB (.slice va (P.log.length+1) vc)) {P with log:=P.log++[m.en]} out r t/\H2.get H.next=some (.cells [iv m.en.c,iv m.en.n,.string m.en.t] 60 true)) ⟨px8,q8,he8⟩ ?_;clear px8 q8 he8 px7 hX7 a;rintro H9 ⟨px9,q9,he9⟩;have q9':=q9;obtain⟨D9,qq⟩:=q9';have hr9:=qq.hr;have nr9:=px9.so.wf.nlt hr9;have n9:=px9.so.wf.nlt he9;refine ax Nt ?_;simp only[push_cast,seval,hE.z,f0,f4,hr9,nr9,he9,n9];refine(mJ hE px9.so q9 OS Nr (m:={k:=2,vw:=P.vw,op:=PR.op {P with log:=P.log++[m.en]},cm:=P.cm,en:=m.en}) ⟨_,_,_,rfl,Fz.nil,Fz.nil,Fz.nil⟩).mono ?_;rintro v ha ⟨rfl,X6,px6,q6⟩;simp only[push_cast,seval];exact⟨X6,px9.trans hS.wf px6,q6⟩
    ·have hR:(P,[])=R:=OZ;subst hR;simp only[push_cast,seval];exact⟨X,p5,by simpa using q5⟩
   ·simp only[hv,Option.isSome_some,Option.getD_some]at hR hl4|-;simp only[push_cast,seval,hE.z,f4,he4,n4,hl4,n5];by_cases hle:m.en.n<=x.n
    ·have hb:decide ((m.en.n:Int)<=(x.n:Int))=true:=Nu;simp only[push_cast,seval,hE.z,f4,he4,n4,hl4,n5,hb];by_cases heq:m.en.n=x.n
     ·have hb:((m.en.n:Int)==(x.n:Int))=true:=by simp[heq]
      rw[if_neg Nr,if_pos heq]at hR;subst hR;simp only[push_cast,seval,hE.z,f0,f4,he4,n4,hl4,n5,hb];refine(wu hE p4.so q4 Nr hc.1 ⟨_,_,rfl,hsd⟩).mono ?_;rintro v h6 ⟨rfl,X6,px6,q6⟩;simp only[push_cast,seval];exact⟨X6,p4.trans hS.wf px6,q6⟩
     ·have hb:((m.en.n:Int)==(x.n:Int))=false:=Nu;rw[if_pos Nr]at hR;subst hR;simp only[push_cast,seval,hb];exact⟨X,p4,by simpa using q4⟩
    ·have hb:decide ((m.en.n:Int)<=(x.n:Int))=false:=Nu;rw[if_neg Nr,if_neg Nr]at hR;simp only[push_cast,seval,hb];have q4':=q4;obtain⟨⟨dc,vl,vt,vv,vo⟩,q⟩:=q4';have hr:=q.hr;have nr:=p4.so.wf.nlt hr;obtain⟨G1,hs1,hsub1,hf1,hn1⟩:=q.hl.Gd p4.so.wf p4.so.frz;have hz1:Fz E G1 3 P.log.length (cq P.log) vl:=q.hl.fz p4.so.wf hs1;have zb:=z.bs;have zc:=z.cm;have hkl:P.cm-P.bs<=P.log.length:=Pk;have hpl:P.log.length<=P.op:=NH;obtain⟨ya,yc,hy,hys⟩:=hz1.from (P:=Tryz.prog) (t:=37) Tryz.underlying37 ly (cB _) hkl;rw[eC,<-List.length_drop]at hys;have hw:(Value.int .i64 (IntKind.i64.wrap ((P.cm:Int)-(P.bs:Int))))=.int .i64 ((P.cm-P.bs:Nat):Int):=iu Nr zb;refine gtA [0,4] λt2 hf=>?_;simp only[push_cast,seval,gz,f0,f4]at hf;obtain⟨f0,f4⟩:=hf;refine ax Nt ?_;simp only[push_cast,seval,hE.z,f0,hr,nr];rw[hw,hy,ab];simp only[push_cast,seval,f4];rw[<-List.length_drop];refine(rU hE p4.so.wf hf1 he4 hys Oi).mono ?_;rintro v h5 ⟨rfl,kw5⟩;have p5:=p4.trans hS.wf (PX.kw p4.so kw5);have q5:=q4.ext (kw5.ext p4.so.frz);have he5:=kw5.k.get _ _ he4;cases hany:(P.log.drop (P.cm-P.bs)).any (iM m.en)
     ·have hR:({P with log:=P.log++[m.en]},PR.allM {P with log:=P.log++[m.en]} {k:=2,vw:=P.vw,op:=PR.op {P with log:=P.log++[m.en]},cm:=P.cm,en:=m.en})=R:=by rw[<-hR,if_neg];intro hc;have:(P.log.drop (P.cm-P.bs)).any (iM m.en)=true:=hc;rw[hany]at this;cases this
      subst hR;have q5':=q.aK (Sub.refl _) kw5.k;have hr5:=q5'.hr;have nr5:=p5.so.wf.nlt hr5;have n5:=p5.so.wf.nlt he5;have hw:(Value.int .i64 (IntKind.i64.wrap ((P.op:Int)+1)))=iv (P.op+1):=bk Nr;have m1:(r=H.next)=False:=Ou;have m2:(H.next=r)=False:=Oo;have e1:=p5.so.wf.ne hr5;have e2:=p5.so.wf.ne he5;have w0:=p5.so.wf.b0;simp only[push_cast,seval,hE.z,f0,hr5,nr5,hw];refine aB [(4,6)] Nt Nt Nt ?_;simp only[push_cast,seval,hE.z,f0,f4,nr5,he5,n5,m1];obtain⟨la,lc,hvl,_⟩:=q5'.hl.fh;simp only at hvl;subst hvl;have hX:∀b,b∈slB (.slice la P.log.length lc)->X b:=λb hb=>q5'.hx b NN;have px6:=p5.trans hS.wf (PX.put (o:=.cells [iv P.me,iv P.n,.iface 47 (ptr t),iv P.vw,iv P.st,iv P.nm,iv (P.op+1),iv P.cm,iv P.bs,iv P.nc,.slice la P.log.length lc,vt,vv,.bool P.pA,.map (some dc),vo] 78 true) p5.so (q5'.hx r Nw) hr5);have k56:∀b o,b≠r->h5.get b=some o->(h5.put r (.cells [iv P.me,iv P.n,.iface 47 (ptr t),iv P.vw,iv P.st,iv P.nm,iv (P.op+1),iv P.cm,iv P.bs,iv P.nc,.slice la P.log.length lc,vt,vv,.bool P.pA,.map (some dc),vo] 78 true)).get b=some o:=λb o hb hg=>OW;have o6:=QR'.lW hr5 k56 (λc fx e=>by injection e with _ e;cases e) q5'.hl;have hr6:(h5.put r (.cells [iv P.me,iv P.n,.iface 47 (ptr t),iv P.vw,iv P.st,iv P.nm,iv (P.op+1),iv P.cm,iv P.bs,iv P.nc,.slice la P.log.length lc,vt,vv,.bool P.pA,.map (some dc),vo] 78 true)).get r=some (.cells [iv P.me,iv P.n,.iface 47 (ptr t),iv P.vw,iv P.st,iv P.nm,iv (P.op+1),iv P.cm,iv P.bs,iv P.nc,.slice la P.log.length lc,vt,vv,.bool P.pA,.map (some dc),vo] 78 true):=ND;have he6:=k56 _ _ (λe=>by simp[e]at m2) he5;rw[qS rfl,aR];simp only[push_cast,seval];refine eZ (jS hE.P) px6.so.wf (lo:=0) (Nat.zero_le _) o6 rfl rfl Nr Nr ?_;intro v7 h7 a _;obtain⟨va,vc,rfl⟩:=a.sl;have gk:∀b o,b∉slB (.slice la P.log.length lc)->(h5.put r (.cells [iv P.me,iv P.n,.iface 47 (ptr t),iv P.vw,iv P.st,iv P.nm,iv (P.op+1),iv P.cm,iv P.bs,iv P.nc,.slice la P.log.length lc,vt,vv,.bool P.pA,.map (some dc),vo] 78 true)).get b=some o->h7.get b=some o:=λb o hn hb=>a.get b o hb hn;have hr7:=gk _ _ (o6.tag hr6 λc fx e=>by injection e with _ e;cases e) hr6;have nr7:=a.wf.nlt hr7;simp only[push_cast,seval,hE.z,hr7,nr7,e1,aU];have hop':PR.op {P with log:=P.log++[m.en]}=P.op+1:=Oc;have hX7:=PX.app px6.so a hX;have px7:=px6.trans hS.wf hX7;have px8:=px7.trans hS.wf (PX.put (o:=.cells (qC {P with log:=P.log++[m.en]} t dc (.slice va (P.log.length+1) vc) vt vv vo) 78 true) px7.so (.inl (q5'.hx r Nw)) hr7);have q8:QR E G (h7.put r (.cells (qC {P with log:=P.log++[m.en]} t dc (.slice va (P.log.length+1) vc) vt vv vo) 78 true)) (λb=>X b\/b∈slB (.slice va (P.log.length+1) vc)) {P with log:=P.log++[m.en]} out r t:=by
       refine⟨_,q5'.lg (vl':=.slice va (P.log.length+1) vc) (P':={P with log:=P.log++[m.en]}) (Sub.refl _) ND (λb o hb hn hg=>by rw[ai,if_neg (λe=>hb e.symm)];exact gk b o hn (k56 b o hb hg)) ?_ rfl rfl rfl rfl (λb hb=>.inl hb) (λb hb=>.inr hb)⟩;rw[fk,List.length_append]
       have:=a.own.at (h':=h7.put r (.cells (qC {P with log:=P.log++[m.en]} t dc (.slice va (P.log.length+1) vc) vt vv vo) 78 true)) (λb o hb hg=>by
        rw[ai,if_neg (λe=>?_)]
        ·exact hg
        ·subst e
         exact a.own.tag hr7 (λc fx e=>by injection e with _ e;cases e) hb)
       simpa[cq,fo] using this
      have he8:(h7.put r (.cells (qC {P with log:=P.log++[m.en]} t dc (.slice va (P.log.length+1) vc) vt vv vo) 78 true)).get H.next=some (.cells [iv m.en.c,iv m.en.n,.string m.en.t] 60 true):=by rw[ai,if_neg (λe=>by simp[e]at m1)];exact gk _ _ (λhb=>by have:=hS.lt _ (hX _ hb);omega) he6
      rw[<-hop'];refine gtA [0,4] λt3 hf=>?_;simp only[push_cast,seval,gz,f0,f4]at hf;obtain⟨f0,f4⟩:=hf;refine cR (motive:=λH=>aF E _ _ _ H) (λH2=>PX E G h X G H2 (λb=>X b\/b∈slB (.slice va (P.log.length+1) vc))/\QR E G H2 (λb=>X b\/b∈slB (.slice va (P.log.length+1) vc)) {P with log:=P.log++[m.en]} out r t/\H2.get H.next=some (.cells [iv m.en.c,iv m.en.n,.string m.en.t] 60 true)) ⟨px8,q8,he8⟩ ?_;clear px8 q8 he8 px7 hX7 a;rintro H9 ⟨px9,q9,he9⟩;have q9':=q9;obtain⟨D9,qq⟩:=q9';have hr9:=qq.hr;have nr9:=px9.so.wf.nlt hr9;have n9:=px9.so.wf.nlt he9;refine ax Nt ?_;simp only[push_cast,seval,hE.z,f0,f4,hr9,nr9,he9,n9];refine(mJ hE px9.so q9 OS Nr (m:={k:=2,vw:=P.vw,op:=PR.op {P with log:=P.log++[m.en]},cm:=P.cm,en:=m.en}) ⟨_,_,_,rfl,Fz.nil,Fz.nil,Fz.nil⟩).mono ?_;rintro v ha ⟨rfl,X6,px6,q6⟩;simp only[push_cast,seval];exact⟨X6,px9.trans hS.wf px6,q6⟩
     ·have hR:(P,[])=R:=OZ;subst hR;simp only[push_cast,seval];exact⟨X,p5,by simpa using q5⟩
 ·have hb:(P.st==0&&P.bF)=false:=by cases hp:P.bF<;>simp_all
  rw[if_pos (by cases hp:P.bF<;>simp_all)]at hR;subst hR;simp only[push_cast,seval,hb];exact⟨X,p0,OI⟩
theorem xK(z:P.Sz)(ho:out.length<=100)(hm:MgR E G m ms)(hk:m.k=4):af E 37 [ptr r,.agg ms.toArray] h λv h'=>v=.tuple #[]/\∃G' X',PX E G h X G' h' X'/\QR E G' h' X' (aX P m).1 (out++(aX P m).2) r t:=by
 have hm0:=hm;obtain⟨b1,d1,b2,d2,b3,d3,rfl,m1,m2,m3⟩:=hm.e;refine en hE Tryz.func37 rfl rfl Tryz.ntmps37 rfl Nv (rs:=[]) rfl ?_;simp only[push_cast,seval,hE.z];have k0:=(KW.refl hS.wf).push (o:=.cells (mCS m b1 d1 b2 d2 b3 d3) 66 true);have p0:=PX.kw hS k0;have q0:=hQ.ext (k0.ext hS.frz);have ge:(h.push (.cells (mCS m b1 d1 b2 d2 b3 d3) 66 true)).get h.next=some (.cells (mCS m b1 d1 b2 d2 b3 d3) 66 true):=NI;refine gtA [0,3] λt1 hf=>?_;simp only[push_cast,seval,gz]at hf;obtain⟨f0,f3⟩:=hf;refine cR (motive:=λH=>aF E _ _ _ H) (λH=>PX E G h X G H X/\QR E G H X P out r t/\H.get h.next=some (.cells (mCS m b1 d1 b2 d2 b3 d3) 66 true)) ⟨p0,q0,ge⟩ ?_;clear p0 q0 ge k0;rintro H ⟨p0,q0,ge⟩;have q0':=q0;obtain⟨D,q⟩:=q0';have hr:=q.hr;have nr:=p0.so.wf.nlt hr;have ne:=p0.so.wf.nlt ge;have hn:1<=P.n/\P.n<=1000:=⟨Ow,Ow⟩;have hvw:P.vw<=1099511627776:=Of;generalize hR:aX P m=R;unfold aX at hR;refine ax Nt ?_;by_cases hst:P.st=0
 ·have hb:((P.st:Int) != 0)=false:=NV;rw[if_neg Nr,if_neg Nr]at hR;by_cases hv:m.vw<P.vw
  ·have hb2:decide ((m.vw:Int)<(P.vw:Int))=true:=Nu;rw[if_pos hv]at hR;subst hR;simp only[push_cast,seval,hE.z,f0,f3,hr,nr,ge,ne,hb,hb2];exact⟨G,X,p0,OI⟩
  ·have hb2:decide ((m.vw:Int)<(P.vw:Int))=false:=Nu;rw[if_neg hv]at hR;simp only[push_cast,seval,hE.z,f0,f3,hr,nr,ge,ne,hb,hb2];refine ax Nt ?_;by_cases hv2:P.vw<m.vw
   ·have hb3:decide ((P.vw:Int)<(m.vw:Int))=true:=Nu;rw[if_pos hv2]at hR;subst hR;simp only[push_cast,seval,hE.z,f0,f3,hr,nr,ge,ne,hb3];refine ax Nt ?_;simp only[push_cast,seval,hE.z,f0,f3,hr,nr,ge,ne];refine(xQ hE p0.so q0 Nr (hm0.sub p0.sub) P.cm).mono ?_;rintro v h6 ⟨rfl,X6,px6,q6⟩;simp only[push_cast,seval];exact⟨G,X6,p0.trans hS.wf px6,q6⟩
   ·have hb3:decide ((P.vw:Int)<(m.vw:Int))=false:=Nu;rw[if_neg hv2]at hR;simp only[push_cast,seval,hE.z,f0,f3,hr,nr,ge,ne,hb3];refine(gP hE p0.so q0 hn hvw).mono ?_;intro v h5 hvh;rw[hvh.1,hvh.2];clear hvh;cases hp:P.bF
    ·have hb4:(P.st==0&&false)=false:=Nw;rw[hp]at hR;rw[if_neg Nw,if_pos hk]at hR;simp only[push_cast,seval,hb4];refine ax Nt ?_;by_cases hc:P.op<m.cm
     ·have hb5:decide ((P.op:Int)<(m.cm:Int))=true:=Nu;rw[if_pos hc]at hR;subst hR;simp only[push_cast,seval,hE.z,f0,f3,hr,nr,ge,ne,hb5];refine ax Nt ?_;simp only[push_cast,seval,hE.z,f0,f3,hr,nr,ge,ne];refine(xQ hE p0.so q0 Nr (hm0.sub p0.sub) P.op).mono ?_;rintro v h6 ⟨rfl,X6,px6,q6⟩;simp only[push_cast,seval];refine⟨G,X6,p0.trans hS.wf px6,?_⟩;have:m.vw=P.vw:=Nr;rw[this]at q6;exact q6
     ·have hb5:decide ((P.op:Int)<(m.cm:Int))=false:=Nu;rw[if_neg hc]at hR;subst hR;simp only[push_cast,seval,hE.z,f0,f3,hr,nr,ge,ne,hb5];refine(kh hE p0.so q0 z Nr m.cm).mono ?_;rintro v h6 ⟨rfl,G6,X6,px6,q6⟩;simp only[push_cast,seval];exact⟨G6,X6,p0.trans hS.wf px6,q6⟩
    ·have hb4:(P.st==0&&true)=true:=NV;rw[hp]at hR;rw[if_pos rfl]at hR;subst hR;simp only[push_cast,seval,hb4];exact⟨G,X,p0,OI⟩
 ·have hb:((P.st:Int) != 0)=true:=Nu;rw[if_pos hst]at hR;subst hR;simp only[push_cast,seval,hE.z,f0,hr,nr,hb];exact⟨G,X,p0,OI⟩
theorem Bn(z:P.Sz)(ho:out.length<=100)(hop:P.op<1000000)(hm:MgR E G m ms)(hk:m.k=2)(hen:m.en.c<=1000000/\m.en.n<=1000000):af E 35 [ptr r,.agg ms.toArray] h λv h'=>v=.tuple #[]/\∃G' X',PX E G h X G' h' X'/\QR E G' h' X' (aX P m).1 (out++(aX P m).2) r t:=by
 have hm0:=hm;obtain⟨b1,d1,b2,d2,b3,d3,rfl,m1,m2,m3⟩:=hm.e;refine en hE Tryz.func35 rfl rfl Tryz.ntmps35 rfl Nv (rs:=[]) rfl ?_;simp only[push_cast,seval,hE.z];have k0:=(KW.refl hS.wf).push (o:=.cells (mCS m b1 d1 b2 d2 b3 d3) 66 true);have p0:=PX.kw hS k0;have q0:=hQ.ext (k0.ext hS.frz);have ge:(h.push (.cells (mCS m b1 d1 b2 d2 b3 d3) 66 true)).get h.next=some (.cells (mCS m b1 d1 b2 d2 b3 d3) 66 true):=NI;refine gtA [0,3] λt1 hf=>?_;simp only[push_cast,seval,gz]at hf;obtain⟨f0,f3⟩:=hf;refine cR (motive:=λH=>aF E _ _ _ H) (λH=>PX E G h X G H X/\QR E G H X P out r t/\H.get h.next=some (.cells (mCS m b1 d1 b2 d2 b3 d3) 66 true)) ⟨p0,q0,ge⟩ ?_;clear p0 q0 ge k0;rintro H ⟨p0,q0,ge⟩;have q0':=q0;obtain⟨⟨dc,vl,vt,vv,vo⟩,q⟩:=q0';have hr:=q.hr;have nr:=p0.so.wf.nlt hr;have ne:=p0.so.wf.nlt ge;have hn:1<=P.n/\P.n<=1000:=⟨Ow,Ow⟩;have hvw:P.vw<=1099511627776:=Of;have hw:(Value.int .i64 (IntKind.i64.wrap ((P.op:Int)+1)))=iv (P.op+1):=bk Nr;have hw2:IntKind.i64.wrap ((P.op:Int)+1)=((P.op+1:Nat):Int):=by injection hw
 generalize hR:aX P m=R;unfold aX at hR;refine ax Nt ?_;by_cases hst:P.st=0
 ·have hb:((P.st:Int) != 0)=false:=NV;rw[if_neg Nr,if_neg Nr]at hR;by_cases hv:m.vw<P.vw
  ·have hb2:decide ((m.vw:Int)<(P.vw:Int))=true:=Nu;rw[if_pos hv]at hR;subst hR;simp only[push_cast,seval,hE.z,f0,f3,hr,nr,ge,ne,hb,hb2];exact⟨G,X,p0,OI⟩
  ·have hb2:decide ((m.vw:Int)<(P.vw:Int))=false:=Nu;rw[if_neg hv]at hR;simp only[push_cast,seval,hE.z,f0,f3,hr,nr,ge,ne,hb,hb2];refine ax Nt ?_;by_cases hv2:P.vw<m.vw
   ·have hb3:decide ((P.vw:Int)<(m.vw:Int))=true:=Nu;rw[if_pos hv2]at hR;subst hR;simp only[push_cast,seval,hE.z,f0,f3,hr,nr,ge,ne,hb3];refine ax Nt ?_;simp only[push_cast,seval,hE.z,f0,f3,hr,nr,ge,ne];refine(xQ hE p0.so q0 Nr (hm0.sub p0.sub) P.cm).mono ?_;rintro v h6 ⟨rfl,X6,px6,q6⟩;simp only[push_cast,seval];exact⟨G,X6,p0.trans hS.wf px6,q6⟩
   ·have hb3:decide ((P.vw:Int)<(m.vw:Int))=false:=Nu;rw[if_neg hv2]at hR;simp only[push_cast,seval,hE.z,f0,f3,hr,nr,ge,ne,hb3];refine(gP hE p0.so q0 hn hvw).mono ?_;intro v h5 hvh;rw[hvh.1,hvh.2];clear hvh;cases hp:P.bF
    ·have hb4:(P.st==0&&false)=false:=Nw;rw[hp]at hR;rw[if_neg Nw,if_neg Nr]at hR;simp only[push_cast,seval,hb4];refine ax Nt ?_;by_cases hc:P.op+1<m.op
     ·have hb5:decide (((P.op:Int)+1)<(m.op:Int))=true:=Nu;rw[if_pos hc]at hR;subst hR;simp only[push_cast,seval,hE.z,f0,f3,hr,nr,ge,ne,hw2,hb5];refine ax Nt ?_;simp only[push_cast,seval,hE.z,f0,f3,hr,nr,ge,ne];refine(xQ hE p0.so q0 Nr (hm0.sub p0.sub) P.op).mono ?_;rintro v h6 ⟨rfl,X6,px6,q6⟩;simp only[push_cast,seval];refine⟨G,X6,p0.trans hS.wf px6,?_⟩;have:m.vw=P.vw:=Nr;rw[this]at q6;exact q6
     ·have hb5:decide (((P.op:Int)+1)<(m.op:Int))=false:=Nu;rw[if_neg hc]at hR;simp only[push_cast,seval,hE.z,f0,f3,hr,nr,ge,ne,hw2,hb5];refine ax Nt ?_;simp only[push_cast,seval,hE.z,f0,f3,hr,nr,ge,ne,hw2];have hpl:P.log.length<=P.op:=NH;generalize hQQ:(if m.op=P.op+1 then {P with log:=P.log++[m.en]} else P)=Q at hR;refine dJ (λtm' h'=>∃X2,PX E G h X G h' X2/\QR E G h' X2 Q out r t/\Q.Sz/\aj tm' 0=ptr r/\aj tm' 3=ptr h.next/\¬X2 h.next/\h'.get h.next=some (.cells (mCS m b1 d1 b2 d2 b3 d3) 66 true)) ?_ ?_
      ·rintro tm' h' ⟨X2,px2,q2,zQ,f0,f3,nx2,g2⟩;have n2:=px2.so.wf.nlt g2;simp only[push_cast,seval,hE.z,f0,f3,g2,n2];refine(kh hE px2.so q2 zQ Nr m.cm).mono ?_;rintro v h6 ⟨rfl,G6,X6,px6,q6⟩;have g6:=px6.kx.get _ _ (λhx=>nx2 hx) g2;have n6:=px6.so.wf.nlt g6;have q6':=q6;obtain⟨D6,qq⟩:=q6';have hr6:=qq.hr;have nr6:=px6.so.wf.nlt hr6;simp only[push_cast,seval];refine ax Nt ?_;simp only[push_cast,seval,hE.z,f0,f3,hr6,nr6,g6,n6];have hcl:=eE Q m.cm;have hck:=df (Q.todo m.cm) Q;refine(gd hE px6.so q6 (by rw[List.length_append];have:=zQ.op;omega) (m:={k:=3,vw:=(aq Q m.cm).1.vw,op:=(aq Q m.cm).1.op}) ⟨_,_,_,rfl,Fz.nil,Fz.nil,Fz.nil⟩ m.fr).mono ?_;rintro v h8 ⟨rfl,X8,px8,q8⟩;simp only[push_cast,seval];subst hR;exact⟨G6,X8,(px2.trans hS.wf px6).trans hS.wf px8,by rw[<-List.append_assoc];exact q8⟩
      ·by_cases heq:m.op=P.op+1
       ·have hb6:((m.op:Int)==(P.op:Int)+1)=true:=Nu;rw[if_pos heq]at hQQ;subst hQQ;simp only[push_cast,seval,hE.z,f0,hr,nr,hb6,hw2];obtain⟨la,lc,hvl,_⟩:=q.hl.fh;simp only at hvl;subst hvl;have hX:∀b,b∈slB (.slice la P.log.length lc)->X b:=λb hb=>q.hx b NN;have hop':PR.op {P with log:=P.log++[m.en]}=P.op+1:=Oc;have m1:(r=h.next)=False:=by simp;intro e;rw[e,ge]at hr;injection hr with hr;injection hr with _ hr;cases hr
        have m2:(h.next=r)=False:=by simp;intro e;rw[<-e,ge]at hr;injection hr with hr;injection hr with _ hr;cases hr
        have e1:=p0.so.wf.ne hr;refine gtA [0,3] λt3 hf=>?_;simp only[push_cast,seval,gz,f0,f3]at hf;obtain⟨f0,f3⟩:=hf;have px6:=p0.trans hS.wf (PX.put (o:=.cells [iv P.me,iv P.n,.iface 47 (ptr t),iv P.vw,iv P.st,iv P.nm,.int .i64 ((P.op:Int)+1),iv P.cm,iv P.bs,iv P.nc,.slice la P.log.length lc,vt,vv,.bool P.pA,.map (some dc),vo] 78 true) p0.so (q.hx r Nw) hr);have k56:∀b o,b≠r->H.get b=some o->(H.put r (.cells [iv P.me,iv P.n,.iface 47 (ptr t),iv P.vw,iv P.st,iv P.nm,.int .i64 ((P.op:Int)+1),iv P.cm,iv P.bs,iv P.nc,.slice la P.log.length lc,vt,vv,.bool P.pA,.map (some dc),vo] 78 true)).get b=some o:=λb o hb hg=>OW;have o6:=QR'.lW hr k56 (λc fx e=>by injection e with _ e;cases e) q.hl;have hr6:(H.put r (.cells [iv P.me,iv P.n,.iface 47 (ptr t),iv P.vw,iv P.st,iv P.nm,.int .i64 ((P.op:Int)+1),iv P.cm,iv P.bs,iv P.nc,.slice la P.log.length lc,vt,vv,.bool P.pA,.map (some dc),vo] 78 true)).get r=some (.cells [iv P.me,iv P.n,.iface 47 (ptr t),iv P.vw,iv P.st,iv P.nm,.int .i64 ((P.op:Int)+1),iv P.cm,iv P.bs,iv P.nc,.slice la P.log.length lc,vt,vv,.bool P.pA,.map (some dc),vo] 78 true):=ND;have he6:=k56 _ _ (λe=>by simp[e]at m2) ge;refine aB [(4,7)] Nt Nt Nt ?_;simp only[push_cast,seval,hE.z,f0,f3,nr,ge,ne,m1];rw[qS rfl,aR];simp only[push_cast,seval];refine eZ (jS hE.P) px6.so.wf (lo:=0) (Nat.zero_le _) o6 rfl rfl Nr Nr ?_;intro v7 h7 a _;obtain⟨va,vc,rfl⟩:=a.sl;have gk:∀b o,b∉slB (.slice la P.log.length lc)->(H.put r (.cells [iv P.me,iv P.n,.iface 47 (ptr t),iv P.vw,iv P.st,iv P.nm,.int .i64 ((P.op:Int)+1),iv P.cm,iv P.bs,iv P.nc,.slice la P.log.length lc,vt,vv,.bool P.pA,.map (some dc),vo] 78 true)).get b=some o->h7.get b=some o:=λb o hn hb=>a.get b o hb hn;have hr7:=gk _ _ (o6.tag hr6 λc fx e=>by injection e with _ e;cases e) hr6;have nr7:=a.wf.nlt hr7;simp only[push_cast,seval,hE.z,f0,f3,hr7,nr7,e1,aU];have hX7:=PX.app px6.so a hX;have px7:=px6.trans hS.wf hX7;have px8:=px7.trans hS.wf (PX.put (o:=.cells (qC {P with log:=P.log++[m.en]} t dc (.slice va (P.log.length+1) vc) vt vv vo) 78 true) px7.so (.inl (q.hx r Nw)) hr7);have q8:QR E G (h7.put r (.cells (qC {P with log:=P.log++[m.en]} t dc (.slice va (P.log.length+1) vc) vt vv vo) 78 true)) (λb=>X b\/b∈slB (.slice va (P.log.length+1) vc)) {P with log:=P.log++[m.en]} out r t:=by
         refine⟨_,q.lg (vl':=.slice va (P.log.length+1) vc) (P':={P with log:=P.log++[m.en]}) (Sub.refl _) ND (λb o hb hn hg=>by rw[ai,if_neg (λe=>hb e.symm)];exact gk b o hn (k56 b o hb hg)) ?_ rfl rfl rfl rfl (λb hb=>.inl hb) (λb hb=>.inr hb)⟩;rw[fk,List.length_append]
         have:=a.own.at (h':=h7.put r (.cells (qC {P with log:=P.log++[m.en]} t dc (.slice va (P.log.length+1) vc) vt vv vo) 78 true)) (λb o hb hg=>by
          rw[ai,if_neg (λe=>?_)]
          ·exact hg
          ·subst e
           exact a.own.tag hr7 (λc fx e=>by injection e with _ e;cases e) hb)
         simpa[cq,fo] using this
        have he8:(h7.put r (.cells (qC {P with log:=P.log++[m.en]} t dc (.slice va (P.log.length+1) vc) vt vv vo) 78 true)).get h.next=some (.cells (mCS m b1 d1 b2 d2 b3 d3) 66 true):=by rw[ai,if_neg (λe=>by simp[e]at m1)];exact gk _ _ (λhb=>by have:=hS.lt _ (hX _ hb);omega) he6
        have hcast:((P.op:Int)+1)=((PR.op {P with log:=P.log++[m.en]}:Nat):Int):=by rw[hop'];rfl
        rw[hcast];rw[ai]at he8;refine⟨_,px8,q8,z.push hop hen,λhx=>?_,he8⟩;rcases hx with hx|hx
        ·have:=hS.lt _ hx;omega
        ·rcases a.blk _ hx with h5|h5
         ·have:=hS.lt _ (hX _ h5);omega
         ·have:=(px6.so.wf.live _ _ he6).2;omega
       ·have hb6:((m.op:Int)==(P.op:Int)+1)=false:=Nu;rw[if_neg heq]at hQQ;subst hQQ;simp only[push_cast,seval,f0,f3,hb6];exact⟨X,p0,q0,z,λhx=>OP,ge⟩
    ·have hb4:(P.st==0&&true)=true:=NV;rw[hp]at hR;rw[if_pos rfl]at hR;subst hR;simp only[push_cast,seval,hb4];exact⟨G,X,p0,OI⟩
 ·have hb:((P.st:Int) != 0)=true:=Nu;rw[if_pos hst]at hR;subst hR;simp only[push_cast,seval,hE.z,f0,hr,nr,hb];exact⟨G,X,p0,OI⟩
end
end Go.Proofs.YthbjaiilnkakcaaGreatDoor
namespace Vr
variable{L:List Nat}{i j k:Nat}{P:PR}
def HU(L:List Nat)(i j:Nat):Prop:=∀a b,a<b->b<=i->b≠j->L.getD a 0<=L.getD b 0
theorem wb(hj:j<L.length)(hk:k<L.length)(x:Nat):((L.set j (L.getD k 0)).set k (L.getD j 0)).getD x 0=if x=k then L.getD j 0 else if x=j then L.getD k 0 else L.getD x 0:=by
 simp only[List.getD_eq_getElem?_getD,List.getElem?_set];by_cases h1:x=k
 ·subst h1;simp[hk]
 ·rw[if_neg (λe=>h1 e.symm),if_neg h1];by_cases h2:x=j
  ·subst h2;simp[hj]
  ·rw[if_neg (λe=>h2 e.symm),if_neg h2]
theorem Fu(h:HU L i (j+1))(hj:j+1<L.length)(hi:i<L.length)(hji:j+1<=i)(hlt:L.getD (j+1) 0<L.getD j 0):HU ((L.set (j+1) (L.getD j 0)).set j (L.getD (j+1) 0)) i j:=by
 intro a b hab hbi hbj;rw[wb (j:=j+1) (k:=j) hj Nr,wb (j:=j+1) (k:=j) hj Nr];rw[if_neg hbj];by_cases e1:b=j+1
 ·rw[if_pos e1];by_cases e2:a=j
  ·rw[if_pos e2];omega
  ·rw[if_neg e2,if_neg (show¬a=j+1 by omega)];exact h a j Nr Nr Nr
 ·rw[if_neg e1];by_cases e2:a=j
  ·rw[if_pos e2];exact h (j+1) b Nr hbi e1
  ·rw[if_neg e2];by_cases e3:a=j+1
   ·rw[if_pos e3];exact h j b Nr hbi e1
   ·rw[if_neg e3];exact h a b hab hbi e1
def AZ(L:List Nat)(i:Nat):Prop:=∀a b,a<b->b<i->L.getD a 0<=L.getD b 0
theorem BJ(h:AZ L i):HU L i i:=λa b hab hbi hne=>h a b hab Nr
theorem zS(h:HU L i j)(hle:j=0\/L.getD (j-1) 0<=L.getD j 0):AZ L (i+1):=by
 intro a b hab hbi;by_cases e:b=j
 ·subst e;rcases hle with h0|hle
  ·omega
  ·by_cases e2:a=b-1
   ·subst e2;exact hle
   ·exact Nat.le_trans (h a (b-1) Nr Nr Nr) hle
 ·exact h a b hab Nr e
theorem swap_perm(hj:j<L.length)(hk:k<L.length):((L.set j (L.getD k 0)).set k (L.getD j 0)).Perm L:=by
 have e1:L.getD k 0=L[k]:=NC;have e2:L.getD j 0=L[j]:=by simp[hj]
 rw[e1,e2];exact List.set_set_perm hj hk
def jd(L:List Nat)(k:Nat):Nat:=L.countP λx=>decide (k<=x)
theorem BW{L':List Nat}(h:L.Perm L')(k:Nat):jd L k=jd L' k:=h.countP_eq _
theorem FQ{f:Nat}(hs:AZ L L.length)(hf:1<=f)(hfn:f<=L.length):f<=jd L k↔k<=L.getD (L.length-f) 0:=by
 have hsp:jd L k=jd (L.take (L.length-f)) k+jd (L.drop (L.length-f)) k:=by unfold jd;rw[<-List.countP_append,List.take_append_drop]
 have hlen:(L.drop (L.length-f)).length=f:=Oi;constructor
 ·intro h;apply Classical.byContradiction;intro hn;have h1:jd (L.take (L.length-f)) k=0:=by
   unfold jd;rw[List.countP_eq_zero];intro x hx;obtain⟨i,hi,rfl⟩:=List.mem_iff_getElem.1 hx;rw[List.length_take]at hi;have:=hs i (L.length-f) Nr Nr;simp only[List.getElem_take,decide_eq_true_eq];have e:L.getD i 0=L[i]:=by rw[List.getD_eq_getElem?_getD,List.getElem?_eq_getElem Nr];rfl
   rw[e]at this;omega
  have h2:jd (L.drop (L.length-f)) k<f:=by
   have hd:=List.drop_eq_getElem_cons (l:=L) (i:=L.length-f) Nr;have e:L.getD (L.length-f) 0=L[L.length-f]:=by rw[List.getD_eq_getElem?_getD,List.getElem?_eq_getElem Nr];rfl
   unfold jd;rw[hd,List.countP_cons_of_neg (by simp only[decide_eq_true_eq];omega)];refine Nat.lt_of_le_of_lt List.countP_le_length ?_;rw[List.length_drop];omega
  omega
 ·intro h;have h2:jd (L.drop (L.length-f)) k=f:=by
   unfold jd;rw[List.countP_eq_length.2,hlen];intro x hx;obtain⟨i,hi,rfl⟩:=List.mem_iff_getElem.1 hx;rw[hlen]at hi;simp only[List.getElem_drop,decide_eq_true_eq];have e:L.getD (L.length-f+i) 0=L[L.length-f+i]:=by rw[List.getD_eq_getElem?_getD,List.getElem?_eq_getElem Nr];rfl
   rw[<-e];by_cases h0:i=0
   ·subst h0;simpa using h
   ·exact Nat.le_trans h (hs _ _ Nr Nr)
  omega
theorem DE(hk:1<=k)(hl:P.told.length=P.n)(hm:P.me<P.n):lv P k=jd (P.told.set P.me 0) k:=by
 unfold lv jd;have h1:(P.told.set P.me 0)=(List.range P.n).map λi=>if i=P.me then 0 else P.told.getD i 0:=by
  apply List.ext_getElem
  ·simp[hl]
  ·intro i h1 h2;simp only[List.length_set]at h1;simp only[List.getElem_set,List.getElem_map,List.getElem_range];by_cases e:i=P.me
   ·simp[e]
   ·rw[if_neg (λe'=>e e'.symm),if_neg e,List.getD_eq_getElem?_getD,List.getElem?_eq_getElem h1];rfl
 rw[h1,List.countP_map,List.countP_eq_length_filter];congr 1;apply List.filter_congr;intro i hi;simp only[Function.comp];by_cases e:i=P.me
 ·simp[e];omega
 ·simp[e]
theorem As{P:PR}{v:Nat}(hv:∀k,1<=k->(P.F<=lv P k↔k<=v)):∀(n k b:Nat),1<=k->gV P n k b=if k<=v/\0<n then min v (k+n-1) else b
 |0,k,b,_=>by simp[gV]
 | n+1,k,b,hk=>by
   rw[gV,As hv n (k+1) _ Nr];by_cases h:k<=v
   ·rw[if_pos (show k<=v/\0<n+1 from⟨h,Nr⟩),if_pos ((hv k hk).2 h)];by_cases h2:k+1<=v/\0<n
    ·rw[if_pos h2];omega
    ·rw[if_neg h2];omega
   ·rw[if_neg (show¬(k<=v/\0<n+1) from λx=>h x.1),if_neg (show¬(k+1<=v/\0<n) from λx=>h Nr),if_neg (λx=>h ((hv k hk).1 x))]
theorem BV:aq P (min k P.op)=aq P k\/P.op<P.cm:=by
 by_cases h:P.op<P.cm
 ·exact .inr h
 ·left;unfold aq;congr 1
  unfold PR.todo
  by_cases h2:k<=P.op
  ·rw[Nat.min_eq_left h2]
  ·rw[Nat.min_eq_right Nr];unfold PR.op at *;rw[List.take_of_length_le (i:=k-P.cm) Nu];by_cases h3:P.bs<=P.cm
   ·rw[List.take_of_length_le Nu]
   ·rw[show P.cm-P.bs=0 by omega,List.drop_zero];rw[List.take_of_length_le Nr]
theorem Ak{v:Nat}(hb:P.bs<=P.cm)(hc:P.cm<=P.op)(hv:∀k,1<=k->(P.F<=lv P k↔k<=v)):aq P (gV P (P.op-P.cm) (P.cm+1) 0)=aq P v:=by
 rw[As hv _ _ _ Nr];by_cases h:P.cm+1<=v/\0<P.op-P.cm
 ·rw[if_pos h,show P.cm+1+(P.op-P.cm)-1=P.op by omega];rcases BV (P:=P) (k:=v) with h1|h1
  ·exact h1
  ·omega
 ·rw[if_neg h,iO hb Nr,iO hb Nr]
end Vr
namespace Go.Tm
open Vr
variable{E:Env}{h:ag}{b i:Nat}{L:List Nat}{rest:List Value}{fx:Bool}
structure PB(E:Env)(h h':ag)(b:Nat)(o:bz):Prop where
 get:h'.get b=some o
 oth:∀j p,j≠b->h.get j=some p->h'.get j=some p
 next:h'.next=h.next
 wf:WF E h'
theorem PB.refl{o:bz}(hW:WF E h)(hb:h.get b=some o):PB E h h b o:=⟨hb,λ_ _ _ x=>x,rfl,hW⟩
theorem PB.put{E:Env}{h h':ag}{b:Nat}{o o':bz}(a:PB E h h' b o):PB E h (h'.put b o') b o' :=
 ⟨ND,λj p hj hg=>by rw[ai,if_neg (λe=>hj e.symm)];exact a.oth j p hj hg,by simpa using a.next,a.wf.put a.get⟩
theorem Jw{P:Program}{t:TypeId}{s:ByteArray}{k:IntKind}{i:Int}{d:Option Nat}{R:bl}{tm:Tr Value}(hu:P.underlying t=some .string)(h0:0<=i)(hi:i.toNat<s.data.toList.length)(K:∀b:Nat,b<256->R (du tm d (.int .u8 (b:Int))) h):bY (oP P t (.string s) (.int k i)) d R tm h:=by refine⟨.int .u8 ((s.data.toList[i.toNat]).toNat:Int),?_,K _ (UInt8.toNat_lt _)⟩;unfold oP;rw[hu];simp only;rw[if_pos h0,List.getElem?_eq_getElem hi]
theorem qH:∀(L:List Nat),(bT L).all Value.oneCell'=true
 |[]=>rfl
 | x::L=>by
   have:=qH L;unfold bT at this|-;rw[List.map_cons,List.all_cons,this];rfl
theorem Ft(L:List Nat):(bT L).length=L.length:=by simp[bT]
theorem fV(hW:WF E h){e:Nat}(hb:h.get b=some (.cells (bT L++rest) e fx))(hi:i<L.length):cg E h ⟨b,i,none⟩ 1=some [iv (L.getD i 0)]:=by unfold cg;simp only[hb];rw[if_neg (by have:=hW.nlt hb;simpa using this),if_pos PW];rw[List.drop_append_of_le_length PW,List.take_append_of_le_length PW];unfold bT;rw[<-List.map_drop,List.drop_eq_getElem_cons hi,List.getD_eq_getElem?_getD,List.getElem?_eq_getElem hi];rfl
theorem iw{x:Nat}{e:Nat}(hb:h.get b=some (.cells (bT L++rest) e fx))(hi:i<L.length):bQ h ⟨b,i,none⟩ [iv x]=some (h.put b (.cells (bT (L.set i x)++rest) e fx)):=by simp only[bQ,hb];rw[if_pos ⟨PW,rfl⟩];congr 3;unfold bJ bT;simp only[List.length_singleton];rw[List.take_append_of_le_length Nu,List.drop_append_of_le_length Nu,List.set_eq_take_append_cons_drop,if_pos Pn];simp
end Go.Tm
namespace Go.Proofs.YthbjaiilnkakcaaGreatDoor
open Go.Tm Vr
variable{b n:Nat}{L:List Nat}{rest:List Value}{fx:Bool}
variable{E:Env}(hE:EOk E)
include hE
theorem HS{h:ag}(a:Nat):af E 128 [iv a] h λv h'=>v=.bool false/\h'=h:=by refine en hE Tryz.func128 rfl rfl Tryz.ntmps128 rfl Nv (rs:=[.tmp 2]) rfl ?_;have hb:((a:Int) != (a:Int))=false:=Nw;simp only[push_cast,seval,hb]
theorem Js{h:ag}(a b:Nat):af E 115 [iv a,iv b] h λv h'=>v=.bool (decide (a<b))/\h'=h:=by refine en hE Tryz.func115 rfl rfl Tryz.ntmps115 rfl Nv (rs:=[.tmp 4]) rfl ?_;simp only[push_cast,seval];refine(HS hE a).mono ?_;rintro v h' ⟨rfl,rfl⟩;simp only[push_cast,seval];congr 1;exact decide_eq_decide.2 Nr
section
variable{h:ag}(hW:WF E h)
include hW
theorem xq{c:Nat}(hb:h.get b=some (.cells (bT L++rest) 3 fx))(hl:L.length=n)(hn:1<=n/\n<=7)(hc:n<=c) :
 af E 109 [.slice (some ⟨b,0,none⟩) n c,iv 0,iv n] h λv h'=>v=.tuple #[]/\∃L',L'.Perm L/\AZ L' L'.length/\PB E h h' b (.cells (bT L'++rest) 3 fx):=by
 refine en hE Tryz.func109 rfl rfl Tryz.ntmps109 rfl Nv (rs:=[]) rfl ?_;simp only[push_cast,seval,eM];refine bG (λk tm h2=>∃i L1,k=n-i/\1<=i/\i<=n/\L1.Perm L/\AZ L1 i/\PB E h h2 b (.cells (bT L1++rest) 3 fx)/\aj tm 0=.slice (some ⟨b,0,none⟩) n c/\aj tm 1=iv 0/\aj tm 2=iv n/\aj tm 6=iv i) (n-1) ?_ ?_
 ·simp only[push_cast,seval];exact⟨1,L,rfl,Nr,Nr,List.Perm.refl _,λa b hab hb=>Nr,PB.refl hW hb,rfl⟩
 ·rintro k tm h2 ⟨i,L1,rfl,hi1,hin,hp,hs,hh2,f0,f1,f2,f6⟩;simp only[push_cast,seval,f2,f6];by_cases hlt:i<n
  ·have hb1:decide ((i:Int)<(n:Int))=true:=Nu;simp only[push_cast,seval,eM,f6,hb1];refine bG (λk tm h3=>∃j L2,k=j/\j<=i/\L2.Perm L/\HU L2 i j/\PB E h h3 b (.cells (bT L2++rest) 3 fx)/\aj tm 0=.slice (some ⟨b,0,none⟩) n c/\aj tm 1=iv 0/\aj tm 2=iv n/\aj tm 6=iv i/\aj tm 7=iv j) i ?_ ?_
   ·simp only[push_cast,seval,f0,f1,f2,f6];exact⟨i,L1,rfl,Nr,hp,BJ hs,hh2,rfl⟩
   ·rintro k tm h3 ⟨j,L2,rfl,hji,hp2,hs2,pb,f0,f1,f2,f6,f7⟩;have hl2:L2.length=n:=by rw[hp2.length_eq];exact hl
    have hg:=pb.get;have hW3:=pb.wf;by_cases hj0:k=0
    ·subst hj0;refine ax Nt ?_;simp only[push_cast,seval,f0,f1,f2,f6,f7];exact⟨n-(i+1),Nr,i+1,L2,rfl,Nr,Nr,hp2,zS hs2 (.inl rfl),pb,bk Nr⟩
    ·obtain⟨j,hjk⟩:∃j,k=j+1:=⟨k-1,Nr⟩;have hb2:decide ((0:Int)<(k:Int))=true:=Nu;have hw:(Value.int .i64 (IntKind.i64.wrap ((k:Int)-1)))=.int .i64 ((j:Nat):Int):=OU;have r1:=fV hW3 hg (i:=k) Nr;have r0:=fV hW3 hg (i:=j) Nr;refine ax Nt ?_;simp only[push_cast,seval,hE.P,f0,f1,f7,hb2];rw[jQ rfl Nr Nr,ab];simp only[push_cast,seval,hE.P,f0,f7,Nat.zero_add,↓r1,Int.toNat_natCast];rw[hw,jQ rfl Nr Nr,ab];simp only[push_cast,seval,hE.P,Nat.zero_add,↓r0,Int.toNat_natCast];refine(Js hE _ _).mono ?_;intro v h5 hvh;rw[hvh.1,hvh.2];clear hvh;by_cases hls:L2.getD k 0<L2.getD j 0
     ·have hb3:decide (L2.getD k 0<L2.getD j 0)=true:=by simpa using hls
      simp only[push_cast,seval,eM,hb3];refine ax Nt ?_;have w1:=iw hg (i:=k) (x:=L2.getD j 0) Nr;have pb1:=pb.put (o':=.cells (bT (L2.set k (L2.getD j 0))++rest) 3 fx);have w2:=iw pb1.get (i:=j) (x:=L2.getD k 0) Nu;have pb2:=pb1.put (o':=.cells (bT ((L2.set k (L2.getD j 0)).set j (L2.getD k 0))++rest) 3 fx);simp only[push_cast,seval,hE.P,f0,f7];rw[hw,jQ rfl Nr Nr,ab];simp only[push_cast,seval,hE.P,f0,f7,Nat.zero_add,↓r0,Int.toNat_natCast];rw[jQ rfl Nr Nr,ab];simp only[push_cast,seval,hE.P,Nat.zero_add,↓r1,Int.toNat_natCast];rw[jQ rfl Nr Nr,ab];simp only[push_cast,seval,hE.P,Nat.zero_add,↓w1,ey,Int.toNat_natCast];rw[jQ rfl Nr Nr,ab];simp only[push_cast,seval,hE.P,f0,f1,f2,f6,f7,Nat.zero_add,↓w2,ey,Int.toNat_natCast];rw[hw];refine⟨j,Nr,j,_,rfl,Nr,(swap_perm Nr Nr).trans hp2,?_,pb.put,rfl⟩;subst hjk;exact Fu hs2 Nr Nr hji hls
     ·have hb3:decide (L2.getD k 0<L2.getD j 0)=false:=by simpa using hls
      simp only[push_cast,seval,f0,f1,f2,f6,hb3];exact⟨n-(i+1),Nr,i+1,L2,rfl,Nr,Nr,hp2,zS hs2 (.inr (by rw[show k-1=j by omega];omega)),pb,bk Nr⟩
  ·have hb1:decide ((i:Int)<(n:Int))=false:=Nu;have he:i=n:=Nr;subst he;simp only[push_cast,seval,hb1];have hl1:L1.length=i:=by rw[hp.length_eq];exact hl
   exact⟨L1,hp,by rw[hl1];exact hs,hh2⟩
theorem Kp(hn:n=3\/n=5\/n=7):af E 102 [.int .u64 n] h λv h'=>(∃k:Int,v=.int .i64 k)/\h'=h:=by
 have key:af E 119 [.int .u64 n] h λv h'=>(∃k:Int,v=.int .i64 k)/\h'=h:=by
  refine en hE Tryz.func119 rfl rfl Tryz.ntmps119 rfl Nv (rs:=[.tmp 2]) rfl ?_;have h1:decide ((4294967296:Int)<=(n:Int))=false:=Nu;have h2:decide ((65536:Int)<=(n:Int))=false:=Nu;have h3:decide ((256:Int)<=(n:Int))=false:=Nu;simp only[push_cast,seval,hE.P,h1,h2,h3];refine Jw Tryz.underlying9 ?_ ?_ ?_
  ·rcases hn with rfl|rfl|rfl<;>decide +kernel
  ·rcases hn with rfl|rfl|rfl<;>decide +kernel
  ·intro b hb;simp only[push_cast,seval,hE.P];exact⟨_,rfl⟩
 refine en hE Tryz.func102 rfl rfl Tryz.ntmps102 rfl Nv (rs:=[.tmp 2]) rfl ?_;simp only[push_cast,seval];refine key.mono ?_;rintro v h' ⟨⟨k,rfl⟩,rfl⟩;simp only[push_cast,seval];exact⟨_,rfl⟩
theorem Je{c:Nat}(hb:h.get b=some (.cells (bT L++rest) 3 fx))(hl:L.length=n)(hn:n=3\/n=5\/n=7)(hc:n<=c) :
 af E 75 [.slice (some ⟨b,0,none⟩) n c] h λv h'=>v=.tuple #[]/\∃L',L'.Perm L/\AZ L' L'.length/\PB E h h' b (.cells (bT L'++rest) 3 fx):=by
 have key:∀k:Int,af E 101 [.slice (some ⟨b,0,none⟩) n c,iv 0,iv n,.int .i64 k] h λv h'=>v=.tuple #[]/\∃L',L'.Perm L/\AZ L' L'.length/\PB E h h' b (.cells (bT L'++rest) 3 fx):=by
  intro k;refine en hE Tryz.func101 rfl rfl Tryz.ntmps101 rfl Nv (rs:=[]) rfl ?_;simp only[push_cast,seval,eM];refine bG (λk' tm h2=>h2=h/\aj tm 0=.slice (some ⟨b,0,none⟩) n c/\aj tm 1=iv 0/\aj tm 2=iv n) 0 ?_ ?_
  ·simp only[push_cast,seval]
  ·rintro k' tm h2 ⟨rfl,f0,f1,f2⟩;have hw:IntKind.i64.wrap ((n:Int)-0)=(n:Int):=by rw[Int.sub_zero];exact cx (by omega) (by omega)
   have h1:decide ((n:Int)<=12)=true:=Nu;simp only[push_cast,seval,eM,f0,f1,f2,hw,h1];refine(xq hE hW hb hl Nr hc).mono ?_;rintro v h' ⟨rfl,H⟩;simp only[push_cast,seval];exact H
 refine en hE Tryz.func75 rfl rfl Tryz.ntmps75 rfl Nv (rs:=[]) rfl ?_;have hw:IntKind.u64.wrap (n:Int)=(n:Int):=oU Nr Nr;simp only[push_cast,seval,hE.P,hw];refine(Kp hE hW hn).mono ?_;rintro v h' ⟨⟨k,rfl⟩,rfl⟩;simp only[push_cast,seval];refine(key k).mono ?_;rintro v h' ⟨rfl,H⟩;simp only[push_cast,seval];exact H
end
end Go.Proofs.YthbjaiilnkakcaaGreatDoor
