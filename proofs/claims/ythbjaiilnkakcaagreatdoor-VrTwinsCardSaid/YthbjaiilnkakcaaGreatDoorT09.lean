/- Part 9. -/
import Derived.Test.YthbjaiilnkakcaaGreatDoorT08
set_option linter.all false
set_option maxRecDepth 10000
set_option maxHeartbeats 8000000
namespace Go.Proofs.YthbjaiilnkakcaaGreatDoor
open Go.Tm Vr
variable{E:Env}(hE:EOk E)
include hE
section
variable{G:Mem}{h:ag}(hW:WF E h)(hG:Frz E G h){P:PR}{cs:List Value}(hP:PRR E G P cs)
include hW hG hP
theorem zd(z:P.Sz)(hop:P.op<1000000){m:Mg}{ms:List Value}(hm:MgR E G m ms)(hc:m.en.c<=1000000/\m.en.n<=1000000)(hne:∀x,bt P.sv.tab m.en.c=some x->m.en.n≠x.n) :
 af E 58 [.agg cs.toArray,.agg ms.toArray] h λv h'=>∃G' rc' co v2,Ext E G h G' h'/\PRR E G' (request P m).1 rc'/\Fz E G' 17 (request P m).2.length co v2/\bu E G' (request P m).2 co/\v=.tuple #[.agg rc'.toArray,v2]:=by
 have hP0:=hP;have hm0:=hm;obtain⟨a1,c1,a2,c2,a3,c3,a4,c4,a5,c5,a6,c6,a7,c7,ct,cc,ca,hcs,q1,⟨q2,q3,q4⟩,q5,q6,q7,q8⟩:=hP.e;obtain⟨b1,d1,b2,d2,b3,d3,hms,m1,m2,m3⟩:=hm.e;have w0:=hW.b0;subst hcs;subst hms;have zb:=z.bs;have zc:=z.cm;have hll:P.log.length<=P.op:=NH;have hn:1<=P.n/\P.n<=1000:=⟨Ow,Ow⟩;have hvw:P.vw<=1099511627776:=Of;refine en hE Tryz.func58 rfl rfl Tryz.ntmps58 rfl Nv (rs:=[.cell 4 49,.tmp 5]) rfl ?_;simp only[push_cast,seval,hE.z,w0];have k0:=(((KW.refl hW).push (o:=.cells (rCS P a1 c1 a2 c2 a3 c3 a4 c4 a5 c5 a6 c6 a7 c7) 49 true)).push (o:=.cells (mCS m b1 d1 b2 d2 b3 d3) 66 true)).push (o:=.cells zCR 49 true);refine gtm (motive:=dL _ _ _ _) [2,3,4,12,13] λt1 hf=>?_;simp only[push_cast,seval,gz]at hf;obtain⟨f2,f3,f4,f12,f13⟩:=hf;refine cR (motive:=λH=>dL _ _ _ _ _ H) (λH=>KW E h H/\H.get h.next=some (.cells (rCS P a1 c1 a2 c2 a3 c3 a4 c4 a5 c5 a6 c6 a7 c7) 49 true)/\H.get (h.next+1)=some (.cells (mCS m b1 d1 b2 d2 b3 d3) 66 true)/\∃rz,H.get (h.next+1+1)=some (.cells rz 49 true)/\rz.length=18) ⟨k0,NL,NY,_,NO,rfl⟩ ?_;clear k0;rintro H ⟨k0,gR,gM,rz,gZ,hrz⟩;have hd:List.drop 18 rz=[]:=List.drop_eq_nil_iff.2 Nr;have hle:(18<=rz.length)=True:=Nu;have nR:=k0.w.nlt gR;have nM:=k0.w.nlt gM;have nZ:=k0.w.nlt gZ;have lZ:=(k0.w.live _ _ gZ).2;generalize hR:request P m=R;unfold request at hR;by_cases hst:P.st=0
 ·have hb:((P.st:Int) != 0)=false:=NV;simp only[push_cast,seval,hE.z,f2,f13,hb,gR,nR];refine(dH hE k0.w hP0 hn hvw).mono ?_;rintro v H1 ⟨rfl,k1⟩;have gR1:=k1.k.get _ _ gR;have gM1:=k1.k.get _ _ gM;have gZ1:=k1.k.get _ _ gZ;have k01:=k0.trans k1;have e0:=k01.w.ne gR1;have w4:=k01.w.b0;cases hp:P.bF
  ·rw[hp,if_pos (.inr rfl)]at hR;subst hR;simp only[push_cast,seval,hE.z,f2,f4,f13,hb,gR1,nR,gZ1,nZ,hd,hle];exact⟨G,_,[],_,(k01.put Nr (by have:=k1.k.next;omega) hW).ext hG,hP0,Fz.nil,rfl,rfl⟩
  ·rw[hp,if_neg NV]at hR;simp only[push_cast,seval,hE.z,f2,f3,f13,hb,gR1,nR,gM1,nM,e0,w4];have hzL:=z.tab;refine Go.Tm.aO [2,3,4,6] ?_;intro t2 hf;simp only[push_cast,seval,gz,f2,f3,f4]at hf;obtain⟨f2,f3,f4,f6⟩:=hf;have kE:=k01.trans ((KW.refl k01.w).push (o:=.cells [iv m.en.c,iv m.en.n,.string m.en.t] 60 true));have kp:=(gu.refl H1).push (o:=.cells [iv m.en.c,iv m.en.n,.string m.en.t] 60 true) k01.w;have hlt1:h.next+1+1<H1.next:=(k01.w.live _ _ gZ1).2;refine cR (motive:=λH=>af E 92 _ H _) (λH=>KW E h H/\H.get h.next=some (.cells (rCS P a1 c1 a2 c2 a3 c3 a4 c4 a5 c5 a6 c6 a7 c7) 49 true)/\H.get (h.next+1+1)=some (.cells rz 49 true)/\H.get H1.next=some (.cells [iv m.en.c,iv m.en.n,.string m.en.t] 60 true)) ⟨kE,kp.get _ _ gR1,kp.get _ _ gZ1,NI⟩ ?_;clear kE kp;rintro H2 ⟨k2,gR2,gZ2,gE2⟩;refine(pI hE k2.w (hG.aK k2.k) (S:=P.sv) ⟨_,_,_,rfl,q2,q3,q4⟩ m.en.c Nr).mono ?_;rintro v H3 ⟨k3,rr,hrr,rfl⟩;obtain⟨sd,rfl,hsd⟩:=hrr;obtain⟨ra,rb,rfl,_,_⟩:=hsd.slice;have k03:=k2.trans k3;have gR3:=k3.k.get _ _ gR2;have gZ3:=k3.k.get _ _ gZ2;have gE3:=k3.k.get _ _ gE2;have nE:=k03.w.nlt gE3;simp only[push_cast,seval,hE.z];refine gtm (motive:=dL _ _ _ _) [2,3,4,6,7,8,29,30] λt3 hf=>?_;simp only[push_cast,seval,gz,f2,f3,f4,f6]at hf;obtain⟨f2,f3,f4,f6,f7,f8,f29,f30⟩:=hf;have k4:=k03.push (o:=(.cells [iv ((bt P.sv.tab m.en.c).getD ⟨0,0,⟨0,0⟩⟩).c,iv ((bt P.sv.tab m.en.c).getD ⟨0,0,⟨0,0⟩⟩).n,iv ((bt P.sv.tab m.en.c).getD ⟨0,0,⟨0,0⟩⟩).r.e,iv ((bt P.sv.tab m.en.c).getD ⟨0,0,⟨0,0⟩⟩).r.n,.slice ra 0 rb] 116 true));have kp:=(gu.refl H3).push (o:=(.cells [iv ((bt P.sv.tab m.en.c).getD ⟨0,0,⟨0,0⟩⟩).c,iv ((bt P.sv.tab m.en.c).getD ⟨0,0,⟨0,0⟩⟩).n,iv ((bt P.sv.tab m.en.c).getD ⟨0,0,⟨0,0⟩⟩).r.e,iv ((bt P.sv.tab m.en.c).getD ⟨0,0,⟨0,0⟩⟩).r.n,.slice ra 0 rb] 116 true)) k03.w;refine cR (motive:=λH=>dL _ _ _ _ _ H) (λH=>KW E h H/\H.get h.next=some (.cells (rCS P a1 c1 a2 c2 a3 c3 a4 c4 a5 c5 a6 c6 a7 c7) 49 true)/\H.get (h.next+1+1)=some (.cells rz 49 true)/\H.get H1.next=some (.cells [iv m.en.c,iv m.en.n,.string m.en.t] 60 true)/\H.get H3.next=some (.cells [iv ((bt P.sv.tab m.en.c).getD ⟨0,0,⟨0,0⟩⟩).c,iv ((bt P.sv.tab m.en.c).getD ⟨0,0,⟨0,0⟩⟩).n,iv ((bt P.sv.tab m.en.c).getD ⟨0,0,⟨0,0⟩⟩).r.e,iv ((bt P.sv.tab m.en.c).getD ⟨0,0,⟨0,0⟩⟩).r.n,.slice ra 0 rb] 116 true)) ⟨k4,kp.get _ _ gR3,kp.get _ _ gZ3,kp.get _ _ gE3,NI⟩ ?_;clear k4 kp;rintro H4 ⟨k4,gR4,gZ4,gE4,gL4⟩;have nL:=k4.w.nlt gL4;rcases hlv:bt P.sv.tab m.en.c with _|x
   ·simp only[hlv,Option.isSome_none]at hR f8 f29 f30|-;simp only[push_cast,seval,hE.z,f2,f8,f30];have hw:(Value.int .i64 (IntKind.i64.wrap ((P.cm:Int)-(P.bs:Int))))=iv (P.cm-P.bs):=iu Nr zb;simp only[push_cast,seval,hE.z,f2,gR4,nR,hw];refine bG (λk tm h2=>∃i,k=P.log.length-i/\i<=P.log.length/\h2=H4/\aj tm 2=ptr h.next/\aj tm 4=ptr (h.next+1+1)/\aj tm 6=ptr H1.next/\aj tm 9=iv i/\(P.log.drop (P.cm-P.bs)).any (iM m.en)=(P.log.drop i).any (iM m.en)) (P.log.length-(P.cm-P.bs)) ?_ ?_
    ·simp only[push_cast,seval,f2,f4,f6];exact⟨P.cm-P.bs,rfl,Pk,rfl,rfl⟩
    ·rintro k tm h2 ⟨i,rfl,hi,rfl,f2,f4,f6,f9,hq⟩;simp only[push_cast,seval,hE.z,f2,f9,gR4,nR];by_cases hlt:i<P.log.length
     ·have hb1:decide ((i:Int)<(P.log.length:Int))=true:=Nu;obtain⟨lb,lc,e1',hsp,hac⟩:=q1.1.elem (hG.aK k4.k) hlt;injection e1' with e1' _ e3';subst e1';subst e3';rw[eU (List.getElem?_eq_getElem hlt)]at hac;unfold fo at hac;have hac0:=aY hac 0 1 Nr;have hac1:=aY hac 1 1 Nr;simp only[Nat.add_zero,List.drop_zero,List.take_succ_cons,List.take_zero,List.drop_succ_cons]at hac0 hac1;have hdr:=List.drop_eq_getElem_cons hlt;generalize P.log[i]=x at *;simp only[push_cast,seval,hE.z,hb1];refine ax Nt ?_;by_cases hcx:x.c=m.en.c
      ·have hb2:((x.c:Int)==(m.en.c:Int))=true:=by simp[hcx]
       simp only[push_cast,seval,hE.z,f2,f9,gR4,nR];rw[jP hsp Nr Nr,ab];simp only[push_cast,seval,hE.z,f2,f6,f9,gR4,nR,gE4,nE,↓hac0,Int.toNat_natCast,hb2];rw[jP hsp Nr Nr,ab];simp only[push_cast,seval,hE.z,f6,gE4,nE,↓hac1,Int.toNat_natCast];by_cases hnx:m.en.n<=x.n
       ·have hb3:decide ((m.en.n:Int)<=(x.n:Int))=true:=Nu;have hany:(P.log.drop (P.cm-P.bs)).any (iM m.en)=true:=by rw[hq,hdr,List.any_cons];unfold iM;simp[hcx,hnx]
        have hR:(P,[])=R:=OZ;subst hR;simp only[push_cast,seval,hE.z,f2,f4,gR4,nR,gZ4,nZ,hd,hle,hb3];exact⟨G,_,[],_,(k4.put Nr Pq hW).ext hG,hP0,Fz.nil,rfl,rfl⟩
       ·have hb3:decide ((m.en.n:Int)<=(x.n:Int))=false:=Nu;simp only[push_cast,seval,f2,f4,f6,f9,hb3];exact⟨P.log.length-(i+1),Nr,i+1,rfl,Nr,bk Nr,by rw[hq,hdr,List.any_cons];unfold iM;simp[hnx]⟩
      ·have hb2:((x.c:Int)==(m.en.c:Int))=false:=Nu;simp only[push_cast,seval,hE.z,f2,f9,gR4,nR];rw[jP hsp Nr Nr,ab];simp only[push_cast,seval,hE.z,f2,f4,f6,f9,gE4,nE,↓hac0,Int.toNat_natCast,hb2];exact⟨P.log.length-(i+1),Nr,i+1,rfl,Nr,bk Nr,by rw[hq,hdr,List.any_cons];unfold iM;simp[hcx]⟩
     ·have hb1:decide ((i:Int)<(P.log.length:Int))=false:=Nu;have he:i=P.log.length:=Nr;subst he;rw[List.drop_length]at hq;have hR:({P with log:=P.log++[m.en]},PR.allM {P with log:=P.log++[m.en]} {k:=2,vw:=P.vw,op:=PR.op {P with log:=P.log++[m.en]},cm:=P.cm,en:=m.en})=R:=by rw[<-hR,if_neg];intro hc;have:(P.log.drop (P.cm-P.bs)).any (iM m.en)=true:=hc;rw[hq]at this;cases this
      subst hR;simp only[push_cast,seval,hb1];refine gtA [2,4,6] λt5 hf=>?_;simp only[push_cast,seval,gz,f2,f4,f6]at hf;obtain⟨f2,f4,f6⟩:=hf;refine dE [(0,[0]),(2,[0]),(4,[0,4])] [3,5,6,8] [(5,[4])] [(0,(94,[0])),(1,(95,[1])),(2,(96,[2,1])),(3,(97,[3,0,1,2])),(4,(98,[4])),(5,(99,[5,4])),(6,(100,[6,0,1,2,3,4,5])),(7,(101,[7,0,1,2,3,4,5,6]))] [0,1,2,3,4,5,6,7,8] Nt Nt Nt Nt Nt Nv rfl ?_;simp only[push_cast,seval,hE.z,f2,gR4,nR];refine(iq hE k4.w hP0 (hG.aK k4.k) (k:=P.bs) ⟨Nat.le_refl _,Nr⟩ Nr).mono ?_;rintro v5 H5 ⟨o5,k5⟩;have hlg:dv P P.bs=P.log:=Oe;have hln:P.op-P.bs=P.log.length:=NH;rw[hlg,hln]at o5;obtain⟨va,vc,rfl,_⟩:=o5.fh;have gE5:=k5.k.get _ _ gE4;have hn5:=k5.k.next;have lR4:=(k4.w.live _ _ gR4).2;have lE4:=(k4.w.live _ _ gE4).2;simp only[push_cast,seval,hE.z,f6,gE5,nE];rw[qS rfl,aR];simp only[push_cast,seval];refine eZ (jS hE.P) k5.w (lo:=h2.next) hn5 o5 rfl rfl Nr Nr ?_;intro v6 H6 aA hnx6;obtain⟨ua,uc,rfl⟩:=aA.sl;have k6:=k5.app k4.w o5 aA;have o6:=aA.own;have k46:=k4.trans k6;have gR6:=k6.k.get _ _ gR4;have gZ6:=k6.k.get _ _ gZ4;have gE6:=k6.k.get _ _ gE4;simp only[push_cast,seval,hE.z,f2,gR6];have sv5:=o5.sc k5.w;have sv6:=o6.sc k6.w;have sa:∀(a:Option Addr) (n c m m':Nat),Go.Tm.sc m (.slice a n c)=true->m<=m'->Go.Tm.sc m' (.slice a n c)=true:=by
       intro a n c m m' h1 h2
       cases a with
       |none=>rfl
       |some x=>have:=gI h1 x rfl;simp[Go.Tm.sc];omega
      have s1:=q1.1.sc k4.w (hG.aK k4.k);have s2:=q2.1.sc k4.w (hG.aK k4.k);have s3:=q3.1.sc k4.w (hG.aK k4.k);have s4:=q5.1.sc k4.w (hG.aK k4.k);have s5:=q6.1.sc k4.w (hG.aK k4.k);have s6:=q7.1.1.sc k4.w (hG.aK k4.k);have s7:=q8.1.1.sc k4.w (hG.aK k4.k);refine⟨⟨?_,?_,?_,?_,?_⟩,?_⟩
      ·omega
      ·simp only[push_cast,seval,hE.z,f2,f6,gR4,nR,gE5,nE,gE4,jo,aV,bp,aU,aW,ba,bn,dq]
      ·simp only[push_cast,seval,jx,Op.operands,ef,jJ,Go.Tm.sc,scA,scL];rw[s1,s2,s3,s4,s5,s6,s7];exact⟨rfl,⟨sa _ _ _ _ _ sv5 Nr,Nw⟩,Nu,sv6⟩
      ·simp only[push_cast,seval,hE.z,aOk,gH];rw[qS rfl];exact⟨_,rfl,rfl⟩
      ·simp only[push_cast,seval,dOk];refine⟨?_,dU 0 Nr lR4,rfl,cV 4 Nz sv5,?_,eW (K:=5) Nz (Nat.le_refl _) (Nat.lt_succ_self _),cV 7 Nz sv6,dU 0 Nr lR4⟩
       ·unfold scQ iK;simp only[iJ,List.forall_mem_cons,List.not_mem_nil,false_implies,implies_true,and_true];exact⟨rfl,rfl,rfl,rfl,rfl,rfl,rfl,rfl,cV 0 Nr s1,rfl,cV 0 Nr s2,rfl,cV 0 Nr s3,cV 0 Nr s4,cV 0 Nr s5,rfl,cV 0 Nr s6,cV 0 Nr s7⟩
       ·rfl
      ·have hop':PR.op {P with log:=P.log++[m.en]}=P.op+1:=Oc
       have hgn:∀b,h.next<=b->G b=none:=λb hb=>by
        cases hg:G b with
        |none=>rfl
        |some c =>obtain⟨e,fx,hh⟩:=hG b c hg;have:=(hW.live _ _ hh).2;omega
       obtain⟨G',z',x',s',g'⟩:=(k46.ext hG).iY (o6.low (lo':=h.next) (by have:=k4.k.next;omega))
       have hnn:∀b,h.next<=b->b<h2.next->G' b=none:=λb hb hb2=>by
        cases hg:G' b with
        |none=>rfl
        | some c =>
          rcases g' _ _ hg with h5|h5
          ·rw[hgn b hb]at h5;cases h5
          ·have:=(o6.lt k6.w _ h5).1;omega
       have zP:PRR E G' {P with log:=P.log++[m.en]} (rC {P with log:=P.log++[m.en]} (.slice ua (P.log.length+1) uc) (.slice a2 P.sv.l.length c2) (.slice a3 P.sv.tab.length c3) (.slice a4 P.told.length c4) (.slice a5 P.aG.length c5) (.slice a6 P.aH.length c6) (.slice a7 P.ans.length c7)):=by refine PRR.of (P:={P with log:=P.log++[m.en]}) ?_ (q2.sub s') (q3.sub s') (q4.sub s') (q5.sub s') (q6.sub s') ⟨q7.1.sub s',q7.2.sub s'⟩ ⟨q8.1.sub s',q8.2.sub s'⟩;rw[fk,List.length_append];simpa[cq,fo] using z'
       have x6:=x'.put hW (o:=.cells (rC {P with log:=P.log++[m.en]} (.slice ua (P.log.length+1) uc) (.slice a2 P.sv.l.length c2) (.slice a3 P.sv.tab.length c3) (.slice a4 P.told.length c4) (.slice a5 P.aG.length c5) (.slice a6 P.aH.length c6) (.slice a7 P.ans.length c7)) 49 true) (Nat.le_refl _) (hnn _ (Nat.le_refl _) lR4) gR6;have lZ4:=(k4.w.live _ _ gZ4).2;refine gtA [2,4,6] λt6 hf=>?_;simp only[push_cast,seval,gz,f2,f4,f6]at hf;obtain⟨f2,f4,f6⟩:=hf;refine cR (motive:=λH=>aF E _ _ _ H) (λH=>Ext E G h G' H/\H.get h.next=some (.cells (rC {P with log:=P.log++[m.en]} (.slice ua (P.log.length+1) uc) (.slice a2 P.sv.l.length c2) (.slice a3 P.sv.tab.length c3) (.slice a4 P.told.length c4) (.slice a5 P.aG.length c5) (.slice a6 P.aH.length c6) (.slice a7 P.ans.length c7)) 49 true)/\H.get (h.next+1+1)=some (.cells rz 49 true)/\H.get H1.next=some (.cells [iv m.en.c,iv m.en.n,.string m.en.t] 60 true)) ⟨x6,ND,by rw[ai,if_neg (by omega)];exact gZ6,by rw[ai,if_neg (by omega)];exact gE6⟩ ?_;clear x6;rintro H7 ⟨x7,gR7,gZ7,gE7⟩;have hopq:=dK hE x7.wf zP (by show P.bs<=_;omega) Nu;refine aB [(0,5),(0,10),(1,5),(3,5),(7,5),(8,5)] Nt Nt Nt ?_;simp only[push_cast,seval,hE.z,f2,gR7,nR];refine hopq.mono ?_;rintro v8 H8 ⟨rfl,k8⟩;have gR8:=k8.k.get _ _ gR7;have gZ8:=k8.k.get _ _ gZ7;have gE8:=k8.k.get _ _ gE7;have x8:=x7.kw k8;simp only[push_cast,seval,hE.z,f2,f6,nR,nE,gR8,gE8];refine(jM hE x8.wf zP x8.frz OS (m:={k:=2,vw:=P.vw,op:=PR.op {P with log:=P.log++[m.en]},cm:=P.cm,en:=m.en}) ⟨_,_,_,rfl,Fz.nil,Fz.nil,Fz.nil⟩).mono ?_;rintro v9 H9 ⟨co,o9,m9,k9⟩;have gR9:=k9.k.get _ _ gR8;have gZ9:=k9.k.get _ _ gZ8;have x9:=x8.kw k9;obtain⟨G'',z'',x'',s'',g''⟩:=x9.iY (o9.low (lo':=h.next) x8.aK.next);have hnn2:G'' (h.next+1+1)=none:=by
        cases hg:G'' (h.next+1+1) with
        |none=>rfl
        | some c =>
          rcases g'' _ _ hg with h5|h5
          ·rw[hnn _ Nr Nr]at h5;cases h5
          ·have:=(o9.lt k9.w _ h5).1;have:=(x8.wf.live _ _ gZ8).2;omega
       have x10:=x''.put hW (o:=.cells (rC {P with log:=P.log++[m.en]} (.slice ua (P.log.length+1) uc) (.slice a2 P.sv.l.length c2) (.slice a3 P.sv.tab.length c3) (.slice a4 P.told.length c4) (.slice a5 P.aG.length c5) (.slice a6 P.aH.length c6) (.slice a7 P.ans.length c7)) 49 true) Nr hnn2 gZ9;simp only[push_cast,seval,hE.z,f2,f4,f6,gR7,nR,gE7,nE,gR8,gE8,gR9,gZ9,nZ,hd,hle,bp,aU,aW,ba,bn,aV,dq];exact⟨G'',_,co,v9,x10,zP.sub s'',z'',m9.sub s'',rfl⟩
   ·simp only[hlv,Option.isSome_some,Option.getD_some]at hR gL4 f8 f29 f30|-;have hxn:=hne x hlv;have hb5:((m.en.n:Int)==(x.n:Int))=false:=Nu;by_cases hlx:m.en.n<x.n
    ·have hb4:decide ((m.en.n:Int)<(x.n:Int))=true:=Nu;rw[if_pos hlx]at hR;subst hR;simp only[push_cast,seval,hE.z,f2,f4,f6,f7,f30,gE4,nE,gL4,nL,hb4,gR4,nR,gZ4,nZ,hd,hle];exact⟨G,_,[],_,(k4.put Nr Pq hW).ext hG,hP0,Fz.nil,rfl,rfl⟩
    ·have hb4:decide ((m.en.n:Int)<(x.n:Int))=false:=Nu;rw[if_neg hlx,if_neg hxn]at hR;clear hlx hxn hlv;simp only[push_cast,seval,hE.z,f2,f6,f7,f8,f30,gE4,nE,gL4,nL,hb4,hb5];have hw:(Value.int .i64 (IntKind.i64.wrap ((P.cm:Int)-(P.bs:Int))))=iv (P.cm-P.bs):=iu Nr zb;simp only[push_cast,seval,hE.z,f2,gR4,nR,hw];refine bG (λk tm h2=>∃i,k=P.log.length-i/\i<=P.log.length/\h2=H4/\aj tm 2=ptr h.next/\aj tm 4=ptr (h.next+1+1)/\aj tm 6=ptr H1.next/\aj tm 9=iv i/\(P.log.drop (P.cm-P.bs)).any (iM m.en)=(P.log.drop i).any (iM m.en)) (P.log.length-(P.cm-P.bs)) ?_ ?_
     ·simp only[push_cast,seval,f2,f4,f6];exact⟨P.cm-P.bs,rfl,Pk,rfl,rfl⟩
     ·rintro k tm h2 ⟨i,rfl,hi,rfl,f2,f4,f6,f9,hq⟩;simp only[push_cast,seval,hE.z,f2,f9,gR4,nR];by_cases hlt:i<P.log.length
      ·have hb1:decide ((i:Int)<(P.log.length:Int))=true:=Nu;obtain⟨lb,lc,e1',hsp,hac⟩:=q1.1.elem (hG.aK k4.k) hlt;injection e1' with e1' _ e3';subst e1';subst e3';rw[eU (List.getElem?_eq_getElem hlt)]at hac;unfold fo at hac;have hac0:=aY hac 0 1 Nr;have hac1:=aY hac 1 1 Nr;simp only[Nat.add_zero,List.drop_zero,List.take_succ_cons,List.take_zero,List.drop_succ_cons]at hac0 hac1;have hdr:=List.drop_eq_getElem_cons hlt;generalize P.log[i]=x at *;simp only[push_cast,seval,hE.z,hb1];refine ax Nt ?_;by_cases hcx:x.c=m.en.c
       ·have hb2:((x.c:Int)==(m.en.c:Int))=true:=by simp[hcx]
        simp only[push_cast,seval,hE.z,f2,f9,gR4,nR];rw[jP hsp Nr Nr,ab];simp only[push_cast,seval,hE.z,f2,f6,f9,gR4,nR,gE4,nE,↓hac0,Int.toNat_natCast,hb2];rw[jP hsp Nr Nr,ab];simp only[push_cast,seval,hE.z,f6,gE4,nE,↓hac1,Int.toNat_natCast];by_cases hnx:m.en.n<=x.n
        ·have hb3:decide ((m.en.n:Int)<=(x.n:Int))=true:=Nu;have hany:(P.log.drop (P.cm-P.bs)).any (iM m.en)=true:=by rw[hq,hdr,List.any_cons];unfold iM;simp[hcx,hnx]
         have hR:(P,[])=R:=OZ;subst hR;simp only[push_cast,seval,hE.z,f2,f4,gR4,nR,gZ4,nZ,hd,hle,hb3];exact⟨G,_,[],_,(k4.put Nr Pq hW).ext hG,hP0,Fz.nil,rfl,rfl⟩
        ·have hb3:decide ((m.en.n:Int)<=(x.n:Int))=false:=Nu;simp only[push_cast,seval,f2,f4,f6,f9,hb3];exact⟨P.log.length-(i+1),Nr,i+1,rfl,Nr,bk Nr,by rw[hq,hdr,List.any_cons];unfold iM;simp[hnx]⟩
       ·have hb2:((x.c:Int)==(m.en.c:Int))=false:=Nu;simp only[push_cast,seval,hE.z,f2,f9,gR4,nR];rw[jP hsp Nr Nr,ab];simp only[push_cast,seval,hE.z,f2,f4,f6,f9,gE4,nE,↓hac0,Int.toNat_natCast,hb2];exact⟨P.log.length-(i+1),Nr,i+1,rfl,Nr,bk Nr,by rw[hq,hdr,List.any_cons];unfold iM;simp[hcx]⟩
      ·have hb1:decide ((i:Int)<(P.log.length:Int))=false:=Nu;have he:i=P.log.length:=Nr;subst he;rw[List.drop_length]at hq;have hR:({P with log:=P.log++[m.en]},PR.allM {P with log:=P.log++[m.en]} {k:=2,vw:=P.vw,op:=PR.op {P with log:=P.log++[m.en]},cm:=P.cm,en:=m.en})=R:=by rw[<-hR,if_neg];intro hc;have:(P.log.drop (P.cm-P.bs)).any (iM m.en)=true:=hc;rw[hq]at this;cases this
       subst hR;simp only[push_cast,seval,hb1];refine gtA [2,4,6] λt5 hf=>?_;simp only[push_cast,seval,gz,f2,f4,f6]at hf;obtain⟨f2,f4,f6⟩:=hf;refine dE [(0,[0]),(2,[0]),(4,[0,4])] [3,5,6,8] [(5,[4])] [(0,(94,[0])),(1,(95,[1])),(2,(96,[2,1])),(3,(97,[3,0,1,2])),(4,(98,[4])),(5,(99,[5,4])),(6,(100,[6,0,1,2,3,4,5])),(7,(101,[7,0,1,2,3,4,5,6]))] [0,1,2,3,4,5,6,7,8] Nt Nt Nt Nt Nt Nv rfl ?_;simp only[push_cast,seval,hE.z,f2,gR4,nR];refine(iq hE k4.w hP0 (hG.aK k4.k) (k:=P.bs) ⟨Nat.le_refl _,Nr⟩ Nr).mono ?_;rintro v5 H5 ⟨o5,k5⟩;have hlg:dv P P.bs=P.log:=Oe;have hln:P.op-P.bs=P.log.length:=NH;rw[hlg,hln]at o5;obtain⟨va,vc,rfl,_⟩:=o5.fh;have gE5:=k5.k.get _ _ gE4;have hn5:=k5.k.next;have lR4:=(k4.w.live _ _ gR4).2;have lE4:=(k4.w.live _ _ gE4).2;simp only[push_cast,seval,hE.z,f6,gE5,nE];rw[qS rfl,aR];simp only[push_cast,seval];refine eZ (jS hE.P) k5.w (lo:=h2.next) hn5 o5 rfl rfl Nr Nr ?_;intro v6 H6 aA hnx6;obtain⟨ua,uc,rfl⟩:=aA.sl;have k6:=k5.app k4.w o5 aA;have o6:=aA.own;have k46:=k4.trans k6;have gR6:=k6.k.get _ _ gR4;have gZ6:=k6.k.get _ _ gZ4;have gE6:=k6.k.get _ _ gE4;simp only[push_cast,seval,hE.z,f2,gR6];have sv5:=o5.sc k5.w;have sv6:=o6.sc k6.w;have sa:∀(a:Option Addr) (n c m m':Nat),Go.Tm.sc m (.slice a n c)=true->m<=m'->Go.Tm.sc m' (.slice a n c)=true:=by
        intro a n c m m' h1 h2
        cases a with
        |none=>rfl
        |some x=>have:=gI h1 x rfl;simp[Go.Tm.sc];omega
       have s1:=q1.1.sc k4.w (hG.aK k4.k);have s2:=q2.1.sc k4.w (hG.aK k4.k);have s3:=q3.1.sc k4.w (hG.aK k4.k);have s4:=q5.1.sc k4.w (hG.aK k4.k);have s5:=q6.1.sc k4.w (hG.aK k4.k);have s6:=q7.1.1.sc k4.w (hG.aK k4.k);have s7:=q8.1.1.sc k4.w (hG.aK k4.k);refine⟨⟨?_,?_,?_,?_,?_⟩,?_⟩
       ·omega
       ·simp only[push_cast,seval,hE.z,f2,f6,gR4,nR,gE5,nE,gE4,jo,aV,bp,aU,aW,ba,bn,dq]
       ·simp only[push_cast,seval,jx,Op.operands,ef,jJ,Go.Tm.sc,scA,scL];rw[s1,s2,s3,s4,s5,s6,s7];exact⟨rfl,⟨sa _ _ _ _ _ sv5 Nr,Nw⟩,Nu,sv6⟩
       ·simp only[push_cast,seval,hE.z,aOk,gH];rw[qS rfl];exact⟨_,rfl,rfl⟩
       ·simp only[push_cast,seval,dOk];refine⟨?_,dU 0 Nr lR4,rfl,cV 4 Nz sv5,?_,eW (K:=5) Nz (Nat.le_refl _) (Nat.lt_succ_self _),cV 7 Nz sv6,dU 0 Nr lR4⟩
        ·unfold scQ iK;simp only[iJ,List.forall_mem_cons,List.not_mem_nil,false_implies,implies_true,and_true];exact⟨rfl,rfl,rfl,rfl,rfl,rfl,rfl,rfl,cV 0 Nr s1,rfl,cV 0 Nr s2,rfl,cV 0 Nr s3,cV 0 Nr s4,cV 0 Nr s5,rfl,cV 0 Nr s6,cV 0 Nr s7⟩
        ·rfl
       ·have hop':PR.op {P with log:=P.log++[m.en]}=P.op+1:=Oc
        have hgn:∀b,h.next<=b->G b=none:=λb hb=>by
         cases hg:G b with
         |none=>rfl
         |some c =>obtain⟨e,fx,hh⟩:=hG b c hg;have:=(hW.live _ _ hh).2;omega
        obtain⟨G',z',x',s',g'⟩:=(k46.ext hG).iY (o6.low (lo':=h.next) (by have:=k4.k.next;omega))
        have hnn:∀b,h.next<=b->b<h2.next->G' b=none:=λb hb hb2=>by
         cases hg:G' b with
         |none=>rfl
         | some c =>
           rcases g' _ _ hg with h5|h5
           ·rw[hgn b hb]at h5;cases h5
           ·have:=(o6.lt k6.w _ h5).1;omega
        have zP:PRR E G' {P with log:=P.log++[m.en]} (rC {P with log:=P.log++[m.en]} (.slice ua (P.log.length+1) uc) (.slice a2 P.sv.l.length c2) (.slice a3 P.sv.tab.length c3) (.slice a4 P.told.length c4) (.slice a5 P.aG.length c5) (.slice a6 P.aH.length c6) (.slice a7 P.ans.length c7)):=by refine PRR.of (P:={P with log:=P.log++[m.en]}) ?_ (q2.sub s') (q3.sub s') (q4.sub s') (q5.sub s') (q6.sub s') ⟨q7.1.sub s',q7.2.sub s'⟩ ⟨q8.1.sub s',q8.2.sub s'⟩;rw[fk,List.length_append];simpa[cq,fo] using z'
        have x6:=x'.put hW (o:=.cells (rC {P with log:=P.log++[m.en]} (.slice ua (P.log.length+1) uc) (.slice a2 P.sv.l.length c2) (.slice a3 P.sv.tab.length c3) (.slice a4 P.told.length c4) (.slice a5 P.aG.length c5) (.slice a6 P.aH.length c6) (.slice a7 P.ans.length c7)) 49 true) (Nat.le_refl _) (hnn _ (Nat.le_refl _) lR4) gR6;have lZ4:=(k4.w.live _ _ gZ4).2;refine gtA [2,4,6] λt6 hf=>?_;simp only[push_cast,seval,gz,f2,f4,f6]at hf;obtain⟨f2,f4,f6⟩:=hf;refine cR (motive:=λH=>aF E _ _ _ H) (λH=>Ext E G h G' H/\H.get h.next=some (.cells (rC {P with log:=P.log++[m.en]} (.slice ua (P.log.length+1) uc) (.slice a2 P.sv.l.length c2) (.slice a3 P.sv.tab.length c3) (.slice a4 P.told.length c4) (.slice a5 P.aG.length c5) (.slice a6 P.aH.length c6) (.slice a7 P.ans.length c7)) 49 true)/\H.get (h.next+1+1)=some (.cells rz 49 true)/\H.get H1.next=some (.cells [iv m.en.c,iv m.en.n,.string m.en.t] 60 true)) ⟨x6,ND,by rw[ai,if_neg (by omega)];exact gZ6,by rw[ai,if_neg (by omega)];exact gE6⟩ ?_;clear x6;rintro H7 ⟨x7,gR7,gZ7,gE7⟩;have hopq:=dK hE x7.wf zP (by show P.bs<=_;omega) Nu;refine aB [(0,5),(0,10),(1,5),(3,5),(7,5),(8,5)] Nt Nt Nt ?_;simp only[push_cast,seval,hE.z,f2,gR7,nR];refine hopq.mono ?_;rintro v8 H8 ⟨rfl,k8⟩;have gR8:=k8.k.get _ _ gR7;have gZ8:=k8.k.get _ _ gZ7;have gE8:=k8.k.get _ _ gE7;have x8:=x7.kw k8;simp only[push_cast,seval,hE.z,f2,f6,nR,nE,gR8,gE8];refine(jM hE x8.wf zP x8.frz OS (m:={k:=2,vw:=P.vw,op:=PR.op {P with log:=P.log++[m.en]},cm:=P.cm,en:=m.en}) ⟨_,_,_,rfl,Fz.nil,Fz.nil,Fz.nil⟩).mono ?_;rintro v9 H9 ⟨co,o9,m9,k9⟩;have gR9:=k9.k.get _ _ gR8;have gZ9:=k9.k.get _ _ gZ8;have x9:=x8.kw k9;obtain⟨G'',z'',x'',s'',g''⟩:=x9.iY (o9.low (lo':=h.next) x8.aK.next);have hnn2:G'' (h.next+1+1)=none:=by
         cases hg:G'' (h.next+1+1) with
         |none=>rfl
         | some c =>
           rcases g'' _ _ hg with h5|h5
           ·rw[hnn _ Nr Nr]at h5;cases h5
           ·have:=(o9.lt k9.w _ h5).1;have:=(x8.wf.live _ _ gZ8).2;omega
        have x10:=x''.put hW (o:=.cells (rC {P with log:=P.log++[m.en]} (.slice ua (P.log.length+1) uc) (.slice a2 P.sv.l.length c2) (.slice a3 P.sv.tab.length c3) (.slice a4 P.told.length c4) (.slice a5 P.aG.length c5) (.slice a6 P.aH.length c6) (.slice a7 P.ans.length c7)) 49 true) Nr hnn2 gZ9;simp only[push_cast,seval,hE.z,f2,f4,f6,gR7,nR,gE7,nE,gR8,gE8,gR9,gZ9,nZ,hd,hle,bp,aU,aW,ba,bn,aV,dq];exact⟨G'',_,co,v9,x10,zP.sub s'',z'',m9.sub s'',rfl⟩
 ·have hb:((P.st:Int) != 0)=true:=Nu;rw[if_pos (.inl hst)]at hR;subst hR;simp only[push_cast,seval,hE.z,f2,f4,f13,hb,gR,nR,gZ,nZ,hd,hle];exact⟨G,_,[],_,(k0.put Nr Nr hW).ext hG,hP0,Fz.nil,rfl,rfl⟩
end
end Go.Proofs.YthbjaiilnkakcaaGreatDoor
namespace Vr
theorem jK(P:PR)(k:Nat):(aq P k).1.bs=P.bs/\(aq P k).1.log=P.log/\(aq P k).1.op=P.op:=by
 have key:∀(l:List Ent) (P:PR),(dt l P).1.bs=P.bs/\(dt l P).1.log=P.log:=by
  intro l
  induction l with
  |nil=>intro P;exact⟨rfl,rfl⟩
  |cons e l ih=>intro P;rw[dt];exact ih (br P e).1
 obtain⟨h1,h2⟩:=key (P.todo k) P;exact⟨h1,h2,by unfold PR.op;unfold aq;rw[h1,h2]⟩
end Vr
namespace Go.Proofs.YthbjaiilnkakcaaGreatDoor
open Go.Tm Vr
variable{m:Mg}{ms:List Value}
variable{E:Env}(hE:EOk E)
include hE
section
variable{G:Mem}{h:ag}(hW:WF E h)(hG:Frz E G h){P:PR}{cs:List Value}(hP:PRR E G P cs)
include hW hG hP
theorem uZ(z:P.Sz)(hm:MgR E G m ms)(hst:P.st=0)(hk:m.k=4)(hv:m.vw=P.vw)(hp:P.bF=false)(hcm:m.cm<=P.op) :
 af E 59 [.agg cs.toArray,.agg ms.toArray] h λv h'=>∃G' rc' co v2,Ext E G h G' h'/\PRR E G' (aX P m).1 rc'/\Fz E G' 17 (aX P m).2.length co v2/\bu E G' (aX P m).2 co/\v=.tuple #[.agg rc'.toArray,v2]:=by
 have hR:aX P m=aq P m.cm:=by unfold aX;rw[if_neg Nr,if_neg Nr,if_neg Nr,if_neg Nr,hp,if_neg Nw,if_pos hk,if_neg Nr]
 rw[hR];have hP0:=hP;have hm0:=hm;obtain⟨a1,c1,a2,c2,a3,c3,a4,c4,a5,c5,a6,c6,a7,c7,ct,cc,ca,hcs,q1,⟨q2,q3,q4⟩,q5,q6,q7,q8⟩:=hP.e;obtain⟨b1,d1,b2,d2,b3,d3,hms,m1,m2,m3⟩:=hm.e;have w0:=hW.b0;have w1:=hW.b1;subst hcs;subst hms;have zb:=z.bs;have zc:=z.cm;have zo:=z.op;have zn:=z.n;have zt:=z.told;have hll:P.log.length<=P.op:=NH;have hn:1<=P.n/\P.n<=1000:=⟨Nr,Nr⟩;have hvw:P.vw<=1099511627776:=Of
 have hgn:∀b,h.next<=b->G b=none:=λb hb=>by
  cases hg:G b with
  |none=>rfl
  |some c =>obtain⟨e,fx,hh⟩:=hG b c hg;have:=(hW.live _ _ hh).2;omega
 have hs1:((P.st:Int) != 0)=false:=NV;refine en hE Tryz.func59 rfl rfl Tryz.ntmps59 rfl Nv (rs:=[.cell 4 49,.tmp 5]) rfl ?_;simp only[push_cast,seval,hE.z,w0,w1,hs1];have k0:=(((KW.refl hW).push (o:=(.cells (rCS P a1 c1 a2 c2 a3 c3 a4 c4 a5 c5 a6 c6 a7 c7) 49 true))).push (o:=(.cells (mCS m b1 d1 b2 d2 b3 d3) 66 true))).push (o:=(.cells zCR 49 true));have gR0:(((h.push (.cells (rCS P a1 c1 a2 c2 a3 c3 a4 c4 a5 c5 a6 c6 a7 c7) 49 true)).push (.cells (mCS m b1 d1 b2 d2 b3 d3) 66 true)).push (.cells zCR 49 true)).get h.next=some (.cells (rCS P a1 c1 a2 c2 a3 c3 a4 c4 a5 c5 a6 c6 a7 c7) 49 true):=NL;have gM0:(((h.push (.cells (rCS P a1 c1 a2 c2 a3 c3 a4 c4 a5 c5 a6 c6 a7 c7) 49 true)).push (.cells (mCS m b1 d1 b2 d2 b3 d3) 66 true)).push (.cells zCR 49 true)).get (h.next+1)=some (.cells (mCS m b1 d1 b2 d2 b3 d3) 66 true):=NY;have gZ0:(((h.push (.cells (rCS P a1 c1 a2 c2 a3 c3 a4 c4 a5 c5 a6 c6 a7 c7) 49 true)).push (.cells (mCS m b1 d1 b2 d2 b3 d3) 66 true)).push (.cells zCR 49 true)).get (h.next+1+1)=some (.cells zCR 49 true):=NO;have c1':((m.k:Int)==3)=false:=Nu;have c2':decide ((m.vw:Int)<(P.vw:Int))=false:=Nu;have c3':decide ((P.vw:Int)<(m.vw:Int))=false:=Nu;have c4':((m.k:Int)==4)=true:=Nu;have c5':decide ((P.op:Int)<(m.cm:Int))=false:=Nu;simp only[push_cast,seval,hE.z,w0,w1,c1',c2',c3'];refine Go.Tm.aO [2,3,4] ?_;intro t1 hf;simp only[push_cast,seval,gz]at hf;obtain⟨f2,f3,f4⟩:=hf;refine cR (motive:=λH=>af E 54 _ H _) (λH=>KW E h H/\H.get h.next=some (.cells (rCS P a1 c1 a2 c2 a3 c3 a4 c4 a5 c5 a6 c6 a7 c7) 49 true)/\H.get (h.next+1)=some (.cells (mCS m b1 d1 b2 d2 b3 d3) 66 true)/\∃rz,H.get (h.next+1+1)=some (.cells rz 49 true)/\rz.length=18) ⟨k0,gR0,gM0,_,gZ0,rfl⟩ ?_;clear k0 gR0 gM0 gZ0;rintro H ⟨k0,gR,gM,rz,gZ,hrz⟩;have hd:List.drop 18 rz=[]:=List.drop_eq_nil_iff.2 Nr;have hle:(18<=rz.length)=True:=Nu;have nR:=k0.w.nlt gR;have nM:=k0.w.nlt gM;have nZ:=k0.w.nlt gZ;refine(dH hE k0.w hP0 hn hvw).mono ?_;rintro v H1 ⟨rfl,k1⟩;have gR1:=k1.k.get _ _ gR;have gM1:=k1.k.get _ _ gM;have gZ1:=k1.k.get _ _ gZ;rw[hp];have hopq:=dK hE (k0.trans k1).w hP0 Nr Nr;simp only[push_cast,seval,hE.z,f3,gM1,nM,c4'];refine aB [(1,3)] Nt Nt Nt ?_;simp only[push_cast,seval,hE.z,f2,f3,gM1,nM,gR1,nR];refine hopq.mono ?_;rintro v H2 ⟨rfl,k2⟩;have gR2:=k2.k.get _ _ gR1;have gM2:=k2.k.get _ _ gM1;have gZ2:=k2.k.get _ _ gZ1;have k02:=(k0.trans k1).trans k2;simp only[push_cast,seval,hE.z,f2,f3,gM1,gM2,nM,gR2,nR,c5',aV];refine(gl hE k02.w (hG.aK k02.k) hP0 z m.cm).mono ?_;rintro v H3 ⟨G3,rc3,co3,v3,x3,hp3,o3,m3',g3,rfl⟩;have hl3:=hp3.len;obtain⟨G4,z4,x4,s4,g4⟩:=x3.iY o3;have x04:=(k02.ext hG).andthen x4;have gZ3:=x3.aK.get _ _ gZ2;have lZ2:=(k02.w.live _ _ gZ2).2;have hZ4:G4 (h.next+1+1)=none:=x4.nn lZ2 (hgn _ Nr);obtain⟨A1,C1,A2,C2,A3,C3,A4,C4,A5,C5,A6,C6,A7,C7,CT,CC,CA,hcs3,_⟩:=hp3.e;subst hcs3;have x05:=x04.put hW (o:=.cells (rCS (aq P m.cm).1 A1 C1 A2 C2 A3 C3 A4 C4 A5 C5 A6 C6 A7 C7) 49 true) Nr hZ4 gZ3;simp only[push_cast,seval,hE.z,f4,gZ3,nZ,hd,hle];exact⟨G4,_,co3,v3,x05,hp3.sub s4,z4,m3'.sub s4,rfl⟩
theorem zq(z:P.Sz)(hop:P.op<1000000)(hen:m.en.c<=1000000/\m.en.n<=1000000)(hm:MgR E G m ms)(hst:P.st=0)(hk:m.k=2)(hv:m.vw=P.vw)(hp:P.bF=false)(hmo:m.op<=P.op+1) :
 af E 59 [.agg cs.toArray,.agg ms.toArray] h λv h'=>∃G' rc' co v2,Ext E G h G' h'/\PRR E G' (aX P m).1 rc'/\Fz E G' 17 (aX P m).2.length co v2/\bu E G' (aX P m).2 co/\v=.tuple #[.agg rc'.toArray,v2]:=by
 obtain⟨Q,hQQ⟩:∃Q,Q=(if m.op=P.op+1 then {P with log:=P.log++[m.en]} else P):=⟨_,rfl⟩;have hR:aX P m=((aq Q m.cm).1,(aq Q m.cm).2++[(aq Q m.cm).1.toM {k:=3,vw:=(aq Q m.cm).1.vw,op:=(aq Q m.cm).1.op} m.fr]):=by unfold aX;rw[if_neg Nr,if_neg Nr,if_neg Nr,if_neg Nr,hp,if_neg Nw,if_neg Nr,if_neg Nr,<-hQQ]
 rw[hR];have hP0:=hP;have hm0:=hm;obtain⟨a1,c1,a2,c2,a3,c3,a4,c4,a5,c5,a6,c6,a7,c7,ct,cc,ca,hcs,q1,⟨q2,q3,q4⟩,q5,q6,q7,q8⟩:=hP.e;obtain⟨b1,d1,b2,d2,b3,d3,hms,m1,m2,m3⟩:=hm.e;have w0:=hW.b0;have w1:=hW.b1;subst hcs;subst hms;have zb:=z.bs;have zc:=z.cm;have zo:=z.op;have zn:=z.n;have zt:=z.told;have hll:P.log.length<=P.op:=NH;have hn:1<=P.n/\P.n<=1000:=⟨Nr,Nr⟩;have hvw:P.vw<=1099511627776:=Of
 have hgn:∀b,h.next<=b->G b=none:=λb hb=>by
  cases hg:G b with
  |none=>rfl
  |some c =>obtain⟨e,fx,hh⟩:=hG b c hg;have:=(hW.live _ _ hh).2;omega
 have hs1:((P.st:Int) != 0)=false:=NV;refine en hE Tryz.func59 rfl rfl Tryz.ntmps59 rfl Nv (rs:=[.cell 4 49,.tmp 5]) rfl ?_;simp only[push_cast,seval,hE.z,w0,w1,hs1];have k0:=(((KW.refl hW).push (o:=(.cells (rCS P a1 c1 a2 c2 a3 c3 a4 c4 a5 c5 a6 c6 a7 c7) 49 true))).push (o:=(.cells (mCS m b1 d1 b2 d2 b3 d3) 66 true))).push (o:=(.cells zCR 49 true));have gR0:(((h.push (.cells (rCS P a1 c1 a2 c2 a3 c3 a4 c4 a5 c5 a6 c6 a7 c7) 49 true)).push (.cells (mCS m b1 d1 b2 d2 b3 d3) 66 true)).push (.cells zCR 49 true)).get h.next=some (.cells (rCS P a1 c1 a2 c2 a3 c3 a4 c4 a5 c5 a6 c6 a7 c7) 49 true):=NL;have gM0:(((h.push (.cells (rCS P a1 c1 a2 c2 a3 c3 a4 c4 a5 c5 a6 c6 a7 c7) 49 true)).push (.cells (mCS m b1 d1 b2 d2 b3 d3) 66 true)).push (.cells zCR 49 true)).get (h.next+1)=some (.cells (mCS m b1 d1 b2 d2 b3 d3) 66 true):=NY;have gZ0:(((h.push (.cells (rCS P a1 c1 a2 c2 a3 c3 a4 c4 a5 c5 a6 c6 a7 c7) 49 true)).push (.cells (mCS m b1 d1 b2 d2 b3 d3) 66 true)).push (.cells zCR 49 true)).get (h.next+1+1)=some (.cells zCR 49 true):=NO;have c1':((m.k:Int)==3)=false:=Nu;have c2':decide ((m.vw:Int)<(P.vw:Int))=false:=Nu;have c3':decide ((P.vw:Int)<(m.vw:Int))=false:=Nu;have c4':((m.k:Int)==4)=false:=Nu;have c5':decide (((P.op:Int)+1)<(m.op:Int))=false:=Nu;have hw:(Value.int .i64 (IntKind.i64.wrap ((P.op:Int)+1)))=iv (P.op+1):=bk Nr;have hw2:IntKind.i64.wrap ((P.op:Int)+1)=(P.op:Int)+1:=cx Nr Nr;simp only[push_cast,seval,hE.z,w0,w1,c1',c2',c3'];refine Go.Tm.aO [2,3,4] ?_;intro t1 hf;simp only[push_cast,seval,gz]at hf;obtain⟨f2,f3,f4⟩:=hf;refine cR (motive:=λH=>af E 54 _ H _) (λH=>KW E h H/\H.get h.next=some (.cells (rCS P a1 c1 a2 c2 a3 c3 a4 c4 a5 c5 a6 c6 a7 c7) 49 true)/\H.get (h.next+1)=some (.cells (mCS m b1 d1 b2 d2 b3 d3) 66 true)/\∃rz,H.get (h.next+1+1)=some (.cells rz 49 true)/\rz.length=18) ⟨k0,gR0,gM0,_,gZ0,rfl⟩ ?_;clear k0 gR0 gM0 gZ0;rintro H ⟨k0,gR,gM,rz,gZ,hrz⟩;have hd:List.drop 18 rz=[]:=List.drop_eq_nil_iff.2 Nr;have hle:(18<=rz.length)=True:=Nu;have nR:=k0.w.nlt gR;have nM:=k0.w.nlt gM;have nZ:=k0.w.nlt gZ;refine(dH hE k0.w hP0 hn hvw).mono ?_;rintro v H1 ⟨rfl,k1⟩;have gR1:=k1.k.get _ _ gR;have gM1:=k1.k.get _ _ gM;have gZ1:=k1.k.get _ _ gZ;have hopq:=dK hE (k0.trans k1).w hP0 Nr Nr;rw[hp];simp only[push_cast,seval,hE.z,f3,gM1,nM,c4'];refine aB [(1,3)] Nt Nt Nt ?_;simp only[push_cast,seval,hE.z,f2,f3,gM1,nM,gR1,nR];refine hopq.mono ?_;rintro v H2 ⟨rfl,k2⟩;have gR2:=k2.k.get _ _ gR1;have gM2:=k2.k.get _ _ gM1;have gZ2:=k2.k.get _ _ gZ1;have k02:=(k0.trans k1).trans k2;simp only[push_cast,seval,hE.z,gM1,gM2,nM,hw2,c5',aV];refine aB [(1,3)] Nt Nt Nt ?_;simp only[push_cast,seval,hE.z,f2,f3,gM2,nM,gR2,nR];refine(dK hE k02.w hP0 Nr Nr).mono ?_;rintro v H3 ⟨rfl,k3⟩;have gR3:=k3.k.get _ _ gR2;have gM3:=k3.k.get _ _ gM2;have gZ3:=k3.k.get _ _ gZ2;have k03:=k02.trans k3;simp only[push_cast,seval,hE.z,gM2,gM3,nM,hw2,aV];have hH3:h.next+1+1<H3.next:=(k03.w.live _ _ gZ3).2;refine dJ (λtm' h'=>∃G4 rcQ,Ext E G h G4 h'/\PRR E G4 Q rcQ/\h'.get h.next=some (.cells rcQ 49 true)/\h'.get (h.next+1)=some (.cells (mCS m b1 d1 b2 d2 b3 d3) 66 true)/\h'.get (h.next+1+1)=some (.cells rz 49 true)/\G4 h.next=none/\G4 (h.next+1+1)=none/\Q.Sz/\aj tm' 2=ptr h.next/\aj tm' 3=ptr (h.next+1)/\aj tm' 4=ptr (h.next+1+1)) ?_ ?_
 ·rintro tm' H4 ⟨G4,rcQ,x4,hpQ,gR4,gM4,gZ4,hn4,hn6,zQ,f2,f3,f4⟩;have hpQ0:=hpQ;obtain⟨A1,C1,A2,C2,A3,C3,A4,C4,A5,C5,A6,C6,A7,C7,CT,CC,CA,hcsQ,_⟩:=hpQ.e;subst hcsQ;have lR4:=(x4.wf.live _ _ gR4).2;have lZ4:=(x4.wf.live _ _ gZ4).2;have lM4:=(x4.wf.live _ _ gM4).2;simp only[push_cast,seval,hE.z,f2,f3,gR4,nR,gM4,nM];refine(gl hE x4.wf x4.frz hpQ0 zQ m.cm).mono ?_;rintro v H5 ⟨G5,rc5,co5,v5,x5,hp5,o5,m5,g5,rfl⟩;have hp50:=hp5;have x05:=x4.andthen x5;have gR5:=x5.aK.get _ _ gR4;have gM5:=x5.aK.get _ _ gM4;have gZ5:=x5.aK.get _ _ gZ4;have h5R:=x5.nn lR4 hn4;have h5Z:=x5.nn lZ4 hn6;obtain⟨B1,D1,B2,D2,B3,D3,B4,D4,B5,D5,B6,D6,B7,D7,DT,DC,DA,hcs5,_⟩:=hp5.e;subst hcs5;have x6:=x05.put hW (o:=.cells (rCS (aq Q m.cm).1 B1 D1 B2 D2 B3 D3 B4 D4 B5 D5 B6 D6 B7 D7) 49 true) (Nat.le_refl _) h5R gR5;have hcl:=eE Q m.cm;have zQo:=zQ.op;have hck:=df (Q.todo m.cm) Q;have hcop:(aq Q m.cm).1.op=Q.op:=hck.1
  have o6:Own (H5.put h.next (.cells (rCS (aq Q m.cm).1 B1 D1 B2 D2 B3 D3 B4 D4 B5 D5 B6 D6 B7 D7) 49 true)) 66 17 H4.next (aq Q m.cm).2.length co5 v5:=o5.at λb o hb hg=>by
   rw[ai,if_neg (λe=>by have:=(o5.lt x5.wf b hb).1;omega)];exact hg
  simp only[push_cast,seval,hE.z,f2,gR5];refine gtA [2,3,4,11] λt6 hf=>?_;simp only[push_cast,seval,gz,f2,f3,f4]at hf;obtain⟨f2,f3,f4,f11⟩:=hf;refine cR (motive:=λH=>aF E _ _ _ H) (λH=>Ext E G h G5 H/\H.get h.next=some (.cells (rCS (aq Q m.cm).1 B1 D1 B2 D2 B3 D3 B4 D4 B5 D5 B6 D6 B7 D7) 49 true)/\H.get (h.next+1)=some (.cells (mCS m b1 d1 b2 d2 b3 d3) 66 true)/\H.get (h.next+1+1)=some (.cells rz 49 true)/\Own H 66 17 H4.next (aq Q m.cm).2.length co5 v5/\H4.next<=H.next) ⟨x6,ND,by rw[ai,if_neg (by omega)];exact gM5,by rw[ai,if_neg (by omega)];exact gZ5,o6,by simpa using x5.aK.next⟩ ?_;clear x6 o6;rintro H6 ⟨x6,gR6,gM6,gZ6,o6,hl6⟩;refine aB [(0,6),(0,10),(0,11),(0,12),(2,6),(4,6),(9,6)] Nt Nt Nt ?_;simp only[push_cast,seval,hE.z,f2,f11,gR6,nR];have hsm:=jK Q m.cm;refine(dK hE x6.wf hp50 (by rw[hsm.1];have:=zQ.bs;have:=zQ.cm;omega) (by rw[hsm.2.1];unfold PR.op at zQo;omega)).mono ?_;rintro v H7 ⟨rfl,k7⟩;have x7:=x6.kw k7;have gR7:=k7.k.get _ _ gR6;have gM7:=k7.k.get _ _ gM6;have gZ7:=k7.k.get _ _ gZ6;have o7:=o6.aK k7.k;simp only[push_cast,seval,hE.z,f3,gM7,nM];refine(iU hE x7.wf hp50 (m:={k:=3,vw:=(aq Q m.cm).1.vw,op:=(aq Q m.cm).1.op}) ⟨_,_,_,rfl,Fz.nil,Fz.nil,Fz.nil⟩ m.fr).mono ?_;rintro v H8 ⟨mc,rfl,hmc,k8⟩;have x8:=x7.kw k8;have gR8:=k8.k.get _ _ gR7;have gM8:=k8.k.get _ _ gM7;have gZ8:=k8.k.get _ _ gZ7;have o8:=o7.aK k8.k;have hmc0:=hmc;obtain⟨e1,e2,e3,e4,e5,e6,rfl,_⟩:=hmc.e;simp only[push_cast,seval,hE.z];rw[lf rfl,aR];simp only[push_cast,seval];have hl8:H4.next<=H8.next:=Nat.le_trans hl6 (Nat.le_trans k7.k.next k8.k.next);refine eZ (mz hE.P) x8.wf (lo:=H4.next) hl8 o8 rfl rfl Nr Nr ?_;intro v9 H9 aI _;have hl48:h.next<=H4.next:=x4.aK.next;have x9:=x8.app hW aI λb hb=>⟨by have:=(o8.lt x8.wf b hb).1;omega,g5 b hb⟩;have gR9:=aI.get _ _ gR8 (o8.tag gR8 (λc fx e=>by injection e with _ e;cases e));have gZ9:=aI.get _ _ gZ8 (o8.tag gZ8 (λc fx e=>by injection e with _ e;cases e));obtain⟨G10,z10,x10,s10,g10⟩:=x9.iY (aI.own.low (lo':=h.next) Nr);have h10:G10 (h.next+1+1)=none:=by
   cases hg:G10 (h.next+1+1) with
   |none=>rfl
   | some c =>
     rcases g10 _ _ hg with h5|h5
     ·rw[h5Z]at h5;cases h5
     ·have:=(aI.own.lt aI.wf _ h5).1;omega
  have x11:=x10.put hW (o:=.cells (rCS (aq Q m.cm).1 B1 D1 B2 D2 B3 D3 B4 D4 B5 D5 B6 D6 B7 D7) 49 true) Nr h10 gZ9;have⟨va,vc,hv9⟩:=o8.fh;obtain⟨hv9,_⟩:=hv9;subst hv9;have e8:=x8.wf.ne gR8;simp only[push_cast,seval,hE.z,e8,f2,f4,gR6,gR7,gR8,gR9,nR,gM6,gM7,nM,gZ9,nZ,hd,hle,bp,aU,aW,ba,bn,aV];exact⟨G10,_,_,v9,x11,hp50.sub s10,by rw[List.length_append];exact z10,(m5.sub s10).app (bu.one (hmc0.sub s10)),rfl⟩
 ·by_cases heq:m.op=P.op+1
  ·have hb6:((m.op:Int)==(P.op:Int)+1)=true:=Nu;rw[if_pos heq]at hQQ;subst hQQ;simp only[push_cast,seval,hb6];refine gtA [2,3,4] λt5 hf=>?_;simp only[push_cast,seval,gz,f2,f3,f4]at hf;obtain⟨f2,f3,f4⟩:=hf;refine dE [(0,[0]),(2,[0]),(5,[0,4])] [3,6,7,9] [(6,[4,5])] [(0,(156,[0])),(1,(157,[1])),(2,(158,[2,1])),(3,(159,[3,0,1,2])),(4,(160,[4])),(5,(161,[5,4])),(6,(162,[6,4,5])),(7,(163,[7,0,1,2,3,4,5,6])),(8,(164,[8,0,1,2,3,4,5,6,7]))] [0,1,2,3,4,5,6,7,8,9] Nt Nt Nt Nt Nt Nv rfl ?_;simp only[push_cast,seval,hE.z,f2,gR3,nR];refine(iq hE k03.w hP0 (hG.aK k03.k) (k:=P.bs) ⟨Nat.le_refl _,Nr⟩ Nr).mono ?_;rintro v5 H5 ⟨o5,k5⟩;have hlg:dv P P.bs=P.log:=Oe;have hln:P.op-P.bs=P.log.length:=NH;rw[hlg,hln]at o5;obtain⟨va,vc,rfl,_⟩:=o5.fh;have gR5:=k5.k.get _ _ gR3;have gZ5:=k5.k.get _ _ gZ3;have gM5:=k5.k.get _ _ gM3;have hn5:=k5.k.next;have lR4:=(k03.w.live _ _ gR3).2;have lM4:=(k03.w.live _ _ gM3).2;simp only[push_cast,seval,hE.z,f3,gM5,nM];rw[qS rfl,aR];simp only[push_cast,seval];refine eZ (jS hE.P) k5.w (lo:=H3.next) hn5 o5 rfl rfl Nr Nr ?_;intro v6 H6 aA hnx6;obtain⟨ua,uc,rfl⟩:=aA.sl;have k6:=k5.app k03.w o5 aA;have o6:=aA.own;have k46:=k03.trans k6;have gR6:=k6.k.get _ _ gR3;have gZ6:=k6.k.get _ _ gZ3;have gM6:=k6.k.get _ _ gM3;simp only[push_cast,seval,hE.z,f2,f3,f4,gR6];have sv5:=o5.sc k5.w;have sv6:=o6.sc k6.w;have sa:∀(a:Option Addr) (n c m m':Nat),Go.Tm.sc m (.slice a n c)=true->m<=m'->Go.Tm.sc m' (.slice a n c)=true:=by
    intro a n c m m' h1 h2
    cases a with
    |none=>rfl
    |some x=>have:=gI h1 x rfl;simp[Go.Tm.sc];omega
   have s1:=q1.1.sc k03.w (hG.aK k03.k);have s2:=q2.1.sc k03.w (hG.aK k03.k);have s3:=q3.1.sc k03.w (hG.aK k03.k);have s4:=q5.1.sc k03.w (hG.aK k03.k);have s5:=q6.1.sc k03.w (hG.aK k03.k);have s6:=q7.1.1.sc k03.w (hG.aK k03.k);have s7:=q8.1.1.sc k03.w (hG.aK k03.k);refine⟨⟨?_,?_,?_,?_,?_⟩,?_⟩
   ·omega
   ·simp only[push_cast,seval,hE.z,f2,gR3,nR,gM5,gM3,nM,jo,aV,bp,aU,aW,ba,bn,dq]
   ·simp only[push_cast,seval,jx,Op.operands,ef,jJ,Go.Tm.sc,scA,scL];rw[s1,s2,s3,s4,s5,s6,s7];exact⟨rfl,⟨sa _ _ _ _ _ sv5 Nr,Nw⟩,Nu,sv6⟩
   ·simp only[push_cast,seval,hE.z,aOk,gH];rw[qS rfl];exact⟨_,rfl,rfl⟩
   ·simp only[push_cast,seval,dOk];refine⟨?_,dU 0 Nr lR4,rfl,cV 4 Nz sv5,dU 0 Nr lM4,?_,eW (K:=6) Nz (Nat.le_refl _) (Nat.lt_succ_self _),cV 8 Nz sv6,dU 0 Nr lR4⟩
    ·unfold scQ iK;simp only[iJ,List.forall_mem_cons,List.not_mem_nil,false_implies,implies_true,and_true];exact⟨rfl,rfl,rfl,rfl,rfl,rfl,rfl,rfl,cV 0 Nr s1,rfl,cV 0 Nr s2,rfl,cV 0 Nr s3,cV 0 Nr s4,cV 0 Nr s5,rfl,cV 0 Nr s6,cV 0 Nr s7⟩
    ·rfl
   ·obtain⟨G',z',x',s',g'⟩:=(k46.ext hG).iY (o6.low (lo':=h.next) (by have:=k03.k.next;omega))
    have hnn:∀b,h.next<=b->b<H3.next->G' b=none:=λb hb hb2=>by
     cases hg:G' b with
     |none=>rfl
     | some c =>
       rcases g' _ _ hg with h5|h5
       ·rw[hgn b hb]at h5;cases h5
       ·have:=(o6.lt k6.w _ h5).1;omega
    have zP:PRR E G' {P with log:=P.log++[m.en]} (rC {P with log:=P.log++[m.en]} (.slice ua (P.log.length+1) uc) (.slice a2 P.sv.l.length c2) (.slice a3 P.sv.tab.length c3) (.slice a4 P.told.length c4) (.slice a5 P.aG.length c5) (.slice a6 P.aH.length c6) (.slice a7 P.ans.length c7)):=by refine PRR.of (P:={P with log:=P.log++[m.en]}) ?_ (q2.sub s') (q3.sub s') (q4.sub s') (q5.sub s') (q6.sub s') ⟨q7.1.sub s',q7.2.sub s'⟩ ⟨q8.1.sub s',q8.2.sub s'⟩;rw[fk,List.length_append];simpa[cq,fo] using z'
    have x6:=x'.put hW (o:=.cells (rC {P with log:=P.log++[m.en]} (.slice ua (P.log.length+1) uc) (.slice a2 P.sv.l.length c2) (.slice a3 P.sv.tab.length c3) (.slice a4 P.told.length c4) (.slice a5 P.aG.length c5) (.slice a6 P.aH.length c6) (.slice a7 P.ans.length c7)) 49 true) (Nat.le_refl _) (hnn _ (Nat.le_refl _) lR4) gR6;exact⟨G',_,x6,zP,rfl,gM6,gZ6,hnn _ (Nat.le_refl _) lR4,hnn _ Nr Nr,z.push hop hen⟩
  ·have hb6:((m.op:Int)==(P.op:Int)+1)=false:=Nu;rw[if_neg heq]at hQQ;subst hQQ;simp only[push_cast,seval,f2,f3,f4,hb6];exact⟨G,_,k03.ext hG,hP0,gR3,gM3,gZ3,hgn _ (Nat.le_refl _),hgn _ Nr,z⟩
end
end Go.Proofs.YthbjaiilnkakcaaGreatDoor
open Go.Tm Vr in
theorem Go.Tm.HT{L:List Nat}{i:Nat}(hi:i<L.length):((bT L).drop (i*1)).take 1=[iv (L.getD i 0)]:=by unfold bT;rw[Nat.mul_one,<-List.map_drop,List.drop_eq_getElem_cons hi,List.getD_eq_getElem?_getD,List.getElem?_eq_getElem hi];rfl
namespace Go.Proofs.YthbjaiilnkakcaaGreatDoor
open Go.Tm Vr
variable{m:Mg}{ms:List Value}
variable{E:Env}(hE:EOk E)
include hE
section
variable{G:Mem}{h:ag}(hW:WF E h)(hG:Frz E G h){P:PR}{cs:List Value}(hP:PRR E G P cs)
include hW hG hP
theorem uO(z:P.Sz)(hm:MgR E G m ms)(hst:P.st=0)(hk:m.k=3)(hv:m.vw=P.vw)(hp:P.bF=true)(hfr:m.fr<P.n)(hmo:m.op<=P.op) :
 af E 59 [.agg cs.toArray,.agg ms.toArray] h λv h'=>∃G' rc' co v2,Ext E G h G' h'/\PRR E G' (aX P m).1 rc'/\Fz E G' 17 (aX P m).2.length co v2/\bu E G' (aX P m).2 co/\v=.tuple #[.agg rc'.toArray,v2]:=by
 obtain⟨mx,hmx⟩:∃mx,mx=max (P.told.getD m.fr 0) m.op:=⟨_,rfl⟩;obtain⟨T,hT⟩:∃T,T=P.told.set m.fr mx:=⟨_,rfl⟩;have hR:aX P m=aq {P with told:=T} (gV {P with told:=T} (P.op-P.cm) (P.cm+1) 0):=by unfold aX;rw[if_neg Nr,if_pos hk,hp,if_neg PG,<-hmx,<-hT]
 rw[hR];have hP0:=hP;have hm0:=hm;obtain⟨a1,c1,a2,c2,a3,c3,a4,c4,a5,c5,a6,c6,a7,c7,ct,cc,ca,hcs,q1,⟨q2,q3,q4⟩,q5,q6,q7,q8⟩:=hP.e;obtain⟨b1,d1,b2,d2,b3,d3,hms,m1,m2,m3⟩:=hm.e;have w0:=hW.b0;have w1:=hW.b1;subst hcs;subst hms;have zb:=z.bs;have zc:=z.cm;have zo:=z.op;have zn:=z.n;have zt:=z.told;have hll:P.log.length<=P.op:=NH;have hn:1<=P.n/\P.n<=1000:=⟨Nr,Nr⟩;have hvw:P.vw<=1099511627776:=Of
 have hgn:∀b,h.next<=b->G b=none:=λb hb=>by
  cases hg:G b with
  |none=>rfl
  |some c =>obtain⟨e,fx,hh⟩:=hG b c hg;have:=(hW.live _ _ hh).2;omega
 have hs1:((P.st:Int) != 0)=false:=NV;refine en hE Tryz.func59 rfl rfl Tryz.ntmps59 rfl Nv (rs:=[.cell 4 49,.tmp 5]) rfl ?_;simp only[push_cast,seval,hE.P,w0,w1,hs1];have k0:=(((KW.refl hW).push (o:=(.cells (rCS P a1 c1 a2 c2 a3 c3 a4 c4 a5 c5 a6 c6 a7 c7) 49 true))).push (o:=(.cells (mCS m b1 d1 b2 d2 b3 d3) 66 true))).push (o:=(.cells zCR 49 true));have gR0:(((h.push (.cells (rCS P a1 c1 a2 c2 a3 c3 a4 c4 a5 c5 a6 c6 a7 c7) 49 true)).push (.cells (mCS m b1 d1 b2 d2 b3 d3) 66 true)).push (.cells zCR 49 true)).get h.next=some (.cells (rCS P a1 c1 a2 c2 a3 c3 a4 c4 a5 c5 a6 c6 a7 c7) 49 true):=NL;have gM0:(((h.push (.cells (rCS P a1 c1 a2 c2 a3 c3 a4 c4 a5 c5 a6 c6 a7 c7) 49 true)).push (.cells (mCS m b1 d1 b2 d2 b3 d3) 66 true)).push (.cells zCR 49 true)).get (h.next+1)=some (.cells (mCS m b1 d1 b2 d2 b3 d3) 66 true):=NY;have gZ0:(((h.push (.cells (rCS P a1 c1 a2 c2 a3 c3 a4 c4 a5 c5 a6 c6 a7 c7) 49 true)).push (.cells (mCS m b1 d1 b2 d2 b3 d3) 66 true)).push (.cells zCR 49 true)).get (h.next+1+1)=some (.cells zCR 49 true):=NO;have c1':((m.k:Int)==3)=true:=Nu;have c2':((m.vw:Int) != (P.vw:Int))=false:=Nu;simp only[push_cast,seval,hE.P,w0,c1'];refine Go.Tm.aO [2,3,4] ?_;intro t1 hf;simp only[push_cast,seval,gz]at hf;obtain⟨f2,f3,f4⟩:=hf;refine cR (motive:=λH=>af E 54 _ H _) (λH=>KW E h H/\H.get h.next=some (.cells (rCS P a1 c1 a2 c2 a3 c3 a4 c4 a5 c5 a6 c6 a7 c7) 49 true)/\H.get (h.next+1)=some (.cells (mCS m b1 d1 b2 d2 b3 d3) 66 true)/\∃rz,H.get (h.next+1+1)=some (.cells rz 49 true)/\rz.length=18) ⟨k0,gR0,gM0,_,gZ0,rfl⟩ ?_;clear k0 gR0 gM0 gZ0;rintro H ⟨k0,gR,gM,rz,gZ,hrz⟩;have hd:List.drop 18 rz=[]:=List.drop_eq_nil_iff.2 Nr;have hle:(18<=rz.length)=True:=Nu;have nR:=k0.w.nlt gR;have nM:=k0.w.nlt gM;have nZ:=k0.w.nlt gZ;refine(dH hE k0.w hP0 hn hvw).mono ?_;rintro v H1 ⟨rfl,k1⟩;have gR1:=k1.k.get _ _ gR;have gM1:=k1.k.get _ _ gM;have gZ1:=k1.k.get _ _ gZ;rw[hp];simp only[push_cast,seval,hE.P,f2,f3,gM1,nM,gR1,nR,c2'];have k01:=k0.trans k1;refine gtm (motive:=kwv _ _ _) [2,3,4] λt2 hf=>?_;simp only[push_cast,seval,gz,f2,f3,f4]at hf;obtain⟨f2,f3,f4⟩:=hf;refine ej (KB hE.P) k01.w (hG.aK k01.k) (lo:=H1.next) (Nat.le_refl _) (Own.nil _ _ _ _) q5.1 (by rw[Ft,Nat.mul_one]) (qH _) Nr Nr ?_;intro v4 H4 a4';have o4:=a4'.own;rw[Nat.zero_add,List.nil_append]at o4;have k4:=k01.trans ((KW.refl k01.w).app k01.w (Own.nil _ _ _ _) a4');have gR4:=((KW.refl k01.w).app k01.w (Own.nil _ _ _ _) a4').k.get _ _ gR1;have gM4:=((KW.refl k01.w).app k01.w (Own.nil _ _ _ _) a4').k.get _ _ gM1;have gZ4:=((KW.refl k01.w).app k01.w (Own.nil _ _ _ _) a4').k.get _ _ gZ1;rcases o4 with⟨_,hx,_⟩|⟨tb,tc,rest,fx,rfl,hg,hg1,hg2,hg3,hg4,hg5⟩
 ·omega
 have lZ1:=(k01.w.live _ _ gZ1).2;simp only[push_cast,seval,hE.P,f2,gR4,bQ];have hgn4:(H4.put h.next (.cells (rCS P a1 c1 a2 c2 a3 c3 (some ⟨tb,0,none⟩) tc a5 c5 a6 c6 a7 c7) 49 true)).get tb=some (.cells (bT P.told++rest) 3 fx):=by rw[ai,if_neg (by omega)];exact hg
 have k5:=k4.put (o:=.cells (rCS P a1 c1 a2 c2 a3 c3 (some ⟨tb,0,none⟩) tc a5 c5 a6 c6 a7 c7) 49 true) (b:=h.next) (Nat.le_refl _) (by have:=k4.w.live _ _ gR4;omega) hW;refine gtA [2,3,4] λt3 hf=>?_;simp only[push_cast,seval,gz,f2,f3,f4]at hf;obtain⟨f2,f3,f4⟩:=hf;refine cR (motive:=λH=>aF E _ _ _ H) (λH=>KW E h H/\H.get h.next=some (.cells (rCS P a1 c1 a2 c2 a3 c3 (some ⟨tb,0,none⟩) tc a5 c5 a6 c6 a7 c7) 49 true)/\H.get (h.next+1)=some (.cells (mCS m b1 d1 b2 d2 b3 d3) 66 true)/\H.get (h.next+1+1)=some (.cells rz 49 true)/\H.get tb=some (.cells (bT P.told++rest) 3 fx)) ⟨k5,ND,by rw[ai,if_neg (by omega)];exact gM4,by rw[ai,if_neg (by omega)];exact gZ4,hgn4⟩ ?_;clear k5 hgn4;rintro H5 ⟨k5,gR5,gM5,gZ5,gT5⟩;have r1:=fV k5.w gT5 (i:=m.fr) Nr;have w1':=iw gT5 (i:=m.fr) (x:=mx) Nr;have ntR:(tb=h.next)=False:=Nu;have hw:(Value.int .i64 (IntKind.i64.wrap ((P.cm:Int)+1)))=iv (P.cm+1):=bk Nr;have hmv:max ((P.told.getD m.fr 0:Nat):Int) (m.op:Int)=(mx:Int):=Nr;refine ax Nt ?_;simp only[push_cast,seval,hE.P,f2,f3,gR5,nR,gM5,nM];rw[jQ rfl Nr Nr,ab];simp only[push_cast,seval,hE.P,f3,gM5,nM,Nat.zero_add,↓r1,Int.toNat_natCast];rw[hmv,jQ rfl Nr Nr,ab];simp only[push_cast,seval,hE.P,eM,f2,gR5,nR,Nat.zero_add,↓w1',ey,Int.toNat_natCast,ntR,hw];have hTl:T.length=P.told.length:=by rw[hT];simp
 have k6:=k5.put (o:=.cells (bT T++rest) 3 fx) (b:=tb) Nr (k5.w.live _ _ gT5).2 hW;rw[<-hT]
 have oT:Own (H5.put tb (.cells (bT T++rest) 3 fx)) 3 1 h.next T.length (bT T) (.slice (some ⟨tb,0,none⟩) T.length tc) :=
  .inr ⟨tb,tc,rest,fx,rfl,ND,by simp[bT],by rw[hTl];exact hg2,by rw[hTl];exact hg3,Nr,hg5⟩
 obtain⟨G6,z6,x6,s6,g6⟩:=(k6.ext hG).iY oT
 have hn6:∀b,h.next<=b->b≠tb->G6 b=none:=λb hb hne=>by
  cases hgg:G6 b with
  |none=>rfl
  | some c =>
    rcases g6 _ _ hgg with h5|h5
    ·rw[hgn b hb]at h5;cases h5
    ·simp only[slB,List.mem_singleton]at h5;exact absurd h5 hne
 have gR6:(H5.put tb (.cells (bT T++rest) 3 fx)).get h.next=some (.cells (rCS P a1 c1 a2 c2 a3 c3 (some ⟨tb,0,none⟩) tc a5 c5 a6 c6 a7 c7) 49 true):=by rw[ai,if_neg (by omega)];exact gR5
 have gZ6:(H5.put tb (.cells (bT T++rest) 3 fx)).get (h.next+1+1)=some (.cells rz 49 true):=by rw[ai,if_neg (by omega)];exact gZ5
 have zP:PRR E G6 {P with told:=T} (rC {P with told:=T} (.slice a1 P.log.length c1) (.slice a2 P.sv.l.length c2) (.slice a3 P.sv.tab.length c3) (.slice (some ⟨tb,0,none⟩) P.told.length tc) (.slice a5 P.aG.length c5) (.slice a6 P.aH.length c6) (.slice a7 P.ans.length c7)):=by refine PRR.of (P:={P with told:=T}) (q1.sub s6) (q2.sub s6) (q3.sub s6) (q4.sub s6) ?_ (q6.sub s6) ⟨q7.1.sub s6,q7.2.sub s6⟩ ⟨q8.1.sub s6,q8.2.sub s6⟩;show Fz E G6 1 T.length (bT T) _;rw[<-hTl];exact z6
 have hFP:PR.F {P with told:=T}=P.F:=rfl
 refine bG (λq tm h2=>∃k b,q=P.op+1-k/\P.cm+1<=k/\k<=P.op+1/\aj tm 2=ptr h.next/\aj tm 4=ptr (h.next+1+1)/\aj tm 7=iv b/\aj tm 8=iv k/\Ext E G h G6 h2 /\
  h2.get h.next=some (.cells (rC {P with told:=T} (.slice a1 P.log.length c1) (.slice a2 P.sv.l.length c2) (.slice a3 P.sv.tab.length c3) (.slice (some ⟨tb,0,none⟩) P.told.length tc) (.slice a5 P.aG.length c5) (.slice a6 P.aH.length c6) (.slice a7 P.ans.length c7)) 49 true)/\h2.get (h.next+1+1)=some (.cells rz 49 true)/\gV {P with told:=T} (P.op-P.cm) (P.cm+1) 0=gV {P with told:=T} (P.op+1-k) k b) (P.op-P.cm) ?_ ?_
 ·simp only[push_cast,seval,f2,f4];rw[ai]at gR6 gZ6;exact⟨P.cm+1,0,Nr,Nr,Nr,rfl,rfl,x6,gR6,gZ6,by rw[show P.op+1-(P.cm+1)=P.op-P.cm by omega]⟩
 ·rintro q tm h2 ⟨k,b,rfl,hk1,hk2,f2,f4,f7,f8,x2,gR2,gZ2,hbq⟩;simp only[push_cast,seval,hE.P,f2,f8,gR2,nR];refine(dK hE x2.wf zP (by show P.bs<=_;omega) (by show P.log.length<=_;omega)).mono ?_;rintro v h3 ⟨rfl,k3⟩;have hopT:PR.op {P with told:=T}=P.op:=rfl;rw[hopT];have gR3:=k3.k.get _ _ gR2;have gZ3:=k3.k.get _ _ gZ2;have x3:=x2.kw k3;by_cases hlt:k<=P.op
  ·have hb1:decide ((k:Int)<=(P.op:Int))=true:=Nu;simp only[push_cast,seval,eM,hb1]
   refine bG (λq tm h4=>∃i c,q=P.n-i/\i<=P.n/\aj tm 2=ptr h.next/\aj tm 4=ptr (h.next+1+1)/\aj tm 7=iv b/\aj tm 8=iv k/\aj tm 9=iv c/\aj tm 10=iv i/\h4=h3/\c<=i /\
    c=((List.range i).filter λj=>j != P.me&&decide (k<=T.getD j 0)).length) P.n ?_ ?_
   ·simp only[push_cast,seval,f2,f4,f7,f8];exact⟨0,0,Nr,Nr,rfl,rfl,Nr,rfl⟩
   ·rintro q tm h4 ⟨i,c,rfl,hi,f2,f4,f7,f8,f9,f10,rfl,hci,hcc⟩;simp only[push_cast,seval,hE.P,f2,f10,gR3,nR];by_cases hin:i<P.n
    ·have hb2:decide ((i:Int)<(P.n:Int))=true:=Nu;obtain⟨lb,lc,e1',hsp,hac⟩:=z6.1.elem x3.frz (show i<T.length by omega);injection e1' with e1' _ e3';injection e1' with e1';subst e1';subst e3';rw[HT Nr]at hac;simp only[Nat.zero_add,Nat.mul_one]at hac;have hrs:∀i:Nat,((List.range (i+1)).filter λj=>j != P.me&&decide (k<=T.getD j 0)).length=((List.range i).filter λj=>j != P.me&&decide (k<=T.getD j 0)).length+if i != P.me&&decide (k<=T.getD i 0) then 1 else 0:=by
      intro i;rw[List.range_succ,List.filter_append,List.length_append];congr 1;by_cases hbb:(i != P.me&&decide (k<=T.getD i 0))=true
      ·rw[List.filter_cons_of_pos (p:=λj=>j != P.me&&decide (k<=T.getD j 0)) hbb,if_pos hbb];rfl
      ·rw[List.filter_cons_of_neg (p:=λj=>j != P.me&&decide (k<=T.getD j 0)) hbb,if_neg hbb];rfl
     by_cases him:i=P.me
     ·have hb3:((i:Int) != (P.me:Int))=false:=by simp[him]
      simp only[push_cast,seval,hE.P,eM,f2,f4,f7,f8,f9,f10,gR3,nR,hb2,hb3];exact⟨P.n-(i+1),Nr,i+1,c,rfl,Nr,rfl,bk Nr,Nr,by rw[hrs,<-hcc];simp[him]⟩
     ·have hb3:((i:Int) != (P.me:Int))=true:=Nu;have hb3':(i != P.me)=true:=by simp[him]
      simp only[push_cast,seval,hE.P,eM,f2,f10,gR3,nR,hb2,hb3];rw[jQ rfl Nr Nr,ab];simp only[push_cast,seval,hE.P,f8,Nat.zero_add,↓hac,Int.toNat_natCast];by_cases hkt:k<=T.getD i 0
      ·have hb4:decide ((k:Int)<=((T.getD i 0:Nat):Int))=true:=by simp only[decide_eq_true_eq];omega
       simp only[push_cast,seval,f2,f4,f7,f8,f9,f10,hb4];exact⟨P.n-(i+1),Nr,i+1,c+1,rfl,Nr,bk Nr,bk Nr,Nr,by rw[hrs,<-hcc,hb3'];simp only[Bool.true_and,decide_eq_true_eq];rw[if_pos hkt]⟩
      ·have hb4:decide ((k:Int)<=((T.getD i 0:Nat):Int))=false:=by simp only[decide_eq_false_iff_not];omega
       simp only[push_cast,seval,f2,f4,f7,f8,f9,f10,hb4];exact⟨P.n-(i+1),Nr,i+1,c,rfl,Nr,rfl,bk Nr,Nr,by rw[hrs,<-hcc,hb3'];simp only[Bool.true_and,decide_eq_true_eq];rw[if_neg hkt];rfl⟩
    ·have hb2:decide ((i:Int)<(P.n:Int))=false:=Nu;have hin:i=P.n:=Nr;subst hin;have htn:lv {P with told:=T} k=c:=by rw[hcc];rfl
     simp only[push_cast,seval,hE.P,f2,f9,hb2,gR3,nR];refine(C9 hE x3.wf zP hn).mono ?_;rintro v h5 ⟨rfl,k5'⟩;rw[hFP];have gR5':=k5'.k.get _ _ gR3;have gZ5':=k5'.k.get _ _ gZ3;have hbs:gV {P with told:=T} (P.op+1-k) k b=gV {P with told:=T} (P.op+1-(k+1)) (k+1) (if P.F<=c then k else b):=by rw[show P.op+1-k=(P.op+1-(k+1))+1 by omega,gV,htn,hFP]
     by_cases hF:P.F<=c
     ·have hb5:decide ((P.F:Int)<=(c:Int))=true:=Nu;rw[if_pos hF]at hbs;simp only[push_cast,seval,f2,f4,f8,hb5];exact⟨P.op+1-(k+1),Nr,k+1,k,rfl,Nr,Nr,rfl,bk Nr,x3.kw k5',gR5',gZ5',by rw[hbq,hbs]⟩
     ·have hb5:decide ((P.F:Int)<=(c:Int))=false:=Nu;rw[if_neg hF]at hbs;simp only[push_cast,seval,f2,f4,f7,f8,hb5];exact⟨P.op+1-(k+1),Nr,k+1,b,rfl,Nr,Nr,rfl,bk Nr,x3.kw k5',gR5',gZ5',by rw[hbq,hbs]⟩
  ·have hb1:decide ((k:Int)<=(P.op:Int))=false:=Nu;have he:P.op+1-k=0:=Nr;rw[he]at hbq;have hbq:gV {P with told:=T} (P.op-P.cm) (P.cm+1) 0=b:=hbq;rw[hbq];simp only[push_cast,seval,hE.P,f2,f7,hb1,gR3,nR];have zQ:PR.Sz {P with told:=T}:=⟨z.n,z.odd,z.me,z.vw,z.bs,z.cm,z.op,by show T.length=P.n;omega,z.aG,z.aH,z.ans,z.tab,z.svl,z.srt,z.ent⟩;refine(gl hE x3.wf x3.frz zP zQ b).mono ?_;rintro v H7 ⟨G7,rc7,co7,v7,x7,hp7,o7,m7,g7,rfl⟩;have hl3:=hp7.len;obtain⟨G8,z8,x8,s8,g8⟩:=x7.iY o7;have x04:=x3.andthen x8;have gZ7:=x7.aK.get _ _ gZ3;have lZ3:=(x3.wf.live _ _ gZ3).2;have hZ8:G8 (h.next+1+1)=none:=x8.nn lZ3 (hn6 _ Nr Nr);obtain⟨A1,C1,A2,C2,A3,C3,A4,C4,A5,C5,A6,C6,A7,C7,CT,CC,CA,hcs3,_⟩:=hp7.e;subst hcs3;have x05:=x04.put hW (o:=.cells (rCS (aq {P with told:=T} b).1 A1 C1 A2 C2 A3 C3 A4 C4 A5 C5 A6 C6 A7 C7) 49 true) Nr hZ8 gZ7;simp only[push_cast,seval,hE.P,f4,gZ7,nZ,hd,hle,bQ];exact⟨G8,_,co7,v7,x05,hp7.sub s8,z8,m7.sub s8,rfl⟩
theorem Ig(hm:MgR E G m ms)(hk1:1<=m.k)(hk4:m.k<=4)(hto:m.to=P.me)(hfr:m.k=1\/m.fr<P.n/\m.fr≠P.me):af E 57 [.agg cs.toArray,.agg ms.toArray] h λv h'=>v=.bool true/\KW E h h':=by
 obtain⟨a1,c1,a2,c2,a3,c3,a4,c4,a5,c5,a6,c6,a7,c7,ct,cc,ca,hcs,hP'⟩:=hP.e;obtain⟨b1,d1,b2,d2,b3,d3,hms,m1,m2,m3⟩:=hm.e;subst hcs;subst hms;have w0:=hW.b0;have w1:=hW.b1;have c0':((m.to:Int) != (P.me:Int))=false:=by simp[hto]
 have c1':decide ((m.k:Int)<1)=false:=Nu;have c2':decide ((11:Int)<(m.k:Int))=false:=Nu;have c6':((m.k:Int)==6)=false:=Nu;have c7':((m.k:Int)==7)=false:=Nu;have c9':((m.k:Int)==9)=false:=Nu;have ce':((m.k:Int)==11)=false:=Nu;have e1:decide ((m.vw:Int)<0)=false:=Nw;have e2:decide ((m.op:Int)<0)=false:=Nw;have e3:decide ((m.cm:Int)<0)=false:=Nw;have e4:decide ((m.bs:Int)<0)=false:=Nw;have e5:decide ((m.nm:Int)<0)=false:=Nw;have e6:decide ((m.nc:Int)<0)=false:=Nw;refine en hE Tryz.func57 rfl rfl Tryz.ntmps57 rfl Nv (rs:=[.tmp 4]) rfl ?_;simp only[push_cast,seval,hE.z,w0,w1,c0',c1',c2'];by_cases h1:m.k=1
 ·have c3':((m.k:Int) != 1)=false:=N6;simp only[push_cast,seval,hE.z,w1,c3',cH,e1,e2,e3,e4,e5,e6,c6',c7',c9',ce'];exact(KW.refl hW).push.push
 ·have c3':((m.k:Int) != 1)=true:=Nu;have c4':decide ((m.fr:Int)<0)=false:=Nw;have c5':decide ((P.n:Int)<=(m.fr:Int))=false:=Nu;have c8':((m.fr:Int)==(P.me:Int))=false:=Nu;simp only[push_cast,seval,hE.z,w0,w1,c3',c4',c5',c8',e1,e2,e3,e4,e5,e6,c6',c7',c9',ce'];exact(KW.refl hW).push.push
theorem GR{P':PR}{out':List Mg}(hm:MgR E G m ms)(hk1:1<=m.k)(hk4:m.k<=4)(hto:m.to=P.me)(hfr:m.k=1\/m.fr<P.n/\m.fr≠P.me)
 (hf:∀H,KW E h H->af E (if m.k=1 then 58 else 59) [.agg cs.toArray,.agg ms.toArray] H λv h'=>∃G' rc' co v2,Ext E G H G' h'/\PRR E G' P' rc'/\Fz E G' 17 out'.length co v2/\bu E G' out' co/\v=.tuple #[.agg rc'.toArray,v2]) :
 af E 31 [.agg cs.toArray,.agg ms.toArray] h λv h'=>∃G' rc' co v2,Ext E G h G' h'/\PRR E G' P' rc'/\Fz E G' 17 out'.length co v2/\bu E G' out' co/\v=.tuple #[.agg rc'.toArray,v2]:=by
 have hP0:=hP;have hm0:=hm;have w0:=hW.b0;have w1:=hW.b1
 have hgn:∀b,h.next<=b->G b=none:=λb hb=>by
  cases hg:G b with
  |none=>rfl
  |some c =>obtain⟨e,fx,hh⟩:=hG b c hg;have:=(hW.live _ _ hh).2;omega
 obtain⟨a1,c1,a2,c2,a3,c3,a4,c4,a5,c5,a6,c6,a7,c7,ct,cc,ca,hcs,hP'⟩:=hP.e;obtain⟨b1,d1,b2,d2,b3,d3,hms,m1,m2,m3⟩:=hm.e;subst hcs;subst hms;refine en hE Tryz.func31 rfl rfl Tryz.ntmps31 rfl Nv (rs:=[.cell 4 49,.tmp 5]) rfl ?_;simp only[push_cast,seval,hE.z,w0,w1];have k0:=(((KW.refl hW).push (o:=(.cells (rCS P a1 c1 a2 c2 a3 c3 a4 c4 a5 c5 a6 c6 a7 c7) 49 true))).push (o:=(.cells (mCS m b1 d1 b2 d2 b3 d3) 66 true))).push (o:=(.cells zCR 49 true));have gR0:(((h.push (.cells (rCS P a1 c1 a2 c2 a3 c3 a4 c4 a5 c5 a6 c6 a7 c7) 49 true)).push (.cells (mCS m b1 d1 b2 d2 b3 d3) 66 true)).push (.cells zCR 49 true)).get h.next=some (.cells (rCS P a1 c1 a2 c2 a3 c3 a4 c4 a5 c5 a6 c6 a7 c7) 49 true):=NL;have gM0:(((h.push (.cells (rCS P a1 c1 a2 c2 a3 c3 a4 c4 a5 c5 a6 c6 a7 c7) 49 true)).push (.cells (mCS m b1 d1 b2 d2 b3 d3) 66 true)).push (.cells zCR 49 true)).get (h.next+1)=some (.cells (mCS m b1 d1 b2 d2 b3 d3) 66 true):=NY;have gZ0:(((h.push (.cells (rCS P a1 c1 a2 c2 a3 c3 a4 c4 a5 c5 a6 c6 a7 c7) 49 true)).push (.cells (mCS m b1 d1 b2 d2 b3 d3) 66 true)).push (.cells zCR 49 true)).get (h.next+1+1)=some (.cells zCR 49 true):=NO;refine Go.Tm.aO [2,3,4] ?_;intro t1 hf';simp only[push_cast,seval,gz]at hf';obtain⟨f2,f3,f4⟩:=hf';refine cR (motive:=λH=>af E 57 _ H _) (λH=>KW E h H/\H.get h.next=some (.cells (rCS P a1 c1 a2 c2 a3 c3 a4 c4 a5 c5 a6 c6 a7 c7) 49 true)/\H.get (h.next+1)=some (.cells (mCS m b1 d1 b2 d2 b3 d3) 66 true)/\∃rz,H.get (h.next+1+1)=some (.cells rz 49 true)/\rz.length=18) ⟨k0,gR0,gM0,_,gZ0,rfl⟩ ?_;clear k0 gR0 gM0 gZ0;rintro H ⟨k0,gR,gM,rz,gZ,hrz⟩;have hd:List.drop 18 rz=[]:=List.drop_eq_nil_iff.2 Nr;have hle:(18<=rz.length)=True:=Nu;have nR:=k0.w.nlt gR;have nM:=k0.w.nlt gM;have nZ:=k0.w.nlt gZ;refine(Ig hE k0.w (hG.aK k0.k) hP0 hm0 hk1 hk4 hto hfr).mono ?_;rintro v H1 ⟨rfl,k1⟩;have k01:=k0.trans k1;have gR1:=k1.k.get _ _ gR;have gM1:=k1.k.get _ _ gM;have gZ1:=k1.k.get _ _ gZ;have lZ1:=(k01.w.live _ _ gZ1).2;have hff:=hf H1 k01;by_cases h1:m.k=1
 ·have d1':((m.k:Int)==1)=true:=N6;rw[if_pos h1]at hff;simp only[push_cast,seval,hE.z,f2,f3,gR1,nR,gM1,nM,d1'];refine hff.mono ?_;rintro v H2 ⟨G2,rc2,co2,v2,x2,hp2,z2,r2,rfl⟩;obtain⟨A1,C1,A2,C2,A3,C3,A4,C4,A5,C5,A6,C6,A7,C7,CT,CC,CA,hcs3,_⟩:=hp2.e;subst hcs3;have gZ2:=x2.aK.get _ _ gZ1;have x3:=((k01.ext hG).andthen x2).put hW (o:=.cells (rCS P' A1 C1 A2 C2 A3 C3 A4 C4 A5 C5 A6 C6 A7 C7) 49 true) Nr (x2.nn lZ1 (hgn _ Nr)) gZ2;simp only[push_cast,seval,hE.z,f4,gZ2,nZ,hd,hle];exact⟨G2,_,co2,v2,x3,hp2,z2,r2,rfl⟩
 by_cases h2:m.k=2
 ·have d1':((m.k:Int)==1)=false:=Nu;have d2':((m.k:Int)==2)=true:=Nu;rw[if_neg h1]at hff;simp only[push_cast,seval,hE.z,f2,f3,gR1,nR,gM1,nM,d1',d2'];refine hff.mono ?_;rintro v H2 ⟨G2,rc2,co2,v2,x2,hp2,z2,r2,rfl⟩;obtain⟨A1,C1,A2,C2,A3,C3,A4,C4,A5,C5,A6,C6,A7,C7,CT,CC,CA,hcs3,_⟩:=hp2.e;subst hcs3;have gZ2:=x2.aK.get _ _ gZ1;have x3:=((k01.ext hG).andthen x2).put hW (o:=.cells (rCS P' A1 C1 A2 C2 A3 C3 A4 C4 A5 C5 A6 C6 A7 C7) 49 true) Nr (x2.nn lZ1 (hgn _ Nr)) gZ2;simp only[push_cast,seval,hE.z,f4,gZ2,nZ,hd,hle];exact⟨G2,_,co2,v2,x3,hp2,z2,r2,rfl⟩
 by_cases h3:m.k=3
 ·have d1':((m.k:Int)==1)=false:=Nu;have d2':((m.k:Int)==2)=false:=Nu;have d3':((m.k:Int)==3)=true:=Nu;rw[if_neg h1]at hff;simp only[push_cast,seval,hE.z,f2,f3,gR1,nR,gM1,nM,d1',d2',d3'];refine hff.mono ?_;rintro v H2 ⟨G2,rc2,co2,v2,x2,hp2,z2,r2,rfl⟩;obtain⟨A1,C1,A2,C2,A3,C3,A4,C4,A5,C5,A6,C6,A7,C7,CT,CC,CA,hcs3,_⟩:=hp2.e;subst hcs3;have gZ2:=x2.aK.get _ _ gZ1;have x3:=((k01.ext hG).andthen x2).put hW (o:=.cells (rCS P' A1 C1 A2 C2 A3 C3 A4 C4 A5 C5 A6 C6 A7 C7) 49 true) Nr (x2.nn lZ1 (hgn _ Nr)) gZ2;simp only[push_cast,seval,hE.z,f4,gZ2,nZ,hd,hle];exact⟨G2,_,co2,v2,x3,hp2,z2,r2,rfl⟩
 ·have h4:m.k=4:=Nr;have d1':((m.k:Int)==1)=false:=Nu;have d2':((m.k:Int)==2)=false:=Nu;have d3':((m.k:Int)==3)=false:=Nu;have d4':((m.k:Int)==4)=true:=Nu;rw[if_neg h1]at hff;simp only[push_cast,seval,hE.z,f2,f3,gR1,nR,gM1,nM,d1',d2',d3',d4'];refine hff.mono ?_;rintro v H2 ⟨G2,rc2,co2,v2,x2,hp2,z2,r2,rfl⟩;obtain⟨A1,C1,A2,C2,A3,C3,A4,C4,A5,C5,A6,C6,A7,C7,CT,CC,CA,hcs3,_⟩:=hp2.e;subst hcs3;have gZ2:=x2.aK.get _ _ gZ1;have x3:=((k01.ext hG).andthen x2).put hW (o:=.cells (rCS P' A1 C1 A2 C2 A3 C3 A4 C4 A5 C5 A6 C6 A7 C7) 49 true) Nr (x2.nn lZ1 (hgn _ Nr)) gZ2;simp only[push_cast,seval,hE.z,f4,gZ2,nZ,hd,hle];exact⟨G2,_,co2,v2,x3,hp2,z2,r2,rfl⟩
theorem HZ(z:P.Sz)(hst:P.st=0)(hp:P.bF=true)(hcm:P.op=P.cm):af E 29 [.agg cs.toArray] h λv h'=>∃G' co,Ext E G h G' h'/\Fz E G' 17 (idle P).length co v/\bu E G' (idle P) co:=by
 have hP0:=hP;have w0:=hW.b0;have zb:=z.bs;have zo:=z.op;have zn:=z.n;have hll:P.log.length<=P.op:=NH;have hn:1<=P.n/\P.n<=1000:=⟨Nr,Nr⟩;have hvw:P.vw<=1099511627776:=Of;have hR:idle P=P.allM {k:=4,vw:=P.vw,cm:=P.cm}:=by unfold idle;rw[if_neg (by simp[hst,hp]),if_neg (by omega)]
 rw[hR];obtain⟨a1,c1,a2,c2,a3,c3,a4,c4,a5,c5,a6,c6,a7,c7,ct,cc,ca,hcs,hP'⟩:=hP.e;subst hcs;have hs1:((P.st:Int) != 0)=false:=NV;have hc1:decide ((P.cm:Int)<(P.op:Int))=false:=Nu;refine en hE Tryz.func29 rfl rfl Tryz.ntmps29 rfl Nv (rs:=[.tmp 2]) rfl ?_;simp only[push_cast,seval,hE.z,w0,hs1];have k0:=(KW.refl hW).push (o:=(.cells (rCS P a1 c1 a2 c2 a3 c3 a4 c4 a5 c5 a6 c6 a7 c7) 49 true));have gR:(h.push (.cells (rCS P a1 c1 a2 c2 a3 c3 a4 c4 a5 c5 a6 c6 a7 c7) 49 true)).get h.next=some (.cells (rCS P a1 c1 a2 c2 a3 c3 a4 c4 a5 c5 a6 c6 a7 c7) 49 true):=NI;have nR:=k0.w.nlt gR;refine(dH hE k0.w hP0 hn hvw).mono ?_;rintro v H1 ⟨rfl,k1⟩;have gR1:=k1.k.get _ _ gR;have k01:=k0.trans k1;rw[hp];simp only[push_cast,seval];refine aB [(3,1)] Nt Nt Nt ?_;simp only[push_cast,seval,hE.z,gR1,nR];refine(dK hE k01.w hP0 Nr Nr).mono ?_;rintro v H2 ⟨rfl,k2⟩;have gR2:=k2.k.get _ _ gR1;have k02:=k01.trans k2;simp only[push_cast,seval,hE.z,gR1,gR2,nR,hc1,aV];refine(jM hE k02.w hP0 (hG.aK k02.k) Nr (m:={k:=4,vw:=P.vw,cm:=P.cm}) ⟨_,_,_,rfl,Fz.nil,Fz.nil,Fz.nil⟩).mono ?_;rintro v H3 ⟨co,o3,r3,k3⟩;simp only[push_cast,seval];obtain⟨G4,z4,x4,s4,_⟩:=((k02.trans k3).ext hG).iY (o3.low (lo':=h.next) k02.k.next);exact⟨G4,co,x4,z4,r3.sub s4⟩
end
end Go.Proofs.YthbjaiilnkakcaaGreatDoor
namespace Go.Proofs.YthbjaiilnkakcaaGreatDoor
open Go.Tm Vr
variable{v w:Value}
theorem J1{f a b:Bool}:hJ Tryz.prog f 4 (.bool a) (.bool b)=some (a==b):=by cases f<;>cases a<;>cases b<;>kernel_rfl
theorem uf{E:Env}(hE:EOk E){G:Mem}{h:ag}(hG:Frz E G h){l:List UInt8}(hs:Fz E G 1 l.length (cM l) v){ev:Operand->Value}{x:Operand}(he:ev x=v) :
 cC E h ev (.convert 58 9 x)=some (.string ⟨l.toArray⟩):=by
 obtain⟨⟨a,c,rfl,h1,h2,h3,h4⟩,h0⟩:=hs;have hu8:HQ Tryz.prog 5=true:=Ny;have hall:(cM l).all (λ| .int .u8 _=>true|_=>false)=true:=by rw[List.all_eq_true];intro y hy;obtain⟨z,_,rfl⟩:=List.mem_map.1 hy;rfl
 have hmap:((cM l).map λ| .int _ b=>UInt8.ofNat b.toNat|_=>0)=l:=by
  unfold cM;rw[List.map_map]
  conv=>rhs;rw[<-List.map_id l]
  apply List.map_congr_left;intro y _;simp
 unfold cC;simp only;rw[he,hE.P,Tryz.underlying58,Tryz.underlying9]
 cases a with
 |none =>have:c=0:=h3.1 rfl;have hl0:l=[]:=List.length_eq_zero_iff.1 Nr;subst hl0;simp only[hu8,if_true];rfl
 | some a =>
   simp only[hu8,if_true];have hac:cg E h a l.length=some (cM l):=by
    rcases h4 with⟨h5,h6⟩|⟨b,h5,h6⟩
    ·have hl0:l=[]:=List.length_eq_zero_iff.1 Nr;subst hl0;exact fX hG ((h0 a 0 c rfl).2 rfl)
    ·injection h5 with h5;subst h5;have:=fX hG h6;rwa[Nat.mul_one]at this
   rw[hac];exact(if_pos hall).trans (congrArg (λz:List UInt8=>some (Value.string ⟨z.toArray⟩)) hmap)
variable{E:Env}(hE:EOk E)
include hE
section
variable{G:Mem}{h:ag}(hW:WF E h)(hG:Frz E G h)
include hW hG
theorem kO{l:List Ent}(hv:Sl E G 3 l.length (cq l) v)(hw:Sl E G 3 l.length (cq l) w)(hl:l.length<=1000000):af E 10 [v,w] h λr h'=>r=.bool true/\h'=h:=by
 obtain⟨a,c,rfl,_⟩:=hv.slice;obtain⟨a',c',rfl,_⟩:=hw.slice;have c0:((l.length:Int) != (l.length:Int))=false:=Nw;refine en hE Tryz.func10 rfl rfl Tryz.ntmps10 rfl Nv (rs:=[.tmp 4]) rfl ?_;simp only[push_cast,seval,hE.z,c0];refine bG (λk tm h2=>∃i,k=l.length-i/\i<=l.length/\aj tm 0=.slice a l.length c/\aj tm 1=.slice a' l.length c'/\aj tm 5=iv i/\h2=h) l.length ?_ ?_
 ·simp only[push_cast,seval];exact⟨0,Nr,Nr,rfl⟩
 ·rintro k tm h2 ⟨i,rfl,hi,f0,f1,f5,rfl⟩;simp only[push_cast,seval,hE.z,f0,f5];by_cases hlt:i<l.length
  ·have hb:decide ((i:Int)<(l.length:Int))=true:=Nu;obtain⟨b1,d1,e1,hsp1,hac1⟩:=hv.elem hG hlt;obtain⟨b2,d2,e2,hsp2,hac2⟩:=hw.elem hG hlt;injection e1 with e1 _ e1';injection e2 with e2 _ e2';subst e1;subst e1';subst e2;subst e2';rw[eU (List.getElem?_eq_getElem hlt)]at hac1 hac2;unfold fo at hac1 hac2;have p0:=aY hac1 0 1 Nr;have p1:=aY hac1 1 1 Nr;have p2:=aY hac1 2 1 Nr;have r0:=aY hac2 0 1 Nr;have r1:=aY hac2 1 1 Nr;have r2:=aY hac2 2 1 Nr;simp only[Nat.add_zero,List.drop_zero,List.take_succ_cons,List.take_zero,List.drop_succ_cons]at p0 p1 p2 r0 r1 r2;generalize l[i]=e at *;have cc:((e.c:Int) != (e.c:Int))=false:=Nw;have cn:((e.n:Int) != (e.n:Int))=false:=Nw;simp only[push_cast,seval,hE.z,hb];refine ax Nt ?_;simp only[push_cast,seval,hE.z,f0,f5];rw[jP hsp1 Nr Nr,ab];simp only[push_cast,seval,hE.z,f1,f5,↓p0,Int.toNat_natCast];rw[jP hsp2 Nr Nr,ab];simp only[push_cast,seval,hE.z,f0,f5,↓r0,Int.toNat_natCast,cc];rw[jP hsp1 Nr Nr,ab];simp only[push_cast,seval,hE.z,f1,f5,↓p1,Int.toNat_natCast];rw[jP hsp2 Nr Nr,ab];simp only[push_cast,seval,hE.z,f0,f5,↓r1,Int.toNat_natCast,cn];rw[jP hsp1 Nr Nr,ab];simp only[push_cast,seval,hE.z,f1,f5,↓p2,Int.toNat_natCast];rw[jP hsp2 Nr Nr,ab];simp only[push_cast,seval,hE.z,f0,f1,f5,↓r2,Int.toNat_natCast];exact⟨l.length-(i+1),Nr,i+1,rfl,Nr,bk Nr⟩
  ·have hb:decide ((i:Int)<(l.length:Int))=false:=Nu;simp only[push_cast,seval,hb]
omit hG in
theorem Fa{e n:Nat}{a a':Option Addr}{c c':Nat}:af E 104 [.agg #[iv e,iv n,.slice a 0 c],.agg #[iv e,iv n,.slice a' 0 c']] h λr h'=>r=.bool true/\KW E h h':=by
 have w0:=hW.b0;have w1:=hW.b1;have hsame:∀{H:ag},WF E H->af E 129 [.agg #[.int .i64 0,.int .i64 0,.string .empty,.slice a 0 c,.slice none 0 0],.agg #[.int .i64 0,.int .i64 0,.string .empty,.slice a' 0 c',.slice none 0 0]] H λr h'=>r=.bool true/\KW E H h':=by intro H hH;have w0:=hH.b0;have w1:=hH.b1;refine en hE Tryz.func129 rfl rfl Tryz.ntmps129 rfl Nv (rs:=[.tmp 4]) rfl ?_;simp only[push_cast,seval,hE.z,w0,w1];refine oW ?_;simp only[push_cast,seval,hE.z,w0];refine oW ?_;simp only[push_cast,seval,hE.z,w0];exact(KW.refl hH).push.push
 have k0:=((KW.refl hW).push (o:=.cells [iv e,iv n,.slice a 0 c] 64 true)).push (o:=.cells [iv e,iv n,.slice a' 0 c'] 64 true);have hlist:af E 120 [.slice a 0 c,.slice a' 0 c'] ((h.push (.cells [iv e,iv n,.slice a 0 c] 64 true)).push (.cells [iv e,iv n,.slice a' 0 c'] 64 true)) λr h'=>r=.bool true/\KW E h h':=by refine en hE Tryz.func120 rfl rfl Tryz.ntmps120 rfl Nv (rs:=[.tmp 4]) rfl ?_;simp only[push_cast,seval,hE.z];refine(hsame k0.w).mono ?_;rintro v h' ⟨rfl,k1⟩;simp only[push_cast,seval];exact k0.trans k1
 have ce:((e:Int)==(e:Int))=true:=Nw;have cn:((n:Int)==(n:Int))=true:=Nw;refine en hE Tryz.func104 rfl rfl Tryz.ntmps104 rfl Nv (rs:=[.tmp 4]) rfl ?_;simp only[push_cast,seval,hE.z,w0,w1,ce,cn];refine hlist.mono ?_;rintro v h' ⟨rfl,k1⟩;simp only[push_cast,seval];exact k1
theorem Ha{m:Mg}{ms ns:List Value}(hm:MgR E G m ms)(hn:MgR E G m ns)(hl:m.log.length<=1000000):af E 86 [.agg ms.toArray,.agg ns.toArray,.bool true] h λr h'=>r=.bool true/\KW E h h':=by obtain⟨b1,d1,b2,d2,b3,d3,hms,m1,m2,m3⟩:=hm.e;obtain⟨u1,v1,u2,v2,u3,v3,hns,n1,n2,n3⟩:=hn.e;subst hms;subst hns;have w0:=hW.b0;have w1:=hW.b1;refine en hE Tryz.func86 rfl rfl Tryz.ntmps86 rfl Nv (rs:=[.tmp 6]) rfl ?_;simp only[push_cast,seval,hE.z,w0,w1,bne_self_eq_false];have k0:=((KW.refl hW).push (o:=(.cells (mCS m b1 d1 b2 d2 b3 d3) 66 true))).push (o:=(.cells (mCS m u1 v1 u2 v2 u3 v3) 66 true));rw[uf hE (hG.aK k0.k) m2 Pw,ab];simp only[push_cast,seval,hE.z,w1];rw[uf hE (hG.aK k0.k) n2 Pw,ab];have cb:((((m.img.length:Int)==0)==((m.img.length:Int)==0)))=true:=Nw;simp only[push_cast,seval,hE.z,w0,w1,J1,Option.map_some,ab,cb];refine Go.Tm.aO [3,4] ?_;intro t1 hf;simp only[push_cast,seval,gz]at hf;obtain⟨f3,f4⟩:=hf;refine cR (motive:=λH=>af E 10 _ H _) (λH=>KW E h H/\H.get h.next=some (.cells (mCS m b1 d1 b2 d2 b3 d3) 66 true)/\H.get (h.next+1)=some (.cells (mCS m u1 v1 u2 v2 u3 v3) 66 true)) ⟨k0,O2,NO⟩ ?_;clear k0;rintro H ⟨k0,g1,g2⟩;refine(kO hE k0.w (hG.aK k0.k) m1.1 n1.1 hl).mono ?_;rintro v H1 ⟨rfl,rfl⟩;have x1:=k0.w.nlt g1;have x2:=k0.w.nlt g2;have l2:=(k0.w.live _ _ g2).2;have y1:=k0.w.ne g1;have y2:=k0.w.ne g2;have y3:(H1.next+1=h.next)=False:=Nu;have y4:(H1.next+1=h.next+1)=False:=Nu;simp only[push_cast,seval,hE.z,f3,g1,x1];rw[qS rfl,aR];simp only[push_cast,seval,hE.z,f4,g2,x2,y2];rw[qS rfl,aR];simp only[push_cast,seval];have kA:=(KW.refl k0.w).push (o:=(.cells [iv m.en.c,iv m.en.n,.string m.en.t] 60 true));have kB:=(KW.refl kA.w).push (o:=(.cells [iv m.en.c,iv m.en.n,.string m.en.t] 60 true));have gA:=kB.k.get H1.next _ NI;have gB:((H1.push (.cells [iv m.en.c,iv m.en.n,.string m.en.t] 60 true)).push (.cells [iv m.en.c,iv m.en.n,.string m.en.t] 60 true)).get (H1.next+1)=some (.cells [iv m.en.c,iv m.en.n,.string m.en.t] 60 true):=NO;obtain⟨G1,z1,e1,s1,_⟩:=(((k0.trans kA).trans kB).ext hG).iY (Own.whole (lo:=h.next) (z:=3) (n:=1) gA rfl Nr Nr);obtain⟨G2,z2,e2,s2,_⟩:=e1.iY (Own.whole (lo:=h.next) (z:=3) (n:=1) gB rfl Nr Nr);have hen:cq [m.en]=[iv m.en.c,iv m.en.n,.string m.en.t]:=rfl;refine(kO hE e2.wf e2.frz (l:=[m.en]) (by rw[hen];exact(z1.sub s2).1) (by rw[hen];exact z2.1) Nw).mono ?_;rintro v H2 ⟨rfl,hH2⟩;subst hH2;simp only[push_cast,seval,hE.z,f3,f4,g1,g2,x1,x2,y1,y2,y3,y4];refine(Fa hE e2.wf).mono ?_;rintro v H3 ⟨rfl,k3⟩;simp only[push_cast,seval];exact((k0.trans kA).trans kB).trans k3
theorem pH{l:List Mg}{cv cw:List Value}(hv:Fz E G 17 l.length cv v)(hw:Fz E G 17 l.length cw w)(hm:bu E G l cv)(hn:bu E G l cw)(hl:l.length<=1000000)(hll:∀m,m∈l->m.log.length<=1000000):af E 47 [v,w,.bool true] h λr h'=>r=.bool true/\KW E h h':=by
 obtain⟨a,c,rfl,_⟩:=hv.slice;obtain⟨a',c',rfl,_⟩:=hw.slice;have c0:((l.length:Int) != (l.length:Int))=false:=Nw;refine en hE Tryz.func47 rfl rfl Tryz.ntmps47 rfl Nv (rs:=[.tmp 6]) rfl ?_;simp only[push_cast,seval,hE.z,c0];refine bG (λk tm h2=>∃i,k=l.length-i/\i<=l.length/\aj tm 0=.slice a l.length c/\aj tm 1=.slice a' l.length c'/\aj tm 2=.bool true/\aj tm 7=iv i/\KW E h h2) l.length ?_ ?_
 ·simp only[push_cast,seval];exact⟨0,Nr,Nr,rfl,KW.refl hW⟩
 ·rintro k tm h2 ⟨i,rfl,hi,f0,f1,f2,f7,k2⟩;simp only[push_cast,seval,hE.z,f0,f7];by_cases hlt:i<l.length
  ·have hb:decide ((i:Int)<(l.length:Int))=true:=Nu;obtain⟨b1,d1,e1,hsp1,hac1⟩:=hv.1.elem (hG.aK k2.k) hlt;obtain⟨b2,d2,e2,hsp2,hac2⟩:=hw.1.elem (hG.aK k2.k) hlt;injection e1 with e1 _ e1';injection e2 with e2 _ e2';subst e1;subst e1';subst e2;subst e2';have q1:=hm.at i _ (List.getElem?_eq_getElem hlt);have q2:=hn.at i _ (List.getElem?_eq_getElem hlt);have hml:=hll _ (List.getElem_mem hlt);generalize l[i]=m at *;have hs:=Ha hE k2.w (hG.aK k2.k) q1 q2 hml;obtain⟨_,_,_,_,_,_,hms,_⟩:=q1.e;obtain⟨_,_,_,_,_,_,hns,_⟩:=q2.e;rw[hms]at hac1 hs;rw[hns]at hac2 hs;simp only[push_cast,seval,hE.z,hb];refine ax Nt ?_;simp only[push_cast,seval,hE.z,f0,f7];rw[jw hsp1 Nr Nr,ab];simp only[push_cast,seval,hE.z,f1,f7,↓hac1,Int.toNat_natCast];rw[jw hsp2 Nr Nr,ab];simp only[push_cast,seval,hE.z,f2,↓hac2,Int.toNat_natCast];refine hs.mono ?_;rintro v h3 ⟨rfl,k3⟩;simp only[push_cast,seval,f0,f1,f2,f7];exact⟨l.length-(i+1),Nr,i+1,rfl,Nr,bk Nr,k2.trans k3⟩
  ·have hb:decide ((i:Int)<(l.length:Int))=false:=Nu;simp only[push_cast,seval,hb];exact k2
end
end Go.Proofs.YthbjaiilnkakcaaGreatDoor
namespace Go.Tm
variable{d:Option Nat}{j:Nat}{b:Bool}{R:bl}
def kk(K:ag->Prop)(h:ag)(R:bl):bl:=λtm h'=>(h'=h\/K h')/\R tm h'
def rdK(E:Env)(O:List Oper)(K:ag->Prop)(o:Oper)(tm:Tr Value):Prop:=bf O tm o=true->∃u,veq u u=true/\∀H,K H->cC E H (opd tm) o.op=some u
def wpk(E:Env)(O:List Oper)(K:ag->Prop):List Bool->List Oper->bl->bl
 |_,[],Q=>Q
 | bs,o::l,Q=>fun tm h =>
   (bs.headD false=true->rdK E O K o tm) /\
   match o.guard with
   |none=>cr E o.op o.dst (kk K h (wpk E O K bs.tail l Q)) tm h
   |some _=>(bf O tm o=true->cr E o.op o.dst (kk K h (wpk E O K bs.tail l Q)) tm h)/\(bf O tm o=false->wpk E O K bs.tail l Q (du tm o.dst undef) h)
structure JO(E:Env)(O:List Oper)(K:ag->Prop)(bs:List Bool)(tr:List St):Prop where
 k:∀s,s∈tr->K s.h
 r:∀i o s,i<tr.length->O[i]? = some o->tr[i]? = some s->bs[i]? = some true->rdK E O K o s.tm
theorem IU{E:Env}{O:List Oper}{K:ag->Prop}{bs0:List Bool}:∀(l:List Oper) (bs:List Bool) (tr:List St) (Q:bl) (tm:Tr Value) (h:ag),tr.length<=O.length->O.drop tr.length=l->bs0.drop tr.length=bs->JO E O K bs0 tr->K h->wpk E O K bs l Q tm h ->
 wpt E O l tr (λtr'=>JO E O K bs0 tr'/\∃s,tr'.getLast? = some s/\tr'.length=O.length+1/\Q s.tm s.h) tm h:=by
 intro l
 induction l with
 | nil =>
   intro bs tr Q tm h hle hl hb ht hK H;have hlen:O.length<=tr.length:=List.drop_eq_nil_iff.1 hl;refine⟨⟨λs hs=>?_,λi o s hi ho hs hbb=>?_⟩,⟨tm,h⟩,Nw,?_,H⟩
   ·rcases List.mem_append.1 hs with h1|h1
    ·exact ht.k s h1
    ·simp at h1;subst h1;exact hK
   ·have:i<O.length:=by rw[List.getElem?_eq_some_iff]at ho;exact ho.1
    rw[List.getElem?_append_left Nr]at hs;exact ht.r i o s Nr ho hs hbb
   ·simp;omega
 | cons o l ih =>
   intro bs tr Q tm h hle hl hb ht hK H;have hlt:tr.length<O.length:=by
    by_cases hc:tr.length<O.length
    ·exact hc
    ·rw[List.drop_eq_nil_iff.2 Nr]at hl;cases hl
   have ho:O[tr.length]? = some o:=by rw[<-List.head?_drop,hl];rfl
   have hl2:O.drop (tr++[(⟨tm,h⟩:St)]).length=l:=by rw[List.length_append,<-List.drop_drop,hl];rfl
   have hb2:bs0.drop (tr++[(⟨tm,h⟩:St)]).length=bs.tail:=by rw[List.length_append,<-List.drop_drop,hb];simp
   obtain⟨hr,H⟩:=H;have ht2:JO E O K bs0 (tr++[⟨tm,h⟩]):=by
    refine⟨λs hs=>?_,λi o' s hi ho' hs hbb=>?_⟩
    ·rcases List.mem_append.1 hs with h1|h1
     ·exact ht.k s h1
     ·simp at h1;subst h1;exact hK
    ·by_cases hi2:i<tr.length
     ·rw[List.getElem?_append_left hi2]at hs;exact ht.r i o' s hi2 ho' hs hbb
     ·have:i=tr.length:=by simp at hi;omega
      subst this;rw[ho]at ho';injection ho' with ho';subst ho';rw[List.getElem?_append_right (Nat.le_refl _)]at hs;simp at hs;subst hs;apply hr;have:bs.head? = some true:=by rw[<-hb,List.head?_drop];exact hbb
      cases bs with
      |nil=>simp at this
      |cons x xs=>simp at this;simp[this]
   have go:cr E o.op o.dst (kk K h (wpk E O K bs.tail l Q)) tm h->dT E o.op tm h (dS tm o.dst (wpt E O l (tr++[⟨tm,h⟩]) (λtr'=>JO E O K bs0 tr'/\∃s,tr'.getLast? = some s/\tr'.length=O.length+1/\Q s.tm s.h))):=λH=>jX H λv h' hh=>by
    obtain⟨h1,h2⟩:=hh;refine ih _ _ _ _ _ Nu hl2 hb2 ht2 ?_ h2;rcases h1 with h1|h1
    ·rw[h1];exact hK
    ·exact h1
   simp only[wpt];split at H
   ·rename_i hg;simp only[hg];exact go H
   ·rename_i hg;simp only[hg];exact⟨λa=>go (H.1 a),λa=>ih _ _ _ _ _ Nu hl2 hb2 ht2 hK (H.2 a)⟩
theorem ie{E:Env}{O:List Oper}{Q:bl}{tm:Tr Value}{h:ag}(prs:List (Nat×Nat))(bs:List Bool)(K:ag->Prop)(h1:jc E.P O (bh O []) none=true)(h2:(match iV E.P O (bh O []) with|none=>true|some _=>false)=true)(h3:rn E.P O (bh O [])=prs)
 (h4:prs.all (λp=>bs[p.1]? == some true&&decide (p.2+1<=O.length)&&decide (p.1<O.length))=true) (hK:K h) (H:wpk E O K bs O Q tm h):aF E O Q tm h:=by
 refine aB prs h1 h2 h3 ?_;refine lJ ?_ _ _ _ _ (IU (bs0:=bs) O bs [] Q tm h (Nat.zero_le _) rfl rfl ⟨λs hs=>by simp at hs,λi o s hi=>by simp at hi⟩ hK H);rintro tr ⟨ht,s,hs,hlen,hq⟩;have hst:∀i,i<tr.length->∃s,tr[i]? = some s/\cT tr ⟨tm,h⟩ i=s:=λi hi=>⟨tr[i],List.getElem?_eq_getElem hi,by unfold cT;rw[List.getD_eq_getElem?_getD,List.getElem?_eq_getElem hi];rfl⟩;refine⟨λp hp=>?_,?_⟩
 ·have hp4:=List.all_eq_true.1 h4 p hp;simp only[Bool.and_eq_true,beq_iff_eq,decide_eq_true_eq]at hp4;obtain⟨⟨hb,hy⟩,hx⟩:=hp4;unfold tN;rw[List.getElem?_eq_getElem hx];simp only;obtain⟨s1,e1,e2⟩:=hst p.1 Nr;obtain⟨s2,e3,e4⟩:=hst p.2 Nr;obtain⟨s3,e5,e6⟩:=hst (p.2+1) Nr;rw[e2,e4,e6];intro hw;obtain⟨u,hu,hr⟩:=ht.r p.1 _ s1 Nr (List.getElem?_eq_getElem hx) e1 hb hw;exact⟨u,hr _ (ht.k _ (List.mem_of_getElem? e1)),hr _ (ht.k _ (List.mem_of_getElem? e3)),hr _ (ht.k _ (List.mem_of_getElem? e5)),hu⟩
 ·obtain⟨s1,e1,e2⟩:=hst O.length Nr;rw[e2];rw[List.getLast?_eq_getElem?,hlen,Nat.add_sub_cancel,e1]at hs;injection hs with hs;rw[hs];exact hq
section
variable{E:Env}{O l:List Oper}{K:ag->Prop}{Q:bl}{tm:Tr Value}{h:ag}{ty:TypeId}{pos:String}{aft:Array Edge}{bs:List Bool}
theorem jD:wpk E O K bs [] Q tm h↔Q tm h:=by cases bs<;>exact Iff.rfl
theorem dR{op:Op}:wpk E O K (false::bs) (⟨d,op,ty,pos,aft,none⟩::l) Q tm h↔cr E op d (kk K h (wpk E O K bs l Q)) tm h:=by simp[wpk]
theorem rm{op:Op}:wpk E O K (true::bs) (⟨d,op,ty,pos,aft,none⟩::l) Q tm h↔rdK E O K ⟨d,op,ty,pos,aft,none⟩ tm/\cr E op d (kk K h (wpk E O K bs l Q)) tm h:=by simp[wpk]
theorem Cr{op:Op}{b':Bool}:wpk E O K (b'::bs) (⟨d,op,ty,pos,aft,some (j,b)⟩::l) Q tm h↔(b'=true->rdK E O K ⟨d,op,ty,pos,aft,some (j,b)⟩ tm)/\dL (sx O j tm) b (cr E op d (kk K h (wpk E O K bs l Q))) (lI d (wpk E O K bs l Q)) tm h:=by
 simp only[wpk,List.headD_cons,List.tail_cons,dL,bf,sx,lI];apply and_congr Iff.rfl
 cases hj:(O[j]?).bind (·.dst) with
 |none=>simp[undef]
 | some d' =>
   simp only
   cases hv:aj tm d' with
   |bool c=>cases c<;>cases b<;>simp
   |_=>simp
theorem dZ{op:Op}:wpk E O K (false::bs) (⟨d,op,ty,pos,aft,some (j,b)⟩::l) Q tm h↔dL (sx O j tm) b (cr E op d (kk K h (wpk E O K bs l Q))) (lI d (wpk E O K bs l Q)) tm h:=by rw[Cr];simp
theorem iS{op:Op}:wpk E O K (true::bs) (⟨d,op,ty,pos,aft,some (j,b)⟩::l) Q tm h↔rdK E O K ⟨d,op,ty,pos,aft,some (j,b)⟩ tm/\dL (sx O j tm) b (cr E op d (kk K h (wpk E O K bs l Q))) (lI d (wpk E O K bs l Q)) tm h:=by rw[Cr];simp
theorem bV:kk K h R tm h↔R tm h:=by simp[kk]
theorem ir{h':ag}(hK:K h')(H:R tm h'):kk K h R tm h':=⟨.inr hK,H⟩
end
end Go.Tm
