/- Part 10. -/
import Derived.Test.YthbjaiilnkakcaaGreatDoorT09
set_option linter.all false
set_option maxRecDepth 10000
set_option maxHeartbeats 8000000
namespace Go.Proofs.YthbjaiilnkakcaaGreatDoor
open Go.Tm Vr
variable{E:Env}(hE:EOk E)
include hE
section
variable{G:Mem}{h:ag}{X:Nat->Prop}(hS:SO E G h X){P:PR}{r t:Nat}(hQ:QR E G h X P [] r t){cs:List Value}(hP:PRR E G P cs)
include hS hQ hP
theorem ma(z:P.Sz):af E 48 [.agg (ptr r::ptr t::cs).toArray] h λv h'=>v=.bool true/\∃G',Ext E G h G' h':=by
 have hP0:=hP;obtain⟨a1,c1,a2,c2,a3,c3,a4,c4,a5,c5,a6,c6,a7,c7,ct,cc,ca,hcs,q1,⟨q2,q3,q4⟩,q5,q6,q7,q8⟩:=hP.e;subst hcs;have w0:=hS.wf.b0;have zb:=z.bs;have zc:=z.cm;have zo:=z.op;have zn:=z.n;have hll:P.log.length<=P.op:=NH;refine en hE Tryz.func48 rfl rfl Tryz.ntmps48 rfl Nv (rs:=[.tmp 2]) rfl ?_;simp only[push_cast,seval,hE.z,w0];have k0:=(((KW.refl hS.wf).push (o:=(.cells (ptr r::ptr t::(rCS P a1 c1 a2 c2 a3 c3 a4 c4 a5 c5 a6 c6 a7 c7)) 51 true))).push (o:=(.cells zCR 49 true))).put (o:=(.cells (rCS P a1 c1 a2 c2 a3 c3 a4 c4 a5 c5 a6 c6 a7 c7) 49 true)) (b:=h.next+1) Nr Nw hS.wf;refine gtA [1,3] λt1 hf=>?_;simp only[push_cast,seval,gz]at hf;obtain⟨f1,f3⟩:=hf;refine cR (motive:=λH=>aF E _ _ _ H) (λH=>KW E h H/\H.get h.next=some (.cells (ptr r::ptr t::(rCS P a1 c1 a2 c2 a3 c3 a4 c4 a5 c5 a6 c6 a7 c7)) 51 true)/\H.get (h.next+1)=some (.cells (rCS P a1 c1 a2 c2 a3 c3 a4 c4 a5 c5 a6 c6 a7 c7) 49 true)) ⟨k0,by rw[ai,if_neg (by omega),ah,if_neg (by simp),ah,if_pos rfl],ND⟩ ?_;clear k0;rintro H ⟨k0,gN,gR⟩;have nN:=k0.w.nlt gN;have nR:=k0.w.nlt gR;have s0:=hS.kw k0;have q0:=hQ.ext (k0.ext hS.frz);have hopq:=dK hE k0.w hP0 Nr Nr;have hKK:∀H',KW E H H'->H'.get h.next=some (.cells (ptr r::ptr t::(rCS P a1 c1 a2 c2 a3 c3 a4 c4 a5 c5 a6 c6 a7 c7)) 51 true)/\H'.get (h.next+1)=some (.cells (rCS P a1 c1 a2 c2 a3 c3 a4 c4 a5 c5 a6 c6 a7 c7) 49 true):=λH' k=>⟨k.k.get _ _ gN,k.k.get _ _ gR⟩;refine ie [(4,2),(11,9),(19,17),(26,25),(35,33),(43,41),(50,49)] [false,false,false,false,true,false,false,false,false,false,false,true,false,false,false,false,false,false,false,true,false,false,false,false,false,false,true,false,false,false,false,false,false,false,false,true,false,false,false,false,false,false,false,true,false,false,false,false,false,false,true,false,false,false] (λH=>H.get h.next=some (.cells (ptr r::ptr t::(rCS P a1 c1 a2 c2 a3 c3 a4 c4 a5 c5 a6 c6 a7 c7)) 51 true)/\H.get (h.next+1)=some (.cells (rCS P a1 c1 a2 c2 a3 c3 a4 c4 a5 c5 a6 c6 a7 c7) 49 true)) Nt Nt Nt Nv ⟨gN,gR⟩ ?_;simp only[push_cast,seval,hE.z,dR,bV,f1,gN,nN];refine(oh hE s0 q0).mono ?_;intro v h5 hvh;rw[hvh.1,hvh.2];clear hvh;simp only[push_cast,seval,hE.z,dR,rm,dZ,bV,f1,f3,gN,gR,nN,nR,bne_self_eq_false];refine⟨λ_=>⟨iv P.vw,aV,?_⟩,?_⟩
 ·rintro HH ⟨hN,hR⟩;simp only[push_cast,seval,hE.z,cX,hR,nR]
 refine(kX hE s0 q0).mono ?_;intro v h5 hvh;rw[hvh.1,hvh.2];clear hvh;simp only[push_cast,seval,hE.z,dR,dZ,iS,bV,f1,f3,gN,gR,nN,nR,bne_self_eq_false];refine⟨λ_=>⟨iv P.st,aV,?_⟩,?_⟩
 ·rintro HH ⟨hN,hR⟩;simp only[push_cast,seval,hE.z,cX,hR,nR]
 refine(xt hE s0 q0).mono ?_;intro v h5 hvh;rw[hvh.1,hvh.2];clear hvh;simp only[push_cast,seval,hE.z,dR,dZ,iS,bV,f1,f3,gN,gR,nN,nR,bne_self_eq_false];refine⟨λ_=>⟨iv P.nm,aV,?_⟩,?_⟩
 ·rintro HH ⟨hN,hR⟩;simp only[push_cast,seval,hE.z,cX,hR,nR]
 refine(zZ hE s0 q0).mono ?_;intro v h5 hvh;rw[hvh.1,hvh.2];clear hvh;simp only[push_cast,seval,hE.z,dZ,iS,bV,f3,gR,nR];refine⟨λ_=>⟨.agg (rCS P a1 c1 a2 c2 a3 c3 a4 c4 a5 c5 a6 c6 a7 c7).toArray,by simp[bp,aW,ba,aV,aU,bn],?_⟩,?_⟩
 ·rintro HH ⟨hN,hR⟩;simp only[push_cast,seval,hE.z,cX,f3,hR,nR]
 refine hopq.mono ?_;rintro v H1 ⟨rfl,k1⟩;have gN1:=k1.k.get _ _ gN;have gR1:=k1.k.get _ _ gR;have k01:=k0.trans k1;have s1:=hS.kw k01;have q1':=hQ.ext (k01.ext hS.frz);simp only[push_cast,seval];refine ir (hKK _ k1) ?_;simp only[push_cast,seval,hE.z,dR,dZ,bV,f1,gN1,nN,bne_self_eq_false];refine(pM hE s1 q1').mono ?_;intro v h5 hvh;rw[hvh.1,hvh.2];clear hvh;simp only[push_cast,seval,hE.z,dR,dZ,iS,bV,f1,f3,gN1,gR1,nN,nR,bne_self_eq_false];refine⟨λ_=>⟨iv P.cm,aV,?_⟩,?_⟩
 ·rintro HH ⟨hN,hR⟩;simp only[push_cast,seval,hE.z,cX,hR,nR]
 refine(BL hE s1 q1').mono ?_;intro v h5 hvh;rw[hvh.1,hvh.2];clear hvh;simp only[push_cast,seval,hE.z,dR,dZ,iS,bV,f1,f3,gN1,gR1,nN,nR,bne_self_eq_false];refine⟨λ_=>⟨iv P.bs,aV,?_⟩,?_⟩
 ·rintro HH ⟨hN,hR⟩;simp only[push_cast,seval,hE.z,cX,hR,nR]
 refine(uV hE s1 q1' z).mono ?_;intro v h5 hvh;rw[hvh.1,hvh.2];clear hvh;simp only[push_cast,seval,hE.z,dZ,iS,bV,f3,gR1,nR];refine⟨λ_=>⟨.agg (rCS P a1 c1 a2 c2 a3 c3 a4 c4 a5 c5 a6 c6 a7 c7).toArray,by simp[bp,aW,ba,aV,aU,bn],?_⟩,?_⟩
 ·rintro HH ⟨hN,hR⟩;simp only[push_cast,seval,hE.z,cX,f3,hR,nR]
 refine(dH hE k01.w hP0 ⟨Nr,Nr⟩ Of).mono ?_;rintro v H2 ⟨rfl,k2⟩;have gN2:=k2.k.get _ _ gN1;have gR2:=k2.k.get _ _ gR1;have k02:=k01.trans k2;simp only[push_cast,seval];refine ir (hKK _ (k1.trans k2)) ?_;simp only[push_cast,seval,hE.z,jD,dR,dZ,bV,J1,Option.map_some,ab,beq_self_eq_true,Bool.not_true];have s2:=hS.kw k02;have q2':=hQ.ext (k02.ext hS.frz);refine gtA [1,3] λt2 hf=>?_;simp only[push_cast,seval,gz,f1,f3]at hf;obtain⟨f1,f3⟩:=hf;refine ie [(4,2)] [false,false,false,false,true,false,false,false,false,false,false,false,false,false,false,false,false,false,false] (λH=>H.get h.next=some (.cells (ptr r::ptr t::(rCS P a1 c1 a2 c2 a3 c3 a4 c4 a5 c5 a6 c6 a7 c7)) 51 true)/\H.get (h.next+1)=some (.cells (rCS P a1 c1 a2 c2 a3 c3 a4 c4 a5 c5 a6 c6 a7 c7) 49 true)) Nt Nt Nt Nv ⟨gN2,gR2⟩ ?_;simp only[push_cast,seval,hE.z,dR,bV,f1,gN2,nN];refine(FB hE s2 q2' z).mono ?_;rintro v H3 ⟨G3,x3,z3⟩;have gN3:=x3.aK.get _ _ gN2;have gR3:=x3.aK.get _ _ gR2;simp only[push_cast,seval];refine ir ⟨gN3,gR3⟩ ?_;simp only[push_cast,seval,hE.z,dR,rm,bV,f3,gR3,nR];refine⟨λ_=>⟨.slice a1 P.log.length c1,aU,?_⟩,?_⟩
 ·rintro HH ⟨hN,hR⟩;simp only[push_cast,seval,hE.z,cX,hR,nR]
 refine(kO hE x3.wf x3.frz z3.1 (q1.1.sub x3.sub) Nr).mono ?_;rintro v H4 ⟨rfl,hH⟩;subst hH;obtain⟨D3,q3'⟩:=q2'.ext x3;obtain⟨ss,gt3,hss⟩:=q3'.ht;obtain⟨A1,C1,A2,C2,ct2,rfl,y1,y2,y3⟩:=hss.e;have nt:=x3.wf.nlt gt3;simp only[push_cast,seval,hE.z,dR,dZ,bV,f1,f3,gN3,gR3,nN,nR,gt3,nt];refine(kO hE x3.wf x3.frz y1.1 (q2.1.sub x3.sub) (by have:=z.svl;omega)).mono ?_;rintro v H5 ⟨rfl,hH⟩;subst hH;simp only[push_cast,seval,jD,dR,bV,];exact⟨G3,(k02.ext hS.frz).andthen x3⟩
end
end Go.Proofs.YthbjaiilnkakcaaGreatDoor
namespace Go.Tm
theorem PX.nn{E:Env}{G G':Mem}{h h':ag}{X X':Nat->Prop}(p:PX E G h X G' h' X'){b:Nat}(hb:b<h.next)(hg:G b=none):G' b=none:=by
 cases hh:G' b with
 |none=>rfl
 | some c =>
   rcases p.new b c hh with h3|h3
   ·rw[hg]at h3;cases h3
   ·omega
theorem PX.box{E:Env}{G G':Mem}{h h':ag}{X X':Nat->Prop}(p:PX E G h X G' h' X'){b:Nat}{o:bz}(hx:¬X b)(hg:h.get b=some o):h'.get b=some o:=p.kx.get b o hx hg
theorem PX.nx{E:Env}{G G':Mem}{h h':ag}{X X':Nat->Prop}(p:PX E G h X G' h' X'){b:Nat}(hx:¬X b)(hb:b<h.next):¬X' b:=λhh=>by
 rcases p.xs b hh with h1|h1
 ·exact hx h1
 ·omega
end Go.Tm
namespace Go.Proofs.YthbjaiilnkakcaaGreatDoor
open Go.Tm Vr
variable{E:Env}(hE:EOk E)
include hE
section
variable{G:Mem}{h:ag}{X:Nat->Prop}(hS:SO E G h X){P:PR}{r t:Nat}(hQ:QR E G h X P [] r t){cs:List Value}(hP:PRR E G P cs)
include hS hQ hP
theorem KC{P':PR}{out:List Mg}{m:Mg}{ms:List Value}(hm:MgR E G m ms)(z':P'.Sz)(hol:out.length<=1000000/\∀m,m∈out->m.log.length<=1000000)
 (hA:∀{G1:Mem} {H:ag} {X1:Nat->Prop},SO E G1 H X1->QR E G1 H X1 P [] r t->MgR E G1 m ms->af E 14 [ptr r,.agg ms.toArray] H λv h'=>∃G' X' co,PX E G1 H X1 G' h' X'/\QR E G' h' X' P' [] r t/\Fz E G' 17 out.length co v/\bu E G' out co)
 (hB:∀{G1:Mem} {H:ag},WF E H->Frz E G1 H->PRR E G1 P cs->MgR E G1 m ms->af E 31 [.agg cs.toArray,.agg ms.toArray] H λv h'=>∃G' rc' co v2,Ext E G1 H G' h'/\PRR E G' P' rc'/\Fz E G' 17 out.length co v2/\bu E G' out co/\v=.tuple #[.agg rc'.toArray,v2]) :
 af E 27 [.agg (ptr r::ptr t::cs).toArray,.agg (iv 0::iv 0::ms).toArray] h λv h'=>∃G' X' rc',PX E G h X G' h' X'/\QR E G' h' X' P' [] r t/\PRR E G' P' rc'/\v=.tuple #[.agg (ptr r::ptr t::rc').toArray,.bool true]:=by
 have hP0:=hP;have hm0:=hm;obtain⟨a1,c1,a2,c2,a3,c3,a4,c4,a5,c5,a6,c6,a7,c7,ct,cc,ca,hcs,_⟩:=hP.e;obtain⟨b1,d1,b2,d2,b3,d3,hms,m1,m2,m3⟩:=hm.e;subst hcs;subst hms;have w0:=hS.wf.b0;have w1:=hS.wf.b1;refine en hE Tryz.func27 rfl rfl Tryz.ntmps27 rfl Nv (rs:=[.cell 4 51,.tmp 5]) rfl ?_;simp only[push_cast,seval,hE.z,w0,w1];have k0:=(((KW.refl hS.wf).push (o:=(.cells (ptr r::ptr t::(rCS P a1 c1 a2 c2 a3 c3 a4 c4 a5 c5 a6 c6 a7 c7)) 51 true))).push (o:=(.cells (iv 0::iv 0::(mCS m b1 d1 b2 d2 b3 d3)) 71 true))).push (o:=(.cells [.pointer none,.pointer none,.int .i64 0,.int .i64 0,.int .i64 0,.int .i64 0,.int .i64 0,.int .i64 0,.int .i64 0,.int .i64 0,.slice none 0 0,.bool false,.slice none 0 0,.slice none 0 0,.slice none 0 0,.slice none 0 0,.slice none 0 0,.bool false,.slice none 0 0,.slice none 0 0] 51 true));have p0:=PX.kw hS k0;have q0:=hQ.ext (k0.ext hS.frz);refine Go.Tm.aO [2,3,4] ?_;intro t1 hf;simp only[push_cast,seval,gz]at hf;obtain⟨f2,f3,f4⟩:=hf;refine cR (motive:=λH=>af E 14 _ H _) (λH=>PX E G h X G H X/\QR E G H X P [] r t/\H.get h.next=some (.cells (ptr r::ptr t::(rCS P a1 c1 a2 c2 a3 c3 a4 c4 a5 c5 a6 c6 a7 c7)) 51 true)/\H.get (h.next+1)=some (.cells (iv 0::iv 0::(mCS m b1 d1 b2 d2 b3 d3)) 71 true)/\∃rz,H.get (h.next+1+1)=some (.cells rz 51 true)/\rz.length=20) ⟨p0,q0,NL,NY,_,NO,rfl⟩ ?_;clear p0 q0 k0;rintro H ⟨p0,q0,gN,gD,rz,gZ,hrz⟩;have hd:List.drop 20 rz=[]:=List.drop_eq_nil_iff.2 Nr;have hle:(20<=rz.length)=True:=Nu;have nN:=p0.so.wf.nlt gN;have nD:=p0.so.wf.nlt gD;have nZ:=p0.so.wf.nlt gZ;have lN:=(p0.so.wf.live _ _ gN).2;have lD:=(p0.so.wf.live _ _ gD).2;have lZ:=(p0.so.wf.live _ _ gZ).2;have xN:¬X h.next:=λhx=>OP;have xD:¬X (h.next+1):=λhx=>OP;have xZ:¬X (h.next+1+1):=λhx=>OP;refine(hA p0.so q0 hm0).mono ?_;rintro v1 H1 ⟨G1,X1,co1,p1,q1,z1,r1⟩;have gN1:=p1.box xN gN;have gD1:=p1.box xD gD;have gZ1:=p1.box xZ gZ;have xN1:=p1.nx xN lN;have xZ1:=p1.nx xZ lZ;have yN1:=p1.nn lN (hS.eH (Nat.le_refl _));have yZ1:=p1.nn lZ (hS.eH Nr);simp only[push_cast,seval,hE.z,f2,f3,gN1,nN,gD1,nD];refine(hB p1.so.wf p1.so.frz (hP0.sub p1.sub) (hm0.sub p1.sub)).mono ?_;rintro v2 H2 ⟨G2,rc2,co2,v2',x2,hp2,z2,r2,rfl⟩;have hp20:=hp2;obtain⟨A1,C1,A2,C2,A3,C3,A4,C4,A5,C5,A6,C6,A7,C7,CT,CC,CA,hcs3,_⟩:=hp2.e;subst hcs3;have p2:=(p0.trans hS.wf p1).trans hS.wf (PX.ext p1.so x2);have q2:=q1.ext x2;have gN2:=x2.aK.get _ _ gN1;have gZ2:=x2.aK.get _ _ gZ1;have lN1:=(p1.so.wf.live _ _ gN1).2;have lZ1:=(p1.so.wf.live _ _ gZ1).2;have yN2:=x2.nn lN1 yN1;have yZ2:=x2.nn lZ1 yZ1;have e2:=x2.wf.ne gN2;have w3:=x2.wf.b0;simp only[push_cast,seval,hE.z,f2,gN2,e2,w3];have k3:=(KW.refl x2.wf).push (o:=(.cells (rCS P' A1 C1 A2 C2 A3 C3 A4 C4 A5 C5 A6 C6 A7 C7) 49 true));have p3:=PX.fresh hS.wf (p2.trans hS.wf (PX.kw p2.so k3)) (b:=h.next) (o:=(.cells (ptr r::ptr t::(rCS P' A1 C1 A2 C2 A3 C3 A4 C4 A5 C5 A6 C6 A7 C7)) 51 true)) (Nat.le_refl _) yN2 (k3.k.get _ _ gN2);have q3:QR E G2 ((H2.push (.cells (rCS P' A1 C1 A2 C2 A3 C3 A4 C4 A5 C5 A6 C6 A7 C7) 49 true)).put h.next (.cells (ptr r::ptr t::(rCS P' A1 C1 A2 C2 A3 C3 A4 C4 A5 C5 A6 C6 A7 C7)) 51 true)) X1 P' [] r t:=by
  obtain⟨D,q2'⟩:=q2
  exact⟨D,q2'.mh (Sub.refl _) λb o hx hg=>by
   rw[ai,if_neg (λe=>xN1 PU)];exact k3.k.get _ _ hg⟩
 have gN3:((H2.push (.cells (rCS P' A1 C1 A2 C2 A3 C3 A4 C4 A5 C5 A6 C6 A7 C7) 49 true)).put h.next (.cells (ptr r::ptr t::(rCS P' A1 C1 A2 C2 A3 C3 A4 C4 A5 C5 A6 C6 A7 C7)) 51 true)).get h.next=some (.cells (ptr r::ptr t::(rCS P' A1 C1 A2 C2 A3 C3 A4 C4 A5 C5 A6 C6 A7 C7)) 51 true):=ND;have gZ3:((H2.push (.cells (rCS P' A1 C1 A2 C2 A3 C3 A4 C4 A5 C5 A6 C6 A7 C7) 49 true)).put h.next (.cells (ptr r::ptr t::(rCS P' A1 C1 A2 C2 A3 C3 A4 C4 A5 C5 A6 C6 A7 C7)) 51 true)).get (h.next+1+1)=some (.cells rz 51 true):=by rw[ai,if_neg (by omega)];exact k3.k.get _ _ gZ2
 refine gtA [2,4,18,20] λt2 hf=>?_;simp only[push_cast,seval,gz,f2,f4]at hf;obtain⟨f2',f4',f18,f20⟩:=hf;refine cR (motive:=λH=>aF E _ _ _ H) (λH=>PX E G h X G2 H X1/\QR E G2 H X1 P' [] r t/\H.get h.next=some (.cells (ptr r::ptr t::(rCS P' A1 C1 A2 C2 A3 C3 A4 C4 A5 C5 A6 C6 A7 C7)) 51 true)/\H.get (h.next+1+1)=some (.cells rz 51 true)) ⟨p3,q3,gN3,gZ3⟩ ?_;clear p3 q3 gN3 gZ3 k3;rintro H3 ⟨p3,q3,gN3,gZ3⟩;refine ie [(0,3),(0,6)] [true,false,false,false,false,false,false,false,false,false] (λH=>H.get h.next=some (.cells (ptr r::ptr t::(rCS P' A1 C1 A2 C2 A3 C3 A4 C4 A5 C5 A6 C6 A7 C7)) 51 true)) Nt Nt Nt Nv gN3 ?_;simp only[push_cast,seval,hE.z,dR,rm,bV,f2',f18,f20,gN3,nN];refine⟨λ_=>⟨(.agg (ptr r::ptr t::(rCS P' A1 C1 A2 C2 A3 C3 A4 C4 A5 C5 A6 C6 A7 C7)).toArray),PH,?_⟩,?_⟩
 ·rintro HH hN;simp only[push_cast,seval,hE.z,cX,f2',hN,nN]
 have z13:=z1.sub x2.sub;have r13:=r1.sub x2.sub;refine(pH hE p3.so.wf p3.so.frz z13 z2 r13 r2 hol.1 hol.2).mono ?_;rintro v3 H4 ⟨rfl,k4⟩;have gN4:=k4.k.get _ _ gN3;have gZ4:=k4.k.get _ _ gZ3;have p4:=p3.trans hS.wf (PX.kw p3.so k4);have q4:=q3.ext (k4.ext p3.so.frz);simp only[push_cast,seval];refine ir gN4 ?_;simp only[push_cast,seval,hE.z,dR,dZ,bV,f2',gN4,nN];refine(ma hE p4.so q4 hp20 z').mono ?_;rintro v5 H5 ⟨rfl,G5,x5⟩;have gN5:=x5.aK.get _ _ gN4;have gZ5:=x5.aK.get _ _ gZ4;simp only[push_cast,seval];refine ir gN5 ?_;simp only[push_cast,seval,hE.z,dR,bV,f4',gZ5,hd,hle];have p5:=p4.trans hS.wf (PX.ext p4.so x5);obtain⟨D5,q5⟩:=q4.ext x5;have yZ5:=x5.nn (p4.so.wf.live _ _ gZ4).2 yZ2;refine ir (by rw[ai,if_neg (by omega)];exact gN5) ?_;have p6:=PX.fresh hS.wf p5 (b:=h.next+1+1) (o:=(.cells (ptr r::ptr t::(rCS P' A1 C1 A2 C2 A3 C3 A4 C4 A5 C5 A6 C6 A7 C7)) 51 true)) Nr yZ5 gZ5
 have q6:=q5.mh (h':=H5.put (h.next+1+1) (.cells (ptr r::ptr t::(rCS P' A1 C1 A2 C2 A3 C3 A4 C4 A5 C5 A6 C6 A7 C7)) 51 true)) (Sub.refl _) (λb o hx hg=>by
  rw[ai,if_neg (λe=>xZ1 PU)];exact hg)
 simp only[push_cast,seval,hE.z,jD,dR,bV,f4',nZ];exact⟨G5,X1,_,p6,⟨D5,q6⟩,hp20.sub x5.sub,rfl⟩
end
end Go.Proofs.YthbjaiilnkakcaaGreatDoor
namespace Go.Proofs.YthbjaiilnkakcaaGreatDoor
open Go.Tm Vr
def ze(to c n : Nat) : Mg := {k := 1, fr := 100 + c, to := to, en := ⟨c, n, "t".toByteArray⟩}
variable{E:Env}(hE:EOk E)
include hE
section
variable{G:Mem}{h:ag}
theorem Hj(hW:WF E h){to c n:Nat}(hc:c<=1000):af E 15 [iv to,iv c,iv n] h λv h'=>KW E h h'/\∃ms,v=.agg ms.toArray/\∀G,MgR E G (ze to c n) ms:=by
 have w0:=hW.b0;refine en hE Tryz.func15 rfl rfl Tryz.ntmps15 rfl Nv (rs:=[.cell 6 66]) rfl ?_;simp only[push_cast,seval,hE.z,w0];have e1:(Value.int .i64 (IntKind.i64.wrap (100+(c:Int))))=iv (100+c):=by rw[cx Nr Nr];congr 1
 rw[e1];refine⟨(KW.refl hW).push,_,rfl,λG=>?_⟩;exact⟨_,_,_,rfl,Fz.nil,Fz.nil,Fz.nil⟩
theorem HM(hW:WF E h)(hG:Frz E G h){l:List Mg}{co:List Value}{v w:Value}{k:Nat}{tos:List Nat}(hv:Fz E G 17 l.length co v)(hl:bu E G l co)(hb:l.length<=1000000){b:Nat}{e:Nat}{fx:Bool}(hg:h.get b=some (.cells (bT tos) e fx))(hw:w=.slice (some ⟨b,0,none⟩) tos.length tos.length)(hk:∀m,m∈l->m.k=k)(ht:l.map (·.to)=tos):af E 16 [v,iv k,w] h λr h'=>r=.bool true/\h'=h:=by
 subst hw;subst ht;obtain⟨a,c,rfl,_⟩:=hv.slice;have c0:((l.length:Int) != (l.length:Int))=false:=Nw;refine en hE Tryz.func16 rfl rfl Tryz.ntmps16 rfl Nv (rs:=[.tmp 6]) rfl ?_;simp only[push_cast,seval,hE.z,List.length_map,c0];refine bG (λk' tm h2=>∃i,k'=l.length-i/\i<=l.length/\aj tm 0=.slice a l.length c/\aj tm 1=iv k/\aj tm 2=.slice (some ⟨b,0,none⟩) l.length l.length/\aj tm 7=iv i/\h2=h) l.length ?_ ?_
 ·simp only[push_cast,seval];exact⟨0,Nr,Nr,rfl⟩
 ·rintro k' tm h2 ⟨i,rfl,hi,f0,f1,f2,f7,rfl⟩;simp only[push_cast,seval,hE.z,f0,f7];by_cases hlt:i<l.length
  ·have hd:decide ((i:Int)<(l.length:Int))=true:=Nu;obtain⟨b1,d1,e1,hsp1,hac1⟩:=hv.1.elem hG hlt;injection e1 with e1 _ e1';subst e1;subst e1';have q1:=hl.at i _ (List.getElem?_eq_getElem hlt);have hk1:=hk _ (List.getElem_mem hlt);have hr:=fV (L:=l.map (·.to)) (rest:=[]) (i:=i) hW (by simpa using hg) (by simpa using hlt);have hgd:(l.map (·.to)).getD i 0=(l[i]).to:=by simp[List.getD_eq_getElem?_getD,hlt]
   rw[hgd]at hr;generalize l[i]=m at *;obtain⟨_,_,_,_,_,_,hms,_⟩:=q1.e;rw[hms]at hac1;have p0:=aY hac1 0 1 Nr;have p2:=aY hac1 2 1 Nr;simp only[Nat.add_zero,List.drop_zero,List.take_succ_cons,List.take_zero,List.drop_succ_cons]at p0 p2;simp only[push_cast,seval,hE.z,hd];refine ax Nt ?_;simp only[push_cast,seval,hE.z,f0,f7];have c1:((m.to:Int) != (m.to:Int))=false:=Nw;have c2:((m.k:Int) != (k:Int))=false:=by simp[hk1]
   rw[jw hsp1 Nr Nr,ab];simp only[push_cast,seval,hE.z,f0,f1,f7,↓p0,Int.toNat_natCast,c2];rw[jw hsp1 Nr Nr,ab];simp only[push_cast,seval,hE.z,f2,f7,↓p2,Int.toNat_natCast];rw[jQ rfl Nr Nr,ab];simp only[push_cast,seval,hE.z,f0,f1,f2,f7,↓hr,Int.toNat_natCast,c1];exact⟨l.length-(i+1),Nr,i+1,rfl,Nr,bk Nr⟩
  ·have hd:decide ((i:Int)<(l.length:Int))=false:=Nu;simp only[push_cast,seval,hd]
end
section
variable{G:Mem}{h:ag}{X:Nat->Prop}(hS:SO E G h X){P:PR}{r t:Nat}(hQ:QR E G h X P [] r t){cs:List Value}(hP:PRR E G P cs)
include hS hQ hP
end
end Go.Proofs.YthbjaiilnkakcaaGreatDoor
namespace Vr
theorem Sz.new{me n:Nat}(hn:n=3\/n=5\/n=7)(hme:me<n):(PR.new me n).Sz:=by
 refine⟨?_,?_,?_,?_,?_,?_,?_,?_,?_,?_,?_,?_,?_,?_,?_⟩
 all_goals first|(simp[PR.new,PR.op];done)|(simp only[PR.new,srt];trivial)|(show _/\_;simp[PR.new];omega)|(simp[PR.new];omega)|(simp[PR.new,srt])
end Vr
namespace Go.Proofs.YthbjaiilnkakcaaGreatDoor
open Go.Tm Vr
variable{E:Env}(hE:EOk E)
include hE
section
variable{G:Mem}{h:ag}{X:Nat->Prop}(hS:SO E G h X)
include hS
theorem uv:af E 6 [] h λv h'=>v=.bool true/\∃G' X',PX E G h X G' h' X':=by
 refine en hE Tryz.func6 rfl rfl Tryz.ntmps6 rfl Nv (rs:=[.tmp 0]) rfl ?_;simp only[push_cast,seval];refine(Ac hE hS (me:=0) (n:=3) (.inl rfl) Nr).mono ?_;rintro v1 H1 ⟨G1,X1,r,t,rc,p1,q1,hrc,rfl⟩;obtain⟨a1,c1,a2,c2,a3,c3,a4,c4,a5,c5,a6,c6,a7,c7,ct,cc,ca,rfl,_⟩:=hrc.e;simp only[push_cast,seval,hE.z];have k1:=(KW.refl p1.so.wf).push (o:=(.cells [ptr r,ptr t,iv (PR.new 0 3).me,iv (PR.new 0 3).n,iv (PR.new 0 3).vw,iv (PR.new 0 3).st,iv (PR.new 0 3).nm,iv (PR.new 0 3).bs,iv (PR.new 0 3).cm,iv (PR.new 0 3).nc,.slice a1 (PR.new 0 3).log.length c1,.bool false,.slice a2 (PR.new 0 3).sv.l.length c2,.slice none 0 0,.slice a3 (PR.new 0 3).sv.tab.length c3,.slice a4 (PR.new 0 3).told.length c4,.slice a5 (PR.new 0 3).aG.length c5,.bool (PR.new 0 3).aJ,.slice a6 (PR.new 0 3).aH.length c6,.slice a7 (PR.new 0 3).ans.length c7] 51 true));refine gtA [1] λt1 hf=>?_;simp only[push_cast,seval,gz]at hf;refine cR (motive:=λH=>aF E _ _ _ H) (λH=>KW E H1 H/\H.get H1.next=some (.cells [ptr r,ptr t,iv (PR.new 0 3).me,iv (PR.new 0 3).n,iv (PR.new 0 3).vw,iv (PR.new 0 3).st,iv (PR.new 0 3).nm,iv (PR.new 0 3).bs,iv (PR.new 0 3).cm,iv (PR.new 0 3).nc,.slice a1 (PR.new 0 3).log.length c1,.bool false,.slice a2 (PR.new 0 3).sv.l.length c2,.slice none 0 0,.slice a3 (PR.new 0 3).sv.tab.length c3,.slice a4 (PR.new 0 3).told.length c4,.slice a5 (PR.new 0 3).aG.length c5,.bool (PR.new 0 3).aJ,.slice a6 (PR.new 0 3).aH.length c6,.slice a7 (PR.new 0 3).ans.length c7] 51 true)) ⟨k1,NI⟩ ?_;clear k1;rintro H ⟨k1,gN⟩;have nN:=k1.w.nlt gN;have p2:=p1.trans hS.wf (PX.kw p1.so k1);have q2:=q1.ext (k1.ext p1.so.frz);have xN:¬X1 H1.next:=λhx=>by have:=p1.so.lt _ hx;omega
 refine ie [(1,2)] [false,true,false,false,false] (λH=>H.get H1.next=some (.cells [ptr r,ptr t,iv (PR.new 0 3).me,iv (PR.new 0 3).n,iv (PR.new 0 3).vw,iv (PR.new 0 3).st,iv (PR.new 0 3).nm,iv (PR.new 0 3).bs,iv (PR.new 0 3).cm,iv (PR.new 0 3).nc,.slice a1 (PR.new 0 3).log.length c1,.bool false,.slice a2 (PR.new 0 3).sv.l.length c2,.slice none 0 0,.slice a3 (PR.new 0 3).sv.tab.length c3,.slice a4 (PR.new 0 3).told.length c4,.slice a5 (PR.new 0 3).aG.length c5,.bool (PR.new 0 3).aJ,.slice a6 (PR.new 0 3).aH.length c6,.slice a7 (PR.new 0 3).ans.length c7] 51 true)) Nt Nt Nt Nv gN ?_;simp only[push_cast,seval,hE.z,dR,rm,bV,hf,gN,nN];refine⟨λ_=>⟨ptr r,iF,?_⟩,?_⟩
 ·rintro HH hN;simp only[push_cast,seval,hE.z,cX,hN,nN]
 refine(Hj hE p2.so.wf (to:=0) (c:=1) (n:=1) Nr).mono ?_;rintro v3 H3 ⟨k3,ms,rfl,hms⟩;have gN3:=k3.k.get _ _ gN;have p3:=p2.trans hS.wf (PX.kw p2.so k3);have q3:=q2.ext (k3.ext p2.so.frz);simp only[push_cast,seval];refine ir gN3 ?_;have hz:=Sz.new (me:=0) (n:=3) (.inl rfl) Nr
 have hst:=JU hE p3.so q3 (P':=(request (PR.new 0 3) (ze 0 1 1)).1) (out':=(request (PR.new 0 3) (ze 0 1 1)).2) (f:=34) (w:=false) hz (hms G1) Nz rfl rfl (.inl rfl) Nw Nz ⟨Nz,Nz⟩ (λs q hm1=>(tI hE s q hz Nw Nz hm1 Nz).mono (by
  rintro v h' ⟨rfl,X',p,q⟩
  exact⟨rfl,_,X',p,PZ⟩))
 simp only[push_cast,seval,dR];refine hst.mono ?_;rintro v4 H4 ⟨G4,X4,co,p4,q4,z4,r4⟩;have gN4:=p4.box xN gN3;have p5:=p3.trans hS.wf p4;simp only[push_cast,seval];refine ir gN4 ?_;obtain⟨a,c,rfl,_⟩:=z4.slice;simp only[push_cast,seval,hE.z,jD,dR,bV];have hb2:mL Tryz.prog 27 2 [(0,.int .i64 1),(1,.int .i64 2)]=some (λb=>.slice (some ⟨b,0,none⟩) 2 2,.cells (bT [1,2]) 3 true):=by simp[mL,Tryz.underlying27,sz3,zr3,dP,bR,bJ,aM,bT]
 rw[hb2,aR];simp only[push_cast,seval];have k6:=(KW.refl p5.so.wf).push (o:=.cells (bT [1,2]) 3 true);refine(HM hE k6.w (p5.so.frz.aK k6.k) z4 r4 Nz (b:=H4.next) (tos:=[1,2]) NI rfl (k:=2) Nz Nz).mono ?_;rintro v6 H6 ⟨rfl,hH6⟩;subst hH6;have p6:=p5.trans hS.wf (PX.kw p5.so k6);have q6:=q4.ext (k6.ext p5.so.frz);have gN6:=k6.k.get _ _ gN4;obtain⟨b1,d1,e1,hsp1,hac1⟩:=z4.1.elem p6.so.frz (i:=0) Nz;injection e1 with e1 _ e1';subst e1;subst e1';have q0:=r4.at 0 ((request (PR.new 0 3) (ze 0 1 1)).2[0]' Nz) (List.getElem?_eq_getElem _);have hop1:((request (PR.new 0 3) (ze 0 1 1)).2[0]' Nz).op=1:=Nz;obtain⟨_,_,_,_,_,_,hms0,_⟩:=q0.e;rw[hms0]at hac1;have p40:=aY hac1 4 1 Nz;simp only[List.drop_zero,List.take_succ_cons,List.take_zero,List.drop_succ_cons,hop1]at p40;have nN6:=p6.so.wf.nlt gN6;have len2:(request (PR.new 0 3) (ze 0 1 1)).2.length=2:=Nz;simp only[push_cast,seval,hE.z];rw[jw hsp1 Nr (by rw[len2];decide),ab];simp only[push_cast,seval,hE.z,hf,gN6,nN6,↓p40,Int.toNat_zero,Nat.zero_mul];have hOp:(request (PR.new 0 3) (ze 0 1 1)).1.op=1:=Nz;have hCm:(request (PR.new 0 3) (ze 0 1 1)).1.cm=0:=Nz;refine(zZ hE p6.so q6).mono ?_;intro v h5 hvh;rw[hvh.1,hvh.2];clear hvh;simp only[push_cast,seval,hE.z,hOp,hf,gN6,nN6];refine(pM hE p6.so q6).mono ?_;intro v h5 hvh;rw[hvh.1,hvh.2];clear hvh;simp only[push_cast,seval,hCm];exact⟨_,_,p6⟩
end
end Go.Proofs.YthbjaiilnkakcaaGreatDoor
namespace Go.Tm
variable{E:Env}{h:ag}{b by_ cap n off t:Nat}{cs:List Value}
def hU(h:ag)(e z n:Nat)(cs:List Value)(v:Value):Prop :=
 (v=.slice none 0 0/\n=0/\cs=[]) \/
 (∃b off cap pre rest fx,v=.slice (some ⟨b,off*z,none⟩) n cap/\h.get b=some (.cells (pre++(cs++rest)) e fx)/\pre.length=off*z/\cs.length=n*z/\rest.length=(cap-n)*z/\n<=cap/\cap<=9223372036854775807) \/
 (∃b off k pre fx,v=.slice (some ⟨b,off,some (2*k)⟩) 0 0/\n=0/\cs=[]/\h.get b=some (.cells pre e fx)/\pre.length=off+k)
theorem hU.nil(h:ag)(e z:Nat):hU h e z 0 [] (.slice none 0 0):=.inl ⟨rfl,rfl,rfl⟩
theorem hU.at{h h':ag}{e z n:Nat}{cs:List Value}{v:Value}(H:hU h e z n cs v)(k:∀b o,b∈slB v->h.get b=some o->h'.get b=some o):hU h' e z n cs v:=by
 rcases H with H|⟨b,off,cap,pre,rest,fx,rfl,hg,H⟩|⟨b,off,kk,pre,fx,rfl,h1,h2,hg,H⟩
 ·exact .inl H
 ·exact .inr (.inl ⟨b,off,cap,pre,rest,fx,rfl,k _ _ OA hg,H⟩)
 ·exact .inr (.inr ⟨b,off,kk,pre,fx,rfl,h1,h2,k _ _ OA hg,H⟩)
theorem hU.fh{h:ag}{e z n:Nat}{cs:List Value}{v:Value}(H:hU h e z n cs v):∃a c,v=.slice a n c/\n<=c:=by
 rcases H with⟨rfl,rfl,_⟩|⟨b,off,cap,pre,rest,fx,rfl,_,_,_,_,h,_⟩|⟨b,off,kk,pre,fx,rfl,rfl,_⟩
 ·exact⟨_,_,rfl,Nr⟩
 ·exact⟨_,_,rfl,h⟩
 ·exact⟨_,_,rfl,Nr⟩
structure JP(E:Env)(h h':ag)(e z n:Nat)(cs:List Value)(v v':Value):Prop where
 own:hU h' e z n cs v'
 get:∀b o,h.get b=some o->b∉slB v->h'.get b=some o
 blk:∀b,b∈slB v'->b∈slB v\/h.next<=b
 lt:∀b,b∈slB v'->b<h'.next
 next:h.next<=h'.next
 wf:WF E h'
theorem Md{e z m:Nat}{xs:List Value}{v x:Value}{d:Option Nat}{R:bl}{tm:Tr Value}(T:jW E t e z by_)(hW:WF E h)(H:hU h e z n cs v)
 (hm:iZ x=some m) (h0:0<m) (hx:lj E h z x m=some xs) (hl:xs.length=m*z) (ho:xs.all Value.oneCell'=true) (hb:(n+m)*by_<=140737488355328) (hn:n+m<=9223372036854775807)
 (K:∀v' h',JP E h h' e z (n+m) (cs++xs) v v'->R (du tm d v') h'):kwv (cI E h t t v x) d R tm h:=by
 obtain⟨i,hi,hiz⟩:∃i,E.P.info? e=some i/\(i.size,i.bytes)=(z,by_):=by have:=T.info;rw[Option.map_eq_some_iff]at this;exact this
 injection hiz with hz1 hz2;subst hz1;subst hz2;obtain⟨zv,hzv,hzl⟩:=T.zero;have hpos:=T.pos;have main:∀base sCap,v=.slice base n sCap->cI E h t t v x=eA E h e i base n sCap m x:=by intro base sCap hv;subst hv;simp only[cI,T.und,hm,kT,Bool.false_eq_true,if_false,hi]
 have none':∀base sCap,n+m>sCap->eA E h e i base n sCap m x=ib E h e i base n sCap m xs:=by intro base sCap hc;unfold eA;rw[if_neg Nr];simp only[hx];rw[if_neg Nr]
 have fin:∀(h2:ag),h2.next=h.next->WF E h2->cs.length=n*i.size->(∀b o,h.get b=some o->b∉slB v->h2.get b=some o)->JP E h (h2.push (.cells (cs++xs) e false)) e i.size (n+m) (cs++xs) v (.slice (some (fE h)) (n+m) (n+m)):=by
  intro h2 hnx hw2 hcl hk;refine⟨.inr (.inl ⟨h.next,0,n+m,[],[],false,by simp[fE],?_,Nw,?_,Nw,Nr,hn⟩),?_,?_,?_,Nu,hw2.push _⟩
  ·rw[ah,hnx,if_pos rfl];simp
  ·simp only[List.length_append,hl,hcl];rw[Nat.add_mul]
  ·intro b o hg hb;rw[ah,if_neg (by have:=(hW.live b o hg).2;omega)];exact hk b o hg hb
  ·intro b hb;simp[slB,fE]at hb;right;omega
  ·intro b hb;simp[slB,fE]at hb;simp;omega
 rcases H with⟨rfl,rfl,rfl⟩|⟨b,off,cap,pre,rest,fx,rfl,hg,h1,h2,h3,h4,h5⟩|⟨b,off,kk,pre,fx,rfl,rfl,rfl,hg,hp⟩
 ·have hgr:ib E h e i none 0 0 m xs=some (.slice (some (fE h)) m m,h.push (.cells xs e false)):=by unfold ib;rw[if_pos ⟨Nr,hl,hpos,Nr,ho⟩];simp only[hzv];rw[if_pos hzl];simp[fE]
  have hf:=fin h rfl hW Nw (λ_ _ x _=>x);simp only[List.nil_append,Nat.zero_add]at hf K;exact⟨_,by rw[main none 0 rfl,none' none 0 (by omega),hgr],K _ _ hf⟩
 ·by_cases hroom:n+m<=cap
  ·have hmc:m*i.size<=(cap-n)*i.size:=Nat.mul_le_mul_right _ Nr;have hlen:pre.length+cs.length+xs.length<=(pre++(cs++rest)).length:=by simp only[List.length_append];omega
   have hsp:bJ (pre++(cs++rest)) (pre.length+cs.length) xs=pre++((cs++xs)++rest.drop xs.length):=by have:=tu (cs:=pre++cs) (rest:=rest) (xs:=xs) Nr;simp only[List.length_append,List.append_assoc]at this|-;exact this
   refine⟨(.slice (some ⟨b,off*i.size,none⟩) (n+m) cap,h.put b (.cells (pre++((cs++xs)++rest.drop xs.length)) e fx)),?_,K _ _ ⟨.inr (.inl ⟨b,off,cap,pre,rest.drop xs.length,fx,rfl,?_,h1,?_,?_,hroom,h5⟩),?_,?_,?_,Nw,hW.put hg⟩⟩
   ·rw[main _ cap rfl];unfold eA;rw[if_neg Nr];simp only[hx];rw[if_pos hroom];simp only[fQ,bQ,hg];rw[<-h1,<-h2];refine(congrArg _ (if_pos ⟨hlen,ho⟩)).trans ?_;simp only[Option.map_some];rw[hsp]
   ·rw[ai,if_pos rfl]
   ·simp only[List.length_append,h2,hl];rw[Nat.add_mul]
   ·rw[List.length_drop,h3,hl,<-Nat.sub_mul];congr 1;omega
   ·intro j o hgj hne;rw[ai,if_neg PQ];exact hgj
   ·intro j hj;left;simpa[slB] using hj
   ·intro j hj;simp[slB]at hj;subst hj;simp;exact(hW.live _ _ hg).2
  ·have hd:(List.drop (off*i.size) (pre++(cs++rest))).take (n*i.size)=cs:=by rw[<-h1,List.drop_left,<-h2,List.take_left]
   have hgr:ib E h e i (some ⟨b,off*i.size,none⟩) n cap m xs=(if fx then some (.slice (some (fE h)) (n+m) (n+m),h.push (.cells (cs++xs) e false)) else some (.slice (some (fE h)) (n+m) (n+m),(h.kill b).push (.cells (cs++xs) e false))):=by unfold ib;rw[if_pos ⟨hb,hl,hpos,Nr,ho⟩];simp only[hzv];rw[if_pos hzl];simp only[hg,hd,reduceCtorEq,false_and,if_false];rw[if_pos ⟨trivial,by simp only[lF,List.length_append,h1,h2,h3];rw[<-Nat.add_mul,<-Nat.add_mul,<-Nat.add_mul];congr 1;omega,Nw,Nr⟩]
   cases fx with
   |true=>exact⟨_,by rw[main _ cap rfl,none' _ cap (by omega),hgr];rfl,K _ _ (fin h rfl hW h2 (λ_ _ x _=>x))⟩
   |false=>exact⟨_,by rw[main _ cap rfl,none' _ cap (by omega),hgr];rfl,K _ _ (fin (h.kill b) Nw (hW.kill (b:=b)) h2 (λj o x hne=>by rw[dC,if_neg PQ];exact x))⟩
 ·have hgr:ib E h e i (some ⟨b,off,some (2*kk)⟩) 0 0 m xs=(if fx then some (.slice (some (fE h)) (0+m) (0+m),h.push (.cells ([]++xs) e false)) else some (.slice (some (fE h)) (0+m) (0+m),(h.kill b).push (.cells ([]++xs) e false))):=by unfold ib;rw[if_pos ⟨hb,hl,hpos,Nr,ho⟩];simp only[hzv];rw[if_pos hzl];simp only[hg,Nat.lt_irrefl,and_false,if_false];rw[if_pos ⟨trivial,by simp only[lF,hp];omega,by simp[Il],Nr⟩];simp
  cases fx with
  |true=>exact⟨_,by rw[main _ 0 rfl,none' _ 0 (by omega),hgr];rfl,K _ _ (fin h rfl hW Nw (λ_ _ x _=>x))⟩
  |false=>exact⟨_,by rw[main _ 0 rfl,none' _ 0 (by omega),hgr];rfl,K _ _ (fin (h.kill b) Nw (hW.kill (b:=b)) Nw (λj o x hne=>by rw[dC,if_neg PQ];exact x))⟩
theorem Kq{e z m:Nat}{xs:List Value}{x:Value}{d:Option Nat}{R:bl}{tm:Tr Value}(T:jW E t e z by_)(hW:WF E h)(H:hU h e z n cs (.slice (some ⟨b,off,none⟩) n cap))(hn0:0<n)
 (hm:iZ x=some m) (h0:0<m) (hx:lj E h z x m=some xs) (hl:xs.length=m*z) (ho:xs.all Value.oneCell'=true) (hb:(n+m)*by_<=140737488355328) (hn:n+m<=9223372036854775807)
 (K:∀v' h',Own h' e z h.next (n+m) (cs++xs) v'->KW E h h'->R (du tm d v') h'):kwv (cI E h t t (.slice (some ⟨b,off,some 0⟩) n n) x) d R tm h:=by
 obtain⟨i,hi,hiz⟩:∃i,E.P.info? e=some i/\(i.size,i.bytes)=(z,by_):=by have:=T.info;rw[Option.map_eq_some_iff]at this;exact this
 injection hiz with hz1 hz2;subst hz1;subst hz2;obtain⟨zv,hzv,hzl⟩:=T.zero;have hpos:=T.pos;rcases H with⟨h1,_⟩|⟨b',off',cap',pre,rest,fx,e1,hg,h1,h2,h3,h4,h5⟩|⟨b',off',kk,pre,fx,e1,h1,_⟩
 ·cases h1
 ·injection e1 with e1 _ _;injection e1 with e1;injection e1 with e1 e2 _;subst e1;subst e2;have hd:(List.drop (off'*i.size) (pre++(cs++rest))).take (n*i.size)=cs:=by rw[<-h1,List.drop_left,<-h2,List.take_left]
  have hgr:ib E h e i (some ⟨b,off'*i.size,some 0⟩) n n m xs=some (.slice (some (fE h)) (n+m) (n+m),h.push (.cells (cs++xs) e false)):=by unfold ib;rw[if_pos ⟨hb,hl,hpos,Nr,ho⟩];simp only[hzv];rw[if_pos hzl];rw[if_pos ⟨trivial,hn0⟩];simp only[hg,hd];rw[if_pos ⟨trivial,by simp only[List.length_append,h1,h2];omega,trivial⟩]
  refine⟨(.slice (some (fE h)) (n+m) (n+m),h.push (.cells (cs++xs) e false)),?_,K _ _ ?_ ((KW.refl hW).push)⟩
  ·simp only[cI,T.und,hm,kT,Bool.false_eq_true,if_false,hi];unfold eA;rw[if_neg Nr];simp only[hx];rw[if_neg Nr,hgr]
  ·refine .inr ⟨h.next,n+m,[],false,by simp[fE],?_,?_,Nw,Nr,Nat.le_refl _,hn⟩
   ·rw[ah,if_pos rfl];simp
   ·simp only[List.length_append,hl,h2];rw[Nat.add_mul]
 ·injection e1 with e1 _ _;omega
theorem Jt{e e' z:Nat}{xs:List Value}{d:Option Nat}{R:bl}{tm:Tr Value}(T:jW E t e z by_)(hW:WF E h)(H:hU h e z n cs (.slice (some ⟨b,off,none⟩) n cap))(hn0:0<n)
 (hl:xs.length=z) (ho:xs.all Value.oneCell'=true) (hb:(n+1)*by_<=140737488355328) (hn:n+1<=9223372036854775807)
 (K:∀v' h',Own h' e z h.next (n+1) (cs++xs) v'->KW E h h'->R (du tm d v') h'):kwv (cI E (h.push (.cells xs e' true)) t t (.slice (some ⟨b,off,some 0⟩) n n) (.slice (some ⟨h.next,0,none⟩) 1 1)) d R tm (h.push (.cells xs e' true)):=by
 have kp:=(KW.refl hW).push (o:=.cells xs e' true);refine Kq T kp.w (H.at λb o _ hg=>kp.k.get b o hg) hn0 rfl Nr ?_ Nr ho hb hn λv' h' o k=>K v' h' (o.low Nw) (kp.trans k);have hz:=T.pos;simp only[lj,Nat.one_mul];rw[if_neg Nr];unfold cg;simp only[hW.nb0,if_false,ah,if_true,Nat.zero_add];rw[if_pos Nr,List.drop_zero,List.take_of_length_le Nr]
theorem Own.toQ{h:ag}{e z lo n:Nat}{cs:List Value}{v:Value}(H:Own h e z lo n cs v):hU h e z n cs v:=by
 rcases H with⟨rfl,rfl,rfl⟩|⟨b,cap,rest,fx,rfl,hg,hc1,hc2,hc3,hc4,hc5⟩
 ·exact hU.nil _ _ _
 ·exact .inr (.inl ⟨b,0,cap,[],rest,fx,Nw,by simpa using hg,Nw,hc1,hc2,hc3,hc5⟩)
end Go.Tm
namespace Go.Tm
open Vr
variable{X Y':Nat->Prop}{i n:Nat}{cs:List Value}{v:Value}
structure Rr where
 P:PR
 r:Nat
 t:Nat
 cs:List Value
 X:Nat->Prop
def Rr.c(a:Rr):List Value:=ptr a.r::ptr a.t::a.cs
structure RS(E:Env)(G:Mem)(h:ag)(L:List Rr):Prop where
 wf:WF E h
 frz:Frz E G h
 so:∀a,a∈L->SO E G h a.X
 qr:∀a,a∈L->QR E G h a.X a.P [] a.r a.t
 pr:∀a,a∈L->PRR E G a.P a.cs
 dj:∀(i j:Nat) a b,L[i]? = some a->L[j]? = some b->i≠j->∀x,a.X x->¬b.X x
theorem PRR.JX{E:Env}{G:Mem}{P:PR}{cs:List Value}(h:PRR E G P cs):cs.length=18:=by obtain⟨a1,c1,a2,c2,a3,c3,a4,c4,a5,c5,a6,c6,a7,c7,ct,cc,ca,rfl,_⟩:=h.e;rfl
theorem RS.len{E:Env}{G:Mem}{h:ag}{L:List Rr}(s:RS E G h L):∀a,a∈L->a.c.length=20:=λa ha=>by
 simp[Rr.c,(s.pr a ha).JX]
theorem QR.mh{E:Env}{G G':Mem}{h h':ag}{X:Nat->Prop}{P:PR}{out:List Mg}{r t:Nat}(q:QR E G h X P out r t)(sub:Sub G G')(k:∀b o,X b->h.get b=some o->h'.get b=some o):QR E G' h' X P out r t:=by obtain⟨D,q⟩:=q;exact⟨D,q.mh sub k⟩
theorem SO.beside{E:Env}{G G':Mem}{h h':ag}{Y:Nat->Prop}(s:SO E G h X)(p:PX E G h Y G' h' Y')(hd:∀x,X x->¬Y x):SO E G' h' X:=⟨p.so.wf,p.so.frz,λb c hb hx=>by
 rcases p.new b c hb with h3|h3
 ·exact s.dis b c h3 hx
 ·have:=s.lt b hx;omega,λb hx=>Nat.lt_of_lt_of_le (s.lt b hx) p.kx.next⟩
theorem RS.other{E:Env}{G G':Mem}{h h':ag}{L:List Rr}{Y:Nat->Prop}(s:RS E G h L)(p:PX E G h Y G' h' Y')(hd:∀a,a∈L->∀x,a.X x->¬Y x):RS E G' h' L :=
 ⟨p.so.wf,p.so.frz,λa ha=>(s.so a ha).beside p (hd a ha),λa ha=>(s.qr a ha).mh p.sub λb o hx hg=>p.kx.get b o (hd a ha b hx) hg,λa ha=>(s.pr a ha).sub p.sub,s.dj⟩
theorem RS.ext{E:Env}{G G':Mem}{h h':ag}{L:List Rr}(s:RS E G h L)(x:Ext E G h G' h'):RS E G' h' L :=
 ⟨x.wf,x.frz,λa ha=>(s.so a ha).ext x,λa ha=>(s.qr a ha).ext x,λa ha=>(s.pr a ha).sub x.sub,s.dj⟩
theorem jF{α:Type}{L:List α}{j:Nat}{a b c:α}(h:L[i]? = some a)(hc:(L.set i b)[j]? = some c):(j=i/\c=b)\/(j≠i/\L[j]? = some c):=by
 rw[List.getElem?_set]at hc;by_cases hij:i=j
 ·subst hij;rw[if_pos rfl]at hc;split at hc
  ·injection hc with hc;exact .inl ⟨rfl,hc.symm⟩
  ·cases hc
 ·rw[if_neg hij]at hc;exact .inr ⟨λe=>hij e.symm,hc⟩
theorem RS.set{E:Env}{G G':Mem}{h h':ag}{L:List Rr}{i:Nat}{a b:Rr}(s:RS E G h L)(hi:L[i]? = some a)(p:PX E G h a.X G' h' b.X)(q:QR E G' h' b.X b.P [] b.r b.t)(hp:PRR E G' b.P b.cs):RS E G' h' (L.set i b):=by
 have hold:∀c,c∈L.set i b->c=b\/∃j,j≠i/\L[j]? = some c:=by
  intro c hc;obtain⟨j,hj⟩:=List.mem_iff_getElem?.1 hc;rcases jF hi hj with⟨_,h2⟩|h2
  ·exact .inl h2
  ·exact .inr ⟨j,h2⟩
 have hdj:∀j c,j≠i->L[j]? = some c->∀x,c.X x->¬a.X x:=λj c hj hc=>s.dj j i c a hc hi hj;have hdb:∀j c,j≠i->L[j]? = some c->∀x,c.X x->¬b.X x:=by
  intro j c hj hc x hx hb;rcases p.xs x hb with h1|h1
  ·exact hdj j c hj hc x hx h1
  ·have:=(s.so c (List.mem_of_getElem? hc)).lt x hx;omega
 refine⟨p.so.wf,p.so.frz,λc hc=>?_,λc hc=>?_,λc hc=>?_,λj k c d hc hd hjk=>?_⟩
 ·rcases hold c hc with rfl|⟨j,hj,hc⟩
  ·exact p.so
  ·exact(s.so c (List.mem_of_getElem? hc)).beside p (hdj j c hj hc)
 ·rcases hold c hc with rfl|⟨j,hj,hc⟩
  ·exact q
  ·exact(s.qr c (List.mem_of_getElem? hc)).mh p.sub λx o hx hg=>p.kx.get x o (hdj j c hj hc x hx) hg
 ·rcases hold c hc with rfl|⟨j,hj,hc⟩
  ·exact hp
  ·exact(s.pr c (List.mem_of_getElem? hc)).sub p.sub
 ·rcases jF hi hc with⟨h1,h2⟩|⟨h1,h2⟩
  ·rcases jF hi hd with⟨h3,h4⟩|⟨h3,h4⟩
   ·omega
   ·subst h2;exact λx hx hd'=>hdb k d h3 h4 x hd' hx
  ·rcases jF hi hd with⟨h3,h4⟩|⟨h3,h4⟩
   ·subst h4;exact hdb j c h1 h2
   ·exact s.dj j k c d h2 h4 hjk
theorem RS.snoc{E:Env}{G G':Mem}{h h':ag}{L:List Rr}{b:Rr}(s:RS E G h L)(p:PX E G h (λ_=>False) G' h' b.X)(q:QR E G' h' b.X b.P [] b.r b.t)(hp:PRR E G' b.P b.cs):RS E G' h' (L++[b]):=by
 have s':=s.other p (λa ha x hx hf=>hf);have hdb:∀c,c∈L->∀x,c.X x->¬b.X x:=by
  intro c hc x hx hb;rcases p.xs x hb with h1|h1
  ·exact h1
  ·have:=(s.so c hc).lt x hx;omega
 have hold:∀(j:Nat) c,(L++[b])[j]? = some c->(j<L.length/\L[j]? = some c)\/(j=L.length/\c=b):=by
  intro j c hc;by_cases hj:j<L.length
  ·rw[List.getElem?_append_left hj]at hc;exact .inl ⟨hj,hc⟩
  ·rw[List.getElem?_append_right Nr]at hc;by_cases h0:j-L.length=0
   ·rw[h0]at hc;simp at hc;exact .inr ⟨Nr,hc.symm⟩
   ·rw[List.getElem?_eq_none Nu]at hc;cases hc
 refine⟨p.so.wf,p.so.frz,λc hc=>?_,λc hc=>?_,λc hc=>?_,λj k c d hc hd hjk=>?_⟩
 ·rcases List.mem_append.1 hc with hc|hc
  ·exact s'.so c hc
  ·simp at hc;subst hc;exact p.so
 ·rcases List.mem_append.1 hc with hc|hc
  ·exact s'.qr c hc
  ·simp at hc;subst hc;exact q
 ·rcases List.mem_append.1 hc with hc|hc
  ·exact s'.pr c hc
  ·simp at hc;subst hc;exact hp
 ·rcases hold j c hc with⟨h1,h2⟩|⟨h1,h2⟩
  ·rcases hold k d hd with⟨h3,h4⟩|⟨h3,h4⟩
   ·exact s.dj j k c d h2 h4 hjk
   ·subst h4;exact hdb c (List.mem_of_getElem? h2)
  ·rcases hold k d hd with⟨h3,h4⟩|⟨h3,h4⟩
   ·subst h2;exact λx hx hd'=>hdb d (List.mem_of_getElem? h4) x hd' hx
   ·omega
def un(L:List Rr)(Y:Nat->Prop):Nat->Prop:=λx=>Y x\/∃a,a∈L/\a.X x
structure GS(E:Env)(G:Mem)(h:ag)(L:List Rr)(Y:Nat->Prop)(net:List Mg)(vL vN:Value):Prop where
 rs:RS E G h L
 sy:SO E G h Y
 dj:∀a,a∈L->∀x,a.X x->¬Y x
 ol:Own h 51 20 0 L.length (L.flatMap Rr.c) vL
 yl:∀b,b∈slB vL->Y b
 on:∃co,hU h 66 17 net.length co vN/\bu E G net co
 yn:∀b,b∈slB vN->Y b
theorem GS.so{E:Env}{G:Mem}{h:ag}{L:List Rr}{Y:Nat->Prop}{net:List Mg}{vL vN:Value}(g:GS E G h L Y net vL vN):SO E G h (un L Y) :=
 ⟨g.rs.wf,g.rs.frz,λb c hb hu=>by
  rcases hu with h1|⟨a,ha,h1⟩
  ·exact g.sy.dis b c hb h1
  ·exact(g.rs.so a ha).dis b c hb h1,λb hu=>by
  rcases hu with h1|⟨a,ha,h1⟩
  ·exact g.sy.lt b h1
  ·exact(g.rs.so a ha).lt b h1⟩
theorem PX.wide{E:Env}{G G':Mem}{h h':ag}{A A' Z Z':Nat->Prop}(p:PX E G h A G' h' A')(hA:∀b,A b->Z b)(s':SO E G' h' Z')(hx:∀b,Z' b->Z b\/h.next<=b):PX E G h Z G' h' Z' :=
 ⟨p.sub,p.new,⟨λb o hn hb=>p.kx.get b o (λh=>hn (hA b h)) hb,p.kx.next⟩,hx,s'⟩
theorem Own.other{h h':ag}{e z lo:Nat}{Y:Nat->Prop}(H:Own h e z lo n cs v)(hY:∀b,b∈slB v->Y b)(hd:∀x,X x->¬Y x)(k:KX X h h'):Own h' e z lo n cs v :=
 H.at λb o hb hg=>k.get b o (λhx=>hd b hx (hY b hb)) hg
theorem hU.other{h h':ag}{e z:Nat}{Y:Nat->Prop}(H:hU h e z n cs v)(hY:∀b,b∈slB v->Y b)(hd:∀x,X x->¬Y x)(k:KX X h h'):hU h' e z n cs v :=
 H.at λb o hb hg=>k.get b o (λhx=>hd b hx (hY b hb)) hg
theorem GS.ext{E:Env}{G G':Mem}{h h':ag}{L:List Rr}{Y:Nat->Prop}{net:List Mg}{vL vN:Value}(g:GS E G h L Y net vL vN)(x:Ext E G h G' h'):GS E G' h' L Y net vL vN:=by obtain⟨co,h1,h2⟩:=g.on;exact⟨g.rs.ext x,g.sy.ext x,g.dj,g.ol.at λb o _ hg=>x.aK.get b o hg,g.yl,⟨co,h1.at λb o _ hg=>x.aK.get b o hg,h2.sub x.sub⟩,g.yn⟩
theorem qL{α:Type}{f:α->List Value}{z:Nat}:∀{L:List α},(∀a,a∈L->(f a).length=z)->∀{i:Nat} {a:α},L[i]? = some a->((L.flatMap f).drop (i*z)).take z=f a
 |[],_,i,a,h=>N7
 | x::L,hl,0,a,h=>by
   simp at h;subst h;simp only[List.flatMap_cons,Nat.zero_mul,List.drop_zero];rw[<-hl x Nw,List.take_left]
 | x::L,hl,i+1,a,h=>by
   simp only[List.flatMap_cons];rw[Nat.add_mul,Nat.one_mul,Nat.add_comm,<-List.drop_drop];have:(f x++L.flatMap f).drop z=L.flatMap f:=by have:=hl x Nw;rw[<-this,List.drop_left]
   rw[this];exact qL (λa ha=>hl a Od) Ot
theorem Ae{α:Type}{f:α->List Value}{z:Nat}:∀{L:List α},(∀a,a∈L->(f a).length=z)->(L.flatMap f).length=L.length*z
 |[],_=>Nw
 | x::L,hl=>by
   simp only[List.flatMap_cons,List.length_append,List.length_cons];rw[hl x Nw,Ae (L:=L) (λa ha=>hl a Od),Nat.add_mul];omega
theorem Ad{α:Type}{f:α->List Value}{z:Nat}{b:α}(hb:(f b).length=z){rest:List Value}:∀{L:List α},(∀a,a∈L->(f a).length=z)->∀{i:Nat},i<L.length->bJ (L.flatMap f++rest) (i*z) (f b)=(L.set i b).flatMap f++rest
 |[],_,i,h=>N7
 | x::L,hl,0,h=>by
   have:=hl x Nw;unfold bJ;simp only[List.flatMap_cons,Nat.zero_mul,List.take_zero,List.nil_append,List.set_cons_zero,Nat.zero_add,List.append_assoc];rw[hb,<-this,List.drop_left]
 | x::L,hl,i+1,h=>by
   have hx:=hl x Nw;have ih:=Ad hb (rest:=rest) (L:=L) (λa ha=>hl a Od) (i:=i) Ot;unfold bJ at ih|-;simp only[List.flatMap_cons,List.set_cons_succ,List.append_assoc];rw[<-ih,Nat.add_mul,Nat.one_mul,Nat.add_comm (i*z) z];rw[List.take_append,List.take_of_length_le Nr,List.drop_append,List.drop_eq_nil_of_le Nr];rw[hx];simp only[List.nil_append,List.append_assoc];congr 3
   ·congr 1;omega
   ·congr 2;omega
theorem node1{E:Env}{G:Mem}{a:Rr}(h:PRR E G a.P a.cs):a.c.all Value.oneCell'=true:=by obtain⟨a1,c1,a2,c2,a3,c3,a4,c4,a5,c5,a6,c6,a7,c7,ct,cc,ca,h,_⟩:=h.e;unfold Rr.c;rw[h];rfl
section
variable{E:Env}{G G':Mem}{h h':ag}{L:List Rr}{Y:Nat->Prop}{net:List Mg}{vL vN:Value}
theorem GS.node(g:GS E G h L Y net vL vN){a:Rr}(hi:L[i]? = some a):∃bL cap,vL=.slice (some ⟨bL,0,none⟩) L.length cap/\cg E h ⟨bL,i*20,none⟩ 20=some a.c:=by have hlt:i<L.length:=(List.getElem?_eq_some_iff.1 hi).1;obtain⟨b,c,e1,e2⟩:=g.ol.elem g.rs.wf hlt;rw[qL g.rs.len hi]at e2;exact⟨b,c,e1,e2⟩
theorem GS.store(g:GS E G h L Y net vL vN){a b:Rr}(hi:L[i]? = some a)(p:PX E G h a.X G' h' b.X)(q:QR E G' h' b.X b.P [] b.r b.t)(hp:PRR E G' b.P b.cs) :
 ∃bL cap o,vL=.slice (some ⟨bL,0,none⟩) L.length cap/\bQ h' ⟨bL,i*20,none⟩ b.c=some (h'.put bL o)/\Y bL/\GS E G' (h'.put bL o) (L.set i b) Y net vL vN/\PX E G h (un L Y) G' (h'.put bL o) (un (L.set i b) Y):=by
 have hlt:i<L.length:=(List.getElem?_eq_some_iff.1 hi).1;have ha:=List.mem_of_getElem? hi;have hb20:b.c.length=20:=by simp[Rr.c,hp.JX]
 have hl:=g.rs.len;have rs':=g.rs.set hi p q hp;have sy':=g.sy.beside p (λx hy hx=>g.dj a ha x hx hy);have ol':=g.ol.other g.yl (g.dj a ha) p.kx;obtain⟨co,on,mn⟩:=g.on;have on':=on.other g.yn (g.dj a ha) p.kx;have hdj':∀c,c∈L.set i b->∀x,c.X x->¬Y x:=by
  intro c hc x hx hy;obtain⟨j,hj⟩:=List.mem_iff_getElem?.1 hc;rcases jF hi hj with⟨_,h2⟩|⟨_,h2⟩
  ·subst h2;rcases p.xs x hx with h3|h3
   ·exact g.dj a ha x h3 hy
   ·have:=g.sy.lt x hy;omega
  ·exact g.dj c (List.mem_of_getElem? h2) x hx hy
 have hyl:=g.yl;rcases ol' with⟨_,h0,_⟩|⟨bL,cap,rest,fx,rfl,hg,h1,h2,h3,h4,h5⟩
 ·omega
 have hY:Y bL:=hyl bL OA;refine⟨bL,cap,.cells ((L.set i b).flatMap Rr.c++rest) 51 fx,rfl,?_,hY,?_⟩
 ·unfold bQ;simp only[hg];have h20:i*20+b.c.length<=(L.flatMap Rr.c++rest).length:=by rw[List.length_append,h1,hb20];omega
  rw[if_pos ⟨h20,node1 hp⟩,Ad hb20 hl hlt]
 have pp:=PX.put sy' (o:=.cells ((L.set i b).flatMap Rr.c++rest) 51 fx) hY hg;have gs:GS E G' (h'.put bL (.cells ((L.set i b).flatMap Rr.c++rest) 51 fx)) (L.set i b) Y net (.slice (some ⟨bL,0,none⟩) L.length cap) vN:=by
  refine⟨rs'.other pp hdj',pp.so,hdj',?_,hyl,⟨co,?_,mn.sub p.sub⟩,g.yn⟩
  ·rw[List.length_set];refine .inr ⟨bL,cap,rest,fx,rfl,ND,?_,h2,h3,h4,h5⟩;rw[Ae (z:=20),List.length_set];intro c hc;exact rs'.len c hc
  ·refine on'.at λx o hx hgx=>?_;rw[ai,if_neg]
   ·exact hgx
   ·rintro rfl;rcases on' with⟨rfl,_⟩|⟨b',off,cap',pre,rest',fx',rfl,hg',_⟩|⟨b',off,kk,pre,fx',rfl,_,_,hg',_⟩
    ·simp[slB]at hx
    ·simp[slB]at hx;subst hx;rw[hg]at hg';injection hg' with hg';injection hg' with _ hg' _;exact absurd hg' Nz
    ·simp[slB]at hx;subst hx;rw[hg]at hg';injection hg' with hg';injection hg' with _ hg' _;exact absurd hg' Nz
 refine⟨gs,?_⟩;have hxs:∀x,un (L.set i b) Y x->un L Y x\/h.next<=x:=by
  rintro x (hx|⟨c,hc,hx⟩)
  ·exact .inl (.inl hx)
  ·obtain⟨j,hj⟩:=List.mem_iff_getElem?.1 hc;rcases jF hi hj with⟨_,h2⟩|⟨_,h2⟩
   ·subst h2;rcases p.xs x hx with h3|h3
    ·exact .inl (.inr ⟨a,ha,h3⟩)
    ·exact .inr h3
   ·exact .inl (.inr ⟨c,List.mem_of_getElem? h2,hx⟩)
 refine⟨p.sub,p.new,⟨λx o hn hb=>?_,by simpa using p.kx.next⟩,hxs,gs.so⟩;rw[ai,if_neg (λe=>hn (.inl (by rw[<-e];exact hY)))];exact p.kx.get x o (λhx=>hn (.inr ⟨a,ha,hx⟩)) hb
theorem GS.Km(g:GS E G h L Y net vL vN):∀b,b∈slB vN->b∉slB vL:=by
 intro b hb hl;obtain⟨co,on,mn⟩:=g.on;have ol:=g.ol;rcases ol with⟨rfl,_⟩|⟨bL,cap,rest,fx,rfl,hg,_⟩
 ·simp[slB]at hl
 ·simp[slB]at hl;subst hl;rcases on with⟨rfl,_⟩|⟨b',off,cap',pre,rest',fx',rfl,hg',_⟩|⟨b',off,kk,pre,fx',rfl,_,_,hg',_⟩
  ·simp[slB]at hb
  ·simp[slB]at hb;subst hb;rw[hg]at hg';injection hg' with hg';injection hg' with _ hg' _;exact absurd hg' Nz
  ·simp[slB]at hb;subst hb;rw[hg]at hg';injection hg' with hg';injection hg' with _ hg' _;exact absurd hg' Nz
theorem GS.push(g:GS E G h L Y net vL vN){co ms:List Value}{v':Value}{m:Mg}(hc:bu E G net co)(hm:MgR E G m ms)(a:JP E h h' 66 17 (net.length+1) (co++ms) vN v'):GS E G h' L (λb=>Y b\/b∈slB v') (net++[m]) vL v'/\PX E G h (un L Y) G h' (un L (λb=>Y b\/b∈slB v')):=by
 have hne:=g.Km;have pY:PX E G h Y G h' (λb=>Y b\/b∈slB v'):=by
  refine⟨Sub.refl _,λb c x=>.inl x,⟨λb o hn hb=>a.get b o hb λhs=>hn (g.yn b hs),a.next⟩,λb hb=>?_,a.wf,λb c hb=>?_,λb c hb=>?_,λb hb=>?_⟩
  ·rcases hb with hb|hb
   ·exact .inl hb
   ·rcases a.blk b hb with h1|h1
    ·exact .inl (g.yn b h1)
    ·exact .inr h1
  ·obtain⟨e,fx,hg⟩:=g.rs.frz b c hb;exact⟨e,fx,a.get _ _ hg λhs=>g.sy.dis b c hb (g.yn b hs)⟩
  ·rintro(h1|h1)
   ·exact g.sy.dis b c hb h1
   ·rcases a.blk b h1 with h2|h2
    ·exact g.sy.dis b c hb (g.yn b h2)
    ·rw[g.sy.eH h2]at hb;cases hb
  ·rcases hb with hb|hb
   ·exact Nat.lt_of_lt_of_le (g.sy.lt b hb) a.next
   ·exact a.lt b hb
 have hdj:∀c,c∈L->∀x,c.X x->¬(Y x\/x∈slB v'):=by
  rintro c hc x hx (h1|h1)
  ·exact g.dj c hc x hx h1
  ·rcases a.blk x h1 with h2|h2
   ·exact g.dj c hc x hx (g.yn x h2)
   ·have:=(g.rs.so c hc).lt x hx;omega
 have gs:GS E G h' L (λb=>Y b\/b∈slB v') (net++[m]) vL v':=by
  refine⟨g.rs.other pY g.dj,pY.so,hdj,g.ol.at λb o hb hg=>a.get b o hg λhs=>hne b hs hb,λb hb=>.inl (g.yl b hb),⟨co++ms,?_,?_⟩,λb hb=>.inr hb⟩
  ·rw[List.length_append];exact a.own
  ·exact hc.app (by exact⟨ms,[],by simp,hm,rfl⟩)
 refine⟨gs,pY.wide (λb hb=>.inl hb) gs.so λb hb=>?_⟩;rcases hb with(hb|hb)|hb
 ·exact .inl (.inl hb)
 ·rcases a.blk b hb with h1|h1
  ·exact .inl (.inl (g.yn b h1))
  ·exact .inr h1
 ·exact .inl (.inr hb)
end
theorem hU.tag{h:ag}{e z n:Nat}{cs:List Value}{v:Value}(H:hU h e z n cs v){b:Nat}{o:bz}(hb:h.get b=some o)(ho:∀c fx,o≠.cells c e fx):b∉slB v:=by
 intro hs;rcases H with⟨rfl,_⟩|⟨b',off,cap',pre,rest',fx',rfl,hg',_⟩|⟨b',off,kk,pre,fx',rfl,_,_,hg',_⟩
 ·simp[slB]at hs
 ·simp[slB]at hs;subst hs;rw[hb]at hg';injection hg' with hg';exact ho _ _ hg'
 ·simp[slB]at hs;subst hs;rw[hb]at hg';injection hg' with hg';exact ho _ _ hg'
theorem hU.aK{h h':ag}{e z n:Nat}{cs:List Value}{v:Value}(H:hU h e z n cs v)(k:gu h h'):hU h' e z n cs v:=H.at λb o _ hg=>k.get b o hg
theorem Kr{E:Env}{h:ag}{t e e' z by_:Nat}{xs:List Value}{d:Option Nat}{R:bl}{tm:Tr Value}(T:jW E t e z by_)(hW:WF E h)(H:hU h e z n cs v)
 (hl:xs.length=z) (ho:xs.all Value.oneCell'=true) (hb:(n+1)*by_<=140737488355328) (hn:n+1<=9223372036854775807)
 (K:∀v' h',JP E h h' e z (n+1) (cs++xs) v v'->R (du tm d v') h'):kwv (cI E (h.push (.cells xs e' true)) t t v (.slice (some ⟨h.next,0,none⟩) 1 1)) d R tm (h.push (.cells xs e' true)):=by
 have kp:=(gu.refl h).push (o:=.cells xs e' true) hW;refine Md T (hW.push _) (H.aK kp) rfl Nr ?_ Nr ho hb hn λv' h' a=>K v' h' ⟨a.own,λb o hb hn=>a.get b o (kp.get b o hb) hn,λb hb=>?_,a.lt,?_,a.wf⟩
 ·have hz:=T.pos;simp only[lj,Nat.one_mul];rw[if_neg Nr];unfold cg;simp only[hW.nb0,if_false,ah,if_true,Nat.zero_add];rw[if_pos Nr,List.drop_zero,List.take_of_length_le Nr]
 ·rcases a.blk b hb with h1|h1
  ·exact .inl h1
  ·right;simp at h1;omega
 ·have:=a.next;simp at this;omega
section
variable{E:Env}{G G':Mem}{h h':ag}{L:List Rr}{Y:Nat->Prop}{net:List Mg}{vL vN:Value}
theorem GS.other{Z Z':Nat->Prop}(g:GS E G h L Y net vL vN)(p:PX E G h Z G' h' Z')(hd:∀x,un L Y x->¬Z x):GS E G' h' L Y net vL vN:=by obtain⟨co,h1,h2⟩:=g.on;refine⟨g.rs.other p λa ha x hx=>hd x (.inr ⟨a,ha,hx⟩),g.sy.beside p λx hx=>hd x (.inl hx),g.dj,g.ol.at λb o hb hg=>p.kx.get b o (hd b (.inl (g.yl b hb))) hg,g.yl,⟨co,h1.at λb o hb hg=>p.kx.get b o (hd b (.inl (g.yn b hb))) hg,h2.sub p.sub⟩,g.yn⟩
theorem PX.self{b:Nat}{o o':bz}(w:WF E h)(f:Frz E G h)(hb:h.get b=some o')(hG:G b=none):PX E G h (λx=>x=b) G (h.put b o) (λx=>x=b) :=
 PX.put (X:=λx=>x=b) ⟨w,f,λx c hx (e:x=b)=>(by rw[e,hG]at hx;cases hx),λx (e:x=b)=>(by rw[e];exact(w.live _ _ hb).2)⟩ rfl hb
theorem GS.put{b:Nat}{o o':bz}(g:GS E G h L Y net vL vN)(hb:h.get b=some o')(hG:G b=none)(hn:¬un L Y b):GS E G (h.put b o) L Y net vL vN :=
 g.other (PX.self g.rs.wf g.rs.frz hb hG) λx hx e=>hn (by rw[<-e];exact hx)
end
end Go.Tm
namespace Vr
variable{i:Nat}
def da(net out:List Mg):List Mg:=net++(out.filter λm=>decide (m.to<100)).take (400-net.length)
abbrev GG:=(Nat->PR)×List Mg
theorem Cj(net:List Mg):da net []=net:=by simp[da]
theorem Az{net out:List Mg}(hi:i<out.length)(hl:(da net (out.take i)).length<400):da net (out.take (i+1))=da net (out.take i)++if out[i].to<100 then [out[i]] else []:=by
 unfold da at hl|-;rw[List.take_succ_eq_append_getElem hi,List.filter_append,List.length_append]at *;generalize (out.take i).filter (λm=>decide (m.to<100))=f at *;rw[List.length_take]at hl;have hf:f.length<400-net.length:=Nr;rw[List.take_append,List.take_of_length_le Nr,<-List.append_assoc];congr 1;by_cases h:out[i].to<100
 ·simp only[List.filter_cons,h,decide_true,if_true,List.filter_nil];rw[List.take_of_length_le Nu]
 ·simp[h]
theorem AA{net out:List Mg}(hl:400<=(da net (out.take i)).length):da net out=da net (out.take i):=by
 unfold da at hl|-;have e:out=out.take i++out.drop i:=(List.take_append_drop i out).symm
 conv=>lhs;rw[e]
 rw[List.filter_append];generalize (out.take i).filter (λm=>decide (m.to<100))=f at *;generalize (out.drop i).filter (λm=>decide (m.to<100))=g at *;congr 1;rw[List.length_append,List.length_take]at hl;rw[List.take_append];have:400-net.length-f.length=0:=Nr;rw[this];simp
end Vr
namespace Go.Tm
theorem jG{c:Nat->St}{D:List Nat}{v:Value}(K:Nat)(hD:∀k,k<K->k∈D)(h:sc (c K).h.next v=true):scQ (live c D) v=true:=gf (λb=>decide (b<(c K).h.next)) _ (λb hb=>md K hD (of_decide_eq_true hb)) v (by rw[ij];exact h)
theorem nf(n:Int)(k:Nat)(hk:k<=62):bits .and .i64 n ((2^k-1:Nat):Int)=n%((2^k:Nat):Int):=by
 have h2:(2:Nat)^k<=2^62:=Nat.pow_le_pow_right Nr hk;have h127:(BitVec.ofInt 64 ((2^k-1:Nat):Int)).toNat=2^k-1:=by rw[BitVec.toNat_ofInt];have:(2:Nat)^62<2^64:=Nz;have hp:0<(2:Nat)^k:=Nat.two_pow_pos k;omega
 have key:(BitVec.ofInt 64 n &&& BitVec.ofInt 64 ((2^k-1:Nat):Int)).toNat=(n%((2^64:Nat):Int)).toNat%2^k:=by rw[BitVec.toNat_and,BitVec.toNat_ofInt,h127,Nat.and_two_pow_sub_one_eq_mod]
 show IntKind.i64.wrap ((BitVec.ofInt 64 n &&& BitVec.ofInt 64 ((2^k-1:Nat):Int)).toNat:Nat)=_;have hd:((2^k:Nat):Int) ∣ ((2^64:Nat):Int):=Int.natCast_dvd_natCast.2 (Nat.pow_dvd_pow 2 Nr);have hm:0<=n%((2^64:Nat):Int):=Int.emod_nonneg _ Nz;have e1:(((n%((2^64:Nat):Int)).toNat%2^k:Nat):Int)=n%((2^k:Nat):Int):=by rw[Int.natCast_emod,Int.toNat_of_nonneg hm,Int.emod_emod_of_dvd _ hd]
 rw[key,e1,cx]
 ·exact Int.le_trans Nz (Int.emod_nonneg _ (by have:=Nat.two_pow_pos k;omega))
 ·have:=Int.emod_lt_of_pos n (b:=((2^k:Nat):Int)) (by have:=Nat.two_pow_pos k;omega);have:(2:Nat)^62=4611686018427387904:=Nz;omega
theorem Aw(n:Int):bits .and .i64 n 3=n%4:=nf n 2 Nr
theorem Mp(n:Int):bits .and .i64 n 7=n%8:=nf n 3 Nr
theorem IG(n:Int):bits .and .i64 n 65535=n%65536:=nf n 16 Nr
end Go.Tm
namespace Go.Proofs.YthbjaiilnkakcaaGreatDoor
open Go.Tm Vr
def xg(E:Env)(G1:Mem)(H:ag)(P:PR)(cs ms:List Value)(dk nk:Nat)(out:List Mg):Prop :=
 if dk=0 then af E 31 [.agg cs.toArray,.agg ms.toArray] H λv h'=>∃G' x co v2,Ext E G1 H G' h'/\Fz E G' 17 out.length co v2/\bu E G' out co/\v=.tuple #[x,v2]
 else if dk=10 then af E 28 [.agg cs.toArray] H λv h'=>∃G' x co v2,Ext E G1 H G' h'/\Fz E G' 17 out.length co v2/\bu E G' out co/\v=.tuple #[x,v2]
 else if dk=11 then af E 29 [.agg cs.toArray] H λv h'=>∃G' co,Ext E G1 H G' h'/\Fz E G' 17 out.length co v/\bu E G' out co
 else if dk=12 then out=[]
 else af E 30 [iv P.me,iv P.n,iv P.vw,iv nk,.agg #[.bool false,.slice none 0 0,.slice none 0 0,.slice none 0 0]] H λv h'=>∃G' x co v2,Ext E G1 H G' h'/\Fz E G' 17 out.length co v2/\bu E G' out co/\v=.tuple #[x,v2]
variable{E:Env}(hE:EOk E)
include hE
section
variable{G:Mem}{h:ag}{L:List Rr}{Y:Nat->Prop}{net:List Mg}{vL vN:Value}(g:GS E G h L Y net vL vN)
include g
theorem KG{i:Nat}{a:Rr}(hi:L[i]? = some a){aD aS:Option Addr}{mD cD mS cS tv:Nat}{m:Mg}{ms:List Value}{dk nk:Nat}(hdk:dk=0\/dk=10\/dk=11\/dk=12\/dk=13)(hnk:nk<65536)(hm:MgR E G m ms){P':PR}{out:List Mg}(hol:out.length<=1000000)
 (hA:∀{G1:Mem} {H:ag},SO E G1 H a.X->QR E G1 H a.X a.P [] a.r a.t->PRR E G1 a.P a.cs->MgR E G1 m ms->af E 27 [.agg a.c.toArray,.agg (iv dk::iv nk::ms).toArray] H λv h'=>∃G' X' rc' r' t',PX E G1 H a.X G' h' X'/\QR E G' h' X' P' [] r' t'/\PRR E G' P' rc'/\v=.tuple #[.agg (ptr r'::ptr t'::rc').toArray,.bool true])
 (hB:∀{G1:Mem} {H:ag},WF E H->Frz E G1 H->PRR E G1 a.P a.cs->MgR E G1 m ms->xg E G1 H a.P a.cs ms dk nk out) :
 af E 19 [.agg #[vL,(.slice aD mD cD),vN,(.slice aS mS cS),iv tv],iv i,.agg (iv dk::iv nk::ms).toArray] h λv h'=>∃G' b Y' vN',PX E G h (un L Y) G' h' (un (L.set i b) Y')/\GS E G' h' (L.set i b) Y' (da net out) vL vN'/\b.P=P'/\v=.tuple #[.agg #[vL,(.slice aD mD cD),vN',(.slice aS mS cS),iv tv],.bool true]:=by
 have w0:=g.rs.wf.b0;have hm0:=hm;have haL:=List.mem_of_getElem? hi;have hP:=g.rs.pr a haL;have hlt:i<L.length:=(List.getElem?_eq_some_iff.1 hi).1;obtain⟨bL,cap,rfl,hnode⟩:=g.node hi;obtain⟨b1,d1,b2,d2,b3,d3,hms,m1,m2,m3⟩:=hm.e;obtain⟨a1,c1,a2,c2,a3,c3,a4,c4,a5,c5,a6,c6,a7,c7,ct,cc,ca,hcs,u1,⟨u2,u3,_⟩,u4,u5,u6,u7⟩:=hP.e;have hac:a.c=ptr a.r::ptr a.t::(rCS a.P a1 c1 a2 c2 a3 c3 a4 c4 a5 c5 a6 c6 a7 c7):=by unfold Rr.c;rw[hcs]
 rw[hac]at hnode;subst hms;refine en hE Tryz.func19 rfl rfl Tryz.ntmps19 rfl Nv (rs:=[.cell 6 29,.tmp 7]) rfl ?_;simp only[push_cast,seval,hE.z,w0];have kk1:=((KW.refl g.rs.wf).push (o:=.cells [.slice (some ⟨bL,0,none⟩) L.length cap,(.slice aD mD cD),vN,(.slice aS mS cS),iv tv] 29 true)).push (o:=.cells (iv dk::iv nk::(mCS m b1 d1 b2 d2 b3 d3)) 71 true);have kk2:=kk1.push (o:=.cells zCG 29 true);have g2:=g.ext (kk2.ext g.rs.frz);obtain⟨_,_,e9,hn2⟩:=g2.node hi;injection e9 with e9 _ _;injection e9 with e9;injection e9 with e9;subst e9;rw[hac]at hn2;have p2:=aY hn2 2 18 Nr;simp only[List.drop_succ_cons,List.drop_zero,List.take_succ_cons,List.take_zero]at p2;rw[pK rfl Nr Nr,ab];simp only[push_cast,seval,hE.z,↓p2,Int.toNat_natCast,Nat.zero_add];have kk3:=(kk2.push (o:=.cells zCR 49 true)).put (o:=(.cells (rCS a.P a1 c1 a2 c2 a3 c3 a4 c4 a5 c5 a6 c6 a7 c7) 49 true)) (b:=h.next+1+1+1) Nr Nw g.rs.wf;refine gtA [1,3,5,6,8,9] λt1 hf=>?_;simp only[push_cast,seval,gz]at hf;obtain⟨f1,f3,f5,f6,f8,f9⟩:=hf;refine cR (motive:=λH=>aF E _ _ _ H) (λH=>KW E h H/\H.get h.next=some (.cells [.slice (some ⟨bL,0,none⟩) L.length cap,(.slice aD mD cD),vN,(.slice aS mS cS),iv tv] 29 true)/\H.get (h.next+1)=some (.cells (iv dk::iv nk::(mCS m b1 d1 b2 d2 b3 d3)) 71 true)/\H.get (h.next+1+1)=some (.cells zCG 29 true)/\H.get (h.next+1+1+1)=some (.cells (rCS a.P a1 c1 a2 c2 a3 c3 a4 c4 a5 c5 a6 c6 a7 c7) 49 true)) ⟨kk3,by rw[ai,if_neg (by omega),ah,if_neg (by simp;omega),ah,if_neg (by simp;omega),ah,if_neg (by simp),ah,if_pos rfl],by rw[ai,if_neg (by omega),ah,if_neg (by simp;omega),ah,if_neg (by simp),ah,if_pos (by simp)],by rw[ai,if_neg (by omega),ah,if_neg (by simp),ah,if_pos (by simp)],ND⟩ ?_;clear kk1 kk2 kk3 g2 p2 hn2;rintro H ⟨k0,gG,gD,gZ,gR⟩;have nG:=k0.w.nlt gG;have nD:=k0.w.nlt gD;have nR:=k0.w.nlt gR;have g3:=g.ext (k0.ext g.rs.frz);obtain⟨_,_,e9,hn3⟩:=g3.node hi;injection e9 with e9 _ _;injection e9 with e9;injection e9 with e9;subst e9;rw[hac]at hn3;refine dE [(1,[0]),(4,[0]),(5,[0])] [6,10,11] [(10,[])] [(0,(20,[0])),(1,(21,[1,0])),(2,(22,[2])),(3,(23,[3,0,1,2])),(4,(24,[4,0,1,2,3])),(5,(25,[5])),(6,(26,[6,0,1,2,3,4,5])),(7,(19,[7,0,1,2,3,4,5,6])),(8,(27,[8,0,1,2,3,4,5,6,7])),(9,(28,[9,0,1,2,3,4,5,6,7])),(10,(10,[10])),(12,(11,[12,0,1,2,3,4,5,6,7,8,9,10,11]))] [0,1,2,3,4,5,6,7,8,9,10,11,12] Nt Nt Nt Nt Nt Nv rfl ?_;simp only[push_cast,seval,hE.z,f1,f3,gG,nG];rw[pK rfl Nr Nr,ab];simp only[push_cast,seval,hE.z,f5,gD,nD,↓hn3,Int.toNat_natCast,Nat.zero_add];have hA3:=hA (g3.rs.so a haL) (g3.rs.qr a haL) (g3.rs.pr a haL) hm0;rw[hac]at hA3;refine hA3.mono ?_;rintro v1 H1 ⟨G1,X1,rc1,rQ,tQ,p1,q1,hp1,rfl⟩;have hp10:=hp1;obtain⟨A1,C1,A2,C2,A3,C3,A4,C4,A5,C5,A6,C6,A7,C7,CT,CC,CA,hrc,v1,⟨v2,v3,_⟩,v4,v5,v6,v7⟩:=hp1.e;subst hrc;have xfr:∀b,h.next<=b->¬a.X b:=λb hb hx=>by have:=(g.rs.so a haL).lt b hx;omega
 have gG1:=p1.box (xfr _ (Nat.le_refl _)) gG;have gD1:=p1.box (xfr _ Nr) gD;have gZ1:=p1.box (xfr _ Nr) gZ;have gR1:=p1.box (xfr _ Nr) gR;have w3:=p1.so.wf.b0;have e1:=p1.so.wf.ne gG1;have hnx:=p1.kx.next;obtain⟨_,_,e9,hn4⟩:=(g3.ol.other g3.yl (g3.dj a haL) p1.kx).elem p1.so.wf hlt;injection e9 with e9 _ _;injection e9 with e9;injection e9 with e9;subst e9;rw[qL g3.rs.len hi,hac]at hn4;simp only[push_cast,seval,hE.z,f1,f3,gG1,nG,w3,e1];refine⟨⟨⟨hnx,Nr⟩,?_,?_,?_,?_⟩,?_⟩
 ·simp only[push_cast,seval,hE.z,f5,gG,gD,nG,nD,jo,aV,aU,↓hn3];exact⟨_,congrArg (Option.map λl:List Value=>Value.agg l.toArray) hn3,rfl,PH⟩
 ·simp only[push_cast,seval,jx,Op.operands,ef,Go.Tm.sc,scA,scL];have zz:∀{z n:Nat} {cs:List Value} {v:Value},Sl E G z n cs v->Go.Tm.sc H.next v=true:=λs=>Sl.sc g3.rs.wf g3.rs.frz s;have z1:∀{z n:Nat} {cs:List Value} {v:Value},Sl E G1 z n cs v->Go.Tm.sc (H1.next+1) v=true:=λs=>Sl.sc (p1.so.wf.push (.cells [] 0 true)) (p1.so.frz.aK ((gu.refl H1).push (o:=.cells [] 0 true) p1.so.wf)) s;obtain⟨DD,qq⟩:=g3.rs.qr a haL;have lr:=(g3.rs.wf.live _ _ qq.hr).2;obtain⟨_,gtt,_⟩:=qq.ht;have lt:=(g3.rs.wf.live _ _ gtt).2;simp only[zz u1.1,zz u2.1,zz u3.1,zz u4.1,zz u5.1,zz u6.1.1,zz u7.1.1,zz m1.1,zz m2.1,zz m3.1,z1 v1.1,z1 v2.1,z1 v3.1,z1 v4.1,z1 v5.1,z1 v6.1.1,z1 v7.1.1];obtain⟨D1,qq1⟩:=q1;have lr1:rQ<H1.next+1:=Nat.lt_succ_of_lt (p1.so.wf.live _ _ qq1.hr).2;obtain⟨_,gtt1,_⟩:=qq1.ht;have lt1:tQ<H1.next+1:=Nat.lt_succ_of_lt (p1.so.wf.live _ _ gtt1).2;exact⟨⟨by simp[lr,lt],Nw⟩,λ_ x=>x.elim,Nw,by simp[lr1,lt1]⟩
 ·simp only[push_cast,seval,hE.z,aOk];rfl
 ·simp only[push_cast,seval,dOk];have zz:∀{z n:Nat} {cs:List Value} {v:Value},Sl E G z n cs v->Go.Tm.sc H.next v=true:=λs=>Sl.sc g3.rs.wf g3.rs.frz s;have z1:∀{z n:Nat} {cs:List Value} {v:Value},Sl E G1 z n cs v->Go.Tm.sc H1.next v=true:=λs=>Sl.sc p1.so.wf p1.so.frz s;obtain⟨DD,qq⟩:=g3.rs.qr a haL;have lr:=(g3.rs.wf.live _ _ qq.hr).2;obtain⟨_,gtt,_⟩:=qq.ht;have lt:=(g3.rs.wf.live _ _ gtt).2;obtain⟨D1,qq1⟩:=q1;have lr1:rQ<H1.next:=(p1.so.wf.live _ _ qq1.hr).2;obtain⟨_,gtt1,_⟩:=qq1.ht;have lt1:tQ<H1.next:=(p1.so.wf.live _ _ gtt1).2;have lG:=(g3.rs.wf.live _ _ gG).2;have lB:bL<H.next:=g3.sy.lt bL (g.yl bL OA);have b0:∀{v:Value},Go.Tm.sc H.next v=true->∀{D:List Nat} {c:Nat->St},(c 0).h=H->scQ (live c D) v=true:=λhv D c hc=>jG 0 (λk hk=>absurd hk (Nat.not_lt_zero k)) OG;have b7:∀{v:Value},Go.Tm.sc H1.next v=true->∀{D:List Nat} {c:Nat->St},(∀k,k<7->k∈D)->(c 7).h=H1->scQ (live c D) v=true:=λhv D c hD hc=>jG 7 hD OG;have aA:Go.Tm.sc H.next (.agg #[ptr a.r,ptr a.t,iv a.P.me,iv a.P.n,iv a.P.vw,iv a.P.st,iv a.P.nm,iv a.P.bs,iv a.P.cm,iv a.P.nc,.slice a1 a.P.log.length c1,.bool false,.slice a2 a.P.sv.l.length c2,.slice none 0 0,.slice a3 a.P.sv.tab.length c3,.slice a4 a.P.told.length c4,.slice a5 a.P.aG.length c5,.bool a.P.aJ,.slice a6 a.P.aH.length c6,.slice a7 a.P.ans.length c7])=true:=by simp only[push_cast,seval,Go.Tm.sc,scA,scL];simp only[zz u1.1,zz u2.1,zz u3.1,zz u4.1,zz u5.1,zz u6.1.1,zz u7.1.1];simp[lr,lt]
  have aD:Go.Tm.sc H.next (.agg #[iv dk,iv nk,iv m.k,iv m.fr,iv m.to,iv m.vw,iv m.op,iv m.cm,iv m.bs,iv m.nm,iv m.nc,.slice b1 m.log.length d1,.slice b2 m.img.length d2,iv m.en.c,iv m.en.n,.string m.en.t,iv m.rp.e,iv m.rp.n,.slice b3 0 d3])=true:=by simp only[push_cast,seval,Go.Tm.sc,scA,scL];simp only[zz m1.1,zz m2.1,zz m3.1];simp
  have aP:Go.Tm.sc H1.next (.agg #[ptr rQ,ptr tQ,iv P'.me,iv P'.n,iv P'.vw,iv P'.st,iv P'.nm,iv P'.bs,iv P'.cm,iv P'.nc,.slice A1 P'.log.length C1,.bool false,.slice A2 P'.sv.l.length C2,.slice none 0 0,.slice A3 P'.sv.tab.length C3,.slice A4 P'.told.length C4,.slice A5 P'.aG.length C5,.bool P'.aJ,.slice A6 P'.aH.length C6,.slice A7 P'.ans.length C7])=true:=by simp only[push_cast,seval,Go.Tm.sc,scA,scL];simp only[z1 v1.1,z1 v2.1,z1 v3.1,z1 v4.1,z1 v5.1,z1 v6.1.1,z1 v7.1.1];simp[lr1,lt1]
  have aT:Go.Tm.sc H1.next (.tuple #[.agg #[ptr rQ,ptr tQ,iv P'.me,iv P'.n,iv P'.vw,iv P'.st,iv P'.nm,iv P'.bs,iv P'.cm,iv P'.nc,.slice A1 P'.log.length C1,.bool false,.slice A2 P'.sv.l.length C2,.slice none 0 0,.slice A3 P'.sv.tab.length C3,.slice A4 P'.told.length C4,.slice A5 P'.aG.length C5,.bool P'.aJ,.slice A6 P'.aH.length C6,.slice A7 P'.ans.length C7],.bool true])=true:=by have:=aP;simp only[Go.Tm.sc,scA,scL]at this|-;simp only[this,Bool.and_self]
  repeat' apply And.intro
  all_goals try rfl
  ·exact b0 (by simpa[Go.Tm.sc] using lG) rfl
  ·exact b0 (by simpa[Go.Tm.sc] using lB) rfl
  ·exact b0 (by simpa[Go.Tm.sc] using lB) rfl
  ·exact b0 aA rfl
  ·exact b0 aD rfl
  ·exact b7 aT Nz rfl
  ·exact b7 aT Nz rfl
  ·exact b7 aP Nz rfl
  ·exact dA (k:=10) Nz (Nat.le_refl _) (by show H1.next<(H1.push _).next;simp)
 ·have hnode:=node1 (a:=⟨P',rQ,tQ,_,X1⟩) hp10;have kb:=(KW.refl p1.so.wf).push (o:=.cells (ptr rQ::ptr tQ::(rCS P' A1 C1 A2 C2 A3 C3 A4 C4 A5 C5 A6 C6 A7 C7)) 51 true);obtain⟨bL',cap',oL,e9,hwr,hyb,gs,px⟩:=g.store (b:=⟨P',rQ,tQ,_,X1⟩) hi ((PX.kw (g.rs.so a haL) k0).trans g.rs.wf (p1.trans g3.rs.wf (PX.kw p1.so kb))) (q1.ext (kb.ext p1.so.frz)) hp10;injection e9 with e9 _ e10;injection e9 with e9;injection e9 with e9;subst e9;subst e10;rw[pK rfl Nr Nr,ab];have gGb:=kb.k.get _ _ gG1;have gDb:=kb.k.get _ _ gD1;have gZb:=kb.k.get _ _ gZ1;have gRb:=kb.k.get _ _ gR1;have nbx:∀b,h.next<=b->b≠bL:=λb hb e=>by have:=g.sy.lt bL hyb;omega
  refine gtm (motive:=wpo E _ _ _) [3,5,6,8,9,35,36] λt2 hf=>?_;simp only[push_cast,seval,gz,f3,f5,f6,f8,f9,Int.toNat_natCast,Nat.zero_add]at hf;obtain⟨f3',f5',f6',f8',f9',f35',f36'⟩:=hf
  refine cR (motive:=λH=>wpo E _ _ _ _ H) (λH2=>∃H3,bQ H2 ⟨bL,i*20,none⟩ (ptr rQ::ptr tQ::(rCS P' A1 C1 A2 C2 A3 C3 A4 C4 A5 C5 A6 C6 A7 C7))=some H3 /\
   GS E G1 H3 (L.set i ⟨P',rQ,tQ,_,X1⟩) Y net (.slice (some ⟨bL,0,none⟩) L.length cap) vN/\PX E G h (un L Y) G1 H3 (un (L.set i ⟨P',rQ,tQ,_,X1⟩) Y) /\
   H3.get h.next=some (.cells [.slice (some ⟨bL,0,none⟩) L.length cap,(.slice aD mD cD),vN,(.slice aS mS cS),iv tv] 29 true)/\H3.get (h.next+1)=some (.cells (iv dk::iv nk::(mCS m b1 d1 b2 d2 b3 d3)) 71 true) /\
   H3.get (h.next+1+1)=some (.cells zCG 29 true) /\
   H3.get (h.next+1+1+1)=some (.cells (rCS a.P a1 c1 a2 c2 a3 c3 a4 c4 a5 c5 a6 c6 a7 c7) 49 true))
   ⟨_,hwr,gs,px,by rw[ai,if_neg (λe=>nbx _ (Nat.le_refl _) e.symm)];exact gGb,by rw[ai,if_neg (λe=>nbx _ (by omega) e.symm)];exact gDb,by rw[ai,if_neg (λe=>nbx _ (by omega) e.symm)];exact gZb,by rw[ai,if_neg (λe=>nbx _ (by omega) e.symm)];exact gRb⟩ ?_
  have yG1:=p1.nn (g3.rs.wf.live _ _ gG).2 (g.sy.eH (Nat.le_refl _));have yZ1:=p1.nn (g3.rs.wf.live _ _ gZ).2 (g.sy.eH (b:=h.next+1+1) Nr);have nuB:∀b,h.next<=b->b<H.next->¬un (L.set i ⟨P',rQ,tQ,(rCS P' A1 C1 A2 C2 A3 C3 A4 C4 A5 C5 A6 C6 A7 C7),X1⟩) Y b:=by
   rintro b hb hb2 (hy|⟨c,hc,hx⟩)
   ·have:=g.sy.lt b hy;omega
   ·obtain⟨j,hj⟩:=List.mem_iff_getElem?.1 hc;rcases jF hi hj with⟨_,h2⟩|⟨_,h2⟩
    ·subst h2;exact p1.nx (xfr b hb) hb2 hx
    ·have:=(g.rs.so c (List.mem_of_getElem? h2)).lt b hx;omega
  have nuG:=nuB _ (Nat.le_refl _) (g3.rs.wf.live _ _ gG).2;have nuZ:=nuB (h.next+1+1) Nr (g3.rs.wf.live _ _ gZ).2;clear gs px hwr gGb gDb gZb gRb;rintro H2 ⟨H3,hwr,gs,px,gG2,gD2,gZ2,gR2⟩;simp only[push_cast,seval,hE.P,eM,f5',f35',f36',hwr,gD2,nD]
  refine dJ (λt4 H4=>∃G4 co v2,aj t4 3=ptr h.next/\aj t4 6=ptr (h.next+1+1)/\aj t4 8=v2/\PX E G h (un L Y) G4 H4 (un (L.set i ⟨P',rQ,tQ,(rCS P' A1 C1 A2 C2 A3 C3 A4 C4 A5 C5 A6 C6 A7 C7),X1⟩) Y)/\GS E G4 H4 (L.set i ⟨P',rQ,tQ,(rCS P' A1 C1 A2 C2 A3 C3 A4 C4 A5 C5 A6 C6 A7 C7),X1⟩) Y net (.slice (some ⟨bL,0,none⟩) L.length cap) vN/\Fz E G4 17 out.length co v2/\bu E G4 out co/\G4 h.next=none/\G4 (h.next+1+1)=none /\
   H4.get h.next=some (.cells [.slice (some ⟨bL,0,none⟩) L.length cap,(.slice aD mD cD),vN,(.slice aS mS cS),iv tv] 29 true)/\H4.get (h.next+1+1)=some (.cells zCG 29 true)) (λt4 H4 hh=>?_) ?_
  rotate_left
  ·have hb:=hB gs.rs.wf gs.rs.frz (hP.sub px.sub) (hm0.sub px.sub);rw[hcs]at hb;unfold xg at hb;rcases hdk with rfl|rfl|rfl|rfl|rfl
   ·rw[if_pos rfl]at hb;simp only[push_cast,seval,hE.z,f5',f9',gD2,gR2,nD,nR];refine hb.mono ?_;rintro v H4 ⟨G4,x,co,v2,x4,z4,r4,rfl⟩;simp only[push_cast,seval,f3',f6'];have l2:=(gs.rs.wf.live _ _ gG2).2;have l3:=(gs.rs.wf.live _ _ gZ2).2;exact⟨G4,co,px.trans g.rs.wf (PX.ext gs.so x4),gs.ext x4,z4,r4,x4.nn l2 yG1,x4.nn l3 yZ1,x4.aK.get _ _ gG2,x4.aK.get _ _ gZ2⟩
   ·rw[if_neg Nr,if_pos rfl]at hb;simp only[push_cast,seval,hE.z,f9',gR2,nR];refine hb.mono ?_;rintro v H4 ⟨G4,x,co,v2,x4,z4,r4,rfl⟩;simp only[push_cast,seval,f3',f6'];have l2:=(gs.rs.wf.live _ _ gG2).2;have l3:=(gs.rs.wf.live _ _ gZ2).2;exact⟨G4,co,px.trans g.rs.wf (PX.ext gs.so x4),gs.ext x4,z4,r4,x4.nn l2 yG1,x4.nn l3 yZ1,x4.aK.get _ _ gG2,x4.aK.get _ _ gZ2⟩
   ·rw[if_neg Nr,if_neg Nr,if_pos rfl]at hb;simp only[push_cast,seval,hE.z,f9',gR2,nR];refine hb.mono ?_;rintro v H4 ⟨G4,co,x4,z4,r4⟩;simp only[push_cast,seval,f3',f6'];have l2:=(gs.rs.wf.live _ _ gG2).2;have l3:=(gs.rs.wf.live _ _ gZ2).2;exact⟨G4,co,px.trans g.rs.wf (PX.ext gs.so x4),gs.ext x4,z4,r4,x4.nn l2 yG1,x4.nn l3 yZ1,x4.aK.get _ _ gG2,x4.aK.get _ _ gZ2⟩
   ·rw[if_neg Nr,if_neg Nr,if_neg Nr,if_pos rfl]at hb;simp only[push_cast,seval,f3',f6',f8',gG2,gZ2];subst hb;exact⟨G1,[],px,gs,Fz.nil,rfl,yG1,yZ1⟩
   ·rw[if_neg Nr,if_neg Nr,if_neg Nr,if_neg Nr]at hb;have en:(nk:Int)%65536=(nk:Int):=Nr;simp only[push_cast,seval,hE.z,f5',f9',gD2,gR2,nD,nR,IG,en];refine hb.mono ?_;rintro v H4 ⟨G4,x,co,v2,x4,z4,r4,rfl⟩;simp only[push_cast,seval,f3',f6'];have l2:=(gs.rs.wf.live _ _ gG2).2;have l3:=(gs.rs.wf.live _ _ gZ2).2;exact⟨G4,co,px.trans g.rs.wf (PX.ext gs.so x4),gs.ext x4,z4,r4,x4.nn l2 yG1,x4.nn l3 yZ1,x4.aK.get _ _ gG2,x4.aK.get _ _ gZ2⟩
  ·obtain⟨G4,co,v2,f43,f46,f48,px4,gs4,z4,r4,yG4,yZ4,gG4,gZ4⟩:=hh;obtain⟨ao,ac,rfl,_⟩:=z4.slice;simp only[push_cast,seval,hE.z]
   refine bG (λk tm H5=>∃i0 Y' vN',k=out.length-i0/\i0<=out.length/\aj tm 3=ptr h.next/\aj tm 6=ptr (h.next+1+1)/\aj tm 8=.slice ao out.length ac/\aj tm 12=iv i0 /\
    PX E G h (un L Y) G4 H5 (un (L.set i ⟨P',rQ,tQ,(rCS P' A1 C1 A2 C2 A3 C3 A4 C4 A5 C5 A6 C6 A7 C7),X1⟩) Y')/\GS E G4 H5 (L.set i ⟨P',rQ,tQ,(rCS P' A1 C1 A2 C2 A3 C3 A4 C4 A5 C5 A6 C6 A7 C7),X1⟩) Y' (da net (out.take i0)) (.slice (some ⟨bL,0,none⟩) L.length cap) vN'/\¬un (L.set i ⟨P',rQ,tQ,(rCS P' A1 C1 A2 C2 A3 C3 A4 C4 A5 C5 A6 C6 A7 C7),X1⟩) Y' h.next/\¬un (L.set i ⟨P',rQ,tQ,(rCS P' A1 C1 A2 C2 A3 C3 A4 C4 A5 C5 A6 C6 A7 C7),X1⟩) Y' (h.next+1+1) /\
    H5.get h.next=some (.cells [.slice (some ⟨bL,0,none⟩) L.length cap,(.slice aD mD cD),vN',(.slice aS mS cS),iv tv] 29 true)/\H5.get (h.next+1+1)=some (.cells zCG 29 true)) out.length ?_ ?_
   ·simp only[push_cast,seval,f43,f46,f48];exact⟨0,Y,vN,Nr,Nr,rfl,px4,by rw[List.take_zero,Cj];exact gs4,nuG,nuZ,gG4,gZ4⟩
   ·rintro k tm H5 ⟨i0,Y',vN',rfl,hi0,e3,e6,e8,e12,px5,gs5,nu1,nu2,gG5,gZ5⟩;have nG5:=gs5.rs.wf.nlt gG5;have nZ5:=gs5.rs.wf.nlt gZ5;have hgs5:=gs5.on;obtain⟨cN,hoN,hmN⟩:=hgs5;obtain⟨aN,kN,rfl,_⟩:=hoN.fh;by_cases hlt:i0<out.length
    ·have hd:decide ((i0:Int)<(out.length:Int))=true:=Nu;by_cases hfull:(da net (out.take i0)).length<400
     ·have hd2:decide (((da net (out.take i0)).length:Int)<400)=true:=Nu;obtain⟨b9,d9,e9,hsp9,hac9⟩:=z4.1.elem gs5.rs.frz hlt;injection e9 with e9 _ e9';subst e9;subst e9';have q9:=r4.at i0 _ (List.getElem?_eq_getElem hlt);have eN:=Az (net:=net) hlt hfull;generalize out[i0]=m9 at *;have q90:=q9;obtain⟨B1,D1,B2,D2,B3,D3,hms9,_⟩:=q9.e;rw[hms9]at hac9 q90;have p29:=aY hac9 2 1 Nr;simp only[List.take_succ_cons,List.take_zero,List.drop_succ_cons,List.drop_zero]at p29;simp only[push_cast,seval,hE.z,e3,e8,e12,hd,hd2,gG5,nG5];rw[jw hsp9 Nr Nr,ab];simp only[push_cast,seval,hE.z,↓p29,Int.toNat_natCast];by_cases h100:m9.to<100
      ·have hd3:decide ((m9.to:Int)<100)=true:=Nu;rw[if_pos h100]at eN;simp only[push_cast,seval,hd3];refine gtA [3,6,8,12] λt7 hf=>?_;simp only[push_cast,seval,gz,e3,e6,e8,e12]at hf;obtain⟨y3,y6,y8,y12⟩:=hf;refine aB [(1,6)] Nt Nt Nt ?_;have p09:=aY hac9 0 17 Nr;simp only[List.take_succ_cons,List.take_zero,List.drop_zero]at p09;simp only[push_cast,seval,hE.z,y3,y8,y12,gG5,nG5];rw[jw hsp9 Nr Nr,ab];simp only[push_cast,seval,hE.z,↓hac9,Int.toNat_natCast];rw[lf rfl,aR];simp only[push_cast,seval];refine Kr (mz hE.P) gs5.rs.wf hoN rfl rfl Nr Nr ?_;intro v' H6 a6;have hnY:h.next∉slB (.slice aN (da net (out.take i0)).length kN):=λhb=>nu1 (.inl (gs5.yn _ hb));have hnZ:h.next+1+1∉slB (.slice aN (da net (out.take i0)).length kN):=λhb=>nu2 (.inl (gs5.yn _ hb));have gG6:=a6.get _ _ gG5 hnY;have gZ6:=a6.get _ _ gZ5 hnZ;have nG6:=a6.wf.nlt gG6;obtain⟨gs6,px6⟩:=gs5.push hmN q90 a6;obtain⟨aN',kN',rfl,_⟩:=a6.own.fh;have lZ5:=(gs5.rs.wf.live _ _ gZ5).2
       have nu16:¬un (L.set i ⟨P',rQ,tQ,(rCS P' A1 C1 A2 C2 A3 C3 A4 C4 A5 C5 A6 C6 A7 C7),X1⟩) (λb=>Y' b\/b∈slB (.slice aN' ((da net (out.take i0)).length+1) kN')) h.next:=λhu=>by
        rcases px6.xs _ hu with h5|h5
        ·exact nu1 h5
        ·omega
       have nu26:¬un (L.set i ⟨P',rQ,tQ,(rCS P' A1 C1 A2 C2 A3 C3 A4 C4 A5 C5 A6 C6 A7 C7),X1⟩) (λb=>Y' b\/b∈slB (.slice aN' ((da net (out.take i0)).length+1) kN')) (h.next+1+1):=λhu=>by
        rcases px6.xs _ hu with h5|h5
        ·exact nu2 h5
        ·omega
       simp only[push_cast,seval,hE.z,y3,y6,y8,y12,gG6,nG6];have c1:((match H5.get h.next with|some (bz.cells c e fx)=>if 3<=c.length then some (List.take 1 (List.drop 2 c)) else none|x=>none).bind λl=>l[0]?)=some (.slice aN (da net (out.take i0)).length kN):=by rw[gG5];rfl
       refine⟨⟨.slice aN (da net (out.take i0)).length kN,c1,c1,by rw[if_neg (by omega)];exact c1,aU⟩,out.length-(i0+1),Nr,i0+1,_,.slice aN' ((da net (out.take i0)).length+1) kN',rfl,Nr,bk Nr,PX.fresh g.rs.wf (px5.trans g.rs.wf px6) (Nat.le_refl _) yG4 gG6,?_,nu16,nu26,rfl,gZ6⟩;rw[eN];exact gs6.put gG6 yG4 nu16
      ·have hd3:decide ((m9.to:Int)<100)=false:=Nu;rw[if_neg h100,List.append_nil]at eN;simp only[push_cast,seval,e3,e6,e8,e12,gG5,gZ5,hd3];exact⟨out.length-(i0+1),Nr,i0+1,Y',_,rfl,Nr,bk Nr,px5,by rw[eN];exact gs5,nu1,nu2,rfl⟩
     ·have hd2:decide (((da net (out.take i0)).length:Int)<400)=false:=Nu;simp only[push_cast,seval,hE.z,e3,e6,e8,e12,hd,hd2,gG5,gZ5,nG5,nZ5];have hne:da net out=da net (out.take i0):=AA Nr;rw[hne];exact⟨G4,⟨P',rQ,tQ,(rCS P' A1 C1 A2 C2 A3 C3 A4 C4 A5 C5 A6 C6 A7 C7),X1⟩,Y',_,PX.fresh g.rs.wf px5 Nr yZ4 gZ5,gs5.put gZ5 yZ4 nu2,rfl,rfl⟩
    ·have hd:decide ((i0:Int)<(out.length:Int))=false:=Nu;simp only[push_cast,seval,hE.z,e3,e6,e8,e12,hd,gG5,gZ5,nG5,nZ5];have hne:da net out=da net (out.take i0):=by rw[List.take_of_length_le (by omega)]
     rw[hne];exact⟨G4,⟨P',rQ,tQ,(rCS P' A1 C1 A2 C2 A3 C3 A4 C4 A5 C5 A6 C6 A7 C7),X1⟩,Y',_,PX.fresh g.rs.wf px5 Nr yZ4 gZ5,gs5.put gZ5 yZ4 nu2,rfl,rfl⟩
end
end Go.Proofs.YthbjaiilnkakcaaGreatDoor
