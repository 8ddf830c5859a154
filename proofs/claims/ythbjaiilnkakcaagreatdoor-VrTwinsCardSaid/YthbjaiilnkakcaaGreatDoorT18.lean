/- Part 18. -/
import Derived.Test.YthbjaiilnkakcaaGreatDoorT17
set_option linter.all false
set_option maxRecDepth 10000
set_option maxHeartbeats 8000000
namespace Go.Proofs.YthbjaiilnkakcaaGreatDoor
open Go.Tm Vr
variable{m:Mg}{ms:List Value}
variable{E:Env}(hE:EOk E)
include hE
section
variable{G:Mem}{h:ag}(hW:WF E h)(hG:Frz E G h){P:PR}{cs:List Value}(hP:PRR E G P cs)
include hW hG hP
theorem ru(z:P.Ok):af E 28 [.agg cs.toArray] h λv h'=>∃G' rc' co v2,v=.tuple #[.agg rc'.toArray,v2]/\PRR E G' (bw P).1 rc'/\Fz E G' 17 (bw P).2.length co v2/\bu E G' (bw P).2 co/\Ext E G h G' h':=by
 have hP0:=hP;obtain⟨a1,c1,a2,c2,a3,c3,a4,c4,a5,c5,a6,c6,a7,c7,ct,cc,ca,hrc,q1,⟨q2,q3,q4⟩,q5,q6,q7,q8⟩:=hP.e;subst hrc;have zn:=z.n;have zv:=z.vw;have hn1:h.next<=h.next+2:=Nr;have X1:=((MX.start hW hG).new (o:=.cells (rCS P a1 c1 a2 c2 a3 c3 a4 c4 a5 c5 a6 c6 a7 c7) 49 true)).new (o:=.cells zCR 49 true);refine en hE Tryz.func28 rfl rfl Tryz.ntmps28 rfl Nv (rs:=[.cell 2 49,.tmp 3]) rfl ?_;by_cases h2:P.st=2
 ·have g1:((P.st:Int)==2)=true:=Pg;have hT:bw P=(P,P.allM {k:=8,nc:=P.nc}):=by unfold bw;rw[if_pos h2]
  rw[hT];simp only[push_cast,seval,hE.z,hW.b0,g1];refine gtA [1,2] λ_ f=>?_;simp only[push_cast,seval,gz]at f;refine MX.gen (motive:=λH=>aF E _ _ _ H) (B:=[(h.next+1,_),(h.next,_)]) X1 λH1 X1=>?_;have b1:=X1.f2;refine aB [(0,5)] Nt Nt Nt ?_;simp only[push_cast,seval,hE.z,f,b1];refine(jM hE X1.x.wf (hP0.sub X1.x.sub) X1.x.frz Nr (m:={k:=8,nc:=P.nc}) ⟨_,_,_,rfl,Fz.nil,Fz.nil,Fz.nil⟩).mono ?_;rintro w H2 ⟨co,ow,mo,k2⟩;have b2:=(X1.kw k2).f2;have lA:=X1.lt 0 rfl;simp only[push_cast,seval,hE.z,f,b1,b2,aV,bp,aU,aW,ba,bn];have ol:=OL.of X1 k2 ow (lo:=h.next+2) Nr;obtain⟨GG,zG,XG,sG,_⟩:=(X1.kw k2).still hW ol ((Dj.nil.low Nr).low Nr) hn1;exact⟨GG,_,co,_,rfl,hP0.sub XG.x.sub,zG,mo.sub XG.x.sub,(XG.put hW 0 rfl).x⟩
 ·have g1:((P.st:Int)==2)=false:=NF;by_cases h0:P.st=0
  ·have g2:((P.st:Int)==0)=true:=Ox;simp only[push_cast,seval,hE.z,hW.b0,g1,g2];refine Go.Tm.aO [1,2,16] λ_ f=>?_;simp only[push_cast,seval,gz]at f;refine MX.gen (motive:=λH=>af E _ _ H _) (B:=[(h.next+1,_),(h.next,_)]) X1 λH1 X1=>?_;refine(dH hE X1.x.wf (hP0.sub X1.x.sub) ⟨Nr,Nr⟩ Nr).mono ?_;rintro w H2 ⟨rfl,k2⟩;have X2:=X1.kw k2
   cases hp:P.bF with
   | true =>
     have hT:bw P=(P,[]):=by unfold bw;rw[if_neg h2,if_pos ⟨h0,hp⟩]
     rw[hT];simp only[push_cast,seval,hE.z,f,X2.f2];exact⟨G,_,[],_,rfl,hP0,Fz.nil,rfl,(X2.put hW 0 rfl).x⟩
   | false =>
     have hT:bw P=bO P (P.vw+1):=by unfold bw;rw[if_neg h2,if_neg (by simp[hp])]
     rw[hT];have hw:(Value.int .i64 (IntKind.i64.wrap ((P.vw:Int)+1)))=iv (P.vw+1):=bk Nr;simp only[push_cast,seval,hE.z,f,X2.f2,hw];refine Go.Tm.aO [1,2] λ_ f1=>?_;simp only[push_cast,seval,gz,f]at f1;refine(qt hE X2.x.wf X2.x.frz (hP0.sub X2.x.sub) z.toSz (P.vw+1)).mono ?_;rintro w H3 ⟨G3,mc,co,v2,rfl,p3,ow,mo,ng,x3⟩;have X3:=X2.call x3;have p30:=p3;obtain⟨B1,E1,B2,E2,B3,E3,B4,E4,B5,E5,B6,E6,B7,E7,ET,EC,EA,hrD,_⟩:=p3.e;subst hrD;simp only[push_cast,seval,hE.z,f1,X3.f2];have ol:OL E (h.next+2) G3 H3 66 17 (bO P (P.vw+1)).2.length co v2:=⟨ow.low (by have:=X2.lt 0 rfl;omega),ng⟩;obtain⟨GG,zG,XG,sG,_⟩:=X3.still hW ol ((Dj.nil.low Nr).low Nr) hn1;exact⟨GG,_,co,_,rfl,p30.sub sG,zG,mo.sub sG,(XG.put hW 0 rfl).x⟩
  ·have g2:((P.st:Int)==0)=false:=NF;have hT:bw P=bO P (P.vw+1):=by unfold bw;rw[if_neg h2,if_neg (by simp[h0])]
   rw[hT];have hw:(Value.int .i64 (IntKind.i64.wrap ((P.vw:Int)+1)))=iv (P.vw+1):=bk Nr;simp only[push_cast,seval,hE.z,hW.b0,g1,g2,hw];refine Go.Tm.aO [1,2] λ_ f1=>?_;simp only[push_cast,seval,gz]at f1;refine MX.gen (motive:=λH=>af E _ _ H _) (B:=[(h.next+1,_),(h.next,_)]) X1 λH2 X2=>?_;refine(qt hE X2.x.wf X2.x.frz (hP0.sub X2.x.sub) z.toSz (P.vw+1)).mono ?_;rintro w H3 ⟨G3,mc,co,v2,rfl,p3,ow,mo,ng,x3⟩;have X3:=X2.call x3;have p30:=p3;obtain⟨B1,E1,B2,E2,B3,E3,B4,E4,B5,E5,B6,E6,B7,E7,ET,EC,EA,hrD,_⟩:=p3.e;subst hrD;simp only[push_cast,seval,hE.z,f1,X3.f2];have ol:OL E (h.next+2) G3 H3 66 17 (bO P (P.vw+1)).2.length co v2:=⟨ow.low (by have:=X2.lt 0 rfl;omega),ng⟩;obtain⟨GG,zG,XG,sG,_⟩:=X3.still hW ol ((Dj.nil.low Nr).low Nr) hn1;exact⟨GG,_,co,_,rfl,p30.sub sG,zG,mo.sub sG,(XG.put hW 0 rfl).x⟩
theorem HY(z:P.Sz)(hno:P.st≠0\/P.bF=false):af E 29 [.agg cs.toArray] h λv h'=>∃G' co,Ext E G h G' h'/\Fz E G' 17 (idle P).length co v/\bu E G' (idle P) co:=by
 have hR:idle P=[]:=by unfold idle;rw[if_pos (by simpa using hno)]
 rw[hR];have hP0:=hP;obtain⟨a1,c1,a2,c2,a3,c3,a4,c4,a5,c5,a6,c6,a7,c7,ct,cc,ca,hcs,hP'⟩:=hP.e;subst hcs;have zn:=z.n;have zv:=z.vw;have X1:=(MX.start hW hG).new (o:=.cells (rCS P a1 c1 a2 c2 a3 c3 a4 c4 a5 c5 a6 c6 a7 c7) 49 true);refine en hE Tryz.func29 rfl rfl Tryz.ntmps29 rfl Nv (rs:=[.tmp 2]) rfl ?_;by_cases h0:P.st=0
 ·have g1:((P.st:Int) != 0)=false:=Ox;have hp:P.bF=false:=by
   rcases hno with h|h
   ·exact absurd h0 h
   ·exact h
  simp only[push_cast,seval,hE.z,hW.b0,g1];refine(dH hE X1.x.wf hP0 ⟨Nr,Nr⟩ Nr).mono ?_;rintro w H2 ⟨rfl,k2⟩;rw[hp];simp only[push_cast,seval];exact⟨G,[],(X1.kw k2).x,Fz.nil,rfl⟩
 ·have g1:((P.st:Int) != 0)=true:=Nu;simp only[push_cast,seval,hE.z,hW.b0,g1];exact⟨G,[],X1.x,Fz.nil,rfl⟩
theorem HX(z:P.Ok)(hst:P.st=0)(hp:P.bF=true)(hbc:P.bs<=P.cm)(hcm:P.cm<P.op):af E 29 [.agg cs.toArray] h λv h'=>∃G' co,Ext E G h G' h'/\Fz E G' 17 (idle P).length co v/\bu E G' (idle P) co:=by
 have hll:P.op=P.bs+P.log.length:=rfl;have hl1:P.log.length-1<P.log.length:=Nr;have hlast:P.log.getLastD ⟨0,0,.empty⟩=P.log[P.log.length-1]:=by rw[List.getLastD_eq_getLast?,List.getLast?_eq_getElem?,List.getElem?_eq_getElem Nr];rfl
 have hR:idle P=P.allM {k:=2,vw:=P.vw,op:=P.op,cm:=P.cm,en:=P.log[P.log.length-1]}:=by unfold idle;rw[if_neg (by simp[hst,hp]),if_pos hcm,hlast]
 rw[hR];have hP0:=hP;obtain⟨a1,c1,a2,c2,a3,c3,a4,c4,a5,c5,a6,c6,a7,c7,ct,cc,ca,hcs,q1,_⟩:=hP.e;subst hcs;have zn:=z.n;have zv:=z.vw;have zo:=z.op4;have X1:=(MX.start hW hG).new (o:=.cells (rCS P a1 c1 a2 c2 a3 c3 a4 c4 a5 c5 a6 c6 a7 c7) 49 true);have g1:((P.st:Int) != 0)=false:=NV;have g2:decide ((P.cm:Int)<(P.op:Int))=true:=Nu;refine en hE Tryz.func29 rfl rfl Tryz.ntmps29 rfl Nv (rs:=[.tmp 2]) rfl ?_;simp only[push_cast,seval,hE.z,hW.b0,g1];refine Go.Tm.aO [1,2,6] λ_ f=>?_;simp only[push_cast,seval,gz]at f;refine MX.gen (motive:=λH=>af E _ _ H _) (B:=[(h.next,_)]) X1 λH1 X1=>?_;refine(dH hE X1.x.wf (hP0.sub X1.x.sub) ⟨Nr,Nr⟩ Nr).mono ?_;rintro w H2 ⟨rfl,k2⟩;have X2:=X1.kw k2;rw[hp];simp only[push_cast,seval,f];refine gtA [1] λ_ f1=>?_;simp only[push_cast,seval,gz,f]at f1;refine aB [(3,1)] Nt Nt Nt ?_;have b2:=X2.f1;simp only[push_cast,seval,hE.z,f1,b2];refine(dK hE X2.x.wf (hP0.sub X2.x.sub) Nr Nr).mono ?_;rintro w H3 ⟨rfl,k3⟩;have X3:=X2.kw k3;have b3:=X3.f1;simp only[push_cast,seval,hE.z,f1,b2,b3,g2,aV];refine gtA [1] λ_ f2=>?_;simp only[push_cast,seval,gz,f1]at f2;refine aB [(0,4),(2,4),(6,4),(8,4),(10,4),(14,4)] Nt Nt Nt ?_;simp only[push_cast,seval,hE.z,f2,b3];refine(dK hE X3.x.wf (hP0.sub X3.x.sub) Nr Nr).mono ?_;rintro w H4 ⟨rfl,k4⟩;have X4:=X3.kw k4;have b4:=X4.f1;obtain⟨lb,lc,e1',hsp,hac⟩:=q1.1.elem X4.x.frz hl1;injection e1' with e1' _ e3';subst e1';subst e3';rw[eU (List.getElem?_eq_getElem hl1)]at hac;unfold fo at hac;generalize hen:P.log[P.log.length-1]=e at *;have hwl:IntKind.i64.wrap ((P.log.length:Int)-1)=((P.log.length-1:Nat):Int):=NG;simp only[push_cast,seval,hE.z,f2,b3,b4,hwl];rw[jP hsp Nr Nr,ab];simp only[push_cast,seval,hE.z,↓hac,Int.toNat_natCast];refine(jM hE X4.x.wf (hP0.sub X4.x.sub) X4.x.frz Nr (m:={k:=2,vw:=P.vw,op:=P.op,cm:=P.cm,en:=e}) ⟨_,_,_,rfl,Fz.nil,Fz.nil,Fz.nil⟩).mono ?_;rintro w H5 ⟨co,ow,mo,k5⟩;have lA:=X4.lt 0 rfl;obtain⟨lb5,lc5,e5,_,hac5⟩:=q1.1.elem (X4.kw k5).x.frz hl1;injection e5 with e5 _ _;injection e5 with e5;subst e5;rw[eU (List.getElem?_eq_getElem hl1),hen]at hac5;unfold fo at hac5;obtain⟨lb3,lc3,e3,_,hac3⟩:=q1.1.elem X3.x.frz hl1;injection e3 with e3 _ _;injection e3 with e3;subst e3;rw[eU (List.getElem?_eq_getElem hl1),hen]at hac3;unfold fo at hac3;simp only[push_cast,seval,hE.z,f2,b3,b4,↓hac,↓hac3,aV,bp,aU,aW,ba,bn,dq];have ol:=OL.of X4 k5 ow (lo:=h.next+1) Nr;obtain⟨GG,zG,XG,sG,_⟩:=(X4.kw k5).still hW ol (Dj.nil.low Nr) Nr;exact⟨GG,co,XG.x,zG,mo.sub XG.x.sub⟩
theorem qo{R:PR×List Mg}(hm:MgR E G m ms)(k:m.Ok)(hg:fW P m=true)(hk:5<=m.k/\m.k<=11)(h8:m.k≠8)(h10:m.k≠10)(hst:m.k<=7->P.st≠2)
 (hf:∀H,Ext E G h G H->af E (if m.k<=7 then 60 else if m.k=9 then 63 else 65) [.agg cs.toArray,.agg ms.toArray] H λv h'=>∃G' rc' co v2,v=.tuple #[.agg rc'.toArray,v2]/\PRR E G' R.1 rc'/\Fz E G' 17 R.2.length co v2/\bu E G' R.2 co/\Ext E G H G' h') :
 af E 31 [.agg cs.toArray,.agg ms.toArray] h λv h'=>∃G' rc' co v2,v=.tuple #[.agg rc'.toArray,v2]/\PRR E G' R.1 rc'/\Fz E G' 17 R.2.length co v2/\bu E G' R.2 co/\Ext E G h G' h':=by
 have hP0:=hP;have hm0:=hm;obtain⟨a1,c1,a2,c2,a3,c3,a4,c4,a5,c5,a6,c6,a7,c7,ct,cc,ca,hrc,q1,⟨q2,q3,q4⟩,q5,q6,q7,q8⟩:=hP.e;subst hrc;obtain⟨b1,d1,b2,d2,b3,d3,hrm,m1,m2,m3⟩:=hm.e;subst hrm;have X1:=(((MX.start hW hG).new (o:=.cells (rCS P a1 c1 a2 c2 a3 c3 a4 c4 a5 c5 a6 c6 a7 c7) 49 true)).new (o:=.cells (mCS m b1 d1 b2 d2 b3 d3) 66 true)).new (o:=.cells zCR 49 true);refine en hE Tryz.func31 rfl rfl Tryz.ntmps31 rfl Nv (rs:=[.cell 4 49,.tmp 5]) rfl ?_;simp only[push_cast,seval,hE.z,hW.b0,hW.b1];refine Go.Tm.aO [2,3,4,5] λ_ f=>?_;simp only[push_cast,seval,gz]at f;refine MX.gen (motive:=λH=>af E _ _ H _) (B:=[(h.next+1+1,_),(h.next+1,_),(h.next,_)]) X1 λH1 X1=>?_;refine(j9 hE X1.x.wf X1.x.frz (hP0.sub X1.x.sub) (hm0.sub X1.x.sub) k Nr hg).mono ?_;rintro w H2 ⟨rfl,k2⟩;have X2:=X1.kw k2;have hff:=hf H2 X2.x;have hkk:m.k=5\/m.k=6\/m.k=7\/m.k=9\/m.k=11:=Nr;rcases hkk with hk|hk|hk|hk|hk
 ·have d1:((m.k:Int)==1)=false:=NC;have d2:((m.k:Int)==2)=false:=NC;have d3:((m.k:Int)==3)=false:=NC;have d4:((m.k:Int)==4)=false:=NC;have d5:((m.k:Int)==5)=true:=NC;have g2:((P.st:Int)==2)=false:=Pr;rw[if_pos Nr]at hff;simp only[push_cast,seval,hE.z,f,X2.f3,d1,d2,d3,d4,d5,g2];refine hff.mono ?_;rintro w H3 ⟨G3,mc,co,v2,rfl,p3,z3,mo,x3⟩;have X3:=X2.call x3;have p30:=p3;obtain⟨B1,E1,B2,E2,B3,E3,B4,E4,B5,E5,B6,E6,B7,E7,ET,EC,EA,hrD,_⟩:=p3.e;subst hrD;simp only[push_cast,seval,hE.z,f,X3.f3];exact⟨G3,_,co,_,rfl,p30,z3,mo,(X3.put hW 0 rfl).x⟩
 ·have d1:((m.k:Int)==1)=false:=NC;have d2:((m.k:Int)==2)=false:=NC;have d3:((m.k:Int)==3)=false:=NC;have d4:((m.k:Int)==4)=false:=NC;have d5:((m.k:Int)==5)=false:=NC;have d6:((m.k:Int)==6)=true:=NC;have g2:((P.st:Int)==2)=false:=Pr;rw[if_pos Nr]at hff;simp only[push_cast,seval,hE.z,f,X2.f3,d1,d2,d3,d4,d5,d6,g2];refine hff.mono ?_;rintro w H3 ⟨G3,mc,co,v2,rfl,p3,z3,mo,x3⟩;have X3:=X2.call x3;have p30:=p3;obtain⟨B1,E1,B2,E2,B3,E3,B4,E4,B5,E5,B6,E6,B7,E7,ET,EC,EA,hrD,_⟩:=p3.e;subst hrD;simp only[push_cast,seval,hE.z,f,X3.f3];exact⟨G3,_,co,_,rfl,p30,z3,mo,(X3.put hW 0 rfl).x⟩
 ·have d1:((m.k:Int)==1)=false:=NC;have d2:((m.k:Int)==2)=false:=NC;have d3:((m.k:Int)==3)=false:=NC;have d4:((m.k:Int)==4)=false:=NC;have d5:((m.k:Int)==5)=false:=NC;have d6:((m.k:Int)==6)=false:=NC;have d7:((m.k:Int)==7)=true:=NC;have g2:((P.st:Int)==2)=false:=Pr;rw[if_pos Nr]at hff;simp only[push_cast,seval,hE.z,f,X2.f3,d1,d2,d3,d4,d5,d6,d7,g2];refine hff.mono ?_;rintro w H3 ⟨G3,mc,co,v2,rfl,p3,z3,mo,x3⟩;have X3:=X2.call x3;have p30:=p3;obtain⟨B1,E1,B2,E2,B3,E3,B4,E4,B5,E5,B6,E6,B7,E7,ET,EC,EA,hrD,_⟩:=p3.e;subst hrD;simp only[push_cast,seval,hE.z,f,X3.f3];exact⟨G3,_,co,_,rfl,p30,z3,mo,(X3.put hW 0 rfl).x⟩
 ·have d1:((m.k:Int)==1)=false:=NC;have d2:((m.k:Int)==2)=false:=NC;have d3:((m.k:Int)==3)=false:=NC;have d4:((m.k:Int)==4)=false:=NC;have d5:((m.k:Int)==5)=false:=NC;have d6:((m.k:Int)==6)=false:=NC;have d7:((m.k:Int)==7)=false:=NC;have d8:((m.k:Int)==8)=false:=NC;have d9:((m.k:Int)==9)=true:=NC;rw[if_neg Nr,if_pos hk]at hff;simp only[push_cast,seval,hE.z,f,X2.f3,d1,d2,d3,d4,d5,d6,d7,d8,d9];refine hff.mono ?_;rintro w H3 ⟨G3,mc,co,v2,rfl,p3,z3,mo,x3⟩;have X3:=X2.call x3;have p30:=p3;obtain⟨B1,E1,B2,E2,B3,E3,B4,E4,B5,E5,B6,E6,B7,E7,ET,EC,EA,hrD,_⟩:=p3.e;subst hrD;simp only[push_cast,seval,hE.z,f,X3.f3];exact⟨G3,_,co,_,rfl,p30,z3,mo,(X3.put hW 0 rfl).x⟩
 ·have d1:((m.k:Int)==1)=false:=NC;have d2:((m.k:Int)==2)=false:=NC;have d3:((m.k:Int)==3)=false:=NC;have d4:((m.k:Int)==4)=false:=NC;have d5:((m.k:Int)==5)=false:=NC;have d6:((m.k:Int)==6)=false:=NC;have d7:((m.k:Int)==7)=false:=NC;have d8:((m.k:Int)==8)=false:=NC;have d9:((m.k:Int)==9)=false:=NC;have d10:((m.k:Int)==10)=false:=NC;rw[if_neg Nr,if_neg Nr]at hff;simp only[push_cast,seval,hE.z,f,X2.f3,d1,d2,d3,d4,d5,d6,d7,d8,d9,d10];refine hff.mono ?_;rintro w H3 ⟨G3,mc,co,v2,rfl,p3,z3,mo,x3⟩;have X3:=X2.call x3;have p30:=p3;obtain⟨B1,E1,B2,E2,B3,E3,B4,E4,B5,E5,B6,E6,B7,E7,ET,EC,EA,hrD,_⟩:=p3.e;subst hrD;simp only[push_cast,seval,hE.z,f,X3.f3];exact⟨G3,_,co,_,rfl,p30,z3,mo,(X3.put hW 0 rfl).x⟩
theorem DL(hm:MgR E G m ms)(k:m.Ok)(hg:fW P m=true)(hk:5<=m.k/\m.k<=7)(hst:P.st=2) :
 af E 31 [.agg cs.toArray,.agg ms.toArray] h λv h'=>∃G' rc' co v2,v=.tuple #[.agg rc'.toArray,v2]/\PRR E G' P rc'/\Fz E G' 17 0 co v2/\bu E G' [] co/\Ext E G h G' h':=by
 have hP0:=hP;have hm0:=hm;obtain⟨a1,c1,a2,c2,a3,c3,a4,c4,a5,c5,a6,c6,a7,c7,ct,cc,ca,hrc,q1,⟨q2,q3,q4⟩,q5,q6,q7,q8⟩:=hP.e;subst hrc;obtain⟨b1,d1,b2,d2,b3,d3,hrm,m1,m2,m3⟩:=hm.e;subst hrm;have X1:=(((MX.start hW hG).new (o:=.cells (rCS P a1 c1 a2 c2 a3 c3 a4 c4 a5 c5 a6 c6 a7 c7) 49 true)).new (o:=.cells (mCS m b1 d1 b2 d2 b3 d3) 66 true)).new (o:=.cells zCR 49 true);refine en hE Tryz.func31 rfl rfl Tryz.ntmps31 rfl Nv (rs:=[.cell 4 49,.tmp 5]) rfl ?_;simp only[push_cast,seval,hE.z,hW.b0,hW.b1];refine Go.Tm.aO [2,3,4,5] λ_ f=>?_;simp only[push_cast,seval,gz]at f;refine MX.gen (motive:=λH=>af E _ _ H _) (B:=[(h.next+1+1,_),(h.next+1,_),(h.next,_)]) X1 λH1 X1=>?_;refine(j9 hE X1.x.wf X1.x.frz (hP0.sub X1.x.sub) (hm0.sub X1.x.sub) k Nr hg).mono ?_;rintro w H2 ⟨rfl,k2⟩;have X2:=X1.kw k2;have hkk:m.k=5\/m.k=6\/m.k=7:=Nr;have g2:((P.st:Int)==2)=true:=NV;rcases hkk with hk|hk|hk
 ·have d1:((m.k:Int)==1)=false:=NC;have d2:((m.k:Int)==2)=false:=NC;have d3:((m.k:Int)==3)=false:=NC;have d4:((m.k:Int)==4)=false:=NC;have d5:((m.k:Int)==5)=true:=NC;simp only[push_cast,seval,hE.z,f,X2.f3,d1,d2,d3,d4,d5,g2];exact⟨G,_,[],_,rfl,hP0,Fz.nil,rfl,(X2.put hW 0 rfl).x⟩
 ·have d1:((m.k:Int)==1)=false:=NC;have d2:((m.k:Int)==2)=false:=NC;have d3:((m.k:Int)==3)=false:=NC;have d4:((m.k:Int)==4)=false:=NC;have d5:((m.k:Int)==5)=false:=NC;have d6:((m.k:Int)==6)=true:=NC;simp only[push_cast,seval,hE.z,f,X2.f3,d1,d2,d3,d4,d5,d6,g2];exact⟨G,_,[],_,rfl,hP0,Fz.nil,rfl,(X2.put hW 0 rfl).x⟩
 ·have d1:((m.k:Int)==1)=false:=NC;have d2:((m.k:Int)==2)=false:=NC;have d3:((m.k:Int)==3)=false:=NC;have d4:((m.k:Int)==4)=false:=NC;have d5:((m.k:Int)==5)=false:=NC;have d6:((m.k:Int)==6)=false:=NC;have d7:((m.k:Int)==7)=true:=NC;simp only[push_cast,seval,hE.z,f,X2.f3,d1,d2,d3,d4,d5,d6,d7,g2];exact⟨G,_,[],_,rfl,hP0,Fz.nil,rfl,(X2.put hW 0 rfl).x⟩
theorem DK(z:P.Ok)(hm:MgR E G m ms)(k:m.Ok)(hg:fW P m=true)(hk:m.k=8) :
 af E 31 [.agg cs.toArray,.agg ms.toArray] h λv h'=>∃G' rc' co v2,v=.tuple #[.agg rc'.toArray,v2]/\PRR E G' P rc'/\Fz E G' 17 (cJ P m).length co v2/\bu E G' (cJ P m) co/\Ext E G h G' h':=by
 have zn:=z.n;have zv:=z.vw;have hP0:=hP;have hm0:=hm;obtain⟨a1,c1,a2,c2,a3,c3,a4,c4,a5,c5,a6,c6,a7,c7,ct,cc,ca,hrc,q1,⟨q2,q3,q4⟩,q5,q6,q7,q8⟩:=hP.e;subst hrc;obtain⟨b1,d1,b2,d2,b3,d3,hrm,m1,m2,m3⟩:=hm.e;subst hrm;have X1:=(((MX.start hW hG).new (o:=.cells (rCS P a1 c1 a2 c2 a3 c3 a4 c4 a5 c5 a6 c6 a7 c7) 49 true)).new (o:=.cells (mCS m b1 d1 b2 d2 b3 d3) 66 true)).new (o:=.cells zCR 49 true);refine en hE Tryz.func31 rfl rfl Tryz.ntmps31 rfl Nv (rs:=[.cell 4 49,.tmp 5]) rfl ?_;simp only[push_cast,seval,hE.z,hW.b0,hW.b1];refine Go.Tm.aO [2,3,4,5] λ_ f=>?_;simp only[push_cast,seval,gz]at f;refine MX.gen (motive:=λH=>af E _ _ H _) (B:=[(h.next+1+1,_),(h.next+1,_),(h.next,_)]) X1 λH1 X1=>?_;refine(j9 hE X1.x.wf X1.x.frz (hP0.sub X1.x.sub) (hm0.sub X1.x.sub) k Nr hg).mono ?_;rintro w H2 ⟨rfl,k2⟩;have X2:=X1.kw k2;have d1:((m.k:Int)==1)=false:=NC;have d2:((m.k:Int)==2)=false:=NC;have d3:((m.k:Int)==3)=false:=NC;have d4:((m.k:Int)==4)=false:=NC;have d5:((m.k:Int)==5)=false:=NC;have d6:((m.k:Int)==6)=false:=NC;have d7:((m.k:Int)==7)=false:=NC;have d8:((m.k:Int)==8)=true:=NC;by_cases h0:P.st=0
 case neg =>
  have g1:((P.st:Int) != 0)=true:=Nu;have hR:cJ P m=[]:=by unfold cJ;rw[if_pos h0]
  rw[hR];simp only[push_cast,seval,hE.z,f,X2.f3,d1,d2,d3,d4,d5,d6,d7,d8,g1];exact⟨G,_,[],_,rfl,hP0,Fz.nil,rfl,(X2.put hW 0 rfl).x⟩
 have g1:((P.st:Int) != 0)=false:=Ox;have hR:cJ P m=[P.toM (if P.bF then P.bM {k:=9,vw:=P.vw,nc:=m.nc} else {k:=9,vw:=P.vw,nc:=m.nc}) m.fr]:=by unfold cJ;rw[if_neg (by simp[h0])]
 simp only[push_cast,seval,hE.z,f,X2.f3,d1,d2,d3,d4,d5,d6,d7,d8,g1];refine Go.Tm.aO [2,3,4,6] λ_ f1=>?_;simp only[push_cast,seval,gz,f]at f1;have hma:∀G',MgR E G' {k:=9,vw:=P.vw,nc:=m.nc} (mgC {k:=9,vw:=P.vw,nc:=m.nc} (.slice none 0 0) (.slice none 0 0) (.slice none 0 0)):=λG'=>⟨_,_,_,rfl,Fz.nil,Fz.nil,Fz.nil⟩;refine MX.gen (motive:=λH=>af E _ _ H _) (B:=[(H2.next,_),(h.next+1+1,_),(h.next+1,_),(h.next,_)]) (X2.new (o:=.cells (mgC {k:=9,vw:=P.vw,nc:=m.nc} (.slice none 0 0) (.slice none 0 0) (.slice none 0 0)) 66 true)) λH3 X3=>?_;refine(dH hE X3.x.wf (hP0.sub X3.x.sub) ⟨Nr,Nr⟩ Nr).mono ?_;rintro w H4 ⟨rfl,k4⟩;have X4:=X3.kw k4;cases hp:P.bF
 case' true =>
  simp only[push_cast,seval,hE.z,f1,X4.f4];refine Go.Tm.aO [2,3,4,6] λ_ f2=>?_;simp only[push_cast,seval,gz,f1]at f2
  refine(mN hE X4.x.wf X4.x.frz (hP0.sub X4.x.sub) z.toSz (λe he=>by
   have:=z.es e he
   exact⟨Og,N3,N8⟩) (hma G)).mono ?_
  rintro w H5 ⟨G5,mB,rfl,rB,x5⟩;have X5:=X4.call x5;obtain⟨W,hWd⟩:∃W,W=P.bM {k:=9,vw:=P.vw,nc:=m.nc}:=⟨_,rfl⟩;rw[<-hWd]at rB;have rB0:=rB;obtain⟨e1,u1,e2,u2,e3,u3,hmB,_⟩:=rB.e;subst hmB;simp only[push_cast,seval,hE.z,f2,X5.f4];have X6:=X5.put hW 0 rfl (o':=.cells (mCS W e1 u1 e2 u2 e3 u3) 66 true);rw[hp,if_pos rfl,<-hWd]at hR
 case' false =>
  obtain⟨W,hWd⟩:∃W:Mg,W={k:=9,vw:=P.vw,nc:=m.nc}:=⟨_,rfl⟩;have rB0:=hma G;rw[<-hWd]at rB0;have X4':=X4;rw[<-hWd]at X4';obtain⟨e1,u1,e2,u2,e3,u3,hmB,_⟩:=rB0.e;rw[hmB]at X4' rB0;obtain⟨G5,hG5⟩:∃G5,G5=G:=⟨_,rfl⟩;have X6:=X4';revert X6;have X6:=X4';rw[show MX E G h G H4=MX E G h G5 H4 from by rw[hG5]]at X6;intro _;rw[<-hG5]at rB0;rw[hp,if_neg Nw,<-hWd]at hR;simp only[push_cast,seval];have f2:=f1;obtain⟨H5,hH5⟩:∃H5,H5=H4:=⟨_,rfl⟩
 all_goals
  refine gtA [2,3,4,6] λ_ f3=>?_;simp only[push_cast,seval,gz,f2]at f3;refine MX.gen (motive:=λH=>aF E _ _ _ H) (B:=[(H2.next,.cells (mCS W e1 u1 e2 u2 e3 u3) 66 true),(h.next+1+1,_),(h.next+1,_),(h.next,_)]) X6 λHA XA=>?_;have bA:=XA.f4;have hPA:=hP0.sub XA.x.sub;refine pa 6 Nt (jm [(0,[0,6]),(1,[0]),(2,[0]),(4,[0])] [5,6,7] [(7,[1,2,3,4,5])] [(0,(60,[0])),(1,(61,[1])),(2,(62,[2])),(3,(63,[3])),(4,(64,[4,3])),(5,(65,[5,1,2,3,4])),(7,(66,[7,1,2,3,4,5])),(8,(5,[8,0,1,2,3,4,5,6,7]))] [0,1,2,3,4,5,6,7,8] Nt Nt Nt Nt Nt Nv rfl ?_);simp only[push_cast,seval,hE.z,f3,bA];refine(iU hE XA.x.wf hPA rB0 m.fr).mono ?_;rintro w HB ⟨r,rfl,rR,kB⟩;have XB:=XA.kw kB;generalize hM:P.toM W m.fr=M at rR hR;rw[hR];have rR0:=rR;obtain⟨i1,j1,i2,j2,i3,j3,hr,_⟩:=rR.e;rw[hr];have bB:=XB.f4;simp only[push_cast,seval,hE.z,f3,bB];rw[lf rfl,aR];simp only[push_cast,seval,hE.z,f3,bA,bB];have nAB:=kB.k.next;have sP:=hPA.sc XA.x.wf XA.x.frz;have sW:=rB0.sc XA.x.wf XA.x.frz;have sR:=rR0.sc XB.x.wf XB.x.frz;have sRA:=rR0.sc XA.x.wf XA.x.frz;have sP':=hPA.sc XB.x.wf XB.x.frz;rw[hr]at sR sRA;have p2:Go.Tm.sc HA.next (.pointer (some ⟨h.next+1,1,none⟩))=true:=by simpa[Go.Tm.sc] using XA.lt 2 rfl
  refine⟨⟨Nr,?_,?_,?_,?_⟩,?_⟩
  ·simp only[push_cast,seval,hE.z,f3,bA,bB,jo,aV,bp,aU,aW,ba,bn,dq]
  ·simp only[push_cast,seval,f3,jx,Op.operands,ef,sP,sW,sR,sP'];exact⟨⟨rfl,rfl⟩,Pd⟩
  ·simp only[push_cast,seval,hE.z,aOk,gH];rw[lf rfl];exact⟨_,rfl,wR (cQ 0 Nr sRA)⟩
  ·simp only[push_cast,seval,dOk]
   repeat' apply And.intro
   all_goals first
    |exact cQ 0 Nr sP
    |exact cQ 0 Nr p2
    |exact cQ 0 Nr sW
    |exact cQ 0 Nr sRA
    |exact eW (K:=7) Nz (Nat.le_refl _) (Nat.lt_succ_self _)
    |rfl
  ·obtain⟨XD,oD⟩:=(XB.put hW 1 rfl (o':=.cells (rCS P a1 c1 a2 c2 a3 c3 a4 c4 a5 c5 a6 c6 a7 c7) 49 true)).Hy (lo:=HB.next) (e:=66) (n:=1) (z:=17) (cs:=mCS M i1 j1 i2 j2 i3 j3) rfl Nr O0;have hXB:h.next<=HB.next:=XB.x.aK.next;obtain⟨GE,zE,XE,sE,_⟩:=XD.still hW oD ((((Dj.nil.low (XB.lt 3 rfl)).low (XB.lt 2 rfl)).low (XB.lt 1 rfl)).low (XB.lt 0 rfl)) hXB;rw[hr]at rR0;exact⟨GE,_,_,_,rfl,hPA.sub sE,zE,bu.one (rR0.sub sE),XE.x⟩
theorem AX(z:P.Ok)(hm:MgR E G m ms)(k:m.Ok)(hg:fW P m=true)(hk:m.k=10)(hno:P.st≠0\/m.vw≠P.vw\/P.op<m.op) :
 af E 31 [.agg cs.toArray,.agg ms.toArray] h λv h'=>∃G' rc' co v2,v=.tuple #[.agg rc'.toArray,v2]/\PRR E G' P rc'/\Fz E G' 17 (bP P m).length co v2/\bu E G' (bP P m) co/\Ext E G h G' h':=by
 have hR:bP P m=[]:=by unfold bP;rw[if_pos hno]
 rw[hR];have zo:=z.op4;have hPl:P.op=P.bs+P.log.length:=rfl;have tf:(true==false)=false:=rfl;have hP0:=hP;have hm0:=hm;obtain⟨a1,c1,a2,c2,a3,c3,a4,c4,a5,c5,a6,c6,a7,c7,ct,cc,ca,hrc,q1,⟨q2,q3,q4⟩,q5,q6,q7,q8⟩:=hP.e;subst hrc;obtain⟨b1,d1,b2,d2,b3,d3,hrm,m1,m2,m3⟩:=hm.e;subst hrm;have X1:=(((MX.start hW hG).new (o:=.cells (rCS P a1 c1 a2 c2 a3 c3 a4 c4 a5 c5 a6 c6 a7 c7) 49 true)).new (o:=.cells (mCS m b1 d1 b2 d2 b3 d3) 66 true)).new (o:=.cells zCR 49 true);refine en hE Tryz.func31 rfl rfl Tryz.ntmps31 rfl Nv (rs:=[.cell 4 49,.tmp 5]) rfl ?_;simp only[push_cast,seval,hE.z,hW.b0,hW.b1];refine Go.Tm.aO [2,3,4,5] λ_ f=>?_;simp only[push_cast,seval,gz]at f;refine MX.gen (motive:=λH=>af E _ _ H _) (B:=[(h.next+1+1,_),(h.next+1,_),(h.next,_)]) X1 λH1 X1=>?_;refine(j9 hE X1.x.wf X1.x.frz (hP0.sub X1.x.sub) (hm0.sub X1.x.sub) k Nr hg).mono ?_;rintro w H2 ⟨rfl,k2⟩;have X2:=X1.kw k2;have d1:((m.k:Int)==1)=false:=NC;have d2:((m.k:Int)==2)=false:=NC;have d3:((m.k:Int)==3)=false:=NC;have d4:((m.k:Int)==4)=false:=NC;have d5:((m.k:Int)==5)=false:=NC;have d6:((m.k:Int)==6)=false:=NC;have d7:((m.k:Int)==7)=false:=NC;have d8:((m.k:Int)==8)=false:=NC;have d9:((m.k:Int)==9)=false:=NC;have d10:((m.k:Int)==10)=true:=NC;simp only[push_cast,seval,hE.z,f,X2.f3,d1,d2,d3,d4,d5,d6,d7,d8,d9,d10];refine gtA [2,3,4] λ_ f1=>?_;simp only[push_cast,seval,gz,f]at f1;refine MX.gen (motive:=λH=>aF E _ _ _ H) (B:=[(h.next+1+1,_),(h.next+1,_),(h.next,_)]) X2 λH2 X2=>?_;have b2:=X2.f3;refine kg [(12,14)] Nt Nt Nt λF hF=>?_;by_cases h0:P.st=0
 case neg =>have g1:((P.st:Int) != 0)=true:=Nu;simp only[push_cast,seval,hE.z,je,eL,dX,f1,b2,g1];refine hF _ OV ?_;simp only[push_cast,seval,hE.z,f1,b2];exact⟨G,_,[],_,rfl,hP0,Fz.nil,rfl,(X2.put hW 0 rfl).x⟩
 have g1:((P.st:Int) != 0)=false:=Ox;by_cases hv:m.vw=P.vw
 case neg =>have g2:((m.vw:Int) != (P.vw:Int))=true:=Nu;simp only[push_cast,seval,hE.z,je,eL,dX,f1,b2,g1,g2];refine hF _ OV ?_;simp only[push_cast,seval,hE.z,f1,b2];exact⟨G,_,[],_,rfl,hP0,Fz.nil,rfl,(X2.put hW 0 rfl).x⟩
 have g2:((m.vw:Int) != (P.vw:Int))=false:=PG;have ho:P.op<m.op:=by
  rcases hno with hh|hh|hh
  ·exact absurd h0 hh
  ·exact absurd hv hh
  ·exact hh
 have g3:decide ((P.op:Int)<(m.op:Int))=true:=Nu;simp only[push_cast,seval,hE.z,eL,dX,f1,b2,g1,g2];refine(dK hE X2.x.wf (hP0.sub X2.x.sub) Nr Nr).mono ?_;rintro w H3 ⟨rfl,k3⟩;have X3:=X2.kw k3;have b3:=X3.f3;simp only[push_cast,seval,je,eL,dX,g3];refine hF _ (by simp only[push_cast,seval,hE.z,b2,b3,aV]) ?_;simp only[push_cast,seval,hE.z,f1,b3];exact⟨G,_,[],_,rfl,hP0,Fz.nil,rfl,(X3.put hW 0 rfl).x⟩
theorem AY(z:P.Ok)(hm:MgR E G m ms)(k:m.Ok)(hg:fW P m=true)(hk:m.k=10)(h0:P.st=0)(hv:m.vw=P.vw)(ho:m.op<=P.op) :
 af E 31 [.agg cs.toArray,.agg ms.toArray] h λv h'=>∃G' rc' co v2,v=.tuple #[.agg rc'.toArray,v2]/\PRR E G' P rc'/\Fz E G' 17 (bP P m).length co v2/\bu E G' (bP P m) co/\Ext E G h G' h':=by
 have hR:bP P m=[P.toM (if m.op<P.bs then P.bM {k:=11,vw:=P.vw,op:=P.op,cm:=P.cm,bs:=m.op} else {k:=11,vw:=P.vw,op:=P.op,cm:=P.cm,bs:=m.op,log:=dv P m.op}) m.fr]:=by unfold bP;rw[if_neg (by rintro(hh|hh|hh);exact hh h0;exact hh hv;omega)]
 have zo:=z.op4;have hPl:P.op=P.bs+P.log.length:=rfl;have hP0:=hP;have hm0:=hm;obtain⟨a1,c1,a2,c2,a3,c3,a4,c4,a5,c5,a6,c6,a7,c7,ct,cc,ca,hrc,q1,⟨q2,q3,q4⟩,q5,q6,q7,q8⟩:=hP.e;subst hrc;obtain⟨b1,d1,b2,d2,b3,d3,hrm,m1,m2,m3⟩:=hm.e;subst hrm;have X1:=(((MX.start hW hG).new (o:=.cells (rCS P a1 c1 a2 c2 a3 c3 a4 c4 a5 c5 a6 c6 a7 c7) 49 true)).new (o:=.cells (mCS m b1 d1 b2 d2 b3 d3) 66 true)).new (o:=.cells zCR 49 true);refine en hE Tryz.func31 rfl rfl Tryz.ntmps31 rfl Nv (rs:=[.cell 4 49,.tmp 5]) rfl ?_;simp only[push_cast,seval,hE.z,hW.b0,hW.b1];refine Go.Tm.aO [2,3,4,5] λ_ f=>?_;simp only[push_cast,seval,gz]at f;refine MX.gen (motive:=λH=>af E _ _ H _) (B:=[(h.next+1+1,_),(h.next+1,_),(h.next,_)]) X1 λH1 X1=>?_;refine(j9 hE X1.x.wf X1.x.frz (hP0.sub X1.x.sub) (hm0.sub X1.x.sub) k Nr hg).mono ?_;rintro w H2 ⟨rfl,k2⟩;have X2:=X1.kw k2;have d1:((m.k:Int)==1)=false:=NC;have d2:((m.k:Int)==2)=false:=NC;have d3:((m.k:Int)==3)=false:=NC;have d4:((m.k:Int)==4)=false:=NC;have d5:((m.k:Int)==5)=false:=NC;have d6:((m.k:Int)==6)=false:=NC;have d7:((m.k:Int)==7)=false:=NC;have d8:((m.k:Int)==8)=false:=NC;have d9:((m.k:Int)==9)=false:=NC;have d10:((m.k:Int)==10)=true:=NC;simp only[push_cast,seval,hE.z,f,X2.f3,d1,d2,d3,d4,d5,d6,d7,d8,d9,d10];refine gtA [2,3,4] λ_ f1=>?_;simp only[push_cast,seval,gz,f]at f1;refine MX.gen (motive:=λH=>aF E _ _ _ H) (B:=[(h.next+1+1,_),(h.next+1,_),(h.next,_)]) X2 λH2 X2=>?_;have b2:=X2.f3;refine kg [(12,14)] Nt Nt Nt λF hF=>?_;have g1:((P.st:Int) != 0)=false:=Ox;have g2:((m.vw:Int) != (P.vw:Int))=false:=PG;have g3:decide ((P.op:Int)<(m.op:Int))=false:=Nu;simp only[push_cast,seval,hE.z,eL,dX,f1,b2,g1,g2];refine(dK hE X2.x.wf (hP0.sub X2.x.sub) Nr Nr).mono ?_;rintro w H3 ⟨rfl,k3⟩;have X3:=X2.kw k3;have b3:=X3.f3;simp only[push_cast,seval,je,eL,dX,g3];refine hF _ (by simp only[push_cast,seval,hE.z,b2,b3,aV]) ?_;simp only[push_cast,seval];refine gtA [2,3,4] λ_ f2=>?_;simp only[push_cast,seval,gz,f1]at f2;refine MX.gen (motive:=λH=>aF E _ _ _ H) (B:=[(h.next+1+1,_),(h.next+1,_),(h.next,_)]) X3 λH3 X3=>?_;have b3:=X3.f3;have hma:∀G',MgR E G' {k:=11,vw:=P.vw,op:=P.op,cm:=P.cm,bs:=m.op} (mgC {k:=11,vw:=P.vw,op:=P.op,cm:=P.cm,bs:=m.op} (.slice none 0 0) (.slice none 0 0) (.slice none 0 0)):=λG'=>⟨_,_,_,rfl,Fz.nil,Fz.nil,Fz.nil⟩;refine dE [(1,[0,4]),(2,[0]),(5,[0,4]),(7,[0,4])] [3,9,10] [(9,[])] [(0,(94,[0])),(1,(95,[1,0])),(2,(96,[2])),(3,(97,[3,2])),(4,(98,[4])),(5,(99,[5,4])),(6,(100,[6])),(7,(101,[7,6])),(8,(102,[8,0,1,2,3,4,5,6,7])),(9,(7,[9]))] [0,1,2,3,4,5,6,7,8,9,10] Nt Nt Nt Nt Nt Nv rfl ?_;simp only[push_cast,seval,hE.z,f2,b3];refine(dK hE X3.x.wf (hP0.sub X3.x.sub) Nr Nr).mono ?_;rintro w H4 ⟨rfl,k4⟩;have X4:=X3.kw k4;have b4:=X4.f3;simp only[push_cast,seval,hE.z,f2,b3,b4];have nAB:=k4.k.next;have sP:=(hP0.sub X3.x.sub).sc X3.x.wf X3.x.frz;have sP':=(hP0.sub X4.x.sub).sc X4.x.wf X4.x.frz;have p0:∀o:Nat,Go.Tm.sc H3.next (.pointer (some ⟨h.next,o,none⟩))=true:=λo=>by simpa[Go.Tm.sc] using X3.lt 2 rfl
 have p1:∀o:Nat,Go.Tm.sc H3.next (.pointer (some ⟨h.next+1,o,none⟩))=true:=λo=>by simpa[Go.Tm.sc] using X3.lt 1 rfl
 refine⟨⟨⟨Nr,Nr⟩,?_,?_,?_,?_⟩,?_⟩
 ·simp only[push_cast,seval,hE.z,f2,b3,b4,jo,aV,bp,aU,aW,ba,bn]
 ·simp only[push_cast,seval,jx,Op.operands,ef,sP];exact⟨rfl,λ_ h=>h.elim,by simp[Go.Tm.sc],rfl⟩
 ·simp only[push_cast,seval,hE.z,aOk];rfl
 ·simp only[push_cast,seval,dOk]
  repeat' apply And.intro
  all_goals first
   |exact cQ 0 Nr sP
   |exact cQ 0 Nr (p0 2)
   |exact cQ 0 Nr (p0 6)
   |exact cQ 0 Nr (p1 4)
   |rfl
   |exact dA (k:=9) Nz (Nat.le_refl _) (Nat.lt_succ_self _)
 ·by_cases hlt:m.op<P.bs
  case' pos =>
   have g4:decide ((m.op:Int)<(P.bs:Int))=true:=Nu
  case' neg =>
   have g4:decide ((m.op:Int)<(P.bs:Int))=false:=Nu
  all_goals
   refine gtK [2,3,4,7] λ_ f3=>?_;simp only[push_cast,seval,gz,f2]at f3;refine MX.gen (motive:=λH=>kif E _ _ _ _ _ H) (B:=[(H4.next,.cells (mgC {k:=11,vw:=P.vw,op:=P.op,cm:=P.cm,bs:=m.op} (.slice none 0 0) (.slice none 0 0) (.slice none 0 0)) 66 true),(h.next+1+1,_),(h.next+1,_),(h.next,_)]) X4.new λH5 X5=>?_
  case' pos =>
   simp only[push_cast,seval,hE.z,f3,X5.f4,g4];refine Go.Tm.aO [2,3,4,7] λ_ f4=>?_;simp only[push_cast,seval,gz,f3]at f4
   refine(mN hE X5.x.wf X5.x.frz (hP0.sub X5.x.sub) z.toSz (λe he=>by
    have:=z.es e he
    exact⟨Og,N3,N8⟩) (hma G)).mono ?_
   rintro w H6 ⟨G5,mB,rfl,rB,x6⟩;have X6:=X5.call x6;obtain⟨W,hWd⟩:∃W,W=P.bM {k:=11,vw:=P.vw,op:=P.op,cm:=P.cm,bs:=m.op}:=⟨_,rfl⟩;rw[<-hWd]at rB;have rB0:=rB;obtain⟨e1,u1,e2,u2,e3,u3,hmB,_⟩:=rB.e;subst hmB;simp only[push_cast,seval,hE.z,f4,X6.f4];have X6:=X6.put hW 0 rfl (o':=.cells (mCS W e1 u1 e2 u2 e3 u3) 66 true);rw[if_pos hlt,<-hWd]at hR
  case' neg =>
   simp only[push_cast,seval,hE.z,f3,X5.f4,g4];refine Go.Tm.aO [2,3,4,7] λ_ f4=>?_;simp only[push_cast,seval,gz,f3]at f4;refine(iq hE X5.x.wf (hP0.sub X5.x.sub) X5.x.frz (k:=m.op) ⟨Nr,ho⟩ Nr).mono ?_;rintro w H6 ⟨ow,k6⟩;have ol:=OL.of X5 k6 ow (lo:=H5.next) (Nat.le_refl _);obtain⟨G5,zG,X6,sG,_⟩:=(X5.kw k6).still hW ol ((((Dj.nil.low (X5.lt 3 rfl)).low (X5.lt 2 rfl)).low (X5.lt 1 rfl)).low (X5.lt 0 rfl)) X5.x.aK.next;obtain⟨wa,wc,rfl,_,_⟩:=zG.slice;simp only[push_cast,seval,hE.z,f4,X6.f4];obtain⟨W,hWd⟩:∃W:Mg,W={k:=11,vw:=P.vw,op:=P.op,cm:=P.cm,bs:=m.op,log:=dv P m.op}:=⟨_,rfl⟩;have hll:(dv P m.op).length=P.op-m.op:=by unfold dv;rw[List.length_drop];omega
   have rB0:MgR E G5 W (mgC W (.slice wa (P.op-m.op) wc) (.slice none 0 0) (.slice none 0 0)):=by rw[hWd];exact⟨_,_,_,rfl,by rw[hll];exact zG,Fz.nil,Fz.nil⟩
   refine MX.gen (motive:=λH=>aF E _ _ _ H) (B:=[(H4.next,.cells (mgC W (.slice wa (P.op-m.op) wc) (.slice none 0 0) (.slice none 0 0)) 66 true),(h.next+1+1,_),(h.next+1,_),(h.next,_)]) (by rw[hWd];exact X6.put hW 0 rfl) λH7 X6=>?_;rw[if_neg hlt,<-hWd]at hR;obtain⟨e1,u1,e2,u2,e3,u3,hmB,_⟩:=rB0.e;rw[hmB]at X6 rB0
  all_goals
   refine gtA [2,3,4,7] λ_ f5=>?_;simp only[push_cast,seval,gz,f4]at f5;refine MX.gen (motive:=λH=>aF E _ _ _ H) (B:=[(H4.next,.cells (mCS W e1 u1 e2 u2 e3 u3) 66 true),(h.next+1+1,_),(h.next+1,_),(h.next,_)]) X6 λHA XA=>?_;have bA:=XA.f4;have hPA:=hP0.sub XA.x.sub;refine pa 6 Nt (jm [(0,[0,6]),(1,[0]),(2,[0]),(4,[0])] [5,6,7] [(7,[1,2,3,4,5])] [(0,(116,[0])),(1,(117,[1])),(2,(118,[2])),(3,(119,[3])),(4,(120,[4,3])),(5,(121,[5,1,2,3,4])),(7,(122,[7,1,2,3,4,5])),(8,(5,[8,0,1,2,3,4,5,6,7]))] [0,1,2,3,4,5,6,7,8] Nt Nt Nt Nt Nt Nv rfl ?_);simp only[push_cast,seval,hE.z,f5,bA];refine(iU hE XA.x.wf hPA rB0 m.fr).mono ?_;rintro w HB ⟨r,rfl,rR,kB⟩;have XB:=XA.kw kB;generalize hM:P.toM W m.fr=M at rR hR;rw[hR];have rR0:=rR;obtain⟨i1,j1,i2,j2,i3,j3,hr,_⟩:=rR.e;rw[hr];have bB:=XB.f4;simp only[push_cast,seval,hE.z,f5,bB];rw[lf rfl,aR];simp only[push_cast,seval,hE.z,f5,bA,bB];have nAB:=kB.k.next;have sP:=hPA.sc XA.x.wf XA.x.frz;have sW:=rB0.sc XA.x.wf XA.x.frz;have sR:=rR0.sc XB.x.wf XB.x.frz;have sRA:=rR0.sc XA.x.wf XA.x.frz;have sP':=hPA.sc XB.x.wf XB.x.frz;rw[hr]at sR sRA;have p2:Go.Tm.sc HA.next (.pointer (some ⟨h.next+1,1,none⟩))=true:=by simpa[Go.Tm.sc] using XA.lt 2 rfl
   refine⟨⟨Nr,?_,?_,?_,?_⟩,?_⟩
   ·simp only[push_cast,seval,hE.z,f5,bA,bB,jo,aV,bp,aU,aW,ba,bn,dq]
   ·simp only[push_cast,seval,f5,jx,Op.operands,ef,sP,sW,sR,sP'];exact⟨⟨rfl,rfl⟩,Pd⟩
   ·simp only[push_cast,seval,hE.z,aOk,gH];rw[lf rfl];exact⟨_,rfl,wR (cQ 0 Nr sRA)⟩
   ·simp only[push_cast,seval,dOk]
    repeat' apply And.intro
    all_goals first
     |exact cQ 0 Nr sP
     |exact cQ 0 Nr p2
     |exact cQ 0 Nr sW
     |exact cQ 0 Nr sRA
     |exact eW (K:=7) Nz (Nat.le_refl _) (Nat.lt_succ_self _)
     |rfl
   ·obtain⟨XD,oD⟩:=(XB.put hW 1 rfl (o':=.cells (rCS P a1 c1 a2 c2 a3 c3 a4 c4 a5 c5 a6 c6 a7 c7) 49 true)).Hy (lo:=HB.next) (e:=66) (n:=1) (z:=17) (cs:=mCS M i1 j1 i2 j2 i3 j3) rfl Nr O0;have hXB:h.next<=HB.next:=XB.x.aK.next;obtain⟨GE,zE,XE,sE,_⟩:=XD.still hW oD ((((Dj.nil.low (XB.lt 3 rfl)).low (XB.lt 2 rfl)).low (XB.lt 1 rfl)).low (XB.lt 0 rfl)) hXB;rw[hr]at rR0;exact⟨GE,_,_,_,rfl,hPA.sub sE,zE,bu.one (rR0.sub sE),XE.x⟩
end
end Go.Proofs.YthbjaiilnkakcaaGreatDoor
namespace Vr
structure rk(P:PR)(m:Mg):Prop where
 JA:fW P m=true
 k3:m.k=3->P.st=0->P.bF=true->m.vw=P.vw->m.op<=P.op
 ch:5<=m.k->m.k<=7->P.st≠2->Cn P m
 an:m.k=9->JQ P m
 so:m.k=11->KI P m
theorem CX{P:PR}{m:Mg}(hg:fW P m=true):m.to=P.me/\1<=m.k/\m.k<=11/\(m.k=1\/m.fr<P.n/\m.fr≠P.me):=by unfold fW at hg;simp only[Bool.and_eq_true,Bool.or_eq_true,decide_eq_true_eq,beq_iff_eq,bne_iff_ne]at hg;exact⟨hg.1.1.1.1,hg.1.1.1.2,hg.1.1.2,hg.1.2⟩
end Vr
namespace Go.Proofs.YthbjaiilnkakcaaGreatDoor
open Go.Tm Vr
variable{m:Mg}{ms:List Value}
variable{E:Env}(hE:EOk E)
include hE
section
variable{G:Mem}{h:ag}(hW:WF E h)(hG:Frz E G h){P:PR}{cs:List Value}(hP:PRR E G P cs)
include hW hG hP
theorem yZ(z:P.Ok)(hm:MgR E G m ms)(hno:P.st≠0\/P.bF=false) :
 af E 58 [.agg cs.toArray,.agg ms.toArray] h λv h'=>∃G' rc' co v2,Ext E G h G' h'/\PRR E G' (request P m).1 rc'/\Fz E G' 17 (request P m).2.length co v2/\bu E G' (request P m).2 co/\v=.tuple #[.agg rc'.toArray,v2]:=by
 have hR:request P m=(P,[]):=by unfold request;rw[if_pos (by simpa using hno)]
 rw[hR];have hP0:=hP;obtain⟨a1,c1,a2,c2,a3,c3,a4,c4,a5,c5,a6,c6,a7,c7,ct,cc,ca,hrc,q1,_⟩:=hP.e;subst hrc;obtain⟨b1,d1,b2,d2,b3,d3,hrm,m1,m2,m3⟩:=hm.e;subst hrm;have zn:=z.n;have zv:=z.vw;have X1:=(((MX.start hW hG).new (o:=.cells (rCS P a1 c1 a2 c2 a3 c3 a4 c4 a5 c5 a6 c6 a7 c7) 49 true)).new (o:=.cells (mCS m b1 d1 b2 d2 b3 d3) 66 true)).new (o:=.cells zCR 49 true);refine en hE Tryz.func58 rfl rfl Tryz.ntmps58 rfl Nv (rs:=[.cell 4 49,.tmp 5]) rfl ?_;by_cases h0:P.st=0
 ·have g1:((P.st:Int) != 0)=false:=Ox;have hp:P.bF=false:=by
   rcases hno with h|h
   ·exact absurd h0 h
   ·exact h
  simp only[push_cast,seval,hE.z,hW.b0,g1];refine Go.Tm.aO [2,3,4,12,13] λ_ f=>?_;simp only[push_cast,seval,gz]at f;refine MX.gen (motive:=λH=>af E _ _ H _) (B:=[(h.next+1+1,_),(h.next+1,_),(h.next,_)]) X1 λH1 X1=>?_;refine(dH hE X1.x.wf (hP0.sub X1.x.sub) ⟨Nr,Nr⟩ Nr).mono ?_;rintro w H2 ⟨rfl,k2⟩;have X2:=X1.kw k2;rw[hp];simp only[push_cast,seval,hE.z,f,X2.f3];exact⟨G,_,[],_,(X2.put hW 0 rfl).x,hP0,Fz.nil,rfl,rfl⟩
 ·have g1:((P.st:Int) != 0)=true:=Nu;simp only[push_cast,seval,hE.z,hW.b0,hW.b2,g1];exact⟨G,_,[],_,(X1.put hW 0 rfl).x,hP0,Fz.nil,rfl,rfl⟩
theorem wY(z:P.Ok)(hm:MgR E G m ms)(k:m.Ok) :
 af E 58 [.agg cs.toArray,.agg ms.toArray] h λv h'=>∃G' rc' co v2,Ext E G h G' h'/\PRR E G' (request P m).1 rc'/\Fz E G' 17 (request P m).2.length co v2/\bu E G' (request P m).2 co/\v=.tuple #[.agg rc'.toArray,v2]:=by
 by_cases hno:P.st≠0\/P.bF=false
 ·exact yZ hE hW hG hP z hm hno
 ·have h0:P.st=0:=by
   by_cases h:P.st=0
   ·exact h
   ·exact absurd (.inl h) hno
  have hp:P.bF=true:=by
   cases h:P.bF
   ·exact absurd (.inr h) hno
   ·rfl
  by_cases he:∃x,bt P.sv.tab m.en.c=some x/\m.en.n=x.n
  ·obtain⟨x,hx,hn⟩:=he;exact y9 hE hW hG hP z hm k.en h0 hp hx hn
  ·exact zd hE hW hG hP z.toSz PL hm k.en λx hx hn=>he ⟨x,hx,hn⟩
theorem zu(z:P.Ok)(hm:MgR E G m ms)(k:m.Ok)(hk:2<=m.k/\m.k<=4)(hfr:m.fr<P.n)(h3:m.k=3->P.st=0->P.bF=true->m.vw=P.vw->m.op<=P.op) :
 af E 59 [.agg cs.toArray,.agg ms.toArray] h λv h'=>∃G' rc' co v2,Ext E G h G' h'/\PRR E G' (aX P m).1 rc'/\Fz E G' 17 (aX P m).2.length co v2/\bu E G' (aX P m).2 co/\v=.tuple #[.agg rc'.toArray,v2]:=by
 by_cases hc:P.st≠0\/(m.k=3/\(P.bF=false\/m.vw≠P.vw))\/(m.k≠3/\(m.vw<P.vw\/(m.vw=P.vw/\P.bF=true)))
 ·exact Br hE hW hG hP z hm hk hc
 have h0:P.st=0:=by
  by_cases h:P.st=0
  ·exact h
  ·exact absurd (.inl h) hc
 by_cases hk3:m.k=3
 ·have hp:P.bF=true:=by
   cases h:P.bF
   ·exact absurd (.inr (.inl ⟨hk3,.inl h⟩)) hc
   ·rfl
  have hv:m.vw=P.vw:=by
   by_cases h:m.vw=P.vw
   ·exact h
   ·exact absurd (.inr (.inl ⟨hk3,.inr h⟩)) hc
  exact uO hE hW hG hP z.toSz hm h0 hk3 hv hp hfr (h3 hk3 h0 hp hv)
 have hge:¬m.vw<P.vw:=λh=>hc (.inr (.inr ⟨hk3,.inl h⟩))
 have hpe:m.vw=P.vw->P.bF=false:=λhv=>by
  cases h:P.bF
  ·rfl
  ·exact absurd (.inr (.inr ⟨hk3,.inr ⟨hv,h⟩⟩)) hc
 have hk24:m.k=2\/m.k=4:=Nr;by_cases ha:P.vw<m.vw\/(m.vw=P.vw/\P.bF=false/\(m.k=4->P.op<m.cm)/\(m.k=2->P.op+1<m.op))
 ·exact zr hE hW hG hP z hm h0 hk24 k ha
 have hv:m.vw=P.vw:=by
  by_cases h:P.vw<m.vw
  ·exact absurd (.inl h) ha
  ·omega
 rcases hk24 with h2|h4
 ·refine zq hE hW hG hP z.toSz PL k.en hm h0 h2 hv (hpe hv) ?_;by_cases h:P.op+1<m.op
  ·exact absurd (.inr ⟨hv,hpe hv,λh4=>Nr,λ_=>h⟩) ha
  ·omega
 ·refine uZ hE hW hG hP z.toSz hm h0 h4 hv (hpe hv) ?_;by_cases h:P.op<m.cm
  ·exact absurd (.inr ⟨hv,hpe hv,λ_=>h,λh2=>Nr⟩) ha
  ·omega
theorem pE(z:P.Ok)(hm:MgR E G m ms)(k:m.Ok)(ok:rk P m) :
 af E 31 [.agg cs.toArray,.agg ms.toArray] h λv h'=>∃G' rc' co v2,Ext E G h G' h'/\PRR E G' (bX P m).1 rc'/\Fz E G' 17 (bX P m).2.length co v2/\bu E G' (bX P m).2 co/\v=.tuple #[.agg rc'.toArray,v2]:=by
 have hg:=ok.JA;obtain⟨hto,hk1,hk11,hfr⟩:=CX hg;have hs:bX P m=if m.k=1 then request P m else if m.k<=4 then aX P m else if m.k<=7 then bg P m else if m.k=8 then(P,cJ P m) else if m.k=9 then cp P m else if m.k=10 then(P,bP P m) else cP P m:=by unfold bX;rw[if_neg (by simp[hg])]
 have sw:∀{R:PR×List Mg},(af E 31 [.agg cs.toArray,.agg ms.toArray] h λv h'=>∃G' rc' co v2,v=.tuple #[.agg rc'.toArray,v2]/\PRR E G' R.1 rc'/\Fz E G' 17 R.2.length co v2/\bu E G' R.2 co/\Ext E G h G' h')->bX P m=R->af E 31 [.agg cs.toArray,.agg ms.toArray] h λv h'=>∃G' rc' co v2,Ext E G h G' h'/\PRR E G' (bX P m).1 rc'/\Fz E G' 17 (bX P m).2.length co v2/\bu E G' (bX P m).2 co/\v=.tuple #[.agg rc'.toArray,v2]:=λhh e=>hh.mono λv h' ⟨G',rc',co,v2,r1,r2,r3,r4,r5⟩=>by rw[e];exact⟨G',rc',co,v2,r5,r2,r3,r4,r1⟩
 by_cases h4:m.k<=4
 ·refine GR hE hW hG hP hm hk1 h4 hto hfr λH kH=>?_;by_cases h1:m.k=1
  ·rw[if_pos h1,hs,if_pos h1];exact wY hE kH.w (hG.aK kH.k) hP z hm k
  ·rw[if_neg h1,hs,if_neg h1,if_pos h4];exact zu hE kH.w (hG.aK kH.k) hP z hm k ⟨Nr,h4⟩ (by rcases hfr with h|h;exact absurd h h1;exact h.1) ok.k3
 have hf:=hfr.resolve_left Nr;rw[if_neg Nr,if_neg h4]at hs;by_cases h7:m.k<=7
 ·rw[if_pos h7]at hs;by_cases hst:P.st=2
  ·have e:bX P m=(P,[]):=by rw[hs];unfold bg;rw[if_pos hst]
   exact sw (R:=(P,[])) (DL hE hW hG hP hm k hg ⟨Nr,h7⟩ hst) e
  ·refine sw (qo hE hW hG hP (R:=bg P m) hm k hg ⟨Nr,hk11⟩ Nr Nr (λ_=>hst) λH x=>?_) hs;rw[if_pos h7];by_cases hk7:m.k=7
   ·exact Ao hE x.wf x.frz (hP.sub x.sub) z (hm.sub x.sub) hk7 k hst (ok.ch Nr h7 hst)
   ·exact xL hE x.wf x.frz (hP.sub x.sub) z (hm.sub x.sub) Nr hf.1 k hst (ok.ch Nr h7 hst)
 rw[if_neg h7]at hs;by_cases h8:m.k=8
 ·rw[if_pos h8]at hs;exact sw (R:=(P,cJ P m)) (DK hE hW hG hP z hm k hg h8) hs
 rw[if_neg h8]at hs;by_cases h9:m.k=9
 ·rw[if_pos h9]at hs;refine sw (qo hE hW hG hP (R:=cp P m) hm k hg ⟨Nr,hk11⟩ Nr Nr (λh=>absurd h h7) λH x=>?_) hs;rw[if_neg h7,if_pos h9];exact Cg hE x.wf x.frz (hP.sub x.sub) z (hm.sub x.sub) hf.1 (ok.an h9)
 rw[if_neg h9]at hs;by_cases h10:m.k=10
 ·rw[if_pos h10]at hs;by_cases hno:P.st≠0\/m.vw≠P.vw\/P.op<m.op
  ·exact sw (R:=(P,bP P m)) (AX hE hW hG hP z hm k hg h10 hno) hs
  ·exact sw (R:=(P,bP P m)) (AY hE hW hG hP z hm k hg h10 (by by_cases h:P.st=0;exact h;exact absurd (.inl h) hno) (by by_cases h:m.vw=P.vw;exact h;exact absurd (.inr (.inl h)) hno) (by by_cases h:P.op<m.op;exact absurd (.inr (.inr h)) hno;exact Nat.le_of_not_lt h)) hs
 rw[if_neg h10]at hs;refine sw (qo hE hW hG hP (R:=cP P m) hm k hg ⟨Nr,hk11⟩ Nr Nr (λh=>absurd h h7) λH x=>?_) hs;rw[if_neg h7,if_neg h9];exact DM hE x.wf x.frz (hP.sub x.sub) z (hm.sub x.sub) k (ok.so Nr)
theorem pF(z:P.Ok):af E 29 [.agg cs.toArray] h λv h'=>∃G' co,Ext E G h G' h'/\Fz E G' 17 (idle P).length co v/\bu E G' (idle P) co:=by
 by_cases hno:P.st≠0\/P.bF=false
 ·exact HY hE hW hG hP z.toSz hno
 have h0:P.st=0:=by
  by_cases h:P.st=0
  ·exact h
  ·exact absurd (.inl h) hno
 have hp:P.bF=true:=by
  cases h:P.bF
  ·exact absurd (.inr h) hno
  ·rfl
 by_cases hc:P.cm<P.op
 ·exact HX hE hW hG hP z h0 hp z.bs hc
 ·exact HZ hE hW hG hP z.toSz h0 hp (by have:=z.cm;omega)
end
end Go.Proofs.YthbjaiilnkakcaaGreatDoor
namespace Vr
structure rl(P:PR):Prop where
 cm:P.st=1->oS P/\(P.aJ=false->(P.aH.getD P.me {}).k=0)
 an:∀(i:Nat) x,P.ans[i]? = some x->x.k≠0->x.fr=i
end Vr
namespace Go.Proofs.YthbjaiilnkakcaaGreatDoor
open Go.Tm Vr
variable{m:Mg}{ms:List Value}{N:Nat}
variable{E:Env}(hE:EOk E)
include hE
section
variable{G:Mem}{h:ag}{X:Nat->Prop}(hS:SO E G h X){P:PR}{out:List Mg}{r t:Nat}(hQ:QR E G h X P out r t)
include hS hQ
theorem xd(z:P.Sz)(hm:MgR E G m ms)(hk:m.k=3)(hno:P.st≠0\/P.bF=false\/m.vw≠P.vw):af E 36 [ptr r,.agg ms.toArray] h λv h'=>v=.tuple #[]/\∃G' X',PX E G h X G' h' X'/\QR E G' h' X' (aX P m).1 (out++(aX P m).2) r t:=by
 have zn:=z.n;have zv:=z.vw;have hR:aX P m=(P,[]):=by
  unfold aX;by_cases h0:P.st=0
  ·rw[if_neg Ox,if_pos hk,if_pos];rcases hno with h|h|h
   ·exact absurd h0 h
   ·left;simp[h]
   ·right;exact h
  ·rw[if_pos h0]
 rw[hR];obtain⟨b1,d1,b2,d2,b3,d3,rfl,m1,m2,m3⟩:=hm.e;have Y1:=(PY.start hS).new hS.wf (o:=.cells (mCS m b1 d1 b2 d2 b3 d3) 66 true);have q1:=(PY.start hS).qk hQ (o:=.cells (mCS m b1 d1 b2 d2 b3 d3) 66 true);obtain⟨D,hr,hx⟩:=q1.dd;have f1:=Y1.r1 hr hx;refine en hE Tryz.func36 rfl rfl Tryz.ntmps36 rfl Nv (rs:=[]) rfl ?_;simp only[push_cast,seval];refine gtA [0,3] λ_ f=>?_;simp only[push_cast,seval,gz]at f;refine PY.gen (motive:=λH=>aF E _ _ _ H) Y1 q1 λH1 Y1 q1=>?_;obtain⟨D1,hr1,hx1⟩:=q1.dd;have f1:=Y1.r1 hr1 hx1;refine ax Nt ?_;simp only[push_cast,seval,f];refine(gP hE Y1.p.so q1 ⟨Nr,Nr⟩ Nr).mono ?_;rintro w H3 ⟨rfl,rfl⟩;by_cases hl:P.st=0/\P.bF=true
 ·have g2:(P.st==0&&P.bF)=true:=PC;have hv:m.vw≠P.vw:=by
   rcases hno with h|h|h
   ·exact absurd hl.1 h
   ·rw[hl.2]at h;cases h
   ·exact h
  have g3:((m.vw:Int) != (P.vw:Int))=true:=Nu;simp only[push_cast,seval,hE.z,f,f1,g2,g3];exact⟨G,X,Y1.p,Om⟩
 ·have g2:(P.st==0&&P.bF)=false:=by
   cases hh:(P.st==0&&P.bF)
   ·rfl
   ·exact absurd (by simpa using hh) hl
  simp only[push_cast,seval,g2];exact⟨G,X,Y1.p,Om⟩
theorem B8(z:P.Ok)(hm:MgR E G m ms)(hk:m.k=5)(hst:P.st=2):af E 38 [ptr r,.agg ms.toArray] h λv h'=>v=.tuple #[]/\∃G' X',PX E G h X G' h' X'/\QR E G' h' X' (bg P m).1 (out++(bg P m).2) r t:=by
 have hR:bg P m=(P,[]):=by unfold bg;rw[if_pos hst]
 rw[hR];obtain⟨b1,d1,b2,d2,b3,d3,rfl,m1,m2,m3⟩:=hm.e;have Y1:=(PY.start hS).new hS.wf (o:=.cells (mCS m b1 d1 b2 d2 b3 d3) 66 true);have q1:=(PY.start hS).qk hQ (o:=.cells (mCS m b1 d1 b2 d2 b3 d3) 66 true);have g1:((P.st:Int)==2)=true:=NV;obtain⟨D1,hr1,hx1⟩:=q1.dd;have f1:=Y1.r1 hr1 hx1;refine en hE Tryz.func38 rfl rfl Tryz.ntmps38 rfl Nv (rs:=[]) rfl ?_;simp only[push_cast,seval,hE.z];refine gtA [0,3] λ_ f=>?_;simp only[push_cast,seval,gz]at f;refine PY.gen (motive:=λH=>aF E _ _ _ H) Y1 q1 λH1 Y1 q1=>?_;obtain⟨D1,hr1,hx1⟩:=q1.dd;have f1:=Y1.r1 hr1 hx1;refine ax Nt ?_;simp only[push_cast,seval,hE.z,f,f1,g1,cH];exact⟨G,X,Y1.p,Om⟩
theorem BZ(z:P.Ok)(hm:MgR E G m ms)(hk:m.k=6)(hst:P.st=2):af E 39 [ptr r,.agg ms.toArray] h λv h'=>v=.tuple #[]/\∃G' X',PX E G h X G' h' X'/\QR E G' h' X' (bg P m).1 (out++(bg P m).2) r t:=by
 have hR:bg P m=(P,[]):=by unfold bg;rw[if_pos hst]
 rw[hR];obtain⟨b1,d1,b2,d2,b3,d3,rfl,m1,m2,m3⟩:=hm.e;have Y1:=(PY.start hS).new hS.wf (o:=.cells (mCS m b1 d1 b2 d2 b3 d3) 66 true);have q1:=(PY.start hS).qk hQ (o:=.cells (mCS m b1 d1 b2 d2 b3 d3) 66 true);have g1:((P.st:Int)==2)=true:=NV;obtain⟨D1,hr1,hx1⟩:=q1.dd;have f1:=Y1.r1 hr1 hx1;refine en hE Tryz.func39 rfl rfl Tryz.ntmps39 rfl Nv (rs:=[]) rfl ?_;simp only[push_cast,seval,hE.z,f1,g1];exact⟨G,X,Y1.p,Om⟩
theorem BY(z:P.Ok)(hm:MgR E G m ms)(hk:m.k=7)(hst:P.st=2):af E 40 [ptr r,.agg ms.toArray] h λv h'=>v=.tuple #[]/\∃G' X',PX E G h X G' h' X'/\QR E G' h' X' (bg P m).1 (out++(bg P m).2) r t:=by
 have hR:bg P m=(P,[]):=by unfold bg;rw[if_pos hst]
 rw[hR];obtain⟨b1,d1,b2,d2,b3,d3,rfl,m1,m2,m3⟩:=hm.e;have Y1:=(PY.start hS).new hS.wf (o:=.cells (mCS m b1 d1 b2 d2 b3 d3) 66 true);have q1:=(PY.start hS).qk hQ (o:=.cells (mCS m b1 d1 b2 d2 b3 d3) 66 true);have g1:((P.st:Int)==2)=true:=NV;obtain⟨D1,hr1,hx1⟩:=q1.dd;have f1:=Y1.r1 hr1 hx1;refine en hE Tryz.func40 rfl rfl Tryz.ntmps40 rfl Nv (rs:=[]) rfl ?_;simp only[push_cast,seval];refine gtA [0,3] λ_ f=>?_;simp only[push_cast,seval,gz]at f;refine PY.gen (motive:=λH=>aF E _ _ _ H) Y1 q1 λH1 Y1 q1=>?_;obtain⟨D1,hr1,hx1⟩:=q1.dd;have f1:=Y1.r1 hr1 hx1;refine ax Nt ?_;simp only[push_cast,seval,hE.z,f,f1,g1,cH];exact⟨G,X,Y1.p,Om⟩
theorem uN(z:P.Ok)(ho:out.length<=100)(hm:MgR E G m ms)(hk:m.k=3)(hfr:m.fr<P.n)(h3:P.st=0->P.bF=true->m.vw=P.vw->m.op<=P.op):af E 36 [ptr r,.agg ms.toArray] h λv h'=>v=.tuple #[]/\∃G' X',PX E G h X G' h' X'/\QR E G' h' X' (aX P m).1 (out++(aX P m).2) r t:=by
 by_cases hno:P.st≠0\/P.bF=false\/m.vw≠P.vw
 ·exact xd hE hS hQ z.toSz hm hk hno
 ·have h0:P.st=0:=by
   by_cases h:P.st=0
   ·exact h
   ·exact absurd (.inl h) hno
  have hp:P.bF=true:=by
   cases h:P.bF
   ·exact absurd (.inr (.inl h)) hno
   ·rfl
  have hv:m.vw=P.vw:=by
   by_cases h:m.vw=P.vw
   ·exact h
   ·exact absurd (.inr (.inr h)) hno
  exact xe hE hS hQ z.toSz ho hm hk (h3 h0 hp hv) hfr
end
section
variable{G:Mem}{h:ag}{X:Nat->Prop}(hS:SO E G h X){P:PR}{r t:Nat}(hQ:QR E G h X P [] r t)
include hS hQ
theorem zj(z:P.Ok)(hm:MgR E G m ms)(k:m.Ok)(ok:rk P m)(po:rl P)(hol:(bX P m).2.length<=10000000/\∀x,x∈(bX P m).2->x.log.length<=1000000/\x.img.length<=100000000) :
 af E 14 [ptr r,.agg ms.toArray] h λv h'=>∃G' X' co,PX E G h X G' h' X'/\QR E G' h' X' (bX P m).1 [] r t/\Fz E G' 17 (bX P m).2.length co v/\bu E G' (bX P m).2 co:=by
 have hg:=ok.JA;obtain⟨hto,hk1,hk11,hfr⟩:=CX hg;have kn:=k.n;have hs:bX P m=if m.k=1 then request P m else if m.k<=4 then aX P m else if m.k<=7 then bg P m else if m.k=8 then(P,cJ P m) else if m.k=9 then cp P m else if m.k=10 then(P,bP P m) else cP P m:=by unfold bX;rw[if_neg (by simp[hg])]
 have hmade:m.k=6\/m.k=7->fU m=true:=λh=>by
  have:=hg;unfold fW at this;simp only[Bool.and_eq_true]at this;have:=this.2;rw[if_pos Nr]at this;exact this
 have h11:m.k=11->m.cm<=m.op:=λh=>by
  have:=hg;unfold fW at this;simp only[Bool.and_eq_true]at this;have:=this.2;rw[if_neg Nr,if_pos h]at this;simp only[Bool.and_eq_true,decide_eq_true_eq]at this;exact this.1.2
 have go:∀{f:Nat} {w:Bool},hnd[m.k-1]? = some (m.k,f,w)->(w=true->fU m=true)->(∀{G1:Mem} {H:ag} {X1:Nat->Prop},SO E G1 H X1->QR E G1 H X1 P [] r t->MgR E G1 m ms->af E f [ptr r,.agg ms.toArray] H λv h'=>v=.tuple #[]/\∃G' X',PX E G1 H X1 G' h' X'/\QR E G' h' X' (bX P m).1 ([]++(bX P m).2) r t)->af E 14 [ptr r,.agg ms.toArray] h λv h'=>∃G' X' co,PX E G h X G' h' X'/\QR E G' h' X' (bX P m).1 [] r t/\Fz E G' 17 (bX P m).2.length co v/\bu E G' (bX P m).2 co:=λhh hw hf=>by
  refine JU hE hS hQ z.toSz hm hk1 hh hto hfr hw Nr hol ?_;intro G1 H X1 s q hm1;refine(hf s q hm1).mono ?_;rintro v h' ⟨rfl,G',X',p,q⟩;exact⟨rfl,G',X',p,PZ⟩
 have hkk:m.k=1\/m.k=2\/m.k=3\/m.k=4\/m.k=5\/m.k=6\/m.k=7\/m.k=8\/m.k=9\/m.k=10\/m.k=11:=Nr;rcases hkk with hk|hk|hk|hk|hk|hk|hk|hk|hk|hk|hk
 ·have e:bX P m=request P m:=Ol;refine go OD Nw λ{G1 H X1} s q hm1=>?_;rw[e];exact(tI hE s q z.toSz Nw PL hm1 k.en).mono λv h' ⟨e,X',p,q⟩=>⟨e,_,X',p,q⟩
 ·have e:bX P m=aX P m:=Ol;refine go OD Nw λ{G1 H X1} s q hm1=>?_;rw[e];exact Bn hE s q z.toSz Nw PL hm1 hk k.en
 ·have e:bX P m=aX P m:=Ol;refine go OD Nw λ{G1 H X1} s q hm1=>?_;rw[e];exact uN hE s q z Nw hm1 hk (hfr.resolve_left Nr).1 (ok.k3 hk)
 ·have e:bX P m=aX P m:=Ol;refine go OD Nw λ{G1 H X1} s q hm1=>?_;rw[e];exact xK hE s q z.toSz Nw hm1 hk
 ·have e:bX P m=bg P m:=Ol;refine go OD Nw λ{G1 H X1} s q hm1=>?_;rw[e];by_cases hst:P.st=2
  ·exact B8 hE s q z hm1 hk hst
  ·exact nU hE s q z Nw hm1 k hk (hfr.resolve_left Nr).1 hst (ok.ch Nr Nr hst) po.cm
 ·have e:bX P m=bg P m:=Ol;refine go OD (λ_=>hmade Nr) λ{G1 H X1} s q hm1=>?_;rw[e];by_cases hst:P.st=2
  ·exact BZ hE s q z hm1 hk hst
  ·exact sF hE s q z Nw hm1 k hk (hfr.resolve_left Nr).1 hst (ok.ch Nr Nr hst) λh=>(po.cm h).1
 ·have e:bX P m=bg P m:=Ol;refine go OD (λ_=>hmade Nr) λ{G1 H X1} s q hm1=>?_;rw[e];by_cases hst:P.st=2
  ·exact BY hE s q z hm1 hk hst
  ·exact wN hE s q z Nw hm1 k hk hst (ok.ch Nr Nr hst) (by have:=js (hmade (by omega));omega)
 ·have e:bX P m=(P,cJ P m):=Ol;refine go OD Nw λ{G1 H X1} s q hm1=>?_;rw[e];exact zf hE s q z Nw hm1
 ·have e:bX P m=cp P m:=Ol;refine go OD Nw λ{G1 H X1} s q hm1=>?_;rw[e];exact yY hE s q z Nw hm1 k hk (hfr.resolve_left Nr).1 (ok.an hk) po.an
 ·have e:bX P m=(P,bP P m):=Ol;refine go OD Nw λ{G1 H X1} s q hm1=>?_;rw[e];exact zY hE s q z Nw hm1 k
 ·have e:bX P m=cP P m:=Ol;refine go OD Nw λ{G1 H X1} s q hm1=>?_;rw[e];exact zx hE s q z Nw hm1 k (ok.so hk) (h11 hk)
end
section
variable{G:Mem}{h:ag}{X:Nat->Prop}(hS:SO E G h X){P:PR}{r t:Nat}(hQ:QR E G h X P [] r t){cs:List Value}(hP:PRR E G P cs)
include hS hQ hP
theorem Is(z:P.Ok)(hm:MgR E G m ms)(k:m.Ok)(ok:rk P m)(po:rl P)(z':(bX P m).1.Sz)(hol:(bX P m).2.length<=1000000/\∀x,x∈(bX P m).2->x.log.length<=1000000/\x.img.length<=100000000) :
 af E 27 [.agg (ptr r::ptr t::cs).toArray,.agg (iv 0::iv 0::ms).toArray] h λv h'=>∃G' X' rc',PX E G h X G' h' X'/\QR E G' h' X' (bX P m).1 [] r t/\PRR E G' (bX P m).1 rc'/\v=.tuple #[.agg (ptr r::ptr t::rc').toArray,.bool true]:=by
 refine KC hE hS hQ hP hm z' ⟨hol.1,λx hx=>(hol.2 x hx).1⟩ ?_ ?_
 ·intro G1 H X1 s q hm1;exact zj hE s q z hm1 k ok po ⟨Nr,hol.2⟩
 ·intro G1 H w f1 hP1 hm1;exact pE hE w f1 hP1 z hm1 k ok
theorem FN{nk:Nat}(hm:MgR E G m ms)(zk:P.Ok)(hol:(idle P).length<=1000000/\∀m,m∈idle P->m.log.length<=1000000) :
 af E 27 [.agg (ptr r::ptr t::cs).toArray,.agg (iv 11::iv nk::ms).toArray] h λv h'=>∃G' X',PX E G h X G' h' X'/\QR E G' h' X' P [] r t/\v=.tuple #[.agg (ptr r::ptr t::cs).toArray,.bool true]:=by
 have hP0:=hP;have hm0:=hm;have z:=zk.toSz;obtain⟨a1,c1,a2,c2,a3,c3,a4,c4,a5,c5,a6,c6,a7,c7,ct,cc,ca,hcs,_⟩:=hP.e;obtain⟨b1,d1,b2,d2,b3,d3,hms,m1,m2,m3⟩:=hm.e;subst hcs;subst hms;have w1:=hS.wf.b1;refine en hE Tryz.func27 rfl rfl Tryz.ntmps27 rfl Nv (rs:=[.cell 4 51,.tmp 5]) rfl ?_;simp only[push_cast,seval,hE.z,w1];have k0:=(((KW.refl hS.wf).push (o:=(.cells (ptr r::ptr t::(rCS P a1 c1 a2 c2 a3 c3 a4 c4 a5 c5 a6 c6 a7 c7)) 51 true))).push (o:=(.cells (iv 11::iv nk::(mCS m b1 d1 b2 d2 b3 d3)) 71 true))).push (o:=(.cells [.pointer none,.pointer none,.int .i64 0,.int .i64 0,.int .i64 0,.int .i64 0,.int .i64 0,.int .i64 0,.int .i64 0,.int .i64 0,.slice none 0 0,.bool false,.slice none 0 0,.slice none 0 0,.slice none 0 0,.slice none 0 0,.slice none 0 0,.bool false,.slice none 0 0,.slice none 0 0] 51 true));have p0:=PX.kw hS k0;have q0:=hQ.ext (k0.ext hS.frz);refine gtA [2,3,4] λt1 hf=>?_;simp only[push_cast,seval,gz]at hf;obtain⟨f2,f3,f4⟩:=hf;refine cR (motive:=λH=>aF E _ _ _ H) (λH=>PX E G h X G H X/\QR E G H X P [] r t/\H.get h.next=some (.cells (ptr r::ptr t::(rCS P a1 c1 a2 c2 a3 c3 a4 c4 a5 c5 a6 c6 a7 c7)) 51 true)/\H.get (h.next+1)=some (.cells (iv 11::iv nk::(mCS m b1 d1 b2 d2 b3 d3)) 71 true)/\∃rz,H.get (h.next+1+1)=some (.cells rz 51 true)/\rz.length=20) ⟨p0,q0,NL,NY,_,NO,rfl⟩ ?_;clear p0 q0 k0;rintro H ⟨p0,q0,gN,gD,rz,gZ,hrz⟩;have hd:List.drop 20 rz=[]:=List.drop_eq_nil_iff.2 Nr;have hle:(20<=rz.length)=True:=Nu;have nN:=p0.so.wf.nlt gN;have nZ:=p0.so.wf.nlt gZ;have lN:=(p0.so.wf.live _ _ gN).2;have lZ:=(p0.so.wf.live _ _ gZ).2;have xN:¬X h.next:=λhx=>OP;have xZ:¬X (h.next+1+1):=λhx=>OP;refine ie [(0,3),(0,6),(0,7),(0,10),(5,3)] [true,false,false,false,false,true,false,false,false,false,false,false,false,false] (λH=>H.get h.next=some (.cells (ptr r::ptr t::(rCS P a1 c1 a2 c2 a3 c3 a4 c4 a5 c5 a6 c6 a7 c7)) 51 true)) Nt Nt Nt Nv gN ?_;simp only[push_cast,seval,hE.z,dR,rm,bV,f2,gN,nN];refine⟨λ_=>⟨.agg (ptr r::ptr t::(rCS P a1 c1 a2 c2 a3 c3 a4 c4 a5 c5 a6 c6 a7 c7)).toArray,PH,?_⟩,?_⟩
 ·rintro HH hN;simp only[push_cast,seval,hE.z,cX,f2,hN,nN]
 refine(Jz hE p0.so q0 z).mono ?_;rintro v1 H1 ⟨G1,X1,co1,p1,q1,z1,r1⟩;have gN1:=p1.box xN gN;have gZ1:=p1.box xZ gZ;have xZ1:=p1.nx xZ lZ;have yZ1:=p1.nn lZ (hS.eH Nr);have lZ1:=(p1.so.wf.live _ _ gZ1).2;simp only[push_cast,seval];refine ir gN1 ?_;simp only[push_cast,seval,hE.z,dR,rm,bV,f2,gN1,nN];refine⟨λ_=>⟨.agg (rCS P a1 c1 a2 c2 a3 c3 a4 c4 a5 c5 a6 c6 a7 c7).toArray,by simp[bp,aW,ba,aV,aU,bn],?_⟩,?_⟩
 ·rintro HH hN;simp only[push_cast,seval,hE.z,cX,hN,nN]
 have hP1:=hP0.sub p1.sub;refine(pF hE p1.so.wf p1.so.frz hP1 zk).mono ?_;rintro v2 H2 ⟨G2,co2,x2,z2,r2⟩;have gN2:=x2.aK.get _ _ gN1;have gZ2:=x2.aK.get _ _ gZ1;have yZ2:=x2.nn lZ1 yZ1;have p2:=(p0.trans hS.wf p1).trans hS.wf (PX.ext p1.so x2);have q2:=q1.ext x2;simp only[push_cast,seval];refine ir gN2 ?_;simp only[push_cast,seval,dR];refine(pH hE p2.so.wf p2.so.frz (z1.sub x2.sub) z2 (r1.sub x2.sub) r2 hol.1 hol.2).mono ?_;rintro v3 H4 ⟨rfl,k4⟩;have gN4:=k4.k.get _ _ gN2;have gZ4:=k4.k.get _ _ gZ2;have p4:=p2.trans hS.wf (PX.kw p2.so k4);have q4:=q2.ext (k4.ext p2.so.frz);simp only[push_cast,seval];refine ir gN4 ?_;simp only[push_cast,seval,hE.z,dR,dZ,bV,f2,gN4,nN];refine(ma hE p4.so q4 (hP1.sub x2.sub) z).mono ?_;rintro v5 H5 ⟨rfl,G5,x5⟩;have gN5:=x5.aK.get _ _ gN4;have gZ5:=x5.aK.get _ _ gZ4;have p5:=p4.trans hS.wf (PX.ext p4.so x5);obtain⟨D5,q5⟩:=q4.ext x5;have yZ5:=x5.nn (p4.so.wf.live _ _ gZ4).2 yZ2;simp only[push_cast,seval];refine ir gN5 ?_;simp only[push_cast,seval,hE.z,dR,bV,f4,gZ5,hd,hle];refine ir (by rw[ai,if_neg (by omega)];exact gN5) ?_;have p6:=PX.fresh hS.wf p5 (b:=h.next+1+1) (o:=(.cells (ptr r::ptr t::(rCS P a1 c1 a2 c2 a3 c3 a4 c4 a5 c5 a6 c6 a7 c7)) 51 true)) Nr yZ5 gZ5
 have q6:=q5.mh (h':=H5.put (h.next+1+1) (.cells (ptr r::ptr t::(rCS P a1 c1 a2 c2 a3 c3 a4 c4 a5 c5 a6 c6 a7 c7)) 51 true)) (Sub.refl _) (λb o hx hg=>by
  rw[ai,if_neg (λe=>xZ1 PU)];exact hg)
 simp only[push_cast,seval,hE.z,jD,dR,bV,f4,nZ];exact⟨G5,X1,p6,⟨_,q6⟩⟩
theorem xG{nk:Nat}(hm:MgR E G m ms)(z:P.Ok)(z':(bw P).1.Sz)(hol:(bw P).2.length<=1000000/\∀m,m∈(bw P).2->m.log.length<=1000000) :
 af E 27 [.agg (ptr r::ptr t::cs).toArray,.agg (iv 10::iv nk::ms).toArray] h λv h'=>∃G' X' rc',PX E G h X G' h' X'/\QR E G' h' X' (bw P).1 [] r t/\PRR E G' (bw P).1 rc'/\v=.tuple #[.agg (ptr r::ptr t::rc').toArray,.bool true]:=by
 have hP0:=hP;have hW:=hS.wf;obtain⟨a1,c1,a2,c2,a3,c3,a4,c4,a5,c5,a6,c6,a7,c7,ct,cc,ca,hcs,_⟩:=hP.e;obtain⟨b1,d1,b2,d2,b3,d3,hms,m1,m2,m3⟩:=hm.e;subst hcs;subst hms;obtain⟨D,hr,hx⟩:=hQ.dd;refine en hE Tryz.func27 rfl rfl Tryz.ntmps27 rfl Nv (rs:=[.cell 4 51,.tmp 5]) rfl ?_;simp only[push_cast,seval,hE.z,hW.b0,hW.b1];refine Go.Tm.aO [2,3,4] λ_ f=>?_;simp only[push_cast,seval,gz]at f;refine PY.gen (motive:=λH=>af E _ _ H _) (B:=[(h.next+1+1,_),(h.next+1,_),(h.next,_)]) ((((PY.start hS).new hW).new hW).new hW) (hQ.ext ((((KW.refl hW).push).push.push).ext hS.frz)) λH1 Y1 q1=>?_;refine(AW hE Y1.p.so q1 rfl z).mono ?_;rintro v H2 ⟨G2,X2,co2,p2,q2,z2,r2⟩;have Y2:=Y1.call hW p2;obtain⟨D2,hr2,hx2⟩:=q2.dd;simp only[push_cast,seval,hE.z,f,Y2.r3 hr2 hx2];refine Go.Tm.aO [2,3,4,6] λ_ f2=>?_;simp only[push_cast,seval,gz,f]at f2;refine(ru hE Y2.p.so.wf Y2.p.so.frz (hP0.sub Y2.p.sub) z).mono ?_;rintro v3 H3 ⟨G3,rc3,co3,w3,rfl,p3,z3,r3,x3⟩;have Y3:=Y2.ext hW x3;have q3:=q2.ext x3;have p30:=p3;obtain⟨A1,C1,A2,C2,A3,C3,A4,C4,A5,C5,A6,C6,A7,C7,CT,CC,CA,hcs3,_⟩:=p3.e;subst hcs3;obtain⟨D3,hr3,hx3⟩:=q3.dd;have f3:=Y3.r3 hr3 hx3;simp only[push_cast,seval,hE.z,f2,f3];have q4:=(Y3.new hW (o:=.cells (rCS (bw P).1 A1 C1 A2 C2 A3 C3 A4 C4 A5 C5 A6 C6 A7 C7) 49 true)).qp (Y3.qk q3) 3 rfl (o':=.cells (ptr r::ptr t::(rCS (bw P).1 A1 C1 A2 C2 A3 C3 A4 C4 A5 C5 A6 C6 A7 C7)) 51 true);refine gtA [2,4,6,8] λ_ f4=>?_;simp only[push_cast,seval,gz,f2]at f4;refine PY.gen (motive:=λH=>aF E _ _ _ H) (B:=[(h.next+1+1,_),(h.next+1,_),(h.next,_)]) (((Y3.new hW).put hW 3 rfl).drop 1) q4 λH4 Y4 q4=>?_;obtain⟨D4,hr4,hx4⟩:=q4.dd;have f5:=Y4.r3 hr4 hx4;refine aB [(0,3),(0,6)] Nt Nt Nt ?_;simp only[push_cast,seval,hE.z,f4,f5];refine(pH hE Y4.p.so.wf Y4.p.so.frz (z2.sub x3.sub) z3 (r2.sub x3.sub) r3 hol.1 hol.2).mono ?_;rintro v5 H5 ⟨rfl,k5⟩;have Y5:=Y4.kw hW k5;have q5:=q4.ext (k5.ext Y4.p.so.frz);obtain⟨D5,hr5,hx5⟩:=q5.dd;have f6:=Y5.r3 hr5 hx5;simp only[push_cast,seval,hE.z,f4,f5,f6];refine(ma hE Y5.p.so q5 p30 z').mono ?_;rintro v6 H6 ⟨rfl,G6,x6⟩;have Y6:=Y5.ext hW x6;have q6:=q5.ext x6;obtain⟨D6,hr6,hx6⟩:=q6.dd;have f7:=Y6.r3 hr6 hx6;simp only[push_cast,seval,hE.z,f4,f5,f6,f7,aV,bp,aU,aW,ba,bn,iF];have Y7:=Y6.put hW 0 rfl (o':=.cells (ptr r::ptr t::(rCS (bw P).1 A1 C1 A2 C2 A3 C3 A4 C4 A5 C5 A6 C6 A7 C7)) 51 true);exact⟨G6,X2,_,Y7.p,Y6.qp q6 0 rfl,p30.sub x6.sub,rfl⟩
end
section
variable{G:Mem}{h:ag}(hW:WF E h)(hG:Frz E G h){P:PR}{cs:List Value}(hP:PRR E G P cs)
include hW hG hP
theorem Dy(z:P.Sz)(aK:Nat)(hk:aK<=1000):af E 51 [.agg cs.toArray,iv aK] h λw h'=>∃G' mc,w=.tuple #[.agg mc.toArray,iv (max P.bs (P.cm-aK)-P.bs)]/\PRR E G' (eO P aK) mc/\Ext E G h G' h':=by
 have hP0:=hP;obtain⟨a1,c1,a2,c2,a3,c3,a4,c4,a5,c5,a6,c6,a7,c7,ct,cc,ca,rfl,q1,⟨q2,q3,q4⟩,q5,q6,q7,q8⟩:=hP.e;have zb:=z.bs;have zc:=z.cm;have zo:=z.op;have p1:(h.next=h.next+1)=False:=Nw;have p2:(h.next+1=h.next)=False:=Nw;obtain⟨k,hkk⟩:∃k,k=max P.bs (P.cm-aK):=⟨_,rfl⟩;have m1:max (aK:Int) 0=(aK:Int):=Nr;have m2:max (P.bs:Int) (IntKind.i64.wrap ((P.cm:Int)-(aK:Int)))=(k:Int):=NG;have m3:IntKind.i64.wrap ((k:Int)-(P.bs:Int))=((k-P.bs:Nat):Int):=NG;refine en hE Tryz.func51 rfl rfl Tryz.ntmps51 rfl Nv (rs:=[.cell 4 49,.tmp 5]) rfl ?_;simp only[push_cast,seval,hE.z,hW.b0,p2,m1,m2,m3];have kA:=((KW.refl hW).push (o:=.cells (rCS P a1 c1 a2 c2 a3 c3 a4 c4 a5 c5 a6 c6 a7 c7) 49 true)).push (o:=.cells zCR 49 true);refine(iq hE kA.w hP0 (hG.aK kA.k) (k:=k) ⟨Nr,Nr⟩ Nr).mono ?_;rintro v h3 ⟨o3,k3⟩;obtain⟨va,vc,rfl,_⟩:=o3.fh;have gR:=k3.k.get h.next _ (show _=some (.cells (rCS P a1 c1 a2 c2 a3 c3 a4 c4 a5 c5 a6 c6 a7 c7) 49 true) by rw[ah,if_neg Nw,ah,if_pos rfl]);have gZ:=k3.k.get (h.next+1) _ (show _=some (.cells zCR 49 true) by rw[ah,if_pos Nw]);have nR:=k3.w.nlt gR;have nZ:=k3.w.nlt gZ;have lR:=(k3.w.live _ _ gR).2;have lZ:=(k3.w.live _ _ gZ).2;have hlo3:=o3.lt k3.w;rw[bU,bU]at hlo3;simp only[push_cast,seval,hE.z,gR,gZ,nR,nZ,p1];have fin:∀H,KW E h H->(∀b o,b≠h.next->b≠h.next+1->h3.get b=some o->H.get b=some o)->∃G' mc,(Value.tuple #[.agg #[iv P.me,iv P.n,iv P.vw,iv P.st,iv P.nm,iv k,iv P.cm,iv P.nc,.slice va (P.op-k) vc,.bool false,.slice a2 P.sv.l.length c2,.slice none 0 0,.slice a3 P.sv.tab.length c3,.slice a4 P.told.length c4,.slice a5 P.aG.length c5,.bool P.aJ,.slice a6 P.aH.length c6,.slice a7 P.ans.length c7],iv (k-P.bs)])=.tuple #[.agg mc.toArray,iv (max P.bs (P.cm-aK)-P.bs)]/\PRR E G' (eO P aK) mc/\Ext E G h G' H:=by
  intro H kH keyH;have oH:=(o3.low (show h.next<=((h.push _).push _).next by simp;omega)).at (h':=H) λb o hb hg=>keyH b o (by have:=hlo3 b hb;omega) (by have:=hlo3 b hb;omega) hg;obtain⟨G1,z1,x1⟩:=Own.frz hW hG kH oH;rw[<-hkk];refine⟨G1,_,rfl,?_,x1⟩;have e:eO P aK={P with log:=dv P k,bs:=k}:=by unfold eO;rw[<-hkk]
  have el:(dv P k).length=P.op-k:=by unfold dv PR.op;rw[List.length_drop];omega
  rw[e];rw[<-el]at z1;have r:=PRR.of (P:={P with log:=dv P k,bs:=k}) z1 (q2.sub x1.sub) (q3.sub x1.sub) (q4.sub x1.sub) (q5.sub x1.sub) (q6.sub x1.sub) ⟨q7.1.sub x1.sub,q7.2.sub x1.sub⟩ ⟨q8.1.sub x1.sub,q8.2.sub x1.sub⟩;simp only[el]at r;exact r
 refine fin _ ?_ ?_
 ·have kk:=kA.trans k3;exact((kk.put (Nat.le_refl _) lR hW).put (Nat.le_succ _) (by rw[dI];exact lZ) hW)
 ·intro b o h1 h2 hg;simp only[ai];rw[if_neg (λe=>h2 e.symm),if_neg (λe=>h1 e.symm)];exact hg
end
section
variable{G:Mem}{h:ag}{X:Nat->Prop}(hS:SO E G h X){P:PR}{r t:Nat}(hQ:QR E G h X P [] r t){cs:List Value}(hP:PRR E G P cs)
include hS hQ hP
theorem BT(hm:MgR E G m ms)(z:P.Ok)(z':(eO P N).Sz)(hN:N<=1000) :
 af E 27 [.agg (ptr r::ptr t::cs).toArray,.agg (iv 12::iv N::ms).toArray] h λv h'=>∃G' X' rc',PX E G h X G' h' X'/\QR E G' h' X' (eO P N) [] r t/\PRR E G' (eO P N) rc'/\v=.tuple #[.agg (ptr r::ptr t::rc').toArray,.bool true]:=by
 have hP0:=hP;have hW:=hS.wf;obtain⟨a1,c1,a2,c2,a3,c3,a4,c4,a5,c5,a6,c6,a7,c7,ct,cc,ca,hcs,_⟩:=hP.e;obtain⟨b1,d1,b2,d2,b3,d3,hms,m1,m2,m3⟩:=hm.e;subst hcs;subst hms;obtain⟨D,hr,hx⟩:=hQ.dd;refine en hE Tryz.func27 rfl rfl Tryz.ntmps27 rfl Nv (rs:=[.cell 4 51,.tmp 5]) rfl ?_;simp only[push_cast,seval,hE.z,hW.b0,hW.b1];refine Go.Tm.aO [2,3,4] λ_ f=>?_;simp only[push_cast,seval,gz]at f;refine PY.gen (motive:=λH=>af E _ _ H _) (B:=[(h.next+1+1,_),(h.next+1,_),(h.next,_)]) ((((PY.start hS).new hW).new hW).new hW) (hQ.ext ((((KW.refl hW).push).push.push).ext hS.frz)) λH1 Y1 q1=>?_;refine(yx hE Y1.p.so q1 z N hN).mono ?_;rintro v H2 ⟨rfl,X2,p2,q2⟩;have Y2:=Y1.call hW p2;obtain⟨D2,hr2,hx2⟩:=q2.dd;simp only[push_cast,seval,hE.z,f,Y2.r3 hr2 hx2];refine Go.Tm.aO [2,3,4,9] λ_ f2=>?_;simp only[push_cast,seval,gz,f]at f2;refine(Dy hE Y2.p.so.wf Y2.p.so.frz (hP0.sub Y2.p.sub) z.toSz N hN).mono ?_;rintro v3 H3 ⟨G3,rc3,rfl,p3,x3⟩;have Y3:=Y2.ext hW x3;have q3:=q2.ext x3;have p30:=p3;obtain⟨A1,C1,A2,C2,A3,C3,A4,C4,A5,C5,A6,C6,A7,C7,CT,CC,CA,hcs3,_⟩:=p3.e;subst hcs3;obtain⟨D3,hr3,hx3⟩:=q3.dd;have f3:=Y3.r3 hr3 hx3;simp only[push_cast,seval,hE.z,f2,f3];have q4:=(Y3.new hW (o:=.cells (rCS (eO P N) A1 C1 A2 C2 A3 C3 A4 C4 A5 C5 A6 C6 A7 C7) 49 true)).qp (Y3.qk q3) 3 rfl (o':=.cells (ptr r::ptr t::(rCS (eO P N) A1 C1 A2 C2 A3 C3 A4 C4 A5 C5 A6 C6 A7 C7)) 51 true);refine gtA [2,4,9,11] λ_ f4=>?_;simp only[push_cast,seval,gz,f2]at f4;refine PY.gen (motive:=λH=>aF E _ _ _ H) (B:=[(h.next+1+1,_),(h.next+1,_),(h.next,_)]) (((Y3.new hW).put hW 3 rfl).drop 1) q4 λH4 Y4 q4=>?_;obtain⟨D4,hr4,hx4⟩:=q4.dd;have f5:=Y4.r3 hr4 hx4;refine aB [(0,6)] Nt Nt Nt ?_;simp only[push_cast,seval,hE.z,f4,f5];have Y5:=Y4;have q5:=q4;refine(ma hE Y5.p.so q5 p30 z').mono ?_;rintro v6 H6 ⟨rfl,G6,x6⟩;have Y6:=Y5.ext hW x6;have q6:=q5.ext x6;obtain⟨D6,hr6,hx6⟩:=q6.dd;have f7:=Y6.r3 hr6 hx6;simp only[push_cast,seval,hE.z,f4,f5,f7,aV,bp,aU,aW,ba,bn,iF];have Y7:=Y6.put hW 0 rfl (o':=.cells (ptr r::ptr t::(rCS (eO P N) A1 C1 A2 C2 A3 C3 A4 C4 A5 C5 A6 C6 A7 C7)) 51 true);exact⟨G6,X2,_,Y7.p,Y6.qp q6 0 rfl,p30.sub x6.sub,rfl⟩
end
section
variable{G:Mem}{h:ag}(hW:WF E h)(hG:Frz E G h)
include hW hG
theorem rG{P:PR}(hn:P.n=3\/P.n=5\/P.n=7)(nonce:Nat):af E 30 [iv P.me,iv P.n,iv P.vw,iv nonce,.agg #[.bool false,.slice none 0 0,.slice none 0 0,.slice none 0 0]] h λw h'=>∃G' mc co v2,w=.tuple #[.agg mc.toArray,v2]/\PRR E G' (bH P nonce).1 mc/\Own h' 66 17 h.next (bH P nonce).2.length co v2/\bu E G' (bH P nonce).2 co/\(∀b,b∈slB v2->G' b=none)/\Ext E G h G' h':=by
 have p2:(h.next+1=h.next)=False:=Nw;refine en hE Tryz.func30 rfl rfl Tryz.ntmps30 rfl Nv (rs:=[.cell 10 49,.tmp 11]) rfl ?_;simp only[push_cast,seval,hE.z,hW.b0,p2];have kA:=((KW.refl hW).push (o:=.cells zCS 43 true)).push (o:=.cells zCR 49 true);have sA:SO E G _ (λ_=>False):=⟨kA.w,hG.aK kA.k,λ_ _ _ x=>x,λ_ x=>x.elim⟩;refine(CP hE sA (me:=P.me) hn).mono ?_;rintro v h3 ⟨G3,rc,x3,r3,rfl⟩;have gZ:=x3.aK.get (h.next+1) _ (show _=some (.cells zCR 49 true) by rw[ah,if_pos Nw]);have lZ:=(x3.wf.live _ _ gZ).2;obtain⟨Q,hQ⟩:∃Q,Q=PR.new P.me P.n:=⟨_,rfl⟩;rw[<-hQ]at r3;obtain⟨e1,f1,e2,f2,e3,f3,e4,f4,e5,f5,e6,f6,e7,f7,ft,fc,fa,rfl,s1,⟨s2,s3,s4⟩,s5,s6,s7,s8⟩:=r3.e;simp only[push_cast,seval,hE.z];have xA:=(KW.ext kA hG).andthen x3;have kP:=(KW.refl x3.wf).push (o:=.cells [iv Q.me,iv Q.n,iv P.vw,.int .i64 2,iv Q.nm,iv Q.bs,iv Q.cm,iv nonce,.slice e1 Q.log.length f1,.bool false,.slice e2 Q.sv.l.length f2,.slice none 0 0,.slice e3 Q.sv.tab.length f3,.slice e4 Q.told.length f4,.slice e5 Q.aG.length f5,.bool Q.aJ,.slice e6 Q.aH.length f6,.slice e7 Q.ans.length f7] 49 true);have xB:=xA.kw kP;have gR':(h3.push (.cells [iv Q.me,iv Q.n,iv P.vw,.int .i64 2,iv Q.nm,iv Q.bs,iv Q.cm,iv nonce,.slice e1 Q.log.length f1,.bool false,.slice e2 Q.sv.l.length f2,.slice none 0 0,.slice e3 Q.sv.tab.length f3,.slice e4 Q.told.length f4,.slice e5 Q.aG.length f5,.bool Q.aJ,.slice e6 Q.aH.length f6,.slice e7 Q.ans.length f7] 49 true)).get h3.next=some (.cells [iv Q.me,iv Q.n,iv P.vw,.int .i64 2,iv Q.nm,iv Q.bs,iv Q.cm,iv nonce,.slice e1 Q.log.length f1,.bool false,.slice e2 Q.sv.l.length f2,.slice none 0 0,.slice e3 Q.sv.tab.length f3,.slice e4 Q.told.length f4,.slice e5 Q.aG.length f5,.bool Q.aJ,.slice e6 Q.aH.length f6,.slice e7 Q.ans.length f7] 49 true):=NI;have gZ':=kP.k.get _ _ gZ;have nR':=kP.w.nlt gR';have nZ':=kP.w.nlt gZ';have hQP:(bH P nonce).1={Q with vw:=P.vw,st:=2,nc:=nonce}:=by rw[hQ];rfl
 have rF:PRR E G3 (bH P nonce).1 [iv Q.me,iv Q.n,iv P.vw,.int .i64 2,iv Q.nm,iv Q.bs,iv Q.cm,iv nonce,.slice e1 Q.log.length f1,.bool false,.slice e2 Q.sv.l.length f2,.slice none 0 0,.slice e3 Q.sv.tab.length f3,.slice e4 Q.told.length f4,.slice e5 Q.aG.length f5,.bool Q.aJ,.slice e6 Q.aH.length f6,.slice e7 Q.ans.length f7]:=by rw[hQP];exact PRR.of (P:={Q with vw:=P.vw,st:=2,nc:=nonce}) s1 s2 s3 s4 s5 s6 s7 s8
 refine gtA [3,10,11,12] λt hf=>?_;simp only[push_cast,seval,gz]at hf;obtain⟨g3,g10,g11,g12⟩:=hf;refine aB [(0,4)] Nt Nt Nt ?_;simp only[push_cast,seval,hE.z,g3,g12,gR',nR'];have hP1:(bH P nonce).1.n<=1000:=by show P.n<=1000;omega
 refine(jM hE kP.w rF xB.frz hP1 (m:={k:=8,nc:=nonce}) ⟨_,_,_,rfl,Fz.nil,Fz.nil,Fz.nil⟩).mono ?_;rintro w h6 ⟨co,o6,m6,k6⟩;have gZ6:=k6.k.get _ _ gZ';have gR6:=k6.k.get _ _ gR';simp only[push_cast,seval,hE.z,g10,g12,gR',nR',nZ',gZ6,gR6];have hlo6:=o6.lt k6.w;have hZn:G3 (h.next+1)=none:=by
  cases hg:G3 (h.next+1) with
  |none=>rfl
  | some c =>
    rcases x3.new _ c hg with h9|h9
    ·obtain⟨e,fx,hh⟩:=hG _ c h9;have:=(hW.live _ _ hh).2;omega
    ·rw[bU,bU]at h9;omega
 have l6:=(k6.w.live _ _ gZ6).2;have kH:KW E h _:=⟨xB.aK,xB.wf⟩;have kE:=(kH.trans k6).put (b:=h.next+1) (o:=.cells [iv Q.me,iv Q.n,iv P.vw,.int .i64 2,iv Q.nm,iv Q.bs,iv Q.cm,iv nonce,.slice e1 Q.log.length f1,.bool false,.slice e2 Q.sv.l.length f2,.slice none 0 0,.slice e3 Q.sv.tab.length f3,.slice e4 Q.told.length f4,.slice e5 Q.aG.length f5,.bool Q.aJ,.slice e6 Q.aH.length f6,.slice e7 Q.ans.length f7] 49 true) (Nat.le_succ _) l6 hW;have hout:(bH P nonce).2=(bH P nonce).1.allM {k:=8,nc:=nonce}:=rfl;refine⟨G3,_,co,w,rfl,rF,?_,by rw[hout];exact m6,λb hb=>?_,xB.sub,?_,xB.new,kE.k,kE.w⟩
 ·rw[hout]
  exact(o6.low (show h.next<=(h3.push _).next by rw[bU];omega)).at λb o hb hg=>by
   have:=hlo6 b hb;rw[bU]at this;rw[ai,if_neg Nr];exact hg
 ·have:=hlo6 b hb
  cases hg:G3 b with
  |none=>rfl
  |some c =>obtain⟨e,fx,hh⟩:=xB.frz _ c hg;have:=(kP.w.live _ _ hh).2;omega
 ·intro b c hb;obtain⟨e,fx,hh⟩:=(xB.frz.aK k6.k) b c hb;exact⟨e,fx,OO⟩
end
section
variable{G:Mem}{h:ag}{X:Nat->Prop}(hS:SO E G h X){P:PR}{r t:Nat}(hQ:QR E G h X P [] r t){cs:List Value}(hP:PRR E G P cs)
include hS hQ hP
theorem xJ(hm:MgR E G m ms)(hn:P.n=3\/P.n=5\/P.n=7)(hme:P.me<P.n)(hv:P.vw<=1000000)(hN:N<65536)(z':(bH P N).1.Sz) :
 af E 27 [.agg (ptr r::ptr t::cs).toArray,.agg (iv 13::iv N::ms).toArray] h λv h'=>∃G' X' rc' r' t',PX E G h X G' h' X'/\QR E G' h' X' (bH P N).1 [] r' t'/\PRR E G' (bH P N).1 rc'/\v=.tuple #[.agg (ptr r'::ptr t'::rc').toArray,.bool true]:=by
 have hP0:=hP;have hW:=hS.wf;have hand:bits .and .i64 (N:Int) 65535=(N:Int):=by rw[IG];omega
 obtain⟨a1,c1,a2,c2,a3,c3,a4,c4,a5,c5,a6,c6,a7,c7,ct,cc,ca,hcs,_⟩:=hP.e;obtain⟨b1,d1,b2,d2,b3,d3,hms,m1,m2,m3⟩:=hm.e;subst hcs;subst hms;have hol:=iI (bH P N).1 {k:=8,nc:=N}
 have hmem:∀m,m∈(bH P N).2->m.log.length<=1000000:=λm hm=>by
  obtain⟨j,_,_,rfl⟩:=gW.1 (show m∈(bH P N).1.allM {k:=8,nc:=N} from hm);exact Nat.zero_le _
 have hol':(bH P N).2.length<=1000000:=by have h1:(bH P N).1.n=P.n:=rfl;have h2:(bH P N).2=(bH P N).1.allM {k:=8,nc:=N}:=rfl;rw[h2];omega
 refine en hE Tryz.func27 rfl rfl Tryz.ntmps27 rfl Nv (rs:=[.cell 4 51,.tmp 5]) rfl ?_;simp only[push_cast,seval,hE.z,hW.b0,hW.b1];rw[Tryz.underlying47];simp only[ab];simp only[push_cast,seval,hand];refine Go.Tm.aO [2,3,4,12] λ_ f=>?_;simp only[push_cast,seval,gz]at f;refine PY.MS (motive:=λH=>af E _ _ H _) (B:=[(h.next+1+1+1,_),(h.next+1+1,_),(h.next+1,_),(h.next,_)]) (((((PY.start hS).new hW).new hW).new hW).new hW) λH1 Y0=>?_;have gT:=(Y0.at 0 rfl).1;have Y1:=Y0.take hW;refine(Bk hE Y1.p.so hn hme ⟨hv,Nr⟩ gT ⟨_,_,_,rfl,Fz.nil,Fz.nil,rfl⟩ (.inr rfl)).mono ?_;rintro v H2 ⟨r',v2,G2,X2,co2,rfl,p2,q2,z2,r2⟩;have Y2:=Y1.call hW p2;obtain⟨D2,hr2,hx2⟩:=q2.dd;simp only[push_cast,seval,hE.z,f,Y2.r3 hr2 hx2,hand];refine Go.Tm.aO [2,3,4,12,13,14,15] λ_ f2=>?_;simp only[push_cast,seval,gz,f]at f2;refine(rG hE Y2.p.so.wf Y2.p.so.frz hn N).mono ?_;rintro v3 H3 ⟨G3',rc3,co3,w3,rfl,p3,o3,r3,_,x3'⟩;obtain⟨G3,z3,x3,s3,_⟩:=x3'.iY o3;replace p3:=p3.sub s3;replace r3:=r3.sub s3;have Y3:=Y2.ext hW x3;have q3:=q2.ext x3;have p30:=p3;obtain⟨A1,C1,A2,C2,A3,C3,A4,C4,A5,C5,A6,C6,A7,C7,CT,CC,CA,hcs3,_⟩:=p3.e;subst hcs3;obtain⟨D3,hr3,hx3⟩:=q3.dd;have f3:=Y3.r3 hr3 hx3;have hnil:hJ Tryz.prog true 46 (ptr r') (.pointer none)=some false:=by simp[hJ,Tryz.underlying46]
 simp only[push_cast,seval,hE.z,f2,f3,hnil];have q4:=(Y3.new hW (o:=.cells (rCS (bH P N).1 A1 C1 A2 C2 A3 C3 A4 C4 A5 C5 A6 C6 A7 C7) 49 true)).qp (Y3.qk q3) 3 rfl (o':=.cells (ptr r'::ptr (h.next+1+1+1)::(rCS (bH P N).1 A1 C1 A2 C2 A3 C3 A4 C4 A5 C5 A6 C6 A7 C7)) 51 true);refine gtA [2,4,14,17] λ_ f4=>?_;simp only[push_cast,seval,gz,f2]at f4;refine PY.gen (motive:=λH=>aF E _ _ _ H) (B:=[(h.next+1+1,_),(h.next+1,_),(h.next,_)]) (((Y3.new hW).put hW 3 rfl).drop 1) q4 λH4 Y4 q4=>?_;obtain⟨D4,hr4,hx4⟩:=q4.dd;have f5:=Y4.r3 hr4 hx4;refine aB [(0,3),(0,6)] Nt Nt Nt ?_;simp only[push_cast,seval,hE.z,f4,f5];refine(pH hE Y4.p.so.wf Y4.p.so.frz (z2.sub x3.sub) z3 (r2.sub x3.sub) r3 hol' hmem).mono ?_;rintro v5 H5 ⟨rfl,k5⟩;have Y5:=Y4.kw hW k5;have q5:=q4.ext (k5.ext Y4.p.so.frz);obtain⟨D5,hr5,hx5⟩:=q5.dd;have f6:=Y5.r3 hr5 hx5;simp only[push_cast,seval,hE.z,f4,f5,f6];refine(ma hE Y5.p.so q5 p30 z').mono ?_;rintro v6 H6 ⟨rfl,G6,x6⟩;have Y6:=Y5.ext hW x6;have q6:=q5.ext x6;obtain⟨D6,hr6,hx6⟩:=q6.dd;have f7:=Y6.r3 hr6 hx6;simp only[push_cast,seval,hE.z,f4,f5,f6,f7,aV,bp,aU,aW,ba,bn,iF];have Y7:=Y6.put hW 0 rfl (o':=.cells (ptr r'::ptr (h.next+1+1+1)::(rCS (bH P N).1 A1 C1 A2 C2 A3 C3 A4 C4 A5 C5 A6 C6 A7 C7)) 51 true);exact⟨G6,X2,_,r',_,Y7.p,Y6.qp q6 0 rfl,p30.sub x6.sub,rfl⟩
end
end Go.Proofs.YthbjaiilnkakcaaGreatDoor
