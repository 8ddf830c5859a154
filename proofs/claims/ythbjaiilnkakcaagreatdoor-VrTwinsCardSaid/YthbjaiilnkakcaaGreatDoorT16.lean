/- Part 16. -/
import Derived.Test.YthbjaiilnkakcaaGreatDoorT15
set_option linter.all false
set_option maxRecDepth 10000
set_option maxHeartbeats 8000000
namespace Vr
variable{P:PR}
def Cn(P:PR)(m:Mg):Prop :=
 (m.k=7->¬(m.vw<P.vw\/(m.vw=P.vw/\P.st≠1)\/m.op<P.cm)->fU m=true/\(P.cm<m.bs->jC m)) /\
 (m.k=5\/m.k=6->∀a,a=(if P.vw<m.vw then bO P m.vw else(P,[])).1->m.vw=a.vw->a.st=1->(m.k=5->a.vw%a.n=a.me->lu (jY a m.fr) (yu a m.fr))/\(m.k=6->a.bF=true->lu a m))
theorem B9(z:P.Ok){b:Nat×Mg}(hb:b.1≠P.me->fU b.2=true/\b.2.Ok/\P.cm<=b.2.op/\(P.cm<b.2.bs->jC b.2)):(fD P b).2.length<=10007:=by
 have key:∀I:PR,I.Ok->∀(v k:Nat) (t:List Nat) (m:Mg),(PR.allM {I with st:=0,nm:=v,told:=t} m++(aq {I with st:=0,nm:=v,told:=t} k).2).length<=10007:=by intro I zI v k t m;have h1:=iQ {I with st:=0,nm:=v,told:=t} m I.n;have h2:=eE {I with st:=0,nm:=v,told:=t} k;have h3:=zI.op4;have h4:=zI.n;have h5:PR.op {I with st:=0,nm:=v,told:=t}=I.op:=rfl;rw[List.length_append];have h6:(PR.allM {I with st:=0,nm:=v,told:=t} m).length<=I.n:=h1;omega
 unfold fD;simp only;by_cases h:b.1=P.me
 ·simp only[h,if_true];exact key P z _ _ _ _
 ·simp only[h,if_false];obtain⟨k1,k2,k3,k4⟩:=hb h;exact key _ (z.install k1 k2 k3 k4).1 _ _ _ _
theorem wk(z:P.Ok){m:Mg}(hc:lu P m):(dD P m).2.length<=10007:=by
 have e0:(if (P.aH.getD m.fr {}).k=0 then {P with aH:=P.aH.set m.fr m} else P)={P with aH:=cO P m}:=by unfold cO;split<;>rfl
 unfold dD;simp only[e0];split
 ·simp
 ·rename_i hgo;split
  ·simp
  ·rename_i b hb;have zl:(cO P m).length=P.n:=by unfold cO;split<;>simp[z.aH]
   exact B9 (P:={P with aH:=cO P m}) ⟨⟨z.n,z.odd,z.me,z.vw,z.bs,z.cm,z.op,z.told,z.aG,zl,z.ans,z.tab,z.svl,z.srt,z.ent⟩,z.es,z.op4⟩ (hc.2 hgo b hb)
theorem I5(z:P.Ok)(fr:Nat):(jY P fr).Ok:=⟨⟨z.n,z.odd,z.me,z.vw,z.bs,z.cm,z.op,z.told,by show(P.aG.set fr true).length=P.n;simp[z.aG],z.aH,z.ans,z.tab,z.svl,z.srt,z.ent⟩,z.es,z.op4⟩
theorem Dw(z:P.Ok){fr:Nat}(hc:P.vw%P.n=P.me->lu (jY P fr) (yu P fr)):(ep P fr).2.length<=10007:=by
 have hvot:ep P fr=if P.aJ=true\/dy (P.aG.set fr true)<P.F then({P with aG:=P.aG.set fr true},[]) else if P.vw%P.n=P.me then dD (jY P fr) (yu P fr) else(jY P fr,[yu P fr]):=rfl;rw[hvot];split
 ·simp
 ·split
  ·rename_i h;exact wk (I5 z fr) (hc h)
  ·simp
end Vr
namespace Go.Proofs.YthbjaiilnkakcaaGreatDoor
open Go.Tm Vr
variable{m:Mg}{ms:List Value}
variable{E:Env}(hE:EOk E)
include hE
section
variable{G:Mem}{h:ag}(hW:WF E h)(hG:Frz E G h){P:PR}{cs:List Value}(hP:PRR E G P cs)
include hW hG hP
theorem Ao(z:P.Ok)(hm:MgR E G m ms)(hk:m.k=7)(k:m.Ok)(hst:P.st≠2)(hc:Cn P m) :
 af E 60 [.agg cs.toArray,.agg ms.toArray] h λv h'=>∃G' rc' co v2,v=.tuple #[.agg rc'.toArray,v2]/\PRR E G' (bg P m).1 rc'/\Fz E G' 17 (bg P m).2.length co v2/\bu E G' (bg P m).2 co/\Ext E G h G' h':=by
 have hP0:=hP;have hm0:=hm;obtain⟨a1,c1,a2,c2,a3,c3,a4,c4,a5,c5,a6,c6,a7,c7,ct,cc,ca,hrc,q1,⟨q2,q3,q4⟩,q5,q6,q7,q8⟩:=hP.e;subst hrc;obtain⟨b1,d1,b2,d2,b3,d3,hrm,m1,m2,m3⟩:=hm.e;subst hrm;have zn:=z.n;have ko:=k.n;have hn1:h.next<=h.next+3:=Nr;have g7:((m.k:Int)==7)=true:=NC;have hchg:bg P m=if m.vw<P.vw\/(m.vw=P.vw/\P.st≠1)\/m.op<P.cm then(P,[]) else((aq (bK (au P m) m.vw 0) m.cm).1,(aq (bK (au P m) m.vw 0) m.cm).2++[okM (aq (bK (au P m) m.vw 0) m.cm).1 m.fr]):=by unfold bg;rw[if_neg hst,if_pos hk]
 have fin0:∀H rz,bg P m=(P,[])->MX E G h G H rz->rz[0]? = some (h.next+1+1,.cells zCR 49 true)->∃G' rc' co v2,(Value.tuple #[.agg (rCS P a1 c1 a2 c2 a3 c3 a4 c4 a5 c5 a6 c6 a7 c7).toArray,.slice none 0 0])=.tuple #[.agg rc'.toArray,v2]/\PRR E G' (bg P m).1 rc'/\Fz E G' 17 (bg P m).2.length co v2/\bu E G' (bg P m).2 co/\Ext E G h G' (H.put (h.next+1+1) (.cells (rCS P a1 c1 a2 c2 a3 c3 a4 c4 a5 c5 a6 c6 a7 c7) 49 true)):=λH rz e X hz=>by
  rw[e];exact⟨G,_,[],_,rfl,hP0,Fz.nil,rfl,(X.put hW 0 hz).x⟩
 have X1:=(((MX.start hW hG).new (o:=.cells (rCS P a1 c1 a2 c2 a3 c3 a4 c4 a5 c5 a6 c6 a7 c7) 49 true)).new (o:=.cells (mCS m b1 d1 b2 d2 b3 d3) 66 true)).new (o:=.cells zCR 49 true);by_cases h1:m.vw<P.vw
 ·have g1:decide ((m.vw:Int)<(P.vw:Int))=true:=Nu;refine en hE Tryz.func60 rfl rfl Tryz.ntmps60 rfl Nv (rs:=[.cell 4 49,.tmp 5]) rfl ?_;simp only[push_cast,seval,hE.z,hW.b0,hW.b1,hW.b2,g7,g1,cH];exact fin0 _ _ PE X1 rfl
 ·have g1:decide ((m.vw:Int)<(P.vw:Int))=false:=Nu;by_cases h2:m.vw=P.vw/\P.st≠1
  ·have g2:((m.vw:Int)==(P.vw:Int))=true:=by simp[h2.1]
   have g3:((P.st:Int) != 1)=true:=Nu;refine en hE Tryz.func60 rfl rfl Tryz.ntmps60 rfl Nv (rs:=[.cell 4 49,.tmp 5]) rfl ?_;simp only[push_cast,seval,hE.z,hW.b0,hW.b1,hW.b2,g7,g1,g2,g3];exact fin0 _ _ (by rw[hchg,if_pos (.inr (.inl h2))]) X1 rfl
  ·have hv2:m.vw=P.vw\/¬m.vw=P.vw:=Classical.em _
   rcases(show((((m.vw:Int)==(P.vw:Int))=true/\((P.st:Int) != 1)=false)\/(((m.vw:Int)==(P.vw:Int))=false/\((m.vw:Int)==(P.vw:Int))=false)) by
    rcases hv2 with h4|h4
    ·left;exact⟨by simp[h4],Nu⟩
    ·right;exact⟨NF,NF⟩) with⟨g2,g3⟩|⟨g2,g3⟩
   all_goals
    refine en hE Tryz.func60 rfl rfl Tryz.ntmps60 rfl Nv (rs:=[.cell 4 49,.tmp 5]) rfl ?_;simp only[push_cast,seval,hE.z,hW.b0,hW.b1,g7,g1,g2,g3];refine Go.Tm.aO [2,3,4,6] λ_ f=>?_;simp only[push_cast,seval,gz]at f;refine MX.gen (motive:=λH=>af E _ _ H _) (B:=[(h.next+1+1,_),(h.next+1,_),(h.next,_)]) X1 λH1 X1=>?_;by_cases h3:m.op<P.cm
    ·refine(mj hE X1.x.wf X1.x.frz (hP0.sub X1.x.sub) (hm0.sub X1.x.sub) h3).mono ?_;rintro w H2 ⟨rfl,k2⟩;have X2:=X1.kw k2;simp only[push_cast,seval,hE.z,f,X2.f3];exact fin0 _ _ (by rw[hchg,if_pos (.inr (.inr h3))]) (X2.new.drop 1) rfl
    ·have hch:=hc.1 hk OT;rw[if_neg OT]at hchg;refine(mq hE X1.x.wf X1.x.frz (hP0.sub X1.x.sub) z (hm0.sub X1.x.sub) hch.1 k Nr hch.2).mono ?_;rintro w H2 ⟨G2,rI,rfl,hPI,x2⟩;have zI:=(z.install hch.1 k Nr hch.2);have X2:=X1.call x2;have hPI0:=hPI;obtain⟨A1,C1,A2,C2,A3,C3,A4,C4,A5,C5,A6,C6,A7,C7,CT,CC,CA,hrI,_⟩:=hPI.e;subst hrI;obtain⟨zI,hIo,hIn,hIm,hIv⟩:=zI;generalize au P m=I at *;simp only[push_cast,seval,hE.z,f,X2.f3];refine Go.Tm.aO [2,3,4,6] λ_ f2=>?_;simp only[push_cast,seval,gz,f]at f2;refine MX.gen (motive:=λH=>af E _ _ H _) (B:=[(H2.next,_),(h.next+1+1,_),(h.next+1,_),(h.next,_)]) X2.new λH3 X3=>?_;refine(pd hE X3.x.wf X3.x.frz hPI0 Nr m.vw 0).mono ?_;rintro w H4 ⟨G4,rV,rfl,hPV,x4⟩;have zV:=zI.view (v:=m.vw) (s:=0) Nr;have hVo:(bK I m.vw 0).op=I.op:=rfl;generalize bK I m.vw 0=V at *;have X4:=X3.call x4;have hPV0:=hPV;obtain⟨V1,D1,V2,D2,V3,D3,V4,D4,V5,D5,V6,D6,V7,D7,VT,VC,VA,hrV,_⟩:=hPV.e;subst hrV;simp only[push_cast,seval,hE.z,f2,X4.f4];refine Go.Tm.aO [2,3,4,6] λ_ f3=>?_;simp only[push_cast,seval,gz,f2]at f3;refine MX.gen (motive:=λH=>af E _ _ H _) (B:=[(H2.next,_),(h.next+1+1,_),(h.next+1,_),(h.next,_)]) (X4.put hW 3 rfl) λH5 X5=>?_;refine(gl hE X5.x.wf X5.x.frz hPV0 zV.toSz m.cm).mono ?_;rintro w H6 ⟨G6,rD,coD,vD,x6,hPD,oD,mD,nD,rfl⟩;have hcl:=eE V m.cm;have hDo:=(df (V.todo m.cm) V).1;have hDn:=(df (V.todo m.cm) V).2.2.2.1;have hDb:(aq V m.cm).1.bs=V.bs:=(jK V m.cm).1;have zVb:=zV.bs;have zVc:=zV.cm;change (aq V m.cm).1.op=V.op at hDo;change (aq V m.cm).1.n=V.n at hDn;generalize (aq V m.cm).1=D at *;generalize (aq V m.cm).2=O at *;have hDl:D.log.length<=D.op:=NH;have l5:=X5.lt 1 rfl;have olD:OL E (h.next+3) G6 H6 66 17 O.length coD vD:=⟨oD.low Nr,nD⟩;have X6:=X5.call x6;have hPD0:=hPD;obtain⟨B1,E1,B2,E2,B3,E3,B4,E4,B5,E5,B6,E6,B7,E7,ET,EC,EA,hrD,_⟩:=hPD.e;subst hrD;obtain⟨ua,uc,rfl,_⟩:=oD.fh;simp only[push_cast,seval,hE.z,f3,X6.f4];refine gtA [2,3,4,6] λ_ f4=>?_;simp only[push_cast,seval,gz,f3]at f4;refine MX.uW (motive:=λH=>aF E _ _ _ H) (B:=[(H2.next,_),(h.next+1+1,_),(h.next+1,_),(h.next,_)]) (X6.put hW 3 rfl) (olD.put (X6.at 3 rfl).1 (.inl Nr)) λHA XA olA=>?_;have bA:=XA.f4;refine aB [(0,6),(0,10),(0,11),(0,12),(2,6),(4,6),(9,6)] Nt Nt Nt ?_;simp only[push_cast,seval,hE.z,f4,bA];refine(dK hE XA.x.wf hPD0 Nr Nr).mono ?_;rintro w HB ⟨rfl,kB⟩;have XB:=XA.kw kB;have bB:=XB.f4;simp only[push_cast,seval,hE.z,f4,bA,bB];refine(iU hE XB.x.wf hPD0 (m:={k:=3,vw:=D.vw,op:=D.op}) ⟨_,_,_,rfl,Fz.nil,Fz.nil,Fz.nil⟩ m.fr).mono ?_;rintro w HC ⟨r,rfl,rR,kC⟩;have rR0:=rR;obtain⟨i1,j1,i2,j2,i3,j3,hr,_⟩:=rR.e;subst hr;have XC:=XB.kw kC;have bC:=XC.f4;simp only[push_cast,seval,hE.z];rw[lf rfl,aR];simp only[push_cast,seval];refine eZ (mz hE.P) XC.x.wf (lo:=h.next+3) (by have:=XC.lt 1 rfl;omega) ((olA.kw kB).kw kC).own rfl rfl Nr Nr λv' HD ap hnx=>?_;obtain⟨xa,xc,rfl⟩:=ap.sl;have dj4:∀{a b c d:List Value} {n:Nat},Dj (h.next+3) 66 [(n,.cells a 49 true),(h.next+1+1,.cells b 49 true),(h.next+1,.cells c 66 true),(h.next,.cells d 49 true)]:=((((Dj.nil.low Nr).low Nr).low Nr).tag Nz);obtain⟨XD,ol2⟩:=XC.app hW ((olA.kw kB).kw kC) dj4 hn1 ap;obtain⟨GG,zG,XG,sG,_⟩:=XD.still hW ol2 dj4 hn1;simp only[push_cast,seval,hE.z,f4,bA,bB,bC,XG.f4,aV,bp,aU,aW,ba,bn];have hlen:(O++[okM D m.fr]).length=O.length+1:=Nw;rw[hchg];exact⟨GG,_,_,_,rfl,hPD0.sub sG,by rw[hlen];exact zG,(mD.sub sG).app (bu.one (rR0.sub sG)),(XG.put hW 1 rfl).x⟩
theorem xL(z:P.Ok)(hm:MgR E G m ms)(hk:m.k=5\/m.k=6)(hfr:m.fr<P.n)(k:m.Ok)(hst:P.st≠2)(hc:Cn P m) :
 af E 60 [.agg cs.toArray,.agg ms.toArray] h λv h'=>∃G' rc' co v2,v=.tuple #[.agg rc'.toArray,v2]/\PRR E G' (bg P m).1 rc'/\Fz E G' 17 (bg P m).2.length co v2/\bu E G' (bg P m).2 co/\Ext E G h G' h':=by
 have hP0:=hP;have hm0:=hm;obtain⟨a1,c1,a2,c2,a3,c3,a4,c4,a5,c5,a6,c6,a7,c7,ct,cc,ca,hrc,q1,⟨q2,q3,q4⟩,q5,q6,q7,q8⟩:=hP.e;subst hrc;obtain⟨b1,d1,b2,d2,b3,d3,hrm,m1,m2,m3⟩:=hm.e;subst hrm;have zn:=z.n;have ko:=k.n;have hn1:h.next<=h.next+3:=Nr;have g7:((m.k:Int)==7)=false:=NF;obtain⟨a,ha⟩:∃a,a=if P.vw<m.vw then bO P m.vw else(P,[]):=⟨_,rfl⟩;have hchg:bg P m=if m.vw≠a.1.vw\/a.1.st≠1 then a else if m.k=5 then((ep a.1 m.fr).1,a.2++(ep a.1 m.fr).2) else if !a.1.bF then a else((dD a.1 m).1,a.2++(dD a.1 m).2):=by unfold bg;rw[if_neg hst,if_neg Nr,<-ha]
 have hca:=hc.2 hk a.1 (by rw[ha]);have zA:a.1.Ok:=by
  rw[ha];split
  ·exact z.start Nr
  ·exact z
 have hAn:a.1.n=P.n/\a.2.length<=7:=by
  rw[ha];split
  ·refine⟨rfl,?_⟩;have:=iQ (bO P m.vw).1 {k:=5,vw:=m.vw} P.n;show((bO P m.vw).1.allM {k:=5,vw:=m.vw}).length<=7;unfold PR.allM;exact Nat.le_trans this zn.2
  ·exact⟨rfl,Nw⟩
 have X1:=(((MX.start hW hG).new (o:=.cells (rCS P a1 c1 a2 c2 a3 c3 a4 c4 a5 c5 a6 c6 a7 c7) 49 true)).new (o:=.cells (mCS m b1 d1 b2 d2 b3 d3) 66 true)).new (o:=.cells zCR 49 true);refine en hE Tryz.func60 rfl rfl Tryz.ntmps60 rfl Nv (rs:=[.cell 4 49,.tmp 5]) rfl ?_;simp only[push_cast,seval,hE.z,hW.b0,hW.b1,g7];refine gtK [2,3,4,6,70] λ_ f=>?_;simp only[push_cast,seval,gz]at f;refine MX.gen (motive:=λH=>kif E _ _ _ _ _ H) (B:=[(h.next+1+1,_),(h.next+1,_),(h.next,_)]) X1 λH1 X1=>?_;refine dJ (λtm H=>∃G4 ra co vo,(aj tm 2=ptr h.next/\aj tm 3=ptr (h.next+1)/\aj tm 4=ptr (h.next+1+1)/\aj tm 6=vo)/\PRR E G4 a.1 ra/\OL E (h.next+3) G4 H 66 17 a.2.length co vo/\bu E G4 a.2 co/\MX E G h G4 H [(h.next+1+1,.cells zCR 49 true),(h.next+1,.cells (mCS m b1 d1 b2 d2 b3 d3) 66 true),(h.next,.cells ra 49 true)]) ?_ ?_
 ·rintro tm H ⟨G4,ra,co,vo,f2,hPA,olA,mA,X4⟩;obtain⟨A,hA⟩:∃A,A=a.1:=⟨_,rfl⟩;obtain⟨O,hO⟩:∃O,O=a.2:=⟨_,rfl⟩;have haa:a=(A,O):=by rw[hA,hO]
  rw[<-hA]at hPA zA hAn hchg hca;rw[<-hO]at olA mA hAn hchg;rw[haa]at hchg;have hPA0:=hPA;obtain⟨A1,C1,A2,C2,A3,C3,A4,C4,A5,C5,A6,C6,A7,C7,CT,CC,CA,hrA,_⟩:=hPA.e;subst hrA;obtain⟨oa,oc,rfl,_⟩:=olA.own.fh
  have finA:bg P m=(A,O)->∃G' rc' co v2,(Value.tuple #[.agg #[iv A.me,iv A.n,iv A.vw,iv A.st,iv A.nm,iv A.bs,iv A.cm,iv A.nc,.slice A1 A.log.length C1,.bool false,.slice A2 A.sv.l.length C2,.slice none 0 0,.slice A3 A.sv.tab.length C3,.slice A4 A.told.length C4,.slice A5 A.aG.length C5,.bool A.aJ,.slice A6 A.aH.length C6,.slice A7 A.ans.length C7],.slice oa O.length oc])=.tuple #[.agg rc'.toArray,v2]/\PRR E G' (bg P m).1 rc'/\Fz E G' 17 (bg P m).2.length co v2/\bu E G' (bg P m).2 co/\Ext E G h G' (H.put (h.next+1+1) (.cells [iv A.me,iv A.n,iv A.vw,iv A.st,iv A.nm,iv A.bs,iv A.cm,iv A.nc,.slice A1 A.log.length C1,.bool false,.slice A2 A.sv.l.length C2,.slice none 0 0,.slice A3 A.sv.tab.length C3,.slice A4 A.told.length C4,.slice A5 A.aG.length C5,.bool A.aJ,.slice A6 A.aH.length C6,.slice A7 A.ans.length C7] 49 true)):=λe=>by
   rw[e];obtain⟨GG,zG,XG,sG,_⟩:=X4.still hW olA (djM (Nat.le_refl _)) hn1;exact⟨GG,_,_,_,rfl,hPA0.sub sG,zG,mA.sub sG,(XG.put hW 0 rfl).x⟩
  have b4:=X4.f3;by_cases h1:m.vw=A.vw
  ·have g1:((m.vw:Int) != (A.vw:Int))=false:=N6;by_cases h2:A.st=1
   ·have g2:((A.st:Int) != 1)=false:=Pg;rw[if_neg (by simp[h1,h2])]at hchg;have hca:=hca h1 h2;by_cases h5:m.k=5
    ·have g5:((m.k:Int)==5)=true:=by simp[h5]
     rw[if_pos h5]at hchg;simp only[push_cast,seval,hE.z,f2,b4,g1,g2,g5];refine Go.Tm.aO [2,3,4,6] λ_ f3=>?_;simp only[push_cast,seval,gz,f2]at f3;refine(Gy hE X4.x.wf X4.x.frz hPA0 zA Nr (hca.1 h5)).mono ?_;rintro w H5 ⟨G5,r5,co5,v5,rfl,hP5,z5,m5,x5⟩;have X5:=X4.call x5;have ol5:=olA.call X4.x.wf x5;have hP50:=hP5;obtain⟨B1,E1,B2,E2,B3,E3,B4,E4,B5,E5,B6,E6,B7,E7,ET,EC,EA,hrD,_⟩:=hP5.e;subst hrD;obtain⟨ua,uc,rfl,_⟩:=z5.slice;have hvl:=Dw zA (hca.1 h5);generalize (ep A m.fr).1=V at *;generalize (ep A m.fr).2=W at *;simp only[push_cast,seval,hE.z];refine gtA [4,6,9,10] λ_ f4=>?_;simp only[push_cast,seval,gz,f3]at f4;refine MX.uW (motive:=λH=>aF E _ _ _ H) (B:=[(H5.next,_),(h.next+1+1,_),(h.next+1,_),(h.next,_)]) X5.new (ol5.push X5.x.wf) λH6 X6 ol6=>?_;have l6:=X6.lt 1 rfl;have dj4:∀{a b c d:List Value} {n:Nat},Dj (h.next+3) 66 [(n,.cells a 49 true),(h.next+1+1,.cells b 49 true),(h.next+1,.cells c 66 true),(h.next,.cells d 49 true)]:=((((Dj.nil.low Nr).low Nr).low Nr).tag Nz);have b6:=X6.f4;refine aB [(0,3)] Nt Nt Nt ?_;simp only[push_cast,seval,hE.z,f4,b6];refine ej (mz hE.P) X6.x.wf X6.x.frz (lo:=h.next+3) Nr ol6.own z5.1 m5.len m5.nj Nr Nr λv' H7 ap=>?_;obtain⟨xa,xc,rfl⟩:=ap.sl;obtain⟨X7,ol7⟩:=X6.app hW ol6 dj4 hn1 ap;obtain⟨GG,zG,XG,sG,_⟩:=X7.still hW ol7 dj4 hn1;simp only[push_cast,seval,hE.z,f4,b6,XG.f4,aV,bp,aU,aW,ba,bn];rw[hchg];rw[<-List.length_append]at zG|-;exact⟨GG,_,_,_,rfl,hP50.sub sG,zG,((mA.sub x5.sub).sub sG).app (m5.sub sG),(XG.put hW 1 rfl).x⟩
    ·have g5:((m.k:Int)==5)=false:=NF;have h6:m.k=6:=Nr;rw[if_neg h5]at hchg;simp only[push_cast,seval,hE.z,f2,b4,g1,g2,g5];refine Go.Tm.aO [2,3,4,6] λ_ f3=>?_;simp only[push_cast,seval,gz,f2]at f3;refine(dH hE X4.x.wf hPA0 ⟨Nr,Nr⟩ (by have:=zA.vw;omega)).mono ?_;rintro w H5 ⟨rfl,k5⟩;have X5:=X4.kw k5;have ol5:=olA.kw k5
     cases hp:A.bF with
     |false =>rw[hp]at hchg;have b5:=X5.f3;simp only[push_cast,seval,hE.z,f3,b5];rw[hchg];obtain⟨GG,zG,XG,sG,_⟩:=X5.still hW ol5 (djM (Nat.le_refl _)) hn1;exact⟨GG,_,_,_,rfl,hPA0.sub sG,zG,mA.sub sG,(XG.put hW 0 rfl).x⟩
     |true =>rw[hp]at hchg;have hcm:=hca.2 h6 hp;simp only[push_cast,seval,hE.z,f3,X5.f3];refine Go.Tm.aO [2,3,4,6] λ_ f4=>?_;simp only[push_cast,seval,gz,f3]at f4;refine(Aq hE X5.x.wf X5.x.frz hPA0 zA (hm0.sub X5.x.sub) Nr hcm.1 hcm.2).mono ?_;rintro w H6 ⟨G6,r6,co6,v6,rfl,hP6,z6,m6,x6⟩;have X6:=X5.call x6;have ol6:=ol5.call X5.x.wf x6;have hP60:=hP6;obtain⟨B1,E1,B2,E2,B3,E3,B4,E4,B5,E5,B6,E6,B7,E7,ET,EC,EA,hrD,_⟩:=hP6.e;subst hrD;obtain⟨ua,uc,rfl,_⟩:=z6.slice;have hvl:=wk zA hcm;generalize (dD A m).1=V at *;generalize (dD A m).2=W at *;simp only[push_cast,seval,hE.z,f4,X6.f3];refine gtA [2,4,6,11] λ_ f5=>?_;simp only[push_cast,seval,gz,f4]at f5;refine MX.uW (motive:=λH=>aF E _ _ _ H) (B:=[(h.next+1+1,_),(h.next+1,_),(h.next,_)]) (X6.put hW 2 rfl) (ol6.put (X6.at 2 rfl).1 (.inl Nr)) λH7 X7 ol7=>?_;have l7:=X7.lt 0 rfl;have b7:=X7.f3;refine aB [(0,3)] Nt Nt Nt ?_;simp only[push_cast,seval,hE.z,f5,b7];refine ej (mz hE.P) X7.x.wf X7.x.frz (lo:=h.next+3) Nr ol7.own z6.1 m6.len m6.nj Nr Nr λv' H8 ap=>?_;obtain⟨xa,xc,rfl⟩:=ap.sl;obtain⟨X8,ol8⟩:=X7.app hW ol7 (djM (Nat.le_refl _)) hn1 ap;obtain⟨GG,zG,XG,sG,_⟩:=X8.still hW ol8 (djM (Nat.le_refl _)) hn1;simp only[push_cast,seval,hE.z,f5,b7,XG.f3,aV,bp,aU,aW,ba,bn];simp only[Bool.not_true,Bool.false_eq_true,if_false]at hchg;rw[hchg];rw[<-List.length_append]at zG|-;exact⟨GG,_,_,_,rfl,hP60.sub sG,zG,((mA.sub x6.sub).sub sG).app (m6.sub sG),(XG.put hW 0 rfl).x⟩
   ·have g2:((A.st:Int) != 1)=true:=Nu;simp only[push_cast,seval,hE.z,f2,b4,g1,g2];exact finA (by rw[hchg,if_pos (.inr h2)])
  ·have g1:((m.vw:Int) != (A.vw:Int))=true:=Nu;simp only[push_cast,seval,hE.z,f2,b4,g1];exact finA PE
 ·by_cases hv:P.vw<m.vw
  ·have g1:decide ((P.vw:Int)<(m.vw:Int))=true:=Nu;rw[if_pos hv]at ha;subst ha;simp only[push_cast,seval,hE.z,g1,f,X1.f3];refine(qt hE X1.x.wf X1.x.frz (hP0.sub X1.x.sub) z.toSz m.vw).mono ?_;rintro w H2 ⟨G2,r2,co2,v2,rfl,hP2,o2,m2',n2,x2⟩;have X2:=X1.call x2;have hP20:=hP2;obtain⟨B1,E1,B2,E2,B3,E3,B4,E4,B5,E5,B6,E6,B7,E7,ET,EC,EA,hrD,_⟩:=hP2.e;subst hrD;have l1:=X1.lt 0 rfl;have ol2:OL E (h.next+3) G2 H2 66 17 (bO P m.vw).2.length co2 v2:=⟨o2.low Nr,n2⟩;simp only[push_cast,seval,hE.z,f,X2.f3];exact⟨G2,_,co2,hP20,ol2.put (X2.at 2 rfl).1 (.inl Nr),m2',X2.put hW 2 rfl⟩
  ·have g1:decide ((P.vw:Int)<(m.vw:Int))=false:=Nu;rw[if_neg hv]at ha;subst ha;simp only[push_cast,seval,g1,f];exact⟨G,_,[],hP0,OL.nil,rfl,X1⟩
end
section
variable{G:Mem}{h:ag}{X:Nat->Prop}(hS:SO E G h X){P:PR}{out:List Mg}{r t:Nat}(hQ:QR E G h X P out r t)
include hS hQ
theorem wN(z:P.Ok)(ho:out.length<=100)(hm:MgR E G m ms)(k:m.Ok)(hk:m.k=7)(hst:P.st≠2)(hc:Cn P m)(hbo:m.bs<=m.op):af E 40 [ptr r,.agg ms.toArray] h λv h'=>v=.tuple #[]/\∃G' X',PX E G h X G' h' X'/\QR E G' h' X' (bg P m).1 (out++(bg P m).2) r t:=by
 have zn:=z.n;have ko:=k.n;have hW:=hS.wf;have hm0:=hm;have hchg:bg P m=if m.vw<P.vw\/(m.vw=P.vw/\P.st≠1)\/m.op<P.cm then(P,[]) else((aq (bK (au P m) m.vw 0) m.cm).1,(aq (bK (au P m) m.vw 0) m.cm).2++[okM (aq (bK (au P m) m.vw 0) m.cm).1 m.fr]):=by unfold bg;rw[if_neg hst,if_pos hk]
 obtain⟨b1,d1,b2,d2,b3,d3,rfl,m1,m2,m3⟩:=hm.e;have Y1:=(PY.start hS).new hS.wf (o:=.cells (mCS m b1 d1 b2 d2 b3 d3) 66 true);have q1:=(PY.start hS).qk hQ (o:=.cells (mCS m b1 d1 b2 d2 b3 d3) 66 true);have g1:((P.st:Int)==2)=false:=Nu
 have fin0:∀{H:ag},bg P m=(P,[])->PX E G h X G H X->QR E G H X P out r t->∃G' X',PX E G h X G' H X'/\QR E G' H X' (bg P m).1 (out++(bg P m).2) r t:=λe p q=>by
  rw[e];exact⟨G,X,p,PZ⟩
 refine en hE Tryz.func40 rfl rfl Tryz.ntmps40 rfl Nv (rs:=[]) rfl ?_;simp only[push_cast,seval];refine gtA [0,3] λ_ f=>?_;simp only[push_cast,seval,gz]at f;refine PY.gen (motive:=λH=>aF E _ _ _ H) Y1 q1 λH1 Y1 q1=>?_;obtain⟨D1,hr1,hx1⟩:=q1.dd;have f1:=Y1.r1 hr1 hx1;refine ax Nt ?_;by_cases h1:m.vw<P.vw
 ·have g2:decide ((m.vw:Int)<(P.vw:Int))=true:=Nu;simp only[push_cast,seval,hE.z,f,f1,g1,g2,cH];exact fin0 PE Y1.p q1
 have g2:decide ((m.vw:Int)<(P.vw:Int))=false:=Nu;by_cases h2:m.vw=P.vw/\P.st≠1
 ·have g3:((m.vw:Int)==(P.vw:Int))=true:=by simp[h2.1]
  have g4:((P.st:Int) != 1)=true:=Nu;simp only[push_cast,seval,hE.z,f,f1,g1,g2,g3,g4];exact fin0 (by rw[hchg,if_pos (.inr (.inl h2))]) Y1.p q1
 have hv2:m.vw=P.vw\/¬m.vw=P.vw:=Classical.em _
 rcases(show((((m.vw:Int)==(P.vw:Int))=true/\((P.st:Int) != 1)=false)\/(((m.vw:Int)==(P.vw:Int))=false/\((m.vw:Int)==(P.vw:Int))=false)) by
  rcases hv2 with h4|h4
  ·left;exact⟨by simp[h4],Nu⟩
  ·right;exact⟨NF,NF⟩) with⟨g3,g4⟩|⟨g3,g4⟩
 all_goals
  simp only[push_cast,seval,hE.z,f,f1,g1,g2,g3,g4];by_cases h5:m.op<P.cm
  ·refine(og hE Y1.p.so q1 (hm0.sub Y1.p.sub) h5).mono ?_;rintro w H2 ⟨rfl,p2,q2⟩
   try simp only[push_cast,seval]
   exact fin0 (by rw[hchg,if_pos (.inr (.inr h5))]) (Y1.p.trans hW p2) q2
  ·have hno:¬(m.vw<P.vw\/(m.vw=P.vw/\P.st≠1)\/m.op<P.cm):=by
    rintro(h|h|h)
    ·exact h1 h
    ·exact h2 h
    ·exact h5 h
   obtain⟨hmd,himg⟩:=hc.1 hk hno;obtain⟨hm1,hm2,hm3⟩:=js hmd;refine(jv hE Y1.p.so q1 z (hm0.sub Y1.p.sub) hm3 k hbo Nr (λh=>⟨hm1,hm2,himg h⟩)).mono ?_;rintro w H2 ⟨rfl,G2,X2,p2,q2⟩;obtain⟨zi,hi1,hi2,hi3,hi4⟩:=z.install hmd k Nr himg;have Y2:=Y1.call hW p2;obtain⟨D2,hr2,hx2⟩:=q2.dd;have f2:=Y2.r1 hr2 hx2;simp only[push_cast,seval,hE.z,f,f2];refine Go.Tm.aO [0,3] λ_ f3=>?_;simp only[push_cast,seval,gz,f]at f3;refine(mY hE p2.so q2 Nr m.vw).mono ?_;rintro w H3 ⟨rfl,X3,p3,q3⟩;have Y3:=Y2.call hW p3;obtain⟨D3,hr3,hx3⟩:=q3.dd;have f4:=Y3.r1 hr3 hx3;have zv3:=zi.view (v:=m.vw) (s:=0) Nr;simp only[push_cast,seval,hE.z,f3,f4];refine(kh hE p3.so q3 zv3.toSz Nr m.cm).mono ?_;rintro w H4 ⟨rfl,G4,X4,p4,q4⟩;have Y4:=Y3.call hW p4;obtain⟨D4,hr4,hx4⟩:=q4.dd;have f5:=Y4.r1 hr4 hx4
   try simp only[push_cast,seval]
   refine gtA [0,3] λ_ f6=>?_;simp only[push_cast,seval,gz,f3]at f6;refine ax Nt ?_;simp only[push_cast,seval,hE.z,f6,f5];have hcl:=eE (bK (au P m) m.vw 0) m.cm;refine(gd hE p4.so q4 (by rw[List.length_append];have:=zv3.op4;omega) (m:={k:=3,vw:=(aq (bK (au P m) m.vw 0) m.cm).1.vw,op:=(aq (bK (au P m) m.vw 0) m.cm).1.op}) ⟨_,_,_,rfl,Fz.nil,Fz.nil,Fz.nil⟩ m.fr).mono ?_;rintro w H5 ⟨rfl,X5,p5,q5⟩
   try simp only[push_cast,seval]
   rw[hchg,if_neg hno];exact⟨G4,X5,(Y4.call hW p5).p,by rw[List.append_assoc]at q5;exact q5⟩
end
end Go.Proofs.YthbjaiilnkakcaaGreatDoor
namespace Vr
theorem Dz{L:List Mg}{i:Nat}{m:Mg}(h:L[i]? = some m):cU (L.take (i+1))=if m.k=0 then cU (L.take i) else max (cU (L.take i)) m.vw:=by
 unfold cU;rw[ld h];split
 ·rw[List.append_nil]
 ·rw[List.foldl_append];rfl
theorem Cv(l:List Mg)(B:Nat)(h:∀m,m∈l->m.vw<=B):cU l<=B:=by
 have gen:∀(l:List (Nat×Mg)) (a:Nat),a<=B->(∀m,m∈l->m.2.vw<=B)->l.foldl (λa p=>max a p.2.vw) a<=B:=by
  intro l
  induction l with
  |nil=>intro a h _;exact h
  |cons x l ih =>intro a ha hl;rw[List.foldl_cons];exact ih _ (Nat.max_le.2 ⟨ha,hl x Nw⟩) λm hm=>hl m (by simp[hm])
 refine gen (bI l) 0 (Nat.zero_le _) λp hp=>h p.2 ?_;obtain⟨i,c⟩:=p;exact List.mem_of_getElem? (jA hp).1
def JQ(P:PR)(m:Mg):Prop :=
 P.st=2->m.nc=P.nc->(∀x,x∈P.ans.set m.fr m->x.vw<=10000)/\∀w,w=(P.ans.set m.fr m).getD (cU (P.ans.set m.fr m)%P.n) {} ->
  ¬((bI (P.ans.set m.fr m)).length<=P.F\/cU (P.ans.set m.fr m)<P.vw\/w.k=0\/w.vw≠cU (P.ans.set m.fr m))->fU w=true/\w.Ok/\P.cm<=w.op/\(P.cm<w.bs->jC w)
end Vr
namespace Go.Proofs.YthbjaiilnkakcaaGreatDoor
open Go.Tm Vr
variable{E:Env}(hE:EOk E)
include hE
section
variable{G:Mem}{h:ag}(hW:WF E h)(hG:Frz E G h){P:PR}{cs:List Value}(hP:PRR E G P cs)
include hW hG hP
theorem Cg(z:P.Ok){m:Mg}{ms:List Value}(hm:MgR E G m ms)(hfr:m.fr<P.n)(hc:JQ P m) :
 af E 63 [.agg cs.toArray,.agg ms.toArray] h λv h'=>∃G' rc' co v2,v=.tuple #[.agg rc'.toArray,v2]/\PRR E G' (cp P m).1 rc'/\Fz E G' 17 (cp P m).2.length co v2/\bu E G' (cp P m).2 co/\Ext E G h G' h':=by
 have hP0:=hP;have hm0:=hm;obtain⟨a1,c1,a2,c2,a3,c3,a4,c4,a5,c5,a6,c6,a7,c7,ct,cc,ca,hrc,q1,⟨q2,q3,q4⟩,q5,q6,q7,q8⟩:=hP.e;subst hrc;obtain⟨b1,d1,b2,d2,b3,d3,hrm,m1,m2,m3⟩:=hm.e;subst hrm;have zn:=z.n;have zan:=z.ans;have hn1:h.next<=h.next+3:=Nr;have X1:=(((MX.start hW hG).new (o:=.cells (rCS P a1 c1 a2 c2 a3 c3 a4 c4 a5 c5 a6 c6 a7 c7) 49 true)).new (o:=.cells (mCS m b1 d1 b2 d2 b3 d3) 66 true)).new (o:=.cells zCR 49 true)
 have fin0:cp P m=(P,[])->∃G' rc' co v2,(Value.tuple #[.agg (rCS P a1 c1 a2 c2 a3 c3 a4 c4 a5 c5 a6 c6 a7 c7).toArray,.slice none 0 0])=.tuple #[.agg rc'.toArray,v2]/\PRR E G' (cp P m).1 rc'/\Fz E G' 17 (cp P m).2.length co v2/\bu E G' (cp P m).2 co/\Ext E G h G' ((((h.push (.cells (rCS P a1 c1 a2 c2 a3 c3 a4 c4 a5 c5 a6 c6 a7 c7) 49 true)).push (.cells (mCS m b1 d1 b2 d2 b3 d3) 66 true)).push (.cells zCR 49 true)).put (h.next+1+1) (.cells (rCS P a1 c1 a2 c2 a3 c3 a4 c4 a5 c5 a6 c6 a7 c7) 49 true)):=λe=>by
  rw[e];exact⟨G,_,[],_,rfl,hP0,Fz.nil,rfl,(X1.put hW 0 rfl).x⟩
 by_cases hst:P.st=2
 ·have g1:((P.st:Int) != 2)=false:=NV;by_cases hnc:m.nc=P.nc
  ·have g2:((m.nc:Int) != (P.nc:Int))=false:=by simp[hnc]
   obtain⟨hva,hw⟩:=hc hst hnc;refine en hE Tryz.func63 rfl rfl Tryz.ntmps63 rfl Nv (rs:=[.cell 4 49,.tmp 5]) rfl ?_;simp only[push_cast,seval,hE.z,hW.b0,hW.b1,g1,g2];refine gtm (motive:=kwv _ _ _) [2,3,4] λ_ f=>?_;simp only[push_cast,seval,gz]at f;refine MX.gen (motive:=λH=>kwv (cI E H _ _ _ _) _ _ _ H) (B:=[(h.next+1+1,_),(h.next+1,_),(h.next,_)]) X1 λH1 X1=>?_;have l1:=X1.lt 0 rfl;refine ej (mz hE.P) X1.x.wf X1.x.frz (lo:=h.next+3) l1 (Own.nil _ _ _ _) (q8.1.1.sub X1.x.sub) q8.2.len q8.2.nj Nr Nr λv' H2 ap=>?_;obtain⟨va,vc,rfl⟩:=ap.sl;rw[Nat.zero_add,List.nil_append]at ap;obtain⟨X2,o2⟩:=X1.app hW OL.nil (djM (Nat.le_refl _)) hn1 ap;rw[Nat.zero_add];simp only[push_cast,seval,hE.z,f,X2.f3];refine gtm (motive:=bY _ _ _) [2,3,4,34] λ_ f1=>?_;simp only[push_cast,seval,gz,f]at f1;refine MX.uW (motive:=λH=>bY _ _ _ _ H) (B:=[(h.next+1+1,_),(h.next+1,_),(h.next,_)]) (X2.put hW 2 rfl) (o2.put (X2.at 2 rfl).1 (.inl Nr)) λH3 X3 o3=>?_;have hfl:m.fr<P.ans.length:=Nr;obtain⟨vb,d',p,o',ev,hp,hbs,hwr,o4⟩:=o3.write X3.x.wf hfl (xs:=(mCS m b1 d1 b2 d2 b3 d3)) rfl rfl;injection ev with ev _ ev2;subst ev;subst ev2;have X4:=X3.Kn hW o3 (djM (Nat.le_refl _)) hn1 hp hbs (o':=o');rw[jw rfl Nr Nr,ab];simp only[push_cast,seval,hE.P,eM,f1,Nat.zero_add,Int.toNat_natCast,↓hwr,ey];refine gtm (motive:=wpc E _ _) [2,3,4,7,8,9] λ_ f2=>?_;simp only[push_cast,seval,gz,f1]at f2;obtain⟨G4,z4,X4,s4,_⟩:=X4.still hW o4 (djM (Nat.le_refl _)) hn1;refine MX.gen (motive:=λH=>wpc E _ _ _ H) X4 λH4 X4=>?_;have r4:=bu.set (q8.2.sub X4.x.sub) (hm0.sub X4.x.sub) hfl;obtain⟨L,hL⟩:∃L,L=P.ans.set m.fr m:=⟨_,rfl⟩;have hLn:L.length=P.n:=by rw[hL];simp[zan]
   rw[<-hL]at r4 hva hw;have zLn:P.ans.length=L.length:=Nr;rw[zLn]at z4 X4;refine bG (λk tm H=>∃i,k=P.n-i/\i<=P.n/\(aj tm 2=ptr h.next/\aj tm 3=ptr (h.next+1)/\aj tm 4=ptr (h.next+1+1)/\aj tm 7=iv (bI (L.take i)).length/\aj tm 8=iv (cU (L.take i))/\aj tm 9=iv i)/\H=H4) P.n ?_ ?_
   ·refine⟨0,Nr,Nr,?_,rfl⟩;simp only[push_cast,seval,f2];exact⟨rfl,rfl,rfl⟩
   ·rintro k tm H ⟨i,rfl,hi,f3,rfl⟩;have b4:=X4.f3;simp only[push_cast,seval,hE.z,f3,b4];by_cases hlt:i<P.n
    ·have hlt1:decide ((i:Int)<(P.n:Int))=true:=Nu;have hiL:i<L.length:=Nr;have hgi:L[i]? = some L[i]:=List.getElem?_eq_getElem hiL;have qi:=r4.at i _ hgi;have htk:=ld hgi;have htv:=Dz hgi;have hlen:=pX (L.take i);have hlt3:(L.take i).length<=i:=OM;obtain⟨vb',vd',e1,_,hac⟩:=z4.1.elem X4.x.frz hiL;injection e1 with e1 _ _;injection e1 with e1;subst e1;generalize L[i]=c at *;obtain⟨u1,x1,u2,x2,u3,x3,hcc,_⟩:=qi.e;rw[hcc]at hac;simp only[Nat.zero_add]at hac;have p0:=aY hac 0 1 Nr;have p3:=aY hac 3 1 Nr;simp only[Nat.add_zero,List.drop_succ_cons,List.drop_zero,List.take_succ_cons,List.take_zero]at p0 p3;simp only[push_cast,seval,hE.z,f3,b4,hlt1];rw[jw rfl Nr Nr,ab];by_cases hk0:c.k=0
     ·have hkb:((c.k:Int) != 0)=false:=by simp[hk0]
      rw[if_pos hk0,List.append_nil]at htk;rw[if_pos hk0]at htv;simp only[push_cast,seval,hE.z,f3,Nat.zero_add,Int.toNat_natCast,↓p0,hkb];exact⟨P.n-(i+1),Nr,i+1,rfl,Nr,by rw[htk],by rw[htv],bk Nr⟩
     ·have hkb:((c.k:Int) != 0)=true:=Nu;rw[if_neg hk0]at htk htv;have hw1:(Value.int .i64 (IntKind.i64.wrap (((bI (L.take i)).length:Int)+1)))=iv (bI (L.take (i+1))).length:=by rw[htk,List.length_append];exact bk Nr
      have hmx:max ((cU (L.take i):Nat):Int) (c.vw:Int)=((cU (L.take (i+1)):Nat):Int):=by rw[htv];omega
      simp only[push_cast,seval,hE.z,f3,b4,Nat.zero_add,Int.toNat_natCast,↓p0,hkb,hw1];rw[jw rfl Nr Nr,ab];simp only[push_cast,seval,hE.z,f3,Nat.zero_add,Int.toNat_natCast,↓p3,hmx];exact⟨P.n-(i+1),Nr,i+1,rfl,Nr,rfl,rfl,bk Nr⟩
    ·have hlt1:decide ((i:Int)<(P.n:Int))=false:=Nu;have he:i=P.n:=Nr;subst he;have hLf:L.take P.n=L:=List.take_of_length_le Nr;rw[hLf]at f3;obtain⟨v,hv⟩:∃v,v=cU L:=⟨_,rfl⟩;obtain⟨q,hq⟩:∃q,q=v%P.n:=⟨_,rfl⟩;have hvB:v<=10000:=by rw[hv];exact Cv L _ hva
     have hqn:q<L.length:=by rw[hq,hLn];exact Nat.mod_lt _ (by omega)
     have hgD:L.getD q {}=L[q]:=by rw[List.getD_eq_getElem?_getD,List.getElem?_eq_getElem hqn];rfl
     rw[<-hv,<-hq]at hw;have hw:=hw L[q] hgD.symm;obtain⟨Q,hQ⟩:∃Q:PR,Q={P with ans:=L}:=⟨_,rfl⟩;have hQ1:Q.F=P.F/\Q.n=P.n/\Q.me=P.me/\Q.vw=P.vw/\Q.cm=P.cm/\Q.ans=L:=by rw[hQ];exact⟨rfl,rfl,rfl,rfl,rfl,rfl⟩
     have hcP:PRR E G4 Q (rC P (.slice a1 P.log.length c1) (.slice a2 P.sv.l.length c2) (.slice a3 P.sv.tab.length c3) (.slice a4 P.told.length c4) (.slice a5 P.aG.length c5) (.slice a6 P.aH.length c6) (.slice (some ⟨vb,0,none⟩) L.length vc)):=by have t:=X4.x.sub;rw[hQ];exact PRR.of (P:={P with ans:=L}) (q1.sub t) (q2.sub t) (q3.sub t) (q4.sub t) (q5.sub t) (q6.sub t) ⟨q7.1.sub t,q7.2.sub t⟩ ⟨z4,r4⟩
     have hQz:Q.Ok:=by rw[hQ];exact⟨⟨z.n,z.odd,z.me,z.vw,z.bs,z.cm,z.op,z.told,z.aG,z.aH,hLn,z.tab,z.svl,z.srt,z.ent⟩,z.es,z.op4⟩
     have hans:cp P m=if (bI L).length<=P.F\/v<P.vw\/L[q].k=0\/L[q].vw≠v then(Q,[]) else((aq (bK (au Q L[q]) v 0) L[q].cm).1,(aq (bK (au Q L[q]) v 0) L[q].cm).2++[okM (aq (bK (au Q L[q]) v 0) L[q].cm).1 q]):=by rw[<-hgD,hQ,hq,hv,hL];unfold cp;rw[if_neg (by simp[hst,hnc])]
     have nz:((P.n:Int)=0)=False:=Nu;have hmod:((v:Int).tmod (P.n:Int))=(q:Int):=by rw[<-Int.ofNat_tmod,hq]
     have qm:=r4.at q _ (List.getElem?_eq_getElem hqn);obtain⟨vb',vd',e1,_,hac⟩:=z4.1.elem X4.x.frz hqn;injection e1 with e1 _ _;injection e1 with e1;subst e1;generalize L[q]=w at *;have qm0:=qm;obtain⟨w1,x1,w2,x2,w3,x3,hcc,_⟩:=qm.e;rw[hcc]at hac qm0;simp only[Nat.zero_add]at hac;rw[<-hv]at f3;simp only[push_cast,seval,hlt1];refine gtA [2,3,4,7,8] λ_ f4=>?_;simp only[push_cast,seval,gz,f3]at f4;refine aB [(1,8),(4,8),(7,8)] Nt Nt Nt ?_;simp only[push_cast,seval,hE.z,f4,b4,nz,hmod];rw[jw rfl Nr Nr,ab];have hvl:=gI (z4.1.sc X4.x.wf X4.x.frz) _ rfl;have hvn:(H.next=vb)=False:=by simp only[eq_iff_iff,iff_false];simp only at hvl;omega
     have hac2:=hac;simp only[push_cast,seval]at hac2;simp only[push_cast,seval,hE.z,f4,b4,Nat.zero_add,Int.toNat_natCast,↓hac,hvn,hac2,Option.map_some,true_and];refine Go.Tm.aO [2,3,4,7,8,10,67] λ_ f5=>?_;simp only[push_cast,seval,gz,f4]at f5;refine MX.gen (motive:=λH=>af E _ _ H _) (B:=[(H.next,_),(h.next+1+1,_),(h.next+1,_),(h.next,_)]) X4.new λH5 X5=>?_;refine(C9 hE X5.x.wf hcP (by rw[hQ1.2.1];omega)).mono ?_;rintro w' H6 ⟨rfl,k6⟩;rw[hQ1.1];have X6:=X5.kw k6;have b6:=X6.f4
     have finQ:cp P m=(Q,[])->∃G' rc' co v2,(Value.tuple #[.agg (rC P (.slice a1 P.log.length c1) (.slice a2 P.sv.l.length c2) (.slice a3 P.sv.tab.length c3) (.slice a4 P.told.length c4) (.slice a5 P.aG.length c5) (.slice a6 P.aH.length c6) (.slice (some ⟨vb,0,none⟩) L.length vc)).toArray,.slice none 0 0])=.tuple #[.agg rc'.toArray,v2]/\PRR E G' (cp P m).1 rc'/\Fz E G' 17 (cp P m).2.length co v2/\bu E G' (cp P m).2 co/\Ext E G h G' (H6.put (h.next+1+1) (.cells (rC P (.slice a1 P.log.length c1) (.slice a2 P.sv.l.length c2) (.slice a3 P.sv.tab.length c3) (.slice a4 P.told.length c4) (.slice a5 P.aG.length c5) (.slice a6 P.aH.length c6) (.slice (some ⟨vb,0,none⟩) L.length vc)) 49 true)):=λe=>by
      rw[e];exact⟨G4,_,[],_,rfl,hcP,Fz.nil,rfl,(X6.put hW 1 rfl).x⟩
     by_cases n1:(bI L).length<=P.F
     ·have g3:decide (((bI L).length:Int)<=(P.F:Int))=true:=Nu;simp only[push_cast,seval,hE.z,f5,b6,g3];exact finQ (by rw[hans,if_pos (.inl n1)])
     ·have g3:decide (((bI L).length:Int)<=(P.F:Int))=false:=Nu;by_cases n2:v<P.vw
      ·have g4:decide ((v:Int)<(P.vw:Int))=true:=Nu;simp only[push_cast,seval,hE.z,f5,b6,g3,g4];exact finQ (by rw[hans,if_pos (.inr (.inl n2))])
      ·have g4:decide ((v:Int)<(P.vw:Int))=false:=Nu;by_cases n3:w.k=0
       ·have g5:((w.k:Int)==0)=true:=by simp[n3]
        simp only[push_cast,seval,hE.z,f5,b6,g3,g4,g5];exact finQ (by rw[hans,if_pos (.inr (.inr (.inl n3)))])
       ·have g5:((w.k:Int)==0)=false:=NF;by_cases n4:w.vw=v
        ·have g6:((w.vw:Int) != (v:Int))=false:=by simp[n4]
         have hnn:¬((bI L).length<=P.F\/v<P.vw\/w.k=0\/w.vw≠v):=by
          rintro(h|h|h|h)
          ·exact n1 h
          ·exact n2 h
          ·exact n3 h
          ·exact h n4
         rw[if_neg hnn]at hans;obtain⟨t1,t2,t3,t4⟩:=hw hnn;simp only[push_cast,seval,hE.z,f5,b6,g3,g4,g5,g6];refine Go.Tm.aO [2,3,4,7,8,10] λ_ f=>?_;simp only[push_cast,seval,gz,f5]at f;refine(mq hE X6.x.wf X6.x.frz hcP hQz qm0 t1 t2 (by rw[hQ1.2.2.2.2.1];exact t3) (by rw[hQ1.2.2.2.2.1];exact t4)).mono ?_;have zI:=hQz.install t1 t2 (by rw[hQ1.2.2.2.2.1];exact t3) (by rw[hQ1.2.2.2.2.1];exact t4);rintro w' H2 ⟨G2,rI,rfl,hPI,x2⟩;have X2:=X6.call x2;have hPI0:=hPI;obtain⟨A1,C1,A2,C2,A3,C3,A4,C4,A5,C5,A6,C6,A7,C7,CT,CC,CA,hrI,_⟩:=hPI.e;subst hrI;obtain⟨zI,hIo,hIn,hIm,hIv⟩:=zI;generalize au Q w=I at *;simp only[push_cast,seval,hE.z,f,X2.f4];refine Go.Tm.aO [2,4,8,10] λ_ f2=>?_;simp only[push_cast,seval,gz,f]at f2;refine MX.gen (motive:=λH=>af E _ _ H _) (B:=[(H2.next,_),(H.next,_),(h.next+1+1,_),(h.next+1,_),(h.next,_)]) X2.new λH3 X3=>?_;refine(pd hE X3.x.wf X3.x.frz hPI0 (by rw[hIn,hQ1.2.1];omega) v 0).mono ?_;rintro w' H4' ⟨G4',rV,rfl,hPV,x4⟩;have zV:=zI.view (v:=v) (s:=0) Nr;have hVn:(bK I v 0).n=I.n:=rfl;have hVv:(bK I v 0).vw=v:=rfl;generalize bK I v 0=V at *;have X4':=X3.call x4;have hPV0:=hPV;obtain⟨V1,D1,V2,D2,V3,D3,V4,D4,V5,D5,V6,D6,V7,D7,VT,VC,VA,hrV,_⟩:=hPV.e;subst hrV;simp only[push_cast,seval,hE.z,f2,X4'.f5];refine Go.Tm.aO [2,4,8,10] λ_ f3=>?_;simp only[push_cast,seval,gz,f2]at f3;refine MX.gen (motive:=λH=>af E _ _ H _) (B:=[(H2.next,_),(H.next,_),(h.next+1+1,_),(h.next+1,_),(h.next,_)]) (X4'.put hW 4 rfl) λH5' X5'=>?_;refine(gl hE X5'.x.wf X5'.x.frz hPV0 zV.toSz w.cm).mono ?_;rintro w' H6' ⟨G6,rD,coD,vD,x6,hPD,oD,mD,nD,rfl⟩;have hcl:=eE V w.cm;have hDo:=(df (V.todo w.cm) V).1;have hDn:=(df (V.todo w.cm) V).2.2.2.1;have hDw:=(df (V.todo w.cm) V).2.1;have zVo:=zV.op4;have hDb:(aq V w.cm).1.bs=V.bs:=(jK V w.cm).1;have zVb:=zV.bs;have zVc:=zV.cm;change (aq V w.cm).1.op=V.op at hDo;change (aq V w.cm).1.n=V.n at hDn;change (aq V w.cm).1.vw=V.vw at hDw;generalize (aq V w.cm).1=D at *;generalize (aq V w.cm).2=O at *;have hDl:D.log.length<=D.op:=NH;have l6:=X5'.lt 1 rfl;have lh:=X4.lt 0 rfl;have hn2:h.next<=H.next+1:=Nr;have olD:OL E (H.next+1) G6 H6' 66 17 O.length coD vD:=⟨oD.low Nr,nD⟩;have X6':=X5'.call x6;have hPD0:=hPD;obtain⟨B1,E1,B2,E2,B3,E3,B4,E4,B5,E5,B6,E6,B7,E7,ET,EC,EA,hrD,_⟩:=hPD.e;subst hrD;obtain⟨ua,uc,rfl,_⟩:=oD.fh;simp only[push_cast,seval,hE.z,f3,X6'.f5];refine gtA [2,4,8,13] λ_ f4=>?_;simp only[push_cast,seval,gz,f3]at f4;refine MX.uW (motive:=λH=>aF E _ _ _ H) (B:=[(H2.next,_),(H.next,_),(h.next+1+1,_),(h.next+1,_),(h.next,_)]) (X6'.put hW 4 rfl) (olD.put (X6'.at 4 rfl).1 (.inl Nr)) λHA XA olA=>?_;have bA:=XA.f5;have hDp:D.n=P.n:=by rw[hDn,hVn,hIn,hQ1.2.1]
         have nz2:((D.n:Int)=0)=False:=by rw[hDp];exact nz
         have hmod2:((v:Int).tmod (D.n:Int))=(q:Int):=by rw[hDp];exact hmod
         refine aB [(0,5),(0,11),(0,12),(0,13),(2,5),(9,5)] Nt Nt Nt ?_;simp only[push_cast,seval,hE.z,f4,bA];refine(dK hE XA.x.wf hPD0 Nr Nr).mono ?_;rintro w' HB ⟨rfl,kB⟩;have XB:=XA.kw kB;have bB:=XB.f5;simp only[push_cast,seval,hE.z,f4,bA,bB,nz2,hmod2];refine(iU hE XB.x.wf hPD0 (m:={k:=3,vw:=v,op:=D.op}) ⟨_,_,_,rfl,Fz.nil,Fz.nil,Fz.nil⟩ q).mono ?_;rintro w' HC ⟨r,rfl,rR,kC⟩;have rR0:=rR;obtain⟨i1,j1,i2,j2,i3,j3,hr,_⟩:=rR.e;subst hr;have XC:=XB.kw kC;have bC:=XC.f5;simp only[push_cast,seval,hE.z];rw[lf rfl,aR];simp only[push_cast,seval];refine eZ (mz hE.P) XC.x.wf (lo:=H.next+1) (XC.lt 1 rfl) ((olA.kw kB).kw kC).own rfl rfl Nr Nr λv' HD ap hnx=>?_;obtain⟨xa,xc,rfl⟩:=ap.sl;have dj5:∀{a b c d e:List Value} {n:Nat},Dj (H.next+1) 66 [(n,.cells a 49 true),(H.next,.cells e 66 true),(h.next+1+1,.cells b 49 true),(h.next+1,.cells c 66 true),(h.next,.cells d 49 true)]:=(((((Dj.nil.low Nr).low Nr).low Nr).low Nr).tag Nz);obtain⟨XD,ol2⟩:=XC.app hW ((olA.kw kB).kw kC) dj5 hn2 ap;obtain⟨GG,zG,XG,sG,_⟩:=XD.still hW ol2 dj5 hn2;simp only[push_cast,seval,hE.z,f4,bA,bB,bC,XG.f5,aV,bp,aU,aW,ba,bn];have hDv:okM D q=D.toM {k:=3,vw:=v,op:=D.op} q:=by unfold okM;rw[hDw,hVv]
         have hlen:(O++[okM D q]).length=O.length+1:=Nw;rw[hans];simp only[hDv]at hlen|-;exact⟨GG,_,_,_,rfl,hPD0.sub sG,by rw[hlen];exact zG,(mD.sub sG).app (bu.one (rR0.sub sG)),(XG.put hW 2 rfl).x⟩
        ·have g6:((w.vw:Int) != (v:Int))=true:=Nu;simp only[push_cast,seval,hE.z,f5,b6,g3,g4,g5,g6];exact finQ (by rw[hans,if_pos (.inr (.inr (.inr n4)))])
  ·have g2:((m.nc:Int) != (P.nc:Int))=true:=Nu;refine en hE Tryz.func63 rfl rfl Tryz.ntmps63 rfl Nv (rs:=[.cell 4 49,.tmp 5]) rfl ?_;simp only[push_cast,seval,hE.z,hW.b0,hW.b1,hW.b2,g1,g2];exact fin0 (by unfold cp;rw[if_pos (.inr hnc)])
 ·have g1:((P.st:Int) != 2)=true:=Nu;refine en hE Tryz.func63 rfl rfl Tryz.ntmps63 rfl Nv (rs:=[.cell 4 49,.tmp 5]) rfl ?_;simp only[push_cast,seval,hE.z,hW.b0,hW.b2,g1];exact fin0 (by unfold cp;rw[if_pos (.inl hst)])
end
end Go.Proofs.YthbjaiilnkakcaaGreatDoor
namespace Vr
structure KI(P:PR)(m:Mg):Prop where
 ln:m.log.length=m.op-m.bs
 bo:m.bs<=m.op
 im:eV m.img=false->m.bs<=m.cm/\m.cm<=m.op/\(P.cm<m.bs->jC m)
def fp(m:Mg)(Q:PR):PR×List Mg :=
 ((aq (bK Q m.vw 0) m.cm).1,(aq (bK Q m.vw 0) m.cm).2++if (aq (bK Q m.vw 0) m.cm).1.bF then [] else [okM (aq (bK Q m.vw 0) m.cm).1 (m.vw%Q.n)])
end Vr
namespace Go.Proofs.YthbjaiilnkakcaaGreatDoor
open Go.Tm Vr
variable{E:Env}(hE:EOk E)
include hE
section
variable{G:Mem}{h:ag}(hW:WF E h)(hG:Frz E G h){P:PR}{cs:List Value}(hP:PRR E G P cs)
include hW hG hP
theorem DM(z:P.Ok){m:Mg}{ms:List Value}(hm:MgR E G m ms)(k:m.Ok)(hc:KI P m) :
 af E 65 [.agg cs.toArray,.agg ms.toArray] h λv h'=>∃G' rc' co v2,v=.tuple #[.agg rc'.toArray,v2]/\PRR E G' (cP P m).1 rc'/\Fz E G' 17 (cP P m).2.length co v2/\bu E G' (cP P m).2 co/\Ext E G h G' h':=by
 have hP0:=hP;have hm0:=hm;obtain⟨a1,c1,a2,c2,a3,c3,a4,c4,a5,c5,a6,c6,a7,c7,ct,cc,ca,hrc,q1,⟨q2,q3,q4⟩,q5,q6,q7,q8⟩:=hP.e;subst hrc;obtain⟨b1,d1,b2,d2,b3,d3,hrm,m1,m2,m3⟩:=hm.e;subst hrm;have zn:=z.n;have zb:=z.bs;have zc:=z.cm;have zo:=z.op4;have ko:=k.n;have kl:=k.lg;have hln:=hc.ln;have hbo:=hc.bo;have hn1:h.next<=h.next+3:=Nr;have hPl:P.log.length<=P.op:=NH;have X1:=(((MX.start hW hG).new (o:=.cells (rCS P a1 c1 a2 c2 a3 c3 a4 c4 a5 c5 a6 c6 a7 c7) 49 true)).new (o:=.cells (mCS m b1 d1 b2 d2 b3 d3) 66 true)).new (o:=.cells zCR 49 true)
 have fin0:∀H rz,cP P m=(P,[])->MX E G h G H rz->rz[0]? = some (h.next+1+1,.cells zCR 49 true)->∃G' rc' co v2,(Value.tuple #[.agg (rCS P a1 c1 a2 c2 a3 c3 a4 c4 a5 c5 a6 c6 a7 c7).toArray,.slice none 0 0])=.tuple #[.agg rc'.toArray,v2]/\PRR E G' (cP P m).1 rc'/\Fz E G' 17 (cP P m).2.length co v2/\bu E G' (cP P m).2 co/\Ext E G h G' (H.put (h.next+1+1) (.cells (rCS P a1 c1 a2 c2 a3 c3 a4 c4 a5 c5 a6 c6 a7 c7) 49 true)):=λH rz e X hz=>by
  rw[e];exact⟨G,_,[],_,rfl,hP0,Fz.nil,rfl,(X.put hW 0 hz).x⟩
 refine en hE Tryz.func65 rfl rfl Tryz.ntmps65 rfl Nv (rs:=[.cell 4 49,.tmp 5]) rfl ?_;simp only[push_cast,seval,hE.z];refine gtA [2,3,4] λ_ f=>?_;simp only[push_cast,seval,gz]at f;refine MX.gen (motive:=λH=>aF E _ _ _ H) (B:=[(h.next+1+1,_),(h.next+1,_),(h.next,_)]) X1 λH1 X1=>?_;have b1':=X1.f3;refine kg [(18,20)] Nt Nt Nt λF hF=>?_;by_cases hst:P.st=0
 ·have g1:((P.st:Int) != 0)=false:=NV;by_cases h1:m.vw<P.vw
  ·have g2:decide ((m.vw:Int)<(P.vw:Int))=true:=Nu;simp only[push_cast,seval,hE.z,je,eL,dX,f,b1',g1,g2,cH];refine hF _ (by simp only[push_cast,seval,awu,false_implies]) ?_;simp only[push_cast,seval,hE.z,f,b1'];exact fin0 _ _ (by unfold cP;rw[if_pos (.inr (.inl h1))]) X1 rfl
  ·have g2:decide ((m.vw:Int)<(P.vw:Int))=false:=Nu;by_cases hskip:m.vw=P.vw/\m.op<=P.op
   ·have g3:((m.vw:Int)==(P.vw:Int))=true:=by simp[hskip.1]
    have g4:decide ((m.op:Int)<=(P.op:Int))=true:=Nu;simp only[push_cast,seval,hE.z,eL,dX,f,b1',g1,g2,g3];refine(dK hE X1.x.wf (hP0.sub X1.x.sub) Nr Nr).mono ?_;rintro w H2 ⟨rfl,k2⟩;have X2:=X1.kw k2;have b2':=X2.f3;simp only[push_cast,seval,je,eL,dX,g4];refine hF _ (by simp only[push_cast,seval,hE.z,b1',b2',aV]) ?_;simp only[push_cast,seval,hE.z,f,b2'];exact fin0 _ _ (by unfold cP;rw[if_pos (.inr (.inr hskip))]) X2 rfl
   ·have hne:¬(P.st≠0\/m.vw<P.vw\/(m.vw=P.vw/\m.op<=P.op)):=by
     rintro(h|h|h)
     ·exact h hst
     ·exact h1 h
     ·exact hskip h
    have hst2:cP P m=if !eV m.img then(if m.bs<=P.cm\/m.op<P.cm then(P,[]) else fp m (au P m)) else if m.vw=P.vw then(if P.op<m.bs then(P,[]) else fp m {P with log:=P.log++m.log.drop (P.op-m.bs)}) else if P.cm<m.bs\/m.op<P.cm then(P,[]) else fp m (au P m):=by
     have hin:(au P m).n=P.n:=by
      unfold au;split
      ·rfl
      ·split<;>rfl
     unfold cP;rw[if_neg hne];unfold fp;simp only[hin]
    rcases Classical.em (m.vw=P.vw) with h3|h3
    case' inl =>
     have g3:((m.vw:Int)==(P.vw:Int))=true:=by simp[h3]
     have g4:decide ((m.op:Int)<=(P.op:Int))=false:=Nu;simp only[push_cast,seval,hE.z,eL,dX,f,b1',g1,g2,g3];refine(dK hE X1.x.wf (hP0.sub X1.x.sub) Nr Nr).mono ?_;rintro w H2 ⟨rfl,k2⟩;have X2:=X1.kw k2;have b2':=X2.f3;simp only[push_cast,seval,je,eL,dX,g4];refine hF _ (by simp only[push_cast,seval,hE.z,b1',b2',aV]) ?_;simp only[push_cast,seval]
    case' inr =>
     have g3:((m.vw:Int)==(P.vw:Int))=false:=NF;have g4:=g3;simp only[push_cast,seval,hE.z,je,eL,dX,f,b1',g1,g2,g3];refine hF _ (by simp only[push_cast,seval,J2,false_implies]) ?_;simp only[push_cast,seval];have X2:=X1
    all_goals
     refine gtm (motive:=wpc E _ _) [2,3,4] λ_ f2=>?_;simp only[push_cast,seval,gz,f]at f2;refine MX.gen (motive:=λH=>wpc E _ _ _ H) X2 λH3 X3=>?_;have bx3:=X3.f3;refine Gp (λtm H=>(aj tm 2=ptr h.next/\aj tm 3=ptr (h.next+1)/\aj tm 4=ptr (h.next+1+1))/\∃I GI rI,PRR E GI I rI/\I.Ok/\I.n=P.n/\cP P m=fp m I/\MX E G h GI H [(h.next+1+1,.cells zCR 49 true),(h.next+1,.cells (mCS m b1 d1 b2 d2 b3 d3) 66 true),(h.next,.cells rI 49 true)]) ?_ ?_
     ·rintro tm H ⟨f3,I,GI,rI,hPI,zI,hIn,hgo,XI⟩;have hPI0:=hPI;obtain⟨A1,C1,A2,C2,A3,C3,A4,C4,A5,C5,A6,C6,A7,C7,CT,CC,CA,hrI,_⟩:=hPI.e;subst hrI;simp only[push_cast,seval,hE.z,f3,XI.f3];refine Go.Tm.aO [2,3,4] λ_ f4=>?_;simp only[push_cast,seval,gz,f3]at f4;refine(pd hE XI.x.wf XI.x.frz hPI0 Nr m.vw 0).mono ?_;rintro w H4 ⟨G4,rV,rfl,hPV,x4⟩;have zV:=zI.view (v:=m.vw) (s:=0) Nr;have hVn:(bK I m.vw 0).n=I.n:=rfl;have hVv:(bK I m.vw 0).vw=m.vw:=rfl;unfold fp at hgo;generalize bK I m.vw 0=V at *;have X4:=XI.call x4;have hPV0:=hPV;obtain⟨V1,D1,V2,D2,V3,D3,V4,D4,V5,D5,V6,D6,V7,D7,VT,VC,VA,hrV,_⟩:=hPV.e;subst hrV;simp only[push_cast,seval,hE.z,f4,X4.f3];refine Go.Tm.aO [2,3,4] λ_ f5=>?_;simp only[push_cast,seval,gz,f4]at f5;refine MX.gen (motive:=λH=>af E _ _ H _) (B:=[(h.next+1+1,_),(h.next+1,_),(h.next,_)]) (X4.put hW 2 rfl) λH5 X5=>?_;refine(gl hE X5.x.wf X5.x.frz hPV0 zV.toSz m.cm).mono ?_;rintro w H6 ⟨G6,rD,coD,vD,x6,hPD,oD,mD,nD,rfl⟩;have hcl:=eE V m.cm;have hDo:=(df (V.todo m.cm) V).1;have hDw:=(df (V.todo m.cm) V).2.1;have hDn:=(df (V.todo m.cm) V).2.2.2.1;have hDb:(aq V m.cm).1.bs=V.bs:=(jK V m.cm).1;have zVo:=zV.op4;have zVb:=zV.bs;have zVc:=zV.cm;change (aq V m.cm).1.op=V.op at hDo;change (aq V m.cm).1.n=V.n at hDn;change (aq V m.cm).1.vw=V.vw at hDw;generalize (aq V m.cm).1=D at *;generalize (aq V m.cm).2=O at *;have hDl:D.log.length<=D.op:=NH;have hDp:D.n=P.n:=by rw[hDn,hVn,hIn]
      have l5:=X5.lt 0 rfl;have olD:OL E (h.next+3) G6 H6 66 17 O.length coD vD:=⟨oD.low Nr,nD⟩;have X6:=X5.call x6;have hPD0:=hPD;obtain⟨B1,E1,B2,E2,B3,E3,B4,E4,B5,E5,B6,E6,B7,E7,ET,EC,EA,hrD,_⟩:=hPD.e;subst hrD;obtain⟨ua,uc,rfl,_⟩:=oD.fh;simp only[push_cast,seval,hE.z,f5,X6.f3];refine Go.Tm.aO [2,3,4,10] λ_ f6=>?_;simp only[push_cast,seval,gz,f5]at f6;refine MX.uW (motive:=λH=>af E _ _ H _) (B:=[(h.next+1+1,_),(h.next+1,_),(h.next,_)]) (X6.put hW 2 rfl) (olD.put (X6.at 2 rfl).1 (.inl Nr)) λH7 X7 ol7=>?_;refine(dH hE X7.x.wf hPD0 ⟨Nr,Nr⟩ Nr).mono ?_;rintro w H8 ⟨rfl,k8⟩;have X8:=X7.kw k8;have ol8:=ol7.kw k8
      cases hp:D.bF with
      |true =>rw[hp]at hgo;simp only[if_true,List.append_nil]at hgo;obtain⟨GG,zG,XG,sG,_⟩:=X8.still hW ol8 (djM (Nat.le_refl _)) hn1;simp only[push_cast,seval,hE.z,f6,XG.f3];rw[hgo];exact⟨GG,_,_,_,rfl,hPD0.sub sG,zG,mD.sub sG,(XG.put hW 0 rfl).x⟩
      | false =>
        rw[hp]at hgo;simp only[Bool.false_eq_true,if_false]at hgo;simp only[push_cast,seval];refine gtA [2,3,4,10] λ_ f7=>?_;simp only[push_cast,seval,gz,f6]at f7;refine MX.uW (motive:=λH=>aF E _ _ _ H) X8 ol8 λHA XA olA=>?_;obtain⟨q,hq⟩:∃q,q=m.vw%P.n:=⟨_,rfl⟩;have nz2:((D.n:Int)=0)=False:=by rw[hDp];simp;omega
        have hmod2:((D.vw:Int).tmod (D.n:Int))=(q:Int):=by rw[hDp,hDw,hVv,<-Int.ofNat_tmod,hq]
        have bA:=XA.f3;refine aB [(1,5),(3,5),(8,5),(10,5)] Nt Nt Nt ?_;simp only[push_cast,seval,hE.z,f7,bA];refine(dK hE XA.x.wf hPD0 Nr Nr).mono ?_;rintro w HB ⟨rfl,kB⟩;have XB:=XA.kw kB;have bB:=XB.f3;simp only[push_cast,seval,hE.z,f7,bA,bB,nz2,hmod2];refine(iU hE XB.x.wf hPD0 (m:={k:=3,vw:=D.vw,op:=D.op}) ⟨_,_,_,rfl,Fz.nil,Fz.nil,Fz.nil⟩ q).mono ?_;rintro w HC ⟨r,rfl,rR,kC⟩;have rR0:=rR;obtain⟨i1,j1,i2,j2,i3,j3,hr,_⟩:=rR.e;subst hr;have XC:=XB.kw kC;simp only[push_cast,seval,hE.z];rw[lf rfl,aR];simp only[push_cast,seval];have lC:=XC.lt 0 rfl;refine eZ (mz hE.P) XC.x.wf (lo:=h.next+3) Nr ((olA.kw kB).kw kC).own rfl rfl Nr Nr λv' HD ap hnx=>?_;obtain⟨xa,xc,rfl⟩:=ap.sl;obtain⟨XD,ol2⟩:=XC.app hW ((olA.kw kB).kw kC) (djM (Nat.le_refl _)) hn1 ap;obtain⟨GG,zG,XG,sG,_⟩:=XD.still hW ol2 (djM (Nat.le_refl _)) hn1;simp only[push_cast,seval,hE.z,f7,bA,bB,XG.f3,aV,bp,aU,aW,ba,bn];rw[hIn,<-hq]at hgo;have hlen:(O++[okM D q]).length=O.length+1:=Nw;rw[hgo];exact⟨GG,_,_,_,rfl,hPD0.sub sG,by rw[hlen];exact zG,(mD.sub sG).app (bu.one (rR0.sub sG)),(XG.put hW 0 rfl).x⟩
     ·by_cases hb:eV m.img=true
      ·have g5:decide ((0:Int)<(m.img.length:Int))=false:=by
        cases hi:m.img with
        |nil=>rfl
        |cons _ _=>rw[hi]at hb;cases hb
       simp only[push_cast,seval,hE.z,f2,bx3,g5];rw[hb]at hst2;simp only[Bool.not_true,Bool.false_eq_true,if_false]at hst2;rcases Classical.em (m.vw=P.vw) with h4|h4
       ·have g6:((m.vw:Int)==(P.vw:Int))=true:=by simp[h4]
        rw[if_pos h4]at hst2;simp only[push_cast,seval,g6];refine gtA [2,3,4] λ_ f3=>?_;simp only[push_cast,seval,gz,f2]at f3;refine MX.gen (motive:=λH=>aF E _ _ _ H) X3 λH4 X4=>?_;have bx4:=X4.f3;refine aB [(1,3)] Nt Nt Nt ?_;simp only[push_cast,seval,hE.z,f3,bx4];refine(dK hE X4.x.wf (hP0.sub X4.x.sub) Nr Nr).mono ?_;rintro w H5 ⟨rfl,k5⟩;have X5:=X4.kw k5;have bx5:=X5.f3;by_cases h5:P.op<m.bs
        ·have g7:decide ((P.op:Int)<(m.bs:Int))=true:=Nu;simp only[push_cast,seval,hE.z,f3,bx4,bx5,g7,aV];exact fin0 _ _ (by rw[hst2,if_pos h5]) X5 rfl
        ·have g7:decide ((P.op:Int)<(m.bs:Int))=false:=Nu;rw[if_neg h5]at hst2;simp only[push_cast,seval,hE.z,bx4,bx5,g7,aV];refine gtA [2,3,4] λ_ f4=>?_;simp only[push_cast,seval,gz,f3]at f4;refine MX.gen (motive:=λH=>aF E _ _ _ H) X5 λH6 X6=>?_;have bx6:=X6.f3;refine aB [(5,3),(5,7),(6,3),(9,3),(9,7)] Nt Nt Nt ?_;simp only[push_cast,seval,hE.z,f4,bx6];refine(iq hE X6.x.wf (hP0.sub X6.x.sub) X6.x.frz (k:=P.bs) ⟨Nat.le_refl _,Nr⟩ Nr).mono ?_;rintro v H7 ⟨o7,k7⟩;have hlg:dv P P.bs=P.log:=Oe;have hlen:P.op-P.bs=P.log.length:=NH;rw[hlg,hlen]at o7;obtain⟨va,vc,rfl,_⟩:=o7.fh;have lo6:=X6.lt 0 rfl;have X7:=X6.kw k7;have ol7:=OL.of X6 k7 o7 (lo:=h.next+3) Nr;have bx7:=X7.f3;simp only[push_cast,seval,hE.z,f4,bx6,bx7];refine(dK hE X7.x.wf (hP0.sub X7.x.sub) Nr Nr).mono ?_;rintro w H8 ⟨rfl,k8⟩;have X8:=X7.kw k8;have ol8:=ol7.kw k8;have bx8:=X8.f3;have hw:(Value.int .i64 (IntKind.i64.wrap ((P.op:Int)-(m.bs:Int))))=.int .i64 ((P.op-m.bs:Nat):Int):=iu Nr Nr;simp only[push_cast,seval,hE.z,f4,bx6,bx8];rw[hw];obtain⟨ua,uc,hu1,hu2⟩:=(m1.sub X8.x.sub).from (P:=Tryz.prog) (t:=37) Tryz.underlying37 ly (cB _) (k:=P.op-m.bs) Nr;rw[hu1,ab];simp only[push_cast,seval];rw[eC]at hu2;have lo8:=X8.lt 0 rfl;refine ej (jS hE.P) X8.x.wf X8.x.frz (lo:=h.next+3) Nr ol8.own hu2 (by rw[cB,List.length_drop]) (de _) Nr Nr λv' H9 ap=>?_;obtain⟨wa,wc,rfl⟩:=ap.sl;obtain⟨X9,ol9⟩:=X8.app hW ol8 (dj3 (i:=h.next+1+1) (j:=h.next+1) (l:=h.next)) hn1 ap;obtain⟨GA,zA,XA,sA,_⟩:=X9.still hW ol9 dj3 hn1;have bxA:=XA.f3;simp only[push_cast,seval,hE.z,f4,bx6,bx7,bx8,bxA,aV,bp,aU,aW,ba,bn];obtain⟨I,hI⟩:∃I:PR,I={P with log:=P.log++m.log.drop (P.op-m.bs)}:=⟨_,rfl⟩;have hil:(P.log++m.log.drop (P.op-m.bs)).length=P.log.length+(m.log.length-(P.op-m.bs)):=by rw[List.length_append,List.length_drop]
         have hIo:I.op=m.op:=by rw[hI];show P.bs+(P.log++m.log.drop (P.op-m.bs)).length=m.op;have e0:P.op=P.bs+P.log.length:=rfl;rw[hil];omega
         have zI:I.Ok:=by
          have e1:=hIo;rw[hI]at e1|-
          exact⟨⟨z.n,z.odd,z.me,z.vw,z.bs,by rw[e1];show P.cm<=m.op;omega,by rw[e1];omega,z.told,z.aG,z.aH,z.ans,z.tab,z.svl,z.srt,λe he=>by
           rcases List.mem_append.1 he with he|he
           ·exact z.ent e he
           ·exact k.ls e (List.mem_of_mem_drop he)⟩,z.es,by rw[e1];omega⟩
         have hPI:PRR E GA I (rC P (.slice wa (P.log.length+(m.log.length-(P.op-m.bs))) wc) (.slice a2 P.sv.l.length c2) (.slice a3 P.sv.tab.length c3) (.slice a4 P.told.length c4) (.slice a5 P.aG.length c5) (.slice a6 P.aH.length c6) (.slice a7 P.ans.length c7)):=by have t:=XA.x.sub;rw[<-fk,<-hil]at zA;rw[hI,<-hil];exact PRR.of (P:={P with log:=P.log++m.log.drop (P.op-m.bs)}) zA (q2.sub t) (q3.sub t) (q4.sub t) (q5.sub t) (q6.sub t) ⟨q7.1.sub t,q7.2.sub t⟩ ⟨q8.1.sub t,q8.2.sub t⟩
         exact⟨I,GA,_,hPI,zI,by rw[hI],by rw[hst2,hI],XA.put hW 2 rfl⟩
       ·have g6:((m.vw:Int)==(P.vw:Int))=false:=NF;rw[if_neg h4]at hst2;by_cases h5:P.cm<m.bs
        ·have g7:decide ((P.cm:Int)<(m.bs:Int))=true:=Nu;simp only[push_cast,seval,hE.z,f2,bx3,g6,g7];exact fin0 _ _ (by rw[hst2,if_pos (.inl h5)]) X3 rfl
        ·have g7:decide ((P.cm:Int)<(m.bs:Int))=false:=Nu;simp only[push_cast,seval,hE.z,f2,bx3,g6,g7];refine Go.Tm.aO [2,3,4] λ_ f3=>?_;simp only[push_cast,seval,gz,f2]at f3;by_cases h6:m.op<P.cm
         ·refine(mj hE X3.x.wf X3.x.frz (hP0.sub X3.x.sub) (hm0.sub X3.x.sub) h6).mono ?_;rintro w H4 ⟨rfl,k4⟩;have X4:=X3.kw k4;simp only[push_cast,seval,hE.z,f3,X4.f3];exact fin0 _ _ (by rw[hst2,if_pos (.inr h6)]) (X4.new.drop 1) rfl
         ·rw[if_neg (by rintro(h|h)<;>omega)]at hst2;refine(kV hE X3.x.wf X3.x.frz (hP0.sub X3.x.sub) z (hm0.sub X3.x.sub) hln k Nr (λh=>(h5 h).elim)).mono ?_;rintro w H4 ⟨G4,rI,rfl,hPI,x4⟩;have zI:=(z.mr hln k Nr (λh=>(h5 h).elim));have X4:=X3.call x4;have hPI0:=hPI;obtain⟨A1,C1,A2,C2,A3,C3,A4,C4,A5,C5,A6,C6,A7,C7,CT,CC,CA,hrI,_⟩:=hPI.e;subst hrI;simp only[push_cast,seval,hE.z,f3,X4.f3];exact⟨_,G4,_,hPI0,zI.1,zI.2.2.1,hst2,(X4.new.put hW 3 rfl).drop 1⟩
      ·have hb':eV m.img=false:=OY;have g5:decide ((0:Int)<(m.img.length:Int))=true:=by
        cases hi:m.img with
        |nil=>rw[hi]at hb;exact(hb rfl).elim
        |cons _ _=>simp
       have him:=hc.im hb';rw[hb']at hst2;simp only[Bool.not_false,if_true]at hst2;by_cases h5:m.bs<=P.cm
       ·have g7:decide ((m.bs:Int)<=(P.cm:Int))=true:=Nu;simp only[push_cast,seval,hE.z,f2,bx3,g5,g7];exact fin0 _ _ (by rw[hst2,if_pos (.inl h5)]) X3 rfl
       ·have g7:decide ((m.bs:Int)<=(P.cm:Int))=false:=Nu;simp only[push_cast,seval,hE.z,f2,bx3,g5,g7];refine Go.Tm.aO [2,3,4] λ_ f3=>?_;simp only[push_cast,seval,gz,f2]at f3;by_cases h6:m.op<P.cm
        ·refine(mj hE X3.x.wf X3.x.frz (hP0.sub X3.x.sub) (hm0.sub X3.x.sub) h6).mono ?_;rintro w H4 ⟨rfl,k4⟩;have X4:=X3.kw k4;simp only[push_cast,seval,hE.z,f3,X4.f3];exact fin0 _ _ (by rw[hst2,if_pos (.inr h6)]) (X4.new.drop 1) rfl
        ·rw[if_neg (by rintro(h|h)<;>omega)]at hst2;refine(kV hE X3.x.wf X3.x.frz (hP0.sub X3.x.sub) z (hm0.sub X3.x.sub) hln k Nr (λh=>⟨him.1,him.2.1,him.2.2 h⟩)).mono ?_;rintro w H4 ⟨G4,rI,rfl,hPI,x4⟩;have zI:=(z.mr hln k Nr (λh=>⟨him.1,him.2.1,him.2.2 h⟩));have X4:=X3.call x4;have hPI0:=hPI;obtain⟨A1,C1,A2,C2,A3,C3,A4,C4,A5,C5,A6,C6,A7,C7,CT,CC,CA,hrI,_⟩:=hPI.e;subst hrI;simp only[push_cast,seval,hE.z,f3,X4.f3];exact⟨_,G4,_,hPI0,zI.1,zI.2.2.1,hst2,(X4.new.put hW 3 rfl).drop 1⟩
 ·have g1:((P.st:Int) != 0)=true:=Nu;simp only[push_cast,seval,hE.z,je,eL,dX,f,b1',g1,cH];refine hF _ (by simp only[push_cast,seval,awu,false_implies]) ?_;simp only[push_cast,seval,hE.z,f,b1'];exact fin0 _ _ (by unfold cP;rw[if_pos (.inl hst)]) X1 rfl
end
end Go.Proofs.YthbjaiilnkakcaaGreatDoor
namespace Go.Tm
open Vr
theorem QR'.app{E:Env}{G:Mem}{h h':ag}{X:Nat->Prop}{P:PR}{out:List Mg}{r t n':Nat}{D:QD}{v':Value}{xs:List Ent}{cs':List Value}(hS:SO E G h X)(q:QR' E G h X P out r t D)(a:Apd E h h' 60 3 0 n' cs' D.vl v')(hn:n'=(P.log++xs).length)(hcs:cs'=cq (P.log++xs)) :
 ∃X',PX E G h X G (h'.put r (.cells (qC {P with log:=P.log++xs} t D.c v' D.vt D.vv D.vo) 78 true)) X'/\QR' E G (h'.put r (.cells (qC {P with log:=P.log++xs} t D.c v' D.vt D.vv D.vo) 78 true)) X' {P with log:=P.log++xs} out r t {D with vl:=v'}:=by
 subst hn;subst hcs;have hr:=q.hr;have hX:∀b,b∈slB D.vl->X b:=λb hb=>q.hx b NN;have hrn:r∉slB D.vl:=q.hl.tag hr λc fx e=>by injection e with _ e;cases e
 have hr7:=a.get r _ hr hrn;have p7:=PX.app hS a hX;have p8:=p7.trans hS.wf (PX.put (o:=.cells (qC {P with log:=P.log++xs} t D.c v' D.vt D.vv D.vo) 78 true) p7.so (.inl q.xr) hr7);refine⟨_,p8,q.lg (vl':=v') (P':={P with log:=P.log++xs}) (Sub.refl _) ND (λb o hb hn hg=>by rw[ai,if_neg (λe=>hb e.symm)];exact a.get b o hg hn) ?_ rfl rfl rfl rfl (λb hb=>.inl hb) (λb hb=>.inr hb)⟩
 exact a.own.at λb o hb hg=>by
  rw[ai,if_neg (λe=>?_)]
  ·exact hg
  ·subst e;exact a.own.tag hr7 (λc fx e=>by injection e with _ e;cases e) hb
end Go.Tm
namespace Go.Proofs.YthbjaiilnkakcaaGreatDoor
open Go.Tm Vr
variable{E:Env}(hE:EOk E)
include hE
section
variable{G:Mem}{h:ag}{X:Nat->Prop}(hS:SO E G h X){P:PR}{out:List Mg}{r t:Nat}(hQ:QR E G h X P out r t)
include hS hQ
theorem zx(z:P.Ok)(ho:out.length<=100){m:Mg}{ms:List Value}(hm:MgR E G m ms)(k:m.Ok)(hc:KI P m)(hco:m.cm<=m.op):af E 44 [ptr r,.agg ms.toArray] h λv h'=>v=.tuple #[]/\∃G' X',PX E G h X G' h' X'/\QR E G' h' X' (cP P m).1 (out++(cP P m).2) r t:=by
 have zn:=z.n;have zo:=z.op4;have zc:=z.cm;have ko:=k.n;have hW:=hS.wf;have hm0:=hm;have hbo:=hc.bo;have hPl:P.op=P.bs+P.log.length:=rfl;obtain⟨b1,d1,b2,d2,b3,d3,rfl,m1,m2,m3⟩:=hm.e;have Y1:=(PY.start hS).new hS.wf (o:=.cells (mCS m b1 d1 b2 d2 b3 d3) 66 true);have q1:=(PY.start hS).qk hQ (o:=.cells (mCS m b1 d1 b2 d2 b3 d3) 66 true);have e1:decide ((m.op:Int)<(m.bs:Int))=false:=Nu;have e2:decide ((m.op:Int)<(m.cm:Int))=false:=Nu;have e3:((m.log.length:Int) != IntKind.i64.wrap ((m.op:Int)-(m.bs:Int)))=false:=by rw[cx (by omega) (by omega)];have:=hc.ln;simp;omega
 have fin0:∀{H:ag},cP P m=(P,[])->PX E G h X G H X->QR E G H X P out r t->∃G' X',PX E G h X G' H X'/\QR E G' H X' (cP P m).1 (out++(cP P m).2) r t:=λe p q=>by
  rw[e];exact⟨G,X,p,PZ⟩
 obtain⟨D,hr,hx⟩:=q1.dd;have f1:=Y1.r1 hr hx;refine en hE Tryz.func44 rfl rfl Tryz.ntmps44 rfl Nv (rs:=[]) rfl ?_;rcases hie:eV m.img
 case' true =>
  have hil:m.img.length=0:=by
   unfold eV at hie
   cases hi:m.img with
   |nil=>rfl
   |cons a l=>rw[hi]at hie;cases hie
  have e4:decide ((0:Int)<(m.img.length:Int))=false:=by simp[hil]
  simp only[push_cast,seval,hE.z,hW.b0,f1,e1,e2,e3,e4];refine gtA [0,3] λ_ f=>?_;simp only[push_cast,seval,gz]at f;refine PY.gen (motive:=λH=>aF E _ _ _ H) Y1 q1 λH1 Y1 q1=>?_
 case' false =>
  have hil:0<m.img.length:=by
   unfold eV at hie
   cases hi:m.img with
   |nil=>rw[hi]at hie;cases hie
   |cons a l=>simp
  have e4:decide ((0:Int)<(m.img.length:Int))=true:=Nu;obtain⟨hi1,hi2,hi3⟩:=hc.im hie;have hmd:fU m=true:=by unfold fU;simp only[Bool.and_eq_true,decide_eq_true_eq,beq_iff_eq];exact⟨⟨hi1,hi2⟩,hc.ln⟩
  simp only[push_cast,seval,hE.z,hW.b0,f1,e1,e2,e3,e4];refine Go.Tm.aO [0,3,27,32] λ_ fa=>?_;simp only[push_cast,seval,gz]at fa;refine PY.gen (motive:=λH=>af E _ _ H _) Y1 q1 λH1 Y1 q1=>?_;refine(sX hE Y1.p.so.wf (hm0.sub Y1.p.sub) hmd Nr).mono ?_;rintro w H2 ⟨rfl,k2⟩;simp only[push_cast,seval,fa];refine gtA [0,3] λ_ f=>?_;simp only[push_cast,seval,gz,fa]at f;refine PY.gen (motive:=λH=>aF E _ _ _ H) (Y1.kw hW k2) (q1.ext (k2.ext Y1.p.so.frz)) λH1 Y1 q1=>?_
 all_goals
  obtain⟨D1,hr1,hx1⟩:=q1.dd;have f1:=Y1.r1 hr1 hx1;refine ax Nt ?_;clear hie;by_cases hst:P.st=0
  case neg =>have g1:((P.st:Int) != 0)=true:=Nu;simp only[push_cast,seval,hE.z,f,f1,g1,cH];exact fin0 (by unfold cP;rw[if_pos (.inl hst)]) Y1.p q1
  have g1:((P.st:Int) != 0)=false:=NV;by_cases h1:m.vw<P.vw
  case pos =>have g2:decide ((m.vw:Int)<(P.vw:Int))=true:=Nu;simp only[push_cast,seval,hE.z,f,f1,g1,g2,cH];exact fin0 (by unfold cP;rw[if_pos (.inr (.inl h1))]) Y1.p q1
  have g2:decide ((m.vw:Int)<(P.vw:Int))=false:=Nu;by_cases hskip:m.vw=P.vw/\m.op<=P.op
  case pos =>
   have g3:((m.vw:Int)==(P.vw:Int))=true:=by simp[hskip.1]
   have g4:decide ((m.op:Int)<=(P.op:Int))=true:=Nu;simp only[push_cast,seval,hE.z,f,f1,g1,g2,g3,g4];exact fin0 (by unfold cP;rw[if_pos (.inr (.inr hskip))]) Y1.p q1
  have hne:¬(P.st≠0\/m.vw<P.vw\/(m.vw=P.vw/\m.op<=P.op)):=by
   rintro(h|h|h)
   ·exact h hst
   ·exact h1 h
   ·exact hskip h
  have hst2:cP P m=if !eV m.img then(if m.bs<=P.cm\/m.op<P.cm then(P,[]) else fp m (au P m)) else if m.vw=P.vw then(if P.op<m.bs then(P,[]) else fp m {P with log:=P.log++m.log.drop (P.op-m.bs)}) else if P.cm<m.bs\/m.op<P.cm then(P,[]) else fp m (au P m):=by
   have hin:(au P m).n=P.n:=by
    unfold au;split
    ·rfl
    ·split<;>rfl
   unfold cP;rw[if_neg hne];unfold fp;simp only[hin]
  have hv2:m.vw=P.vw\/¬m.vw=P.vw:=Classical.em _
  rcases(show((((m.vw:Int)==(P.vw:Int))=true/\decide ((m.op:Int)<=(P.op:Int))=false)\/(((m.vw:Int)==(P.vw:Int))=false/\((m.vw:Int)==(P.vw:Int))=false)) by
   rcases hv2 with h4|h4
   ·left;exact⟨by simp[h4],Nu⟩
   ·right;exact⟨NF,NF⟩) with⟨g3,g4⟩|⟨g3,g4⟩
 all_goals
  simp only[push_cast,seval,hE.z,f,f1,g1,g2,g3,g4];clear e4;refine gtK [0,3] λ_ f2=>?_;simp only[push_cast,seval,gz,f]at f2;rcases hie:eV m.img
  case' false =>
   have hil:0<m.img.length:=by
    unfold eV at hie
    cases hi:m.img with
    |nil=>rw[hi]at hie;cases hie
    |cons a l=>simp
   have e4:decide ((0:Int)<(m.img.length:Int))=true:=Nu;obtain⟨hi1,hi2,hi3⟩:=hc.im hie;rw[hie]at hst2;simp only[Bool.not_false,if_true]at hst2;simp only[push_cast,seval,e4];refine gtA [0,3] λ_ f3=>?_;simp only[push_cast,seval,gz,f2]at f3;refine ax Nt ?_;by_cases hb:m.bs<=P.cm
   case pos =>have g5:decide ((m.bs:Int)<=(P.cm:Int))=true:=Nu;simp only[push_cast,seval,hE.z,f3,f1,g5];exact fin0 (by rw[hst2,if_pos (.inl hb)]) Y1.p q1
   have g5:decide ((m.bs:Int)<=(P.cm:Int))=false:=Nu;simp only[push_cast,seval,hE.z,f3,f1,g5];by_cases h5:m.op<P.cm
   case pos =>
    refine(og hE Y1.p.so q1 (hm0.sub Y1.p.sub) h5).mono ?_;rintro w H2 ⟨rfl,p2,q2⟩
    try simp only[push_cast,seval]
    exact fin0 (by rw[hst2,if_pos (.inr h5)]) (Y1.p.trans hW p2) q2
   refine(jv hE Y1.p.so q1 z (hm0.sub Y1.p.sub) hc.ln k hbo Nr (λh=>⟨hi1,hi2,hi3 h⟩)).mono ?_;rintro w H2 ⟨rfl,G2,X2,p2,q2⟩;obtain⟨zQ,ho1,hQn,hQm,-⟩:=z.mr hc.ln k Nr (λh=>⟨hi1,hi2,hi3 h⟩);have hgo:cP P m=fp m (au P m):=O1;obtain⟨Q,hQd⟩:∃Q,Q=au P m:=⟨_,rfl⟩;rw[<-hQd]at zQ hQn hQm hgo q2 ho1;have Y2:=Y1.call hW p2;obtain⟨D2,hr2,hx2⟩:=q2.dd;have b2:=Y2.r1 hr2 hx2
   try simp only[push_cast,seval,hE.z,f3,b2]
  case' true =>
   have hil:m.img.length=0:=by
    unfold eV at hie
    cases hi:m.img with
    |nil=>rfl
    |cons a l=>rw[hi]at hie;cases hie
   have e4:decide ((0:Int)<(m.img.length:Int))=false:=by simp[hil]
   rw[hie]at hst2;simp only[Bool.not_true,Bool.false_eq_true,if_false]at hst2;simp only[push_cast,seval,e4];refine gtA [0,3] λ_ f3=>?_;simp only[push_cast,seval,gz,f2]at f3;refine ax Nt ?_;rcases Classical.em (m.vw=P.vw) with hv|hv
   case' inl =>
    have g5:((m.vw:Int)==(P.vw:Int))=true:=PG;rw[if_pos hv]at hst2;simp only[push_cast,seval,hE.z,f3,f1,g5];refine ax Nt ?_;by_cases h5:P.op<m.bs
    case pos =>have g6:decide ((P.op:Int)<(m.bs:Int))=true:=Nu;simp only[push_cast,seval,hE.z,f3,f1,g6];exact fin0 (by rw[hst2,if_pos h5]) Y1.p q1
    have g6:decide ((P.op:Int)<(m.bs:Int))=false:=Nu;have hgo:cP P m=fp m {P with log:=P.log++m.log.drop (P.op-m.bs)}:=by rw[hst2,if_neg h5]
    simp only[push_cast,seval,hE.z,f3,f1,g6];obtain⟨⟨dc,vl,vt,vv,vo⟩,q⟩:=q1;have f1:=Y1.r1 q.hr q.xr;obtain⟨ya,yc,hy,hys⟩:=(m1.sub Y1.p.sub).from (P:=Tryz.prog) (t:=37) Tryz.underlying37 ly (cB _) (k:=P.op-m.bs) (by have:=hc.ln;omega);rw[eC,<-List.length_drop]at hys;have hw:(Value.int .i64 (IntKind.i64.wrap ((P.op:Int)-(m.bs:Int))))=.int .i64 ((P.op-m.bs:Nat):Int):=iu Nr Nr;refine gtA [0,3] λ_ f4=>?_;simp only[push_cast,seval,gz,f3]at f4;refine ax Nt ?_;simp only[push_cast,seval,hE.z,f4,f1];rw[hw,hy,ab];simp only[push_cast,seval];rw[<-List.length_drop];have hdl:(m.log.drop (P.op-m.bs)).length<=10000:=by rw[List.length_drop];have:=k.lg;omega
    refine ej (jS hE.P) Y1.p.so.wf Y1.p.so.frz (lo:=0) (n:=P.log.length) (m:=(m.log.drop (P.op-m.bs)).length) (Nat.zero_le _) q.hl hys (cB _) (de _) Nr Nr λv' H5 ap=>?_;obtain⟨wa,wc,rfl⟩:=ap.sl;have hrn:r∉slB vl:=q.hl.tag q.hr λc fx e=>by injection e with _ e;cases e
    have p5:=PX.app Y1.p.so ap λb hb=>q.hx b NN;have b5:=(Y1.call hW p5).r1 (ap.get r _ q.hr hrn) (.inl q.xr);simp only[push_cast,seval,hE.z,f4,b5];obtain⟨Q,hQd⟩:∃Q:PR,Q={P with log:=P.log++m.log.drop (P.op-m.bs)}:=⟨_,rfl⟩;have hIo:PR.op {P with log:=P.log++m.log.drop (P.op-m.bs)}=m.op:=by show P.bs+(P.log++m.log.drop (P.op-m.bs)).length=m.op;rw[List.length_append,List.length_drop];have:=hc.ln;have:¬(m.vw=P.vw/\m.op<=P.op):=hskip;omega
    have zQ:Q.Ok:=by
     have e1:=hIo;have:¬(m.vw=P.vw/\m.op<=P.op):=hskip;rw[hQd]
     exact⟨⟨z.n,z.odd,z.me,z.vw,z.bs,by rw[e1];show P.cm<=m.op;omega,by rw[e1];omega,z.told,z.aG,z.aH,z.ans,z.tab,z.svl,z.srt,λe he=>by
      rcases List.mem_append.1 he with he|he
      ·exact z.ent e he
      ·exact k.ls e (List.mem_of_mem_drop he)⟩,z.es,by rw[e1];omega⟩
    have hQn:Q.n=P.n:=by rw[hQd]
    have hQm:Q.me=P.me:=by rw[hQd]
    obtain⟨X6,p6,q6⟩:=QR'.app (xs:=m.log.drop (P.op-m.bs)) Y1.p.so q ap (by rw[List.length_append]) (by rw[fk]);have q2:QR E G (H5.put r (.cells (qC {P with log:=P.log++m.log.drop (P.op-m.bs)} t dc (.slice wa (P.log.length+(m.log.drop (P.op-m.bs)).length) wc) vt vv vo) 78 true)) X6 Q out r t:=by rw[hQd];exact⟨_,q6⟩
    have Y2:=Y1.call hW p6;rw[<-hQd]at hgo;rw[<-hIo];have f3:=f4
   case' inr =>
    have g5:((m.vw:Int)==(P.vw:Int))=false:=NF;rw[if_neg hv]at hst2;simp only[push_cast,seval,hE.z,f3,f1,g5];refine ax Nt ?_;by_cases hb:P.cm<m.bs
    case pos =>have g6:decide ((P.cm:Int)<(m.bs:Int))=true:=Nu;simp only[push_cast,seval,hE.z,f3,f1,g6];exact fin0 (by rw[hst2,if_pos (.inl hb)]) Y1.p q1
    have g6:decide ((P.cm:Int)<(m.bs:Int))=false:=Nu;simp only[push_cast,seval,hE.z,f3,f1,g6];by_cases h5:m.op<P.cm
    case pos =>
     refine(og hE Y1.p.so q1 (hm0.sub Y1.p.sub) h5).mono ?_;rintro w H2 ⟨rfl,p2,q2⟩
     try simp only[push_cast,seval]
     exact fin0 (by rw[hst2,if_pos (.inr h5)]) (Y1.p.trans hW p2) q2
    refine(jv hE Y1.p.so q1 z (hm0.sub Y1.p.sub) hc.ln k hbo Nr (λh=>absurd h hb)).mono ?_;rintro w H2 ⟨rfl,G2,X2,p2,q2⟩;obtain⟨zQ,ho1,hQn,hQm,-⟩:=z.mr hc.ln k Nr (λh=>absurd h hb);have hgo:cP P m=fp m (au P m):=O1;obtain⟨Q,hQd⟩:∃Q,Q=au P m:=⟨_,rfl⟩;rw[<-hQd]at zQ hQn hQm hgo q2 ho1;have Y2:=Y1.call hW p2;obtain⟨D2,hr2,hx2⟩:=q2.dd;have b2:=Y2.r1 hr2 hx2
    try simp only[push_cast,seval,hE.z,f3,b2]
 all_goals
  refine Go.Tm.aO [0,3] λ_ f5=>?_;simp only[push_cast,seval,gz,f3]at f5;refine PY.gen (motive:=λH=>af E _ _ H _) Y2 q2 λH2 Y2 q2=>?_;refine(mY hE Y2.p.so q2 Nr m.vw).mono ?_;rintro w H3 ⟨rfl,X3,p3,q3⟩;have Y3:=Y2.call hW p3;obtain⟨D3,hr3,hx3⟩:=q3.dd;have f6:=Y3.r1 hr3 hx3;have zv3:=zQ.view (v:=m.vw) (s:=0) Nr;simp only[push_cast,seval,hE.z,f5,f6];refine(kh hE p3.so q3 zv3.toSz Nr m.cm).mono ?_;rintro w H4 ⟨rfl,G4,X4,p4,q4⟩;have Y4:=Y3.call hW p4
  try simp only[push_cast,seval]
  refine gtA [0,3] λ_ f8=>?_;simp only[push_cast,seval,gz,f5]at f8;refine aB [(5,1)] Nt Nt Nt ?_;have hcl:=eE (bK Q m.vw 0) m.cm;obtain⟨V,hV⟩:∃V,V=bK Q m.vw 0:=⟨_,rfl⟩;have hVn:V.n=P.n:=by rw[hV];exact hQn
  have hVm:V.me=P.me:=by rw[hV];exact hQm
  have hVv:V.vw=m.vw:=by rw[hV];rfl
  unfold fp at hgo;rw[<-hV]at q4 zv3 hcl hgo;have kkp:=df (V.todo m.cm) V;have hCw:=kkp.2.1;have hCm:=kkp.2.2.1;have hCn:=kkp.2.2.2.1;change (aq V m.cm).1.vw=V.vw at hCw;change (aq V m.cm).1.me=V.me at hCm;change (aq V m.cm).1.n=V.n at hCn;have zVo:=zv3.op4;generalize (aq V m.cm).1=C at *;generalize (aq V m.cm).2=O at *;obtain⟨D4,hr4,hx4⟩:=q4.dd;have f7:=Y4.r1 hr4 hx4;have hpr:=jr hE p4.so q4 ⟨Nr,Nr⟩ Nr;obtain⟨pr,hpd⟩:∃pr,pr=C.vw%C.n:=⟨_,rfl⟩;rw[<-hpd]at hpr;have hpQ:m.vw%Q.n=pr:=by rw[hpd,hCw,hVv,hCn,hVn,hQn]
  simp only[push_cast,seval,f8];refine hpr.mono ?_;rintro w H5 ⟨rfl,rfl⟩;by_cases hpm:pr=P.me
  ·have g7:((pr:Int) != (C.me:Int))=false:=by rw[hCm,hVm];simp[hpm]
   have hpp:C.bF=true:=by unfold PR.bF;rw[<-hpd,hCm,hVm,hpm];simp
   rw[hpp,if_pos rfl,List.append_nil]at hgo;simp only[push_cast,seval,hE.z,f8,f7,g7,aV];rw[hgo];exact⟨G4,X4,Y4.p,q4⟩
  ·have g7:((pr:Int) != (C.me:Int))=true:=by rw[hCm,hVm];simp;omega
   have hpp:C.bF=false:=by unfold PR.bF;rw[<-hpd,hCm,hVm];simp[hpm]
   rw[hpp,if_neg Nw,hpQ]at hgo;simp only[push_cast,seval,hE.z,f8,f7,g7,aV];refine gtA [0,3] λ_ f9=>?_;simp only[push_cast,seval,gz,f8]at f9;refine aB [(6,2),(10,2)] Nt Nt Nt ?_;simp only[push_cast,seval,f9];refine hpr.mono ?_;rintro w H6 ⟨rfl,rfl⟩;simp only[push_cast,seval,hE.z,f9,f7];refine(gd hE p4.so q4 N0 (m:={k:=3,vw:=C.vw,op:=C.op}) ⟨_,_,_,rfl,Fz.nil,Fz.nil,Fz.nil⟩ pr).mono ?_;rintro w H7 ⟨rfl,X7,p7,q7⟩;simp only[push_cast,seval,hE.z,f7,aV];rw[hgo];exact⟨G4,X7,(Y4.call hW p7).p,by rw[List.append_assoc]at q7;exact q7⟩
end
end Go.Proofs.YthbjaiilnkakcaaGreatDoor
namespace Go.Tm
open Vr
theorem xx:∀(es:List MapEntry) (ks:List Nat) (k:Nat),es.map (·.key)=ks.map (λi=>iv i)->(k∉ks/\cE (iv k) es=none)\/∃j,ks[j]? = some k/\cE (iv k) es=some j
 |[],[],k,_=>.inl ⟨Nw,rfl⟩
 |[],_::_,_,h=>N7
 |_::_,[],_,h=>N7
 | e::es,i::ks,k,h=>by
   simp only[List.map_cons,List.cons.injEq]at h;obtain⟨h1,h2⟩:=h;by_cases hik:k=i
   ·right;refine⟨0,by simp[hik],?_⟩;simp only[cE,h1];rw[if_pos Nr]
   ·have hne:¬((k:Int)=(i:Int)):=Nr;rcases xx es ks k h2 with⟨h3,h4⟩|⟨j,h3,h4⟩
    ·left;refine⟨by simp[hik,h3],?_⟩;simp only[cE,h1];rw[if_neg hne,h4];rfl
    ·right;refine⟨j+1,by simpa using h3,?_⟩;simp only[cE,h1];rw[if_neg hne,h4];rfl
theorem Ku{es:List MapEntry}{ks:List Nat}(h:es.map (·.key)=ks.map (λi=>iv i)):∀e,e∈es->∃i:Nat,e.key=iv i:=λe he=>by
 have h1:e.key∈es.map (·.key):=List.mem_map_of_mem he;rw[h]at h1;obtain⟨i,_,h2⟩:=List.mem_map.1 h1;exact⟨i,h2.symm⟩
theorem CmR.keys{E:Env}{G:Mem}{es:List MapEntry}{ck:Nat}{L:List Mg}(q:CmR E G es ck L):∃ks:List Nat,ks.Nodup/\es.map (·.key)=ks.map (λi=>iv i)/\es.length=ks.length/\(∀i,i∈ks↔∃m,L[i]? = some m/\m.k≠0) /\
 ∀(j k:Nat),ks[j]? = some k->∃e m cs,es[j]? = some e/\e.key=iv k/\e.val=.agg cs.toArray/\L[k]? = some m/\MgR E G m cs:=by
 obtain⟨h0,ks,h1,h2,h3,h4⟩:=q;refine⟨ks,h1,?_,h2,h3,h4⟩;apply List.ext_getElem?;intro j;rw[List.getElem?_map,List.getElem?_map]
 cases hj:ks[j]? with
 | none =>
   have:es[j]? = Option.none:=by rw[List.getElem?_eq_none_iff]at hj|-;omega
   rw[this];rfl
 |some k =>obtain⟨e,m,cs,a1,a2,_⟩:=h4 j k hj;rw[a1];simp[a2]
theorem CmR.len{E:Env}{G:Mem}{es:List MapEntry}{ck:Nat}{L:List Mg}(q:CmR E G es ck L):es.length=(bI L).length:=by
 obtain⟨ks,h1,h2,h3,h4,h5⟩:=q.keys;have hm:∀p:Nat×Mg,p∈bI L↔L[p.1]? = some p.2/\p.2.k≠0:=by
  intro p;unfold bI;simp only[List.mem_filter,List.mem_map,bne_iff_ne,Prod.exists];constructor
  ·rintro⟨⟨m,i,hmi,rfl⟩,hk⟩;have:=List.mem_zipIdx_iff_getElem?.1 hmi;exact⟨this,hk⟩
  ·rintro⟨ha,hb⟩;refine⟨⟨p.2,p.1,List.mem_zipIdx_iff_getElem?.2 ha,rfl⟩,hb⟩
 have hnd:((bI L).map Prod.fst).Nodup:=by
  unfold bI;have h6:((L.zipIdx.map λp=>(p.2,p.1)).map Prod.fst).Nodup:=by rw[List.map_map];have:(Prod.fst ∘ λp:Mg×Nat=>(p.2,p.1))=Prod.snd:=rfl;rw[this,List.zipIdx_map_snd];exact List.nodup_range'
  exact h6.sublist (List.filter_sublist.map _)
 have hp:ks.Perm ((bI L).map Prod.fst):=by
  rw[List.perm_ext_iff_of_nodup h1 hnd];intro i;rw[h4];constructor
  ·rintro⟨m,a,b⟩;exact List.mem_map.2 ⟨(i,m),(hm _).2 ⟨a,b⟩,rfl⟩
  ·intro h;obtain⟨p,a,rfl⟩:=List.mem_map.1 h;exact⟨p.2,(hm _).1 a⟩
 rw[h3,hp.length_eq,List.length_map]
end Go.Tm
namespace Go.Proofs.YthbjaiilnkakcaaGreatDoor
open Go.Tm Vr
variable{h:ag}{ck:Nat}{G:Mem}{L:List Mg}
variable{E:Env}(hE:EOk E)
include hE
theorem Dd{es:List MapEntry}{ks:List Nat}(h:es.map (·.key)=ks.map (λi=>iv i))(k:Nat):fg E.P 3 (iv k) es=true:=by have hu:=Tryz.underlying3;rw[hE.P];simp only[fg,hu,List.all_eq_true];intro e he;obtain⟨i,hi⟩:=Ku h e he;rw[hi];simp
theorem Ap{c:Nat}{es:List MapEntry}(hc:h.get c=some (.map es ck))(q:CmR E G es ck L):mI E h 76 (.map (some c))=some (iv (bI L).length):=by unfold mI nI;rw[hE.P,Tryz.underlying76];simp only[hc];rw[q.len]
theorem mX{c:Nat}{es:List MapEntry}(hc:h.get c=some (.map es ck))(q:CmR E G es ck L)(k:Nat)(ok:Bool) :
 (∃m cs,L[k]? = some m/\m.k≠0/\MgR E G m cs/\fe E h 76 (.map (some c)) (iv k) ok=some (if ok then .tuple #[.agg cs.toArray,.bool true] else .agg cs.toArray)) \/
 ((∀m,L[k]? = some m->m.k=0)/\fe E h 76 (.map (some c)) (iv k) ok=some (if ok then .tuple #[.agg (mgC {} (.slice none 0 0) (.slice none 0 0) (.slice none 0 0)).toArray,.bool false] else .agg (mgC {} (.slice none 0 0) (.slice none 0 0) (.slice none 0 0)).toArray)):=by
 obtain⟨ks,h1,h2,h3,h4,h5⟩:=q.keys;have ha:=Dd hE h2 k
 have hl:∀x,(match cE (iv k) es with
  | some i=>match es[i]? with
    |some e=>some (if ok then .tuple #[e.val,.bool true] else e.val)
    |none=>none
  | none=>match dw E.P 66 with
    |some z=>some (if ok then .tuple #[z,.bool false] else z)
    |none=>none)=x->fe E h 76 (.map (some c)) (iv k) ok=x:=λx hx=>by
  rw[<-hx];unfold fe nI;have hu:E.P.underlying 76=some (.map 3 66):=Ph;rw[hu];simp only[hc];rw[ha];rfl
 rcases xx es ks k h2 with⟨a1,a2⟩|⟨j,a1,a2⟩
 ·right;refine⟨λm hm=>?_,hl _ ?_⟩
  ·by_cases hk:m.k=0
   ·exact hk
   ·exact absurd ((h4 k).2 ⟨m,hm,hk⟩) a1
  ·rw[a2];simp only;rw[hE.P,AE];rfl
 ·left;obtain⟨e,m,cs,b1,b2,b3,b4,b5⟩:=h5 j k a1;obtain⟨m',c1,c2⟩:=(h4 k).1 (List.mem_of_getElem? a1);rw[b4]at c1;injection c1 with c1;subst c1;refine⟨m,cs,b4,c2,b5,hl _ ?_⟩;rw[a2];simp only[b1,b3]
theorem uk{c:Nat}{es:List MapEntry}(hc:h.get c=some (.map es ck))(q:CmR E G es ck L){k:Nat}(hk:k<L.length){m:Mg}{cs:List Value}(hm:MgR E G m cs)(hmk:m.k≠0) :
 ∃es' ck',eK E h 76 (.map (some c)) (iv k) (.agg cs.toArray)=some (h.put c (.map es' ck'))/\CmR E G es' ck' (L.set k m):=by
 obtain⟨ks,h1,h2,h3,h4,h5⟩:=q.keys;obtain⟨⟨n1,n2⟩,_⟩:=q;have ha:=Dd hE h2 k
 have hl:eK E h 76 (.map (some c)) (iv k) (.agg cs.toArray)=(match cE (iv k) es with
  |some i=>some (h.put c (.map (es.modify i λe=>{e with key:=iv k,val:=.agg cs.toArray}) ck))
  |none=>some (h.put c (.map (es++[{key:=iv k,val:=.agg cs.toArray,born:=ck}]) (ck+1)))):=by
  unfold eK;have hu:E.P.underlying 76=some (.map 3 66):=Ph;rw[hu];simp only[hc];rw[ha];rfl
 rw[hl];rcases xx es ks k h2 with⟨a1,a2⟩|⟨j,a1,a2⟩
 ·rw[a2];refine⟨_,_,rfl,⟨?_,λe he=>?_⟩,ks++[k],?_,by simp[h3],λi=>?_,λj i hj=>?_⟩
  ·rw[List.map_append,List.nodup_append];refine⟨n1,Nw,λx hx y hy=>?_⟩;obtain⟨e,he,rfl⟩:=List.mem_map.1 hx;simp at hy;subst hy;have:=n2 e he;intro e1;omega
  ·rcases List.mem_append.1 he with he|he
   ·have:=n2 e he;omega
   ·simp at he;subst he;exact Nat.lt_succ_self _
  ·rw[List.nodup_append];refine⟨h1,Nw,λx hx y hy=>?_⟩;simp at hy;subst hy;intro e1;subst e1;exact a1 hx
  ·rw[List.mem_append,h4,List.mem_singleton,List.getElem?_set];by_cases hik:k=i
   ·subst hik;rw[if_pos rfl,if_pos hk];exact⟨λ_=>⟨m,rfl,hmk⟩,λ_=>.inr rfl⟩
   ·rw[if_neg hik];constructor
    ·rintro(h|h)
     ·exact h
     ·exact absurd h.symm hik
    ·exact .inl
  ·rw[List.getElem?_append]at hj;split at hj
   ·rename_i hjl;obtain⟨e,m',cs',b1,b2,b3,b4,b5⟩:=h5 j i hj;have hik:k≠i:=λe1=>a1 (by rw[e1];exact List.mem_of_getElem? hj);refine⟨e,m',cs',by rw[List.getElem?_append_left Nr];exact b1,b2,b3,by rw[List.getElem?_set,if_neg hik];exact b4,b5⟩
   ·rename_i hjl;have hj0:j-ks.length=0:=by have:=(List.getElem?_eq_some_iff.1 hj).1;simp at this;omega
    rw[hj0]at hj;simp at hj;subst hj;refine⟨_,m,cs,by rw[List.getElem?_append_right Nr,show j-es.length=0 by omega];rfl,rfl,rfl,by rw[List.getElem?_set,if_pos rfl,if_pos hk],hm⟩
 ·rw[a2];have hkm:k∈ks:=List.mem_of_getElem? a1;have hbm:(es.modify j λe=>{e with key:=iv k,val:=.agg cs.toArray}).map (·.born)=es.map (·.born):=by
   apply List.ext_getElem?;intro i;rw[List.getElem?_map,List.getElem?_map,List.getElem?_modify]
   cases es[i]? with
   |none=>rfl
   |some e=>simp only[Option.map_some,Option.map_eq_map];split<;>rfl
  refine⟨_,_,rfl,⟨by rw[hbm];exact n1,λe he=>?_⟩,ks,h1,by rw[List.length_modify];exact h3,λi=>?_,λi l hi=>?_⟩
  ·have:e.born∈es.map (·.born):=by rw[<-hbm];exact List.mem_map_of_mem he
   obtain⟨e',he',heq⟩:=List.mem_map.1 this;have:=n2 e' he';omega
  ·rw[h4,List.getElem?_set];by_cases hik:k=i
   ·subst hik;rw[if_pos rfl,if_pos hk];exact⟨λ_=>⟨m,rfl,hmk⟩,λ_=>(h4 k).1 hkm⟩
   ·rw[if_neg hik]
  ·obtain⟨e,m',cs',b1,b2,b3,b4,b5⟩:=h5 i l hi;rw[List.getElem?_modify,b1];by_cases hij:j=i
   ·subst hij;rw[a1]at hi;injection hi with hi;subst hi;refine⟨_,m,cs,rfl,Nw,Nw,by rw[List.getElem?_set,if_pos rfl,if_pos hk],hm⟩
   ·have hkl:k≠l:=λe1=>by
     subst e1;have l1:=(List.getElem?_eq_some_iff.1 a1).1;exact hij ((List.getElem?_inj l1 h1).1 (by rw[a1,hi]))
    refine⟨_,m',cs',rfl,by simp[hij,b2],by simp[hij,b3],by rw[List.getElem?_set,if_neg hkl];exact b4,b5⟩
end Go.Proofs.YthbjaiilnkakcaaGreatDoor
