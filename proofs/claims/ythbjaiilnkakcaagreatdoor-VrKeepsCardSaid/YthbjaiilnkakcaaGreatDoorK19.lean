/- THE LAW VrKeeps answers true whatever the number and the events, and leaves what was there as it was. Conditions: those of its row (the listed variables; the form's own reach), no more; by the tie the card. -/
import Derived.Test.YthbjaiilnkakcaaGreatDoorK18
import Derived.Test.YthbjaiilnkakcaaGreatDoorCards
import Derived.Test.YthbjaiilnkakcaaGreatDoorTie
import Derived.ProofKit
import Derived.OpenShut
import Derived.Lay
import Derived.Deep.DeepHandedRow
import Derived.Carry
set_option linter.all false
set_option maxRecDepth 10000
set_option maxHeartbeats 8000000
namespace Vr
def Bd(T:Nat)(m:Mg):Prop:=m.vw<=T/\m.op<=T/\m.cm<=T/\m.bs<=T/\m.nm<=T/\m.nc<=T/\m.log.length<=T/\m.img.length<=1+16*T
theorem Bd.ok{T:Nat}{m:Mg}(hT:T<=10000)(b:Bd T m)(e:EB m):m.Ok:=by obtain⟨b1,b2,b3,b4,b5,b6,b7,b8⟩:=b;exact⟨⟨Nr,Nr,Nr,Nr,Nr,Nr⟩,Nr,Nr,e.en,e.lg⟩
theorem MI.bd{n T:Nat}{g:Gh}{P:Nat->PR}{m:Mg}(h:MI n T g P m):Bd T m:=⟨h.b.1,h.b.2.1,h.b.2.2.1,h.b.2.2.2.1,h.b.2.2.2.2.1,h.b.2.2.2.2.2,h.lg,h.im⟩
section
variable{n T:Nat}{g:Gh}{vw:Nat->Nat}(hT:T<=10000)(I:GI n T g vw)
theorem Wh.made{v:Nat}{m:Mg}(w:Wh n g v m):fU m=true:=by
 have h1:=w.bc;have h2:=w.co;have h3:=w.ol;have h4:m.log.length=m.op-m.bs:=by rw[w.log,List.length_drop,List.length_take];omega
 unfold fU;simp[h1,h2,h4]
include hT I
theorem GI.es{v:Nat}(hs:g.st v):∀e,e∈g.M v->eI 10000 e:=λe he=>eI.mono hT (I.ent v e hs he)
theorem Wh.CV{v:Nat}{m:Mg}(w:Wh n g v m)(hb:0<m.bs):jC m :=
 ⟨(g.M v).take m.cm,by rw[w.img,if_pos hb],Oj,λe he=>I.es hT w.st e (List.mem_of_mem_take he)⟩
theorem wq{i:Nat}{p:PR}{m:Mg}(hme:p.me=i)(hlen:p.aH.length=n)(hin:i<n)(hL:LG n g p.nm p)(hW:∀(j:Nat) x,p.aH[j]? = some x->x.k≠0->Wh n g x.nm x/\(j=i->x.nm=p.nm/\x.op=p.op))
 (hbd:∀x,x∈p.aH->Bd T x) (heb:∀x,x∈p.aH->EB x) (hm:Wh n g m.nm m) (hmo:m.fr=i->m.nm=p.nm/\m.op=p.op) (bm:Bd T m) (em:EB m):lu p m:=by
 have hcm:∀(j:Nat) x,(cO p m)[j]? = some x->(x=m/\j=m.fr)\/p.aH[j]? = some x:=by
  intro j x hx;unfold cO at hx;split at hx
  ·rw[List.getElem?_set]at hx;by_cases hj:m.fr=j
   ·rw[if_pos hj]at hx;split at hx
    ·injection hx with hx;exact .inl ⟨hx.symm,hj.symm⟩
    ·cases hx
   ·rw[if_neg hj]at hx;exact .inr hx
  ·exact .inr hx
 have hall:∀(j:Nat) x,(cO p m)[j]? = some x->x.k≠0->(Wh n g x.nm x/\(j=i->x.nm=p.nm/\x.op=p.op))/\Bd T x/\EB x:=by
  intro j x hx hk;rcases hcm j x hx with⟨rfl,rfl⟩|h1
  ·exact⟨⟨hm,hmo⟩,bm,em⟩
  ·have:=List.mem_of_getElem? h1;exact⟨hW j x h1 hk,hbd x this,heb x this⟩
 refine⟨λx hx=>?_,λhgo b hb hne=>?_⟩
 ·obtain⟨j,hj⟩:=List.mem_iff_getElem?.1 hx;rcases hcm j x hj with⟨rfl,_⟩|h1
  ·have:=bm.2.2.1;omega
  ·have:=(hbd x (List.mem_of_getElem? h1)).2.2.1;omega
 ·obtain⟨hb1,hb2⟩:=jA (iB hb);obtain⟨⟨w,_⟩,bb,eb⟩:=hall _ _ hb1 hb2;obtain⟨_,hbest⟩:=r7 hb;have hlen':(cO p m).length=n:=by unfold cO;split<;>simp[hlen]
  have hil:i<(cO p m).length:=Nr;have hgi:(cO p m)[i]? = some (cO p m)[i]:=List.getElem?_eq_getElem hil;have hgD:(cO p m).getD p.me {}=(cO p m)[i]:=by rw[hme,List.getD_eq_getElem?_getD,hgi];rfl
  rw[hgD]at hgo;have hok:(cO p m)[i].k≠0:=λh=>hgo (.inr h);generalize hog:(cO p m)[i]=o at *;obtain⟨⟨_,ho⟩,_,_⟩:=hall i o hgi hok;obtain⟨o1,o2⟩:=ho rfl;have hle:=hbest (i,o) (iz.2 ⟨hgi,hok⟩);have hco:=hL.co;refine⟨w.made,bb.ok hT eb,?_,λh=>w.CV hT I Nr⟩;rcases hle with h1|⟨h1,h2⟩
  ·have h1':p.nm<b.2.nm:=by have:o.nm<b.2.nm:=h1;omega
   have:=(hL.cd.up I w.st h1').1;have:=w.so;omega
  ·have h2':o.op<=b.2.op:=h2;omega
end
section
variable{n T i:Nat}{g:Gh}{P:Nat->PR}(hT:T<=10000)(hn:3<=n/\n<=7)(hodd:n%2=1)(I:GI n T g λj=>(P j).vw)(hi:i<n)
include hT hn hodd I hi
theorem RI.ok{Q:Nat->PR}{p:PR}(h:RI n T g Q i p):p.Ok:=by
 obtain⟨o1,o2,o3,o4⟩:=RI.opT I h;have hv:=h.vw;have key:p.bs<=p.cm/\∃v,g.st v/\p.sv=bj ((g.M v).take p.cm)/\∀e,e∈p.log->e∈g.M v:=by
  by_cases hs:p.st=2
  ·have r:=h.rr hs;exact⟨by rw[r.bs,r.cm];exact Nat.le_refl _,0,I.z0,by rw[r.sv,r.cm];rfl,λe he=>by rw[r.log]at he;simp at he⟩
  ·have r:=(h.ra hs).lg;exact⟨r.bc,_,r.st,r.sv,λe he=>by rw[r.log]at he;exact List.mem_of_mem_take (List.mem_of_mem_drop he)⟩
 obtain⟨k1,v,k2,k3,k4⟩:=key;have z:=pQ ((g.M v).take p.cm);have hl:((g.M v).take p.cm).length<=p.cm:=Oj;have es:=I.es hT k2;refine⟨⟨by rw[h.nn];exact hn,by rw[h.nn];exact hodd,by rw[h.me,h.nn];exact hi,Nr,k1,o4,Nr,?_,?_,?_,?_,?_,?_,?_,λe he=>?_⟩,λe he=>?_,Nr⟩
 ·rw[h.nn];exact h.ls.1
 ·rw[h.nn];exact h.ls.2.1
 ·rw[h.nn];exact h.ls.2.2.1
 ·rw[h.nn];exact h.ls.2.2.2
 ·rw[k3];omega
 ·rw[k3];omega
 ·rw[k3];exact z.2.2
 ·obtain⟨e1,e2,e3,e4,_⟩:=es e (k4 e he);exact⟨Nr,Nr⟩
 ·rw[k3]at he;exact es e (List.mem_of_mem_take (pR _ e he))
theorem RI.jq{Q:Nat->PR}{p:PR}(h:RI n T g Q i p)(L:LI p):rl p :=
 ⟨λh1=>⟨⟨λj x hx hk=>((h.ra Nr).cm h1 j x hx hk).2.1,(h.ra Nr).c0 h1⟩,L.ow⟩,L.an⟩
variable(h:RI n T g P i (P i))(L:LI (P i)){m:Mg}(hm:MI n T g P m)(em:EB m)(hto:m.to=i)
include h L hm em hto
theorem RI.MV(hs:(P i).st≠2):Cn (P i) m:=by
 have r:=h.ra hs;have hne:=hm.ne;rw[hto]at hne;refine⟨λhk _=>?_,λhk a ha hv hst=>?_⟩
 ·obtain⟨w,_⟩:=hm.k7 hk;exact⟨w.made,λh1=>w.CV hT I Nr⟩
 ·have hA:a.me=i/\a.n=n/\a.aH.length=n/\LG n g a.nm a/\(∀(j:Nat) x,a.aH[j]? = some x->x.k≠0->Wh n g x.nm x/\(j=i->x.nm=a.nm/\x.op=a.op))/\(∀x,x∈a.aH->Bd T x)/\(∀x,x∈a.aH->EB x)/\a.vw<=T/\a.nm<=T/\LI a:=by
   rw[ha];split
   ·have hrep:∀x,x∈(bO (P i) m.vw).1.aH->x={}:=λx hx=>List.eq_of_mem_replicate (show x∈List.replicate (P i).n {} from hx);refine⟨h.me,h.nn,?_,⟨r.lg.st,r.lg.log,r.lg.bc,r.lg.co,r.lg.so,r.lg.ol,r.lg.cd,r.lg.sv⟩,λj x hx hk=>?_,λx hx=>?_,λx hx=>?_,hm.b.1,?_,(L.start (by rw[h.nn];omega) _).1⟩
    ·show(List.replicate (P i).n ({}:Mg)).length=n;simp[h.nn]
    ·rw[hrep x (List.mem_of_getElem? hx)]at hk;exact absurd rfl hk
    ·rw[hrep x hx];exact⟨Nat.zero_le _,Nat.zero_le _,Nat.zero_le _,Nat.zero_le _,Nat.zero_le _,Nat.zero_le _,Nat.zero_le _,Nat.zero_le _⟩
    ·rw[hrep x hx];exact EB.def
    ·show(P i).nm<=T;have:=h.nm;have:=h.vw;omega
   ·rename_i hnv;have h1:(P i).st=1:=by rw[ha,if_neg hnv]at hst;exact hst
    refine⟨h.me,h.nn,h.ls.2.2.1,r.lg,λj x hx hk=>?_,λx hx=>h.mb x (List.mem_append_left _ hx),L.cs,h.vw,by show(P i).nm<=T;have:=h.nm;have:=h.vw;omega,L⟩
    obtain⟨_,_,_,c4,c5⟩:=r.cm h1 j x hx hk;exact⟨c4.w,c5⟩
  obtain⟨a1,a2,a3,a4,a5,a6,a7,a8,a9,a10⟩:=hA;refine⟨λh5 _=>?_,λh6 _=>?_⟩
  ·have hq:LG n g (jY a m.fr).nm (jY a m.fr):=⟨a4.st,a4.log,a4.bc,a4.co,a4.so,a4.ol,a4.cd,a4.sv⟩;have hw:=hq.wh (m:={k:=6,vw:=a.vw,nm:=a.nm}) rfl (a.vw%a.n);obtain⟨b1,b2,b3,b4,b5⟩:=oZ hT I (Q:=P) hq (m:={k:=6,vw:=a.vw,nm:=a.nm}) rfl;refine wq hT I (p:=jY a m.fr) (i:=i) a1 a3 hi hq a5 a6 a7 hw (λ_=>⟨rfl,rfl⟩) ⟨a8,b1,b2,b3,a9,Nat.zero_le _,b4,b5⟩ ?_;exact⟨eb0,a10.lg⟩
  ·obtain⟨d,_⟩:=hm.k6 h6;exact wq hT I a1 a3 hi a4 a5 a6 a7 d.w (λe=>absurd e hne) hm.bd em
theorem RI.Nd(hk:m.k=9):JQ (P i) m:=by
 intro hs hnc;have r:=h.rr hs;refine⟨λx hx=>?_,λw hw hgo=>?_⟩
 ·rcases List.mem_or_eq_of_mem_set hx with hx|hx
  ·have:=(h.mb x (List.mem_append_right _ hx)).1;omega
  ·rw[hx];have:=hm.b.1;omega
 ·have hwk:w.k≠0:=λe=>hgo (.inr (.inr (.inl e)));have hwv:w.vw=cU ((P i).ans.set m.fr m):=Classical.byContradiction λe=>hgo (.inr (.inr (.inr e)));rw[r.cm];have hg:((P i).ans.set m.fr m)[cU ((P i).ans.set m.fr m)%(P i).n]? = some w:=by
   rw[List.getD_eq_getElem?_getD]at hw
   cases hq:((P i).ans.set m.fr m)[cU ((P i).ans.set m.fr m)%(P i).n]? with
   |none=>rw[hq]at hw;rw[hw]at hwk;exact absurd rfl hwk
   |some x=>rw[hq]at hw;rw[hw];rfl
  rw[List.getElem?_set,<-hwv,h.nn]at hg;have key:Wh n g w.vw w/\Bd T w/\EB w:=by
   by_cases hf:m.fr=w.vw%n
   ·rw[if_pos hf]at hg;split at hg
    ·injection hg with hg;subst hg;exact⟨((hm.k9 hk).2 hf).1,hm.bd,em⟩
    ·cases hg
   ·rw[if_neg hf]at hg;obtain⟨_,_,_,_,_,c6⟩:=r.an _ _ hg hwk;have:=List.mem_of_getElem? hg;exact⟨(c6 rfl).1,h.mb w (List.mem_append_right _ this),L.asx w this⟩
  obtain⟨w1,w2,w3⟩:=key;exact⟨w1.made,w2.ok hT w3,Nat.zero_le _,λh1=>w1.CV hT I h1⟩
theorem RI.Ke:rk (P i) m:=by
 have hk:=hm.k;have hne:=hm.ne;rw[hto]at hne;refine⟨?_,λhk h0 hp hv=>?_,λ_ _ hs=>RI.MV hT hn hodd I hi h L hm em hto hs,λhk=>RI.Nd hT hn hodd I hi h L hm em hto hk,λhk=>?_⟩
 ·have h1:(m.to==(P i).me)=true:=by rw[h.me,hto];simp
  have h2:(decide (m.fr<(P i).n)&&m.fr != (P i).me)=true:=by rw[h.me,h.nn];have:=hm.fr;simp[this,hne]
  unfold fW;rw[h1,h2];have h3:decide (1<=m.k)=true:=Nu;have h4:decide (m.k<=11)=true:=Nu;rw[h3,h4];simp only[Bool.true_and,Bool.or_true];by_cases h6:m.k=6\/m.k=7\/m.k=9
  ·rw[if_pos h6];rcases h6 with h6|h6|h6
   ·exact(hm.k6 h6).1.w.made
   ·exact(hm.k7 h6).1.made
   ·obtain⟨x1,x2,x3⟩:=(hm.k9 h6).1;unfold fU;simp[x1,x2,x3]
  ·rw[if_neg h6];by_cases h11:m.k=11
   ·rw[if_pos h11];obtain⟨_,x2,x3,_,x5,x6,_,x8⟩:=hm.k11 h11;have hl:m.log.length=m.op-m.bs:=by rw[x2,List.length_drop,List.length_take];omega
    have hbi:(decide (m.bs<=m.cm)||eV m.img)=true:=by
     rcases x8 with e|⟨w,_⟩
     ·rw[e];simp[eV]
     ·have:=w.bc;simp[this]
    rw[hbi];simp[x3,x6,hl]
   ·rw[if_neg h11]
 ·obtain⟨hst,ha⟩:=hm.k3 hk;have r:=h.ra Nr;have hnm:=r.s0 h0;have hpi:=(gK h.nn h.me).1 hp;obtain⟨p1,_⟩:=r.pr Pc;rw[p1,hnm,<-hv];by_cases h0':g.ack m.vw m.fr=0
  ·omega
  ·have:=(I.ak m.vw m.fr Nr).2.1;omega
 ·obtain⟨_,x2,x3,_,x5,x6,_,x8⟩:=hm.k11 hk;have hl:m.log.length=m.op-m.bs:=by rw[x2,List.length_drop,List.length_take];omega
  refine⟨hl,x3,λhe=>?_⟩;rcases x8 with e|⟨w,hb⟩
  ·rw[e]at he;simp[eV]at he
  ·exact⟨w.bc,w.co,λ_=>w.CV hT I hb⟩
end
theorem SR.small{n T T' i:Nat}{g:Gh}{P:Nat->PR}{r:PR×List Mg}(hT:T'<=10000)(hn:3<=n/\n<=7)(hodd:n%2=1)(hi:i<n)(h:SR n T T' g P i r)(ls:LS r):r.1.Ok/\∀x,x∈r.2->x.log.length<=1000000/\x.img.length<=100000000:=by
 obtain⟨gh',a,I',r',m'⟩:=h;refine⟨RI.ok hT hn hodd I' hi r',λx hx=>?_⟩;rcases(ls.2 x hx).2 with h1|⟨h1,h2⟩
 ·have:=m' x hx h1;have h3:=this.lg;have h4:=this.im;exact⟨Nr,Nr⟩
 ·rw[h1,h2];simp
end Vr
namespace Go.Proofs.YthbjaiilnkakcaaGreatDoor
open Go.Tm Vr
variable{m:Mg}{nk:Nat}
variable{E:Env}(hE:EOk E)
include hE
section
variable{G:Mem}{h:ag}{Z:Nat->Prop}{n bD bS:Nat}{g:GP}{i:Nat}(hW:WF E h)(hi:i<n)
include hW hi
theorem wx(z:(g.P i).Ok)(k:m.Ok)(ok:rk (g.P i) m)(po:rl (g.P i))(z':(bX (g.P i) m).1.Sz)(hol:(bX (g.P i) m).2.length<=1000000/\∀x,x∈(bX (g.P i) m).2->x.log.length<=1000000/\x.img.length<=100000000) :
 nJ E G h Z n bD bS g i 0 0 m (bX (g.P i) m):=by
 refine⟨λ{H G' L Y cs xs ms} c hm=>?_⟩;refine uC hE c hW hi (.inl rfl) Nr hm hol.1 ?_ ?_
 ·intro G1 H X pr pt pc s q hp hm1;refine(Is hE s q hp z hm1 k ok po z' hol).mono ?_;rintro v h' ⟨G',X',rc',p,q,r,rfl⟩;exact⟨G',X',rc',_,_,p,q,r,rfl⟩
 ·intro G1 H pc w f hp hm1;unfold xg;rw[if_pos rfl];refine(pE hE w f hp z hm1 k ok).mono ?_;rintro v h' ⟨G',rc',co,v2,x,_,y,r,rfl⟩;exact⟨G',_,co,v2,x,y,r,rfl⟩
theorem vg{m:Mg}(hnk:nk<65536)(z:(g.P i).Ok)(z':(bw (g.P i)).1.Sz)(hol:(bw (g.P i)).2.length<=1000000/\∀x,x∈(bw (g.P i)).2->x.log.length<=1000000) :
 nJ E G h Z n bD bS g i 10 nk m (bw (g.P i)):=by
 refine⟨λ{H G' L Y cs xs ms} c hm=>?_⟩;refine uC hE c hW hi (.inr (.inl rfl)) hnk hm hol.1 ?_ ?_
 ·intro G1 H X pr pt pc s q hp hm1;refine(xG hE s q hp hm1 z z' hol).mono ?_;rintro v h' ⟨G',X',rc',p,q,r,rfl⟩;exact⟨G',X',rc',_,_,p,q,r,rfl⟩
 ·intro G1 H pc w f hp hm1;unfold xg;rw[if_neg Nz,if_pos rfl];refine(ru hE w f hp z).mono ?_;rintro v h' ⟨G',rc',co,v2,rfl,_,y,r,x⟩;exact⟨G',_,co,v2,x,y,r,rfl⟩
theorem Cl{m:Mg}(hnk:nk<65536)(z:(g.P i).Ok)(hol:(idle (g.P i)).length<=1000000/\∀x,x∈idle (g.P i)->x.log.length<=1000000) :
 nJ E G h Z n bD bS g i 11 nk m (g.P i,idle (g.P i)):=by
 refine⟨λ{H G' L Y cs xs ms} c hm=>?_⟩;refine uC hE c hW hi (.inr (.inr (.inl rfl))) hnk hm hol.1 ?_ ?_
 ·intro G1 H X pr pt pc s q hp hm1;refine(FN hE s q hp hm1 z hol).mono ?_;rintro v h' ⟨G',X',p,q,rfl⟩;exact⟨G',X',pc,_,_,p,q,hp.sub p.sub,rfl⟩
 ·intro G1 H pc w f hp hm1;unfold xg;rw[if_neg Nz,if_neg Nz,if_pos rfl];exact pF hE w f hp z
theorem AB(hnk:nk<=1000)(z:(g.P i).Ok)(z':(eO (g.P i) nk).Sz):nJ E G h Z n bD bS g i 12 nk m (eO (g.P i) nk,[]):=by
 refine⟨λ{H G' L Y cs xs ms} c hm=>?_⟩;refine uC hE c hW hi (.inr (.inr (.inr (.inl rfl)))) Nr hm Nw ?_ ?_
 ·intro G1 H X pr pt pc s q hp hm1;refine(BT hE s q hp hm1 z z' hnk).mono ?_;rintro v h' ⟨G',X',rc',p,q,r,rfl⟩;exact⟨G',X',rc',_,_,p,q,r,rfl⟩
 ·intro G1 H pc w f hp hm1;unfold xg;rw[if_neg Nz,if_neg Nz,if_neg Nz,if_pos rfl]
theorem vh(hnk:nk<65536)(hn:(g.P i).n=3\/(g.P i).n=5\/(g.P i).n=7)(hme:(g.P i).me<(g.P i).n)(hv:(g.P i).vw<=1000000)(z':(bH (g.P i) nk).1.Sz):nJ E G h Z n bD bS g i 13 nk m (bH (g.P i) nk):=by
 refine⟨λ{H G' L Y cs xs ms} c hm=>?_⟩;have hol:(bH (g.P i) nk).2.length<=1000000:=by have h1:=iI (bH (g.P i) nk).1 {k:=8,nc:=nk};have h2:(bH (g.P i) nk).2=(bH (g.P i) nk).1.allM {k:=8,nc:=nk}:=rfl;have h3:(bH (g.P i) nk).1.n=(g.P i).n:=rfl;rw[h2];omega
 refine uC hE c hW hi (.inr (.inr (.inr (.inr rfl)))) hnk hm hol ?_ ?_
 ·intro G1 H X pr pt pc s q hp hm1;refine(xJ hE s q hp hm1 hn hme hv hnk z').mono ?_;rintro v h' ⟨G',X',rc',r',t',p,q,r,rfl⟩;exact⟨G',X',rc',_,_,p,q,r,rfl⟩
 ·intro G1 H pc w f hp hm1;unfold xg;rw[if_neg Nz,if_neg Nz,if_neg Nz,if_neg Nz];refine(rG hE w f hn nk).mono ?_;rintro v h' ⟨G',mc,co,v2,rfl,_,o,r,_,x⟩;obtain⟨G2,y,x2,s2,_⟩:=x.iY o;exact⟨G2,_,co,v2,x2,y,r.sub s2,rfl⟩
end
end Go.Proofs.YthbjaiilnkakcaaGreatDoor
namespace Vr
structure GQ(n:Nat)(gh:Gh)(g:GP):Prop where
 vi:GVI n gh g
 li:GL n g
 nl:g.net.length<=400+g.time
structure J5(p:PR)(m:Mg):Prop where
 z:p.Ok
 k:m.Ok
 ok:rk p m
 po:rl p
 z':(bX p m).1.Sz
 hol:(bX p m).2.length<=1000000/\∀x,x∈(bX p m).2->x.log.length<=1000000/\x.img.length<=100000000
theorem Ck(net out:List Mg):(da net out).length<=max net.length 400:=by unfold da;rw[List.length_append,List.length_take];omega
theorem ta(n:Nat)(g:GP)(e:Ev):(evG n g e).net.length<=max (g.net.length+1) 400/\(evG n g e).time=g.time+1:=by
 have act:∀(g':GP) (i:Nat) (r:PR×List Mg),g'.net.length<=g.net.length->g'.time=g.time+1->(g'.act i r).net.length<=max (g.net.length+1) 400/\(g'.act i r).time=g.time+1:=by intro g' i r h1 h2;have:=Ck g'.net r.2;exact⟨by show(da g'.net r.2).length<=_;omega,h2⟩
 have id:∀g':GP,g'.net.length<=g.net.length+1->g'.time=g.time+1->g'.net.length<=max (g.net.length+1) 400/\g'.time=g.time+1:=λg' h1 h2=>⟨Nr,h2⟩;unfold evG;simp only;split
 ·unfold Ag;simp only;split
  ·exact id _ (Nat.le_succ _) rfl
  ·exact act _ _ _ (Nat.le_refl _) rfl
 split
 ·unfold ud;simp only;split
  ·exact id _ (Nat.le_succ _) rfl
  split
  ·exact id _ Nw rfl
  have hl:∀k,(g.net.take k++g.net.drop (k+1)).length<=g.net.length:=λk=>by
   rw[List.length_append,List.length_take,List.length_drop];omega
  split
  ·exact id _ (Nat.le_succ_of_le (hl _)) rfl
  ·exact act _ _ _ (hl _) rfl
 split
 ·exact id _ (Nat.le_succ _) rfl
 split
 ·exact act _ _ _ (Nat.le_refl _) rfl
 split
 ·split
  ·exact id _ (Nat.le_succ _) rfl
  ·exact id _ (Nat.le_succ _) rfl
 split
 ·exact id _ (Nat.le_succ _) rfl
 ·exact act _ _ _ (Nat.le_refl _) rfl
theorem GQ.new{n:Nat}(hn:0<n):GQ n Gh.new (GP.new n):=⟨GVI.new hn,GL.new n,by simp[GP.new]⟩
section
variable{n:Nat}{gh:Gh}{g:GP}(hn:3<=n/\n<=7)(hodd:n%2=1)(q:GQ n gh g)(ht:g.time<=1000)
include hn hodd q ht
theorem GQ.event(e:Ev):∃gh',GQ n gh' (evG n g e)/\oR n gh gh':=by obtain⟨gh',h1,h2⟩:=q.vi.event hodd Nr e;have h3:=ta n g e;have h4:=q.nl;refine⟨gh',⟨h1,q.li.event Nr (λi hi=>(q.vi.ri i hi).nn) (λm hm=>(q.vi.mi m hm).to) (λc=>by have:=q.vi.sb c;omega) e,by rw[h3.2];omega⟩,h2⟩
variable{i:Nat}(hi:i<n)
include hi
theorem GQ.ok:(g.P i).Ok:=RI.ok Nr hn hodd q.vi.gi hi (q.vi.ri i hi)
theorem GQ.prog:rl (g.P i):=RI.jq (T:=g.time) Nr hn hodd q.vi.gi hi (q.vi.ri i hi) (q.li.li i hi)
theorem GQ.many{m:Mg}(hm:m.log.length<=10000):(bX (g.P i) m).2.length<=1000000:=by
 have h1:=RI.opT q.vi.gi (q.vi.ri i hi);have h2:(g.P i).log.length<=10000:=by have:(g.P i).op=(g.P i).bs+(g.P i).log.length:=rfl;omega
 have h3:=Jc h2 (m:=m) (λx hx=>by have:=((q.vi.ri i hi).mb x hx).2.2.2.2.2.2.1;omega) hm
 have h4:=(q.vi.ri i hi).nn;omega
theorem GQ.aJ{r:PR×List Mg}(hs:SR n g.time (g.time+1) gh g.P i r)(ls:LS r):r.1.Ok/\∀x,x∈r.2->x.log.length<=1000000/\x.img.length<=100000000:=hs.small Nr hn hodd hi ls
theorem GQ.Mb{m:Mg}(hm:m∈g.net)(hto:m.to=i):J5 (g.P i) m:=by have mi:=q.vi.mi m hm;have em:=q.li.eb m hm;have ri:=q.vi.ri i hi;have li:=q.li.li i hi;have ls:=li.step (by rw[ri.nn];omega) em;have hs:=q.aJ hn hodd ht hi (GO (Nat.le_succ _) Nr q.vi.gi hi hodd ri mi hto) ls;exact⟨q.ok hn hodd ht hi,mi.bd.ok Nr em,RI.Ke Nr hn hodd q.vi.gi hi ri li mi em hto,q.prog hn hodd ht hi,hs.1.toSz,q.many hn hodd ht hi (by have:=mi.lg;omega),hs.2⟩
theorem GQ.Lc{c k:Nat}(hc:1<=c/\c<=4)(hk:1<=k/\k<=g.time+1):J5 (g.P i) (iN i c k):=by
 have ri:=q.vi.ri i hi;have li:=q.li.li i hi;have em:EB (iN i c k):=CH hc.2 Nr;have ls:=li.step (by rw[ri.nn];omega) em;have hgood:fW (g.P i) (iN i c k)=true:=by
  unfold fW;have h4:¬((iN i c k).k=6\/(iN i c k).k=7\/(iN i c k).k=9):=by show¬((1:Nat)=6\/(1:Nat)=7\/(1:Nat)=9);omega
  rw[if_neg h4,ri.me];simp[iN]
 have hstep:bX (g.P i) (iN i c k)=request (g.P i) (iN i c k):=by unfold bX;rw[hgood];simp[iN]
 have he:eI (g.time+1) (iN i c k).en:=⟨hc.1,hc.2,hk.1,hk.2,rfl⟩;have hsr:=vP (T':=g.time+1) (Nat.le_refl _) q.vi.gi hi ri he;rw[<-hstep]at hsr;have hs:=q.aJ hn hodd ht hi hsr ls;refine⟨q.ok hn hodd ht hi,⟨⟨Nat.zero_le _,Nat.zero_le _,Nat.zero_le _,Nat.zero_le _,Nat.zero_le _,Nat.zero_le _⟩,Nat.zero_le _,Nat.zero_le _,em.en,em.lg⟩,⟨hgood,λh=>?_,λh=>?_,λh=>?_,λh=>?_⟩,q.prog hn hodd ht hi,hs.1.toSz,q.many hn hodd ht hi (Nat.zero_le _),hs.2⟩
 ·have:(1:Nat)=3:=h;omega
 ·have:5<=(1:Nat):=h;omega
 ·have:(1:Nat)=9:=h;omega
 ·have:(1:Nat)=11:=h;omega
theorem GQ.DF:(bw (g.P i)).1.Sz/\(bw (g.P i)).2.length<=1000000/\∀x,x∈(bw (g.P i)).2->x.log.length<=1000000:=by have ri:=q.vi.ri i hi;have h1:=ri.nn;have hs:=q.aJ hn hodd ht hi (vu (Nat.le_refl _) Nr q.vi.gi hi ri) ((q.li.li i hi).timeout Nr);have h2:=AV (P:=g.P i);exact⟨hs.1.toSz,Nr,λx hx=>(hs.2 x hx).1⟩
theorem GQ.Ky:(idle (g.P i)).length<=1000000/\∀x,x∈idle (g.P i)->x.log.length<=1000000:=by have ri:=q.vi.ri i hi;have h1:=ri.nn;have hs:=q.aJ hn hodd ht hi (HV (Nat.le_succ _) q.vi.gi hi ri) ⟨q.li.li i hi,(q.li.li i hi).idle Nr⟩;have h2:=Jy (P:=g.P i);exact⟨Nr,λx hx=>(hs.2 x hx).1⟩
theorem GQ.I6(k:Nat):(eO (g.P i) k).Sz :=
 (q.aJ hn hodd ht hi (Cu (Nat.le_succ _) q.vi.gi (q.vi.ri i hi) k) ⟨(q.li.li i hi).JS k,λx hx=>Oa⟩).1.toSz
theorem GQ.D0:(bH (g.P i) (g.time+1)).1.Sz :=
 (q.aJ hn hodd ht hi (vO Nr q.vi.gi hi (q.vi.ri i hi)) (LI.wX (by rw[(q.vi.ri i hi).nn];omega) _)).1.toSz
end
end Vr
namespace Go.Proofs.YthbjaiilnkakcaaGreatDoor
open Go.Tm Vr
variable{E:Env}(hE:EOk E)
include hE
section
variable{G:Mem}{h:ag}{L:List Rr}{Y:Nat->Prop}{g:GP}{gh:Gh}{n bD bS:Nat}{cs:List Value}(V:GV E G h L Y g.net g.down g.aJ bD bS cs g.time)(hL:L.length=n)(hP:∀i a,L[i]? = some a->a.P=g.P i)(hn:n=3\/n=5\/n=7)(q:GQ n gh g)(ht:g.time<=1000){e:Ev}(hr:(-9223372036854775808<=e.d/\e.d<=9223372036854775807)/\(-9223372036854775808<=e.a/\e.a<=9223372036854775807)/\(-9223372036854775808<=e.b/\e.b<=9223372036854775807))
include V hL hP hn q ht hr
theorem pT:af E 8 [.agg cs.toArray,.agg #[.int .i64 e.d,.int .i64 e.a,.int .i64 e.b]] h λv h'=>∃G' L' Y' cs',CE E G h (gX L Y bD bS) n bD bS h' G' L' Y' (evG n g e) cs' []/\v=.tuple #[.agg cs'.toArray,.bool true]:=by
 have hW:=V.so.wf;have hn7:3<=n/\n<=7:=Nr;have hodd:n%2=1:=Nr;have hi:evA e.a%n<n:=Nat.mod_lt _ Nr;have hd:=q.vi.dn;have hs:=q.vi.sn;have hb:=q.vi.sb;have hnet:g.net.length<=2000:=by have:=q.nl;omega
 by_cases h1:e.d<=1
 ·refine Im hE V hL hP hn7 hd hs ht hb hnet hr h1 λc sn hc hsn hz=>?_;have hsb:sn<=g.time+1:=by
   rw[hsn];have h2:=hb c;unfold ev1;simp only;split
   ·rw[List.getD_eq_getElem?_getD,List.getElem?_set];split
    ·split
     ·have:=hb (1+(e.b%4).toNat);simp only[Option.getD_some];omega
     ·simp
    ·rw[<-List.getD_eq_getElem?_getD];omega
   ·omega
  have k:=q.Lc hn7 hodd ht hi (c:=c) (k:=sn) Nr Nr;exact wx (g:=ev1 g e) hE hW hi k.z k.k k.ok k.po k.z' k.hol
 by_cases h9:e.d<=9
 ·have h1':1<e.d:=Nr;by_cases h2:g.net=[]
  ·exact FJ hE V hL hP hn7 hd hs ht hb hnet hr h1' h9 h2
  by_cases h29:e.d=9
  ·exact Ip hE V hL hP hn7 hd hs ht hb hnet hr h1' h9 h2 h29
  ·refine Iq hE V hL hP hn7 hd hs ht hb hnet hr h1' h9 (λm hm=>(q.vi.mi m hm).to) h2 h29 λm net' hm _=>?_;have k:=q.Mb hn7 hodd ht (q.vi.mi m hm).to hm rfl;show nJ E G h (gX L Y bD bS) n bD bS {g with time:=g.time+1,net:=net'} m.to 0 0 m (bX (({g with time:=g.time+1,net:=net'}:GP).P m.to) m);exact wx (g:={g with time:=g.time+1,net:=net'}) hE hW (q.vi.mi m hm).to k.z k.k k.ok k.po k.z' k.hol
 have h9':9<e.d:=Nr;have ri:=q.vi.ri _ hi;have z:=q.ok hn7 hodd ht hi;by_cases hdn:g.down.getD (evA e.a%n) false=true
 ·by_cases h14:e.d=14
  ·refine FM hE V hL hP hn7 hd hs ht hb hnet hr h9' h14 hdn ?_;exact vh (g:={g with time:=g.time+1,down:=g.down.set (evA e.a%n) false}) hE hW hi Nr (by show(g.P _).n=3\/(g.P _).n=5\/(g.P _).n=7;rw[ri.nn];exact hn) z.me z.vw (q.D0 hn7 hodd ht hi)
  ·exact FI hE V hL hP hn7 hd hs ht hb hnet hr h9' hdn h14
 have hdn':g.down.getD (evA e.a%n) false=false:=by simpa using hdn
 by_cases h12:e.d<=12
 ·obtain⟨dk,hdk⟩:∃dk:Nat,e.d=(dk:Int):=⟨e.d.toNat,Nr⟩;obtain⟨nk,hnk⟩:∃nk:Nat,(nk:Int)=e.b%8:=⟨(e.b%8).toNat,Nr⟩;refine Io hE V hL hP hn7 hd hs ht hb hnet hr h9' hdk hnk Nr hdn' ?_;unfold nC;by_cases h10:e.d=10
  ·have hk:dk=10:=Nr;subst hk;rw[if_pos h10];have k:=q.DF hn7 hodd ht hi;exact vg (g:={g with time:=g.time+1}) hE hW hi Nr z k.1 k.2
  rw[if_neg h10];by_cases h11:e.d=11
  ·have hk:dk=11:=Nr;subst hk;rw[if_pos h11];exact Cl (g:={g with time:=g.time+1}) hE hW hi Nr z (q.Ky hn7 hodd ht hi)
  ·have hk:dk=12:=Nr;subst hk;rw[if_neg h11];have hk2:(e.b%8).toNat=nk:=Nr;rw[hk2];exact AB (g:={g with time:=g.time+1}) hE hW hi Nr z (q.I6 hn7 hodd ht hi nk)
 by_cases h13:e.d=13
 ·exact FK hE V hL hP hn7 hd hs ht hb hnet hr h9' h13 hdn'
 ·exact JE hE V hL hP hn7 hd hs ht hb hnet hr h9' Nr hdn'
end
section
variable{G G':Mem}{h H:ag}{Z:Nat->Prop}{n bD bS:Nat}{L:List Rr}{Y:Nat->Prop}{g:GP}{cs:List Value}{xs:List (Nat×bz)}(c:CE E G h Z n bD bS H G' L Y g cs xs)(hW:WF E h)
include c hW
omit hE hW in
theorem CE.exec{i:Nat}(hi:i<n){vL vD vN vS t:Value}(e:cs=[vL,vD,vN,vS,t]):∃(bL cap:Nat) (a:Rr) (rest ss:List Value) (al:Option Addr) (cl:Nat),vL=.slice (some ⟨bL,0,none⟩) n cap/\cg E H ⟨bL,i*20,none⟩ 20=some (ptr a.r::ptr a.t::rest)/\H.get a.t=some (.cells ss 45 true)/\ss.length=4/\(ss.drop 1).take 1=[.slice al (g.P i).sv.l.length cl]/\Fz E G' 3 (g.P i).sv.l.length (cq (g.P i).sv.l) (.slice al (g.P i).sv.l.length cl)/\QR E G' H a.X (g.P i) [] a.r a.t/\SO E G' H a.X:=by obtain⟨bL,cap,a,e1,hac,ha,q,hpr⟩:=c.node hi e;obtain⟨_,_,_,gs⟩:=c.V.e;have hso:=gs.rs.so a (List.mem_of_getElem? ha);have q0:=q;obtain⟨D,q⟩:=q;obtain⟨ss,h1,sl,st,ct,rfl,h2,_⟩:=q.ht;obtain⟨al,cl,rfl,_⟩:=h2.slice;exact⟨bL,cap,a,a.cs,_,al,cl,e1,hac,h1,rfl,rfl,h2,q0,hso⟩
omit hE c hW in
theorem Ml{P:Program}(hP:P=Tryz.prog){b c:Nat}(hc:c<16):cA P 73 (ptr b) (iv c)=some (.pointer (some ⟨b,c,none⟩)):=by subst hP;have h:(Tryz.prog).underlying 73=some (.array 16 3):=Tryz.underlying73;simp only[cA,h,ptr,iv,sz3,fQ];rw[if_pos Nr];simp
end
end Go.Proofs.YthbjaiilnkakcaaGreatDoor
namespace Vr
open Go.Tm
theorem GQ.rows{n:Nat}{gh:Gh}{g:GP}(q:GQ n gh g)(hn:3<=n/\n<=7)(hodd:n%2=1)(ht:g.time<=1001):(∀i,i<n->Gf (g.P i).sv.l/\(∀e,e∈(g.P i).sv.l->eI 10000 e)/\(g.P i).sv.l.length<=10000)/\∀i j,i<n->j<n->kf (g.P i).sv.l (g.P j).sv.l:=by have ex:∀i,i<n->Ex n gh (g.P i).sv.l:=λi hi=>RI.ex q.vi.gi Nr (q.vi.ri i hi);refine⟨λi hi=>⟨(ex i hi).Kj,λe he=>eI.mono (show g.time<=10000 by omega) ((ex i hi).ent q.vi.gi e he),?_⟩,λi j hi hj=>(ex i hi).same q.vi.gi (ex j hj)⟩;have h1:=(RI.ok Nr hn hodd q.vi.gi hi (q.vi.ri i hi));have h2:=h1.svl;have h3:=h1.cm;have h4:=h1.op4;omega
end Vr
namespace Go.Proofs.YthbjaiilnkakcaaGreatDoor
open Go.Tm Vr
theorem GV.sc{E:Env}{G:Mem}{h:ag}{L:List Rr}{Y:Nat->Prop}{net:List Mg}{down:List Bool}{aJ:List Nat}{bD bS tv:Nat}{cs:List Value}(V:GV E G h L Y net down aJ bD bS cs tv):Go.Tm.sc h.next (.agg cs.toArray)=true:=by
 obtain⟨vL,vN,rfl,gs⟩:=V.e;have h1:=gs.ol.sc gs.rs.wf;have hD:=(gs.rs.wf.live _ _ V.gD).2;have hS:=(gs.rs.wf.live _ _ V.gS).2;have h2:Go.Tm.sc h.next vN=true:=by
  obtain⟨a,c,e,_⟩:=(show∃a c,vN=.slice a net.length c/\net.length<=c from by obtain⟨co,o,_⟩:=gs.on;exact o.fh);subst e
  cases a with
  |none=>rfl
  |some a =>have:=gs.sy.lt a.block (gs.yn a.block OA);simpa[Go.Tm.sc] using this
 simp only[Go.Tm.sc,scA,scL,h1,h2,Bool.true_and,Bool.and_true];simp[hD,hS]
def evC(e:Ev):List Value:=[.int .i64 e.d,.int .i64 e.a,.int .i64 e.b]
def uX(l:List Ev):List Value:=l.flatMap evC
theorem ji:∀{l:List Ev} {i:Nat} {e:Ev},l[i]? = some e->((uX l).drop (i*3)).take 3=evC e
 |[],i,e,h=>N7
 | x::l,0,e,h=>by
   simp at h;subst h;simp[uX,evC]
 | x::l,i+1,e,h=>by
   have:l[i]? = some e:=Ot;rw[<-ji this];simp[uX,evC,Nat.add_mul]
theorem wrf{f:Int}:∃fn m:Nat,(m:Int)=f%4/\fn=1+m%3/\IntKind.i64.wrap (1+(m:Int).tmod 3)=(fn:Int):=by
 refine⟨1+(f%4).toNat%3,(f%4).toNat,Nr,rfl,?_⟩;obtain⟨m,hm⟩:∃m,m=(f%4).toNat:=⟨_,rfl⟩;rw[<-hm];have h1:(m:Int).tmod 3=((m%3:Nat):Int):=by rw[Int.tmod_eq_emod_of_nonneg (by omega)];omega
 rw[h1,cx Nr Nr];omega
def Cm(e:Ev):Prop:=(-9223372036854775808<=e.d/\e.d<=9223372036854775807)/\(-9223372036854775808<=e.a/\e.a<=9223372036854775807)/\(-9223372036854775808<=e.b/\e.b<=9223372036854775807)
variable{E:Env}(hE:EOk E)
include hE
section
variable{G:Mem}{h:ag}(hW:WF E h)(hG:Frz E G h)
include hW hG
end
end Go.Proofs.YthbjaiilnkakcaaGreatDoor
namespace Go.Proofs.YthbjaiilnkakcaaGreatDoor
open Go.Tm Go Vr
variable{v:Value}{ps:List MemPlace}
theorem co3:Tryz.prog.cellsOf 3=1:=Ny
theorem Mm:Tryz.prog.cellsOf 34=3:=Ny
def CN:Mem:=λ_=>none
theorem qE(E:Env)(h:ag):Frz E CN h:=Frz.none E h
theorem nu{H:Type}{P:Program}{e:TypeId}:∀{l:List (DataW H)} {d:DataW H} {n:Nat},d∈l->n∈d.weights P e->n∈DataW.weightsAll P e l
 |[],d,n,h,_=>N7
 | x::l,d,n,h,hn=>by
   unfold DataW.weightsAll;rw[List.mem_append];rcases List.mem_cons.1 h with rfl|h
   ·exact .inl hn
   ·exact .inr (nu h hn)
noncomputable def EW(W:World)(vs:List Value):Env:={P:=Tryz.prog,base:=wL W vs,ro:=λb=>W.heap[b]?,known:=BA,iter:=JZ,lY:=n8}
theorem wD(W:World)(vs:List Value):EOk (EW W vs):=⟨rfl,rfl,rfl,rfl⟩
def nW:Value->Bool
 |.slice _ _ _=>true
 |.int _ _=>true
 |.string _=>true
 |_=>false
theorem ui{n:Nat}(h:nW v=true)(hb:qT v<=n):cl1 n v=true:=by
 cases v with
 | slice a l c =>
   cases a with
   |none=>rfl
   |some a=>simp only[cl1,decide_eq_true_eq];simp only[qT]at hb;omega
 |int k n=>rfl
 |string s=>rfl
 |_=>cases h
section
variable{H:Type}{enc:TypeId×Value->H}{W:World}{vs:List Value}{held:Bool}
theorem FC{a:Addr}{m:Nat}{c:Array Value}{e:TypeId}{fr:Nat×Nat}(hw:W.heap[a.block]? = some (.cells c e fr))(hsp:a.spot=none)(hm:a.off+m<=c.size)(hp:((c.toList.drop a.off).take m).all nW=true) :
 eo (EW W vs) CN a m=some (((c.toList.drop a.off).take m).map ue):=by
 have hlt:a.block<W.heap.size:=by
  rcases Nat.lt_or_ge a.block W.heap.size with h|h
  ·exact h
  ·rw[Array.getElem?_eq_none h]at hw;cases hw
 have hb:a.block<(EW W vs).base:=Nat.lt_of_lt_of_le hlt (vq W vs);have hro:(EW W vs).ro a.block=some (.cells c e fr):=hw;unfold eo;rw[if_pos hb];unfold cg;simp only[hsp,if_pos hb,hro];refine if_pos ⟨hm,?_⟩;rw[List.all_eq_true]at hp|-;intro v hv;exact ui (hp v hv) (vr hw (List.mem_of_mem_drop (List.mem_of_mem_take hv)))
def IN(E:Env)(z:Nat)(R:List Value->Prop)(f:List Value->Option (DataW H×List MemPlace))(t:TypeId):Prop :=
 ∀cs x,f cs=some x->(∀n,n∈x.1.weights Tryz.prog t->n<=reachBytes)->(∀v,v∈cs->qT v<=E.base)->R (cs.map ue)/\cs.all nW=true
theorem A8{z:Nat}(hz:0<z){e t:TypeId}(hco:Tryz.prog.cellsOf e=z){R:List Value->Prop}{fuel:Nat}(hE:IN (H:=H) (EW W vs) z R (DataW.trod enc Tryz.prog W 0 (λ_=>true) held fuel e) e)(hu:Tryz.prog.underlying t=some (.slice e)){v:Value}{d:DataW H}{ps:List MemPlace}
 (h:DataW.trod enc Tryz.prog W 0 (λ_=>true) held (fuel+1) t [v]=some (d,ps)) (hw:∀n,n∈d.weights Tryz.prog t->n<=reachBytes) (hb:qT v<=wL W vs) :
 ∃n cl,(∀i,i<n->R ((cl.drop (i*z)).take z))/\cl.length=n*z/\Sl (EW W vs) CN z n cl (ue v)/\n*Tryz.prog.bytesOf e<=reachBytes/\nW v=true:=by
 rcases trod_slice hu h with⟨h1,rfl⟩|⟨a,len,cap,elems,rest,h1,hlc,hcm,hel,hrs,rfl⟩
 ·injection h1 with h1;subst h1;refine⟨0,[],λi hi=>Nr,Nw,⟨none,0,rfl,Nr,Nr,⟨λ_=>rfl,λ_ x=>Oy⟩,.inl ⟨rfl,rfl⟩⟩,Nw,rfl⟩
 ·injection h1 with h1;subst h1;obtain⟨el1,el2⟩:=sV _ _ _ hel;rw[List.length_range]at el1;rw[hco]at hel el2;have hwt:(elems.length+rest.length)*Tryz.prog.bytesOf e<=reachBytes:=by refine hw _ ?_;unfold DataW.weights;rw[hu];simp
  have hblk:a.block<wL W vs:=by simp only[qT]at hb;omega
  have hlen:len*Tryz.prog.bytesOf e<=reachBytes:=Nat.le_trans (Nat.mul_le_mul_right _ Nr) hwt;have hml:maxLen=9223372036854775807:=rfl;by_cases h0:len=0
  ·subst h0;refine⟨0,[],λi hi=>Nr,Nw,⟨some ⟨a.block,a.off,a.spot.map λd=>2*d+1⟩,cap,rfl,Nr,Nr,⟨λx=>Oy,λb e=>.inl (by injection e with e;subst e;exact hblk)⟩,.inl ⟨rfl,rfl⟩⟩,Nw,rfl⟩
  ·have hone:∀i,i<len->∃c x,W.cells? 0 (a.add (i*z)) z=some c/\DataW.trod enc Tryz.prog W 0 (λ_=>true) held fuel e c=some x/\x.1∈elems.map (·.1):=by intro i hi;obtain⟨y,hy,hf⟩:=el2 i i (by simp[hi]);rw[Option.bind_eq_some_iff]at hf;obtain⟨c,hc1,hc2⟩:=hf;exact⟨c,y,hc1,hc2,List.mem_map.2 ⟨y,List.mem_of_getElem? hy,rfl⟩⟩
   obtain⟨c0,x0,hr0,_,_⟩:=hone 0 Nr;have ha0:a.add (0*z)=a:=by simp[Addr.add]
   rw[ha0]at hr0;obtain⟨hsp,c,ee,fr,hw0,hsz0,_⟩:=uj hr0 hz;have hel:∀i,i<len->a.off+i*z+z<=c.size/\R (((c.toList.drop (a.off+i*z)).take z).map ue)/\((c.toList.drop (a.off+i*z)).take z).all nW=true:=by
    intro i hi;obtain⟨ci,x,hr,ht,hm⟩:=hone i hi;rw[iR hsp]at hr;obtain⟨_,c',e',fr',hw',hsz',hci⟩:=uj hr hz;simp only[fQ]at hw' hsz' hci;rw[hw0]at hw';injection hw' with hw';injection hw' with hw1 _ _;subst hw1
    have:=hE ci x ht (λn hn=>hw n (by
     unfold DataW.weights;rw[hu];simp only[List.mem_cons,List.mem_append]
     exact .inr (.inl (nu hm hn)))) (λv hv=>by
     rw[hci]at hv
     exact vr hw0 (List.mem_of_mem_drop (List.mem_of_mem_take hv)))
    rw[hci]at this;exact⟨hsz',this⟩
   have hlast:=(hel (len-1) Nr).1;have hlz:(len-1)*z+z=len*z:=by
    have:len=(len-1)+1:=Nr
    conv=>rhs;rw[this,Nat.add_mul,Nat.one_mul]
   have hsz:a.off+len*z<=c.size:=Nr;have hpart:∀i,i<len->(((c.toList.drop a.off).take (len*z)).drop (i*z)).take z=(c.toList.drop (a.off+i*z)).take z:=by
    intro i hi;have:i*z+z<=len*z:=by
     calc i*z+z=(i+1)*z:=by rw[Nat.add_mul];omega
      _<=len*z:=Nat.mul_le_mul_right _ hi
    rw[List.drop_take,List.drop_drop,List.take_take,Nat.min_eq_left Nr]
   have hall:((c.toList.drop a.off).take (len*z)).all nW=true:=by
    rw[List.all_eq_true];intro v hv;obtain⟨j,hj,rfl⟩:=List.mem_iff_getElem.1 hv;have hj':j<len*z:=by rw[List.length_take]at hj;omega
    have hi:j/z<len:=by rw[Nat.div_lt_iff_lt_mul hz];exact hj'
    have h3:=(hel (j/z) hi).2.2;rw[<-hpart _ hi,List.all_eq_true]at h3;refine h3 _ ?_;rw[List.mem_iff_getElem?];refine⟨j%z,?_⟩;rw[List.getElem?_take,if_pos (Nat.mod_lt _ hz),List.getElem?_drop];have:j/z*z+j%z=j:=by rw[Nat.mul_comm];exact Nat.div_add_mod j z
    rw[this,List.getElem?_eq_getElem hj]
   refine⟨len,((c.toList.drop a.off).take (len*z)).map ue,λi hi=>?_,Nu,⟨some ⟨a.block,a.off,a.spot.map λd=>2*d+1⟩,cap,rfl,hlc,Nr,⟨λx=>Oy,λb e=>.inl (by injection e with e;subst e;exact hblk)⟩,.inr ⟨_,rfl,?_⟩⟩,hlen,rfl⟩
   ·rw[<-List.map_drop,<-List.map_take,hpart i hi];exact(hel i hi).2.1
   ·have:(⟨a.block,a.off,a.spot.map λd=>2*d+1⟩:Addr)=a:=by cases a;simp only at hsp;subst hsp;rfl
    rw[this];exact FC hw0 hsp hsz hall
theorem JD:∀fuel,IN (H:=H) (EW W vs) 3 (λc=>∃e:Ev,Cm e/\c=evC e) (DataW.trod enc Tryz.prog W 0 (λ_=>true) held fuel 34) 34:=by
 intro fuel cs x h hw hb;obtain⟨d,ps⟩:=x
 cases fuel with
 |zero=>simp[DataW.trod]at h
 |succ fuel =>
 obtain⟨hl,xs,hxs,hd⟩:=trod_struct Tryz.underlying34 h;rw[Mm]at hl;obtain⟨hxl,hat⟩:=sV _ _ _ hxs;obtain⟨y0,e0,h0⟩:=hat 0 _ rfl;obtain⟨y1,e1,h1⟩:=hat 1 _ rfl;obtain⟨y2,e2,h2⟩:=hat 2 _ rfl;simp only[co3]at h0 h1 h2;obtain⟨v0,v1,v2,rfl⟩:∃v0 v1 v2,cs=[v0,v1,v2]:=by
  match cs,hl with
  |[a,b,c],_=>exact⟨a,b,c,rfl⟩
 simp only[List.drop_succ_cons,List.drop_zero,List.take_succ_cons,List.take_zero]at h0 h1 h2
 cases fuel with
 |zero=>simp[DataW.trod]at h0
 |succ f =>
 obtain⟨d0,p0⟩:=y0;obtain⟨d1,p1⟩:=y1;obtain⟨d2,p2⟩:=y2;obtain⟨n0,q0,a0,b0⟩:=trod_int Tryz.underlying3 h0;obtain⟨n1,q1,a1,b1⟩:=trod_int Tryz.underlying3 h1;obtain⟨n2,q2,a2,b2⟩:=trod_int Tryz.underlying3 h2;injection q0 with q0;subst q0;injection q1 with q1;subst q1;injection q2 with q2;subst q2;have m1:IntKind.i64.min=-9223372036854775808:=rfl;have m2:IntKind.i64.max=9223372036854775807:=rfl;rw[m1]at a0 a1 a2;rw[m2]at b0 b1 b2;exact⟨⟨⟨n0,n1,n2⟩,⟨⟨a0,b0⟩,⟨a1,b1⟩,⟨a2,b2⟩⟩,rfl⟩,rfl⟩
theorem Ik:∀(n:Nat) (cl:List Value),cl.length=n*3->(∀i,i<n->∃e:Ev,Cm e/\(cl.drop (i*3)).take 3=evC e)->∃l:List Ev,l.length=n/\(∀e,e∈l->Cm e)/\cl=uX l
 |0,cl,hl,_=>⟨[],rfl,λe h=>N7,List.eq_nil_of_length_eq_zero Nr⟩
 | n+1,cl,hl,h=>by
   obtain⟨e,he,hc⟩:=h 0 Nr;rw[Nat.zero_mul,List.drop_zero]at hc
   obtain⟨l,h1,h2,h3⟩:=Ik n (cl.drop 3) Nu (λi hi=>by
    obtain⟨e',he',hc'⟩:=h (i+1) Nr;refine⟨e',he',?_⟩
    rw[List.drop_drop,show 3+i*3=(i+1)*3 by omega];exact hc')
   refine⟨e::l,N6,λx hx=>?_,?_⟩
   ·rcases List.mem_cons.1 hx with rfl|hx
    ·exact he
    ·exact h2 x hx
   ·show cl=evC e++uX l;rw[<-h3,<-hc,List.take_append_drop]
theorem pS{d:DataW H}(h:DataW.Trod enc Tryz.prog W 0 (λ_=>true) held 22 v d ps)(hw:∀n,n∈d.weights Tryz.prog 22->n<=reachBytes)(hv:v∈vs)(hc:v.cells.toList=[v]) :
 ∃l:List Ev,(∀e,e∈l->Cm e)/\Sl (EW W vs) CN 3 l.length (uX l) (ue v)/\nW v=true:=by
 obtain⟨fuel,h⟩:=h;rw[hc]at h
 cases fuel with
 |zero=>simp[DataW.trod]at h
 |succ f =>
 obtain⟨ln,lc,l1,l2,l3,l4,l5⟩:=A8 (W:=W) (vs:=vs) Nr Mm (JD f) Tryz.underlying22 h hw (lL hv);obtain⟨L,hL1,hL2,hL3⟩:=Ik ln lc l2 l1;subst hL3;exact⟨L,hL2,by rw[hL1];exact l3,l5⟩
end
end Go.Proofs.YthbjaiilnkakcaaGreatDoor
namespace Go.Proofs.YthbjaiilnkakcaaGreatDoor
open Go.ChangeShapes Go.WideShapes Go.ChangeAt Go.RowKit Go.Tm Go Go.Proofs
variable{W:World}{base:Nat}{v:Value}
theorem own:ownKnob Tryz.prog.godebug=none:=Ny
theorem mixed:Tryz.prog.follows .mixedOrders=true:=Tryz.checked.mixed
theorem begun:(((begin Tryz.prog (λ_ _=>0) default).world.heap[4]?).bind Obj.row?).isSome=true:=Ny
theorem Hw:Tryz.prog.globals.size=5:=Ny
theorem size_le(h:W.ShapedOpen Tryz.prog):5<=W.heap.size:=by
 obtain⟨⟨zero,t⟩,hz⟩:=Option.isSome_iff_exists.1 begun;obtain⟨cs,hc,_⟩:=h.1 4 zero t (by rw[Hw];omega) hz;rcases Nat.lt_or_ge 4 W.heap.size with h'|h'
 ·exact h'
 ·simp[Array.getElem?_eq_none h']at hc
theorem Ho:jq {P:=Tryz.prog,base:=5,ro:=λ_=>none}=true:=Ny
theorem xb(W:World)(vs:List Value)(h2:5<=W.heap.size):jq (EW W vs)=true :=
 zp (E:={P:=Tryz.prog,base:=5,ro:=λ_=>none}) rfl (Nat.le_trans h2 (vq W vs)) Ho
theorem tV{E:Env}(hE:EOk E):yg E:=⟨BI hE.iter,Hz hE.P hE.lY⟩
theorem tj(W:World)(vs:List Value):WF (EW W vs) ⟨(EW W vs).base,.leaf⟩:=⟨Nat.le_refl _,λb o h=>by simp[ag.get,Tr.mv]at h⟩
theorem jE{t e:TypeId}(hu:Tryz.prog.underlying t=some (.slice e))(h:Value.okWide Tryz.prog W .any base t v):v.cells.toList=[v]:=by
 unfold Value.okWide at h;rw[hu]at h;simp only[Cell.okWide,hu,Cell.ok]at h;split at h<;>first|rfl|exact h.elim|(rename_i e1 e2;cases e1)|skip
 all_goals (simp_all[Value.cells])
theorem xS{H:Type}{enc:TypeId×Value->H}{d:DataW H}{ps:List MemPlace}{held:Bool}(h:DataW.Trod enc Tryz.prog W 0 (λ_=>true) held 3 v d ps)(hv:Value.okWide Tryz.prog W .any base 3 v):∃x:Int,v=.int .i64 x:=by
 obtain⟨fuel,h⟩:=h;have hc:v.cells.toList=[v]:=by
  unfold Value.okWide at hv;rw[Tryz.underlying3]at hv;simp only[Cell.okWide,Tryz.underlying3,Cell.ok]at hv;split at hv<;>first|rfl|exact hv.elim|(rename_i e1 e2;cases e1)|skip
  all_goals (simp_all[Value.cells])
 rw[hc]at h
 cases fuel with
 |zero=>simp[DataW.trod]at h
 |succ f =>
 obtain⟨n,q,a,b⟩:=trod_int Tryz.underlying3 h;injection q with q;exact⟨n,q⟩
end Go.Proofs.YthbjaiilnkakcaaGreatDoor
namespace Go.Proofs.YthbjaiilnkakcaaGreatDoor
open Go.Tm Vr
theorem J6{x:Int}(h1:9223372036854775807<x)(h2:x<18446744073709551616):IntKind.i64.wrap x<0:=by simp[IntKind.wrap,IntKind.signed,IntKind.bits];split<;>omega
theorem CE.ext{E:Env}{G G':Mem}{h H:ag}{Z:Nat->Prop}{n bD bS:Nat}{L:List Rr}{Y:Nat->Prop}{g:GP}{cs:List Value}{xs:List (Nat×bz)}(c:CE E G h Z n bD bS H G' L Y g cs xs)(hW:WF E h){G2:Mem}{H2:ag}(x:Ext E G' H G2 H2):CE E G h Z n bD bS H2 G2 L Y g cs xs :=
 c.move hW (PX.ext c.V.so x) (c.V.other (PX.ext (SO.eR c.V.so.wf c.V.so.frz) x) λ_ _ z=>z) c.hL c.hP
variable{E:Env}(hE:EOk E)
include hE
section
variable{G:Mem}{h:ag}(hW:WF E h)(hG:Frz E G h)
include hW hG
theorem HO{f:Int}{el ml:List Ev}{v w:Value}(hv:Sl E G 3 el.length (uX el) v)(hw:Sl E G 3 ml.length (uX ml) w)(hev:∀e,e∈el++ml->Cm e):af E 4 [.int .i64 f,v,w] h λr h'=>r=.bool true:=by
 obtain⟨av,cv,rfl,hcv⟩:=hv.slice;obtain⟨aw,cw,rfl,hcw⟩:=hw.slice;have s0:=SO.eR hW hG;obtain⟨fn,m,hm,hfn,e1⟩:=wrf (f:=f);obtain⟨n,hn⟩:∃n,n=2*fn+1:=⟨_,rfl⟩;have hn3:n=3\/n=5\/n=7:=Nr;obtain⟨a,ha⟩:∃a,a=el.length:=⟨_,rfl⟩;obtain⟨b,hb⟩:∃b,b=ml.length:=⟨_,rfl⟩;obtain⟨ws,hws⟩:∃ws,IntKind.i64.wrap ((a:Int)+(b:Int))=ws:=⟨_,rfl⟩;have hwc:ws=(a:Int)+b\/ws<0:=by
  by_cases hc:a+b<=9223372036854775807
  ·left;rw[<-hws,cx Nr Nr]
  ·right;rw[<-hws];exact J6 Nr Nr
 rw[<-ha,<-hb];refine en hE Tryz.func4 rfl rfl Tryz.ntmps4 rfl Nv (rs:=[.tmp 6]) rfl ?_;simp only[push_cast,seval];refine(uv hE s0).mono ?_;rintro v1 H1 ⟨rfl,G1,X1,p1⟩;by_cases hlen:ws<=400
 ·have hd:decide ((400:Int)<ws)=false:=Nu;obtain⟨N,hN,hN1,hN2⟩:∃N:Nat,N<=400/\(∀i:Nat,decide ((i:Int)<ws)=decide (i<N))/\N<=a+b:=by
   refine⟨ws.toNat,Nr,λi=>?_,Nr⟩;by_cases hi:(i:Int)<ws
   ·rw[decide_eq_true hi,decide_eq_true Nr]
   ·rw[decide_eq_false hi,decide_eq_false Nr]
  simp only[push_cast,seval,hE.z,Aw,<-hm,e1,hd,hws];refine(pL hE p1.so.wf p1.so.frz hn3 hn).mono ?_;rintro v2 H2 ⟨G2,L,Y,bD,bS,cs,p2,V2,hL,hP,rfl⟩;obtain⟨aL,cL,aN,cN,rfl⟩:=V2.sl;have hvG2:=(hv.sub p1.sub).sub p2.sub;have hwG2:=(hw.sub p1.sub).sub p2.sub;have C0:=CE.start (g:=GP.new n) V2 hL hP;have C1:=C0.new p2.so.wf (o:=.cells [.slice aL L.length cL,.slice (some ⟨bD,0,none⟩) (List.replicate n false).length (List.replicate n false).length,.slice aN 0 cN,.slice (some ⟨bS,0,none⟩) 9 9,iv 0] 29 true);have q0:GQ n Gh.new (GP.new n):=GQ.new Nr;have x0:Ex n Gh.new []:=by have:=RI.ex q0.vi.gi Nr (q0.vi.ri 0 Nr);exact this
  simp only[push_cast,seval,hE.z];refine gtm (motive:=wpc E _ _) [1,2,7,9,10] λ_ f1=>?_;simp only[push_cast,seval,gz]at f1;refine cR (motive:=λH=>wpc E _ _ _ H) (λH3=>CE E G2 H2 (gX L Y bD bS) n bD bS H3 G2 L Y (GP.new n) [.slice aL L.length cL,.slice (some ⟨bD,0,none⟩) (List.replicate n false).length (List.replicate n false).length,.slice aN 0 cN,.slice (some ⟨bS,0,none⟩) 9 9,iv 0] [(H2.next,.cells [.slice aL L.length cL,.slice (some ⟨bD,0,none⟩) (List.replicate n false).length (List.replicate n false).length,.slice aN 0 cN,.slice (some ⟨bS,0,none⟩) 9 9,iv 0] 29 true)]) C1 ?_;clear C1 C0;rintro H3 C1;have hW2:=p2.so.wf
  refine bG (λkk tm H=>∃i G' L' Y' g gh cs' K kv,kk=N-i/\i<=N/\GQ n gh g/\g.time=i/\(aj tm 1=.slice av a cv/\aj tm 2=.slice aw b cw/\aj tm 7=ptr H2.next/\aj tm 9=kv/\aj tm 10=iv i)/\Fz E G' 3 K.length (cq K) kv/\K.length<=10000/\Ex n gh K /\
   CE E G2 H2 (gX L Y bD bS) n bD bS H G' L' Y' g cs' [(H2.next,.cells cs' 29 true)]) N ?_ ?_
  ·simp only[push_cast,seval,f1];exact⟨0,G2,L,Y,_,_,_,[],.slice none 0 0,rfl,Nat.zero_le _,q0,rfl,⟨rfl,rfl⟩,Fz.nil,Nw,x0,C1⟩
  clear C1;rintro kk tm H ⟨i,G',L',Y',g,gh,cs',K,kv,rfl,hi,q,ht,f2,hKf,hKl,hK,C2⟩;obtain⟨aL',cL',aN',cN',rfl⟩:=C2.V.sl;have b2:=C2.f1;by_cases hlt:i<N
  ·have hd2:decide ((i:Int)<ws)=true:=by rw[hN1];simp;omega
   have C3:=C2.new hW2 (o:=.cells [.int .i64 0,.int .i64 0,.int .i64 0] 34 true);simp only[push_cast,seval,hE.z,f2,hws,hd2];refine gtK [1,2,7,9,10,11] λ_ f3=>?_;simp only[push_cast,seval,gz,f2]at f3;refine CE.gen (motive:=λH=>kif E _ _ _ _ _ H) (xs:=[(H.next,_),(H2.next,_)]) C3 λH3 C3=>?_;obtain⟨e,he⟩:∃e,(el++ml)[i]? = some e:=⟨_,List.getElem?_eq_getElem N0⟩;have heo:=hev e (List.mem_of_getElem? he);refine dJ (λtm H4=>(aj tm 1=.slice av a cv/\aj tm 2=.slice aw b cw/\aj tm 7=ptr H2.next/\aj tm 9=kv/\aj tm 10=iv i/\aj tm 11=ptr H.next)/\CE E G2 H2 (gX L Y bD bS) n bD bS H4 G' L' Y' g [.slice aL' L'.length cL',.slice (some ⟨bD,0,none⟩) g.down.length g.down.length,.slice aN' g.net.length cN',.slice (some ⟨bS,0,none⟩) g.aJ.length g.aJ.length,iv g.time] [(H.next,.cells [.int .i64 e.d,.int .i64 e.a,.int .i64 e.b] 34 true),(H2.next,.cells [.slice aL' L'.length cL',.slice (some ⟨bD,0,none⟩) g.down.length g.down.length,.slice aN' g.net.length cN',.slice (some ⟨bS,0,none⟩) g.aJ.length g.aJ.length,iv g.time] 29 true)]) ?_ ?_
   rotate_left
   ·by_cases hia:i<a
    ·have hda:decide ((i:Int)<(a:Int))=true:=Nu;have he':el[i]? = some e:=by rw[<-he,List.getElem?_append_left Nr]
     obtain⟨bx,dx,eX,hspx,hacx⟩:=(hvG2.sub C3.p.sub).elem C3.V.so.frz (i:=i) Nr;injection eX with eX _ eX';subst eX;subst eX';rw[ji he']at hacx;unfold evC at hacx;simp only[push_cast,seval,hE.z,f3,hda];rw[Ib hspx Nr Nr,ab];simp only[push_cast,seval,hE.z,f3,C3.f2,↓hacx,Int.toNat_natCast];exact C3.put hW2 0 rfl
    ·have hda:decide ((i:Int)<(a:Int))=false:=Nu;have he':ml[i-a]? = some e:=by rw[<-he,List.getElem?_append_right Nr,ha]
     obtain⟨bx,dx,eX,hspx,hacx⟩:=(hwG2.sub C3.p.sub).elem C3.V.so.frz (i:=i-a) Nr;injection eX with eX _ eX';subst eX;subst eX';rw[ji he']at hacx;unfold evC at hacx;have hsub:IntKind.i64.wrap ((i:Int)-(a:Int))=((i-a:Nat):Int):=NG;obtain⟨ia',hia'⟩:∃k,k=i-a:=⟨_,rfl⟩;rw[<-hia']at hacx hsub;simp only[push_cast,seval,hE.z,f3,hda,hsub];rw[Ib hspx Nr Nr,ab];simp only[push_cast,seval,hE.z,f3,C3.f2,↓hacx,Int.toNat_natCast];exact C3.put hW2 0 rfl
   clear C3 f3 f2;rintro tm4 H4 ⟨f4,C4⟩;have b4:=C4.f2;simp only[push_cast,seval,hE.z,f4,b4];refine(pT hE C4.V C4.hL C4.hP hn3 q Nr heo).mono ?_;rintro v5 H5 ⟨G5,L5,Y5,cs5,C5,rfl⟩;obtain⟨aL5,cL5,aN5,cN5,rfl⟩:=C5.V.sl;have hL5:=C5.hL;rw[hL5]at C5|-;have C6:=C4.move hW2 C5.p C5.V C5.hL C5.hP;have b6:=C6.f2;have u6:=C6.V.so.wf.nb0;have C7:=((C6.new hW2 (o:=.cells [.slice aL5 n cL5,.slice (some ⟨bD,0,none⟩) (evG n g e).down.length (evG n g e).down.length,.slice aN5 (evG n g e).net.length cN5,.slice (some ⟨bS,0,none⟩) (evG n g e).aJ.length (evG n g e).aJ.length,iv (evG n g e).time] 29 true)).put hW2 2 rfl (o':=.cells [.slice aL5 n cL5,.slice (some ⟨bD,0,none⟩) (evG n g e).down.length (evG n g e).down.length,.slice aN5 (evG n g e).net.length cN5,.slice (some ⟨bS,0,none⟩) (evG n g e).aJ.length (evG n g e).aJ.length,iv (evG n g e).time] 29 true)).drop 2;have g6:=(C6.bx.at 1 rfl).2.1;simp only[push_cast,seval,hE.z,f4,b6];refine gtm (motive:=wpc E _ _) [1,2,7,9,10,14] λ_ f5=>?_;simp only[push_cast,seval,gz,f4]at f5;refine cR (motive:=λH=>wpc E _ _ _ H) (λH6=>CE E G2 H2 (gX L Y bD bS) n bD bS H6 G5 L5 Y5 (evG n g e) [.slice aL5 n cL5,.slice (some ⟨bD,0,none⟩) (evG n g e).down.length (evG n g e).down.length,.slice aN5 (evG n g e).net.length cN5,.slice (some ⟨bS,0,none⟩) (evG n g e).aJ.length (evG n g e).aJ.length,iv (evG n g e).time] [(H2.next,.cells [.slice aL5 n cL5,.slice (some ⟨bD,0,none⟩) (evG n g e).down.length (evG n g e).down.length,.slice aN5 (evG n g e).net.length cN5,.slice (some ⟨bS,0,none⟩) (evG n g e).aJ.length (evG n g e).aJ.length,iv (evG n g e).time] 29 true)]) C7 ?_;obtain⟨gh',q',hmore⟩:=q.event Nr Nr Nr e;have hte:=(ta n g e).2;obtain⟨hx,_⟩:=q'.rows Nr Nr Nr;have hK':=hK.more hmore;have hKf':=hKf.sub C5.p.sub;clear C7 C6 b6 g6 u6 C5 b4 C4 f4 C2 b2 hK hKf;intro H6 C6;generalize evG n g e=g5 at *;refine bG (λkk tm H=>∃j G6 K kv,kk=n-j/\j<=n/\(aj tm 1=.slice av a cv/\aj tm 2=.slice aw b cw/\aj tm 7=ptr H2.next/\aj tm 9=kv/\aj tm 10=iv i/\aj tm 14=iv j)/\Fz E G6 3 K.length (cq K) kv/\K.length<=10000/\Ex n gh' K/\CE E G2 H2 (gX L Y bD bS) n bD bS H G6 L5 Y5 g5 [.slice aL5 n cL5,.slice (some ⟨bD,0,none⟩) g5.down.length g5.down.length,.slice aN5 g5.net.length cN5,.slice (some ⟨bS,0,none⟩) g5.aJ.length g5.aJ.length,iv g5.time] [(H2.next,.cells [.slice aL5 n cL5,.slice (some ⟨bD,0,none⟩) g5.down.length g5.down.length,.slice aN5 g5.net.length cN5,.slice (some ⟨bS,0,none⟩) g5.aJ.length g5.aJ.length,iv g5.time] 29 true)]) n ?_ ?_
   ·simp only[push_cast,seval,f5];exact⟨0,G5,K,kv,rfl,Nat.zero_le _,⟨rfl,rfl⟩,hKf',hKl,hK',C6⟩
   clear C6 f5 hK' hKf' hKl K kv;rintro kk tm H6 ⟨j,G6,K,kv,rfl,hj,f6,hKf,hKl,hK,C6⟩;have b6:=C6.f1;by_cases hjn:j<n
   ·have hd3:decide ((j:Int)<(n:Int))=true:=Nu;obtain⟨bL,cap,aa,rest,ss,al,cl,e2,hac,gT,hss,hs1,hz,_⟩:=C6.exec (i:=j) hjn rfl;injection e2 with e2 _ e3;subst e2;subst e3;have p1:=aY hac 1 1 Nr;simp only[List.drop_succ_cons,List.drop_zero,List.take_succ_cons,List.take_zero]at p1;have nT:=C6.V.so.wf.nlt gT;obtain⟨x,hxd⟩:∃x,x=(g5.P j).sv.l:=⟨_,rfl⟩;obtain⟨_,_,hlen⟩:=hx j hjn;have hEx:Ex n gh' x:=hxd▸RI.ex q'.vi.gi Nr (q'.vi.ri j hjn);have hsm:=hEx.same q'.vi.gi hK;rw[<-hxd]at hlen hz hs1;obtain⟨nn,hnn⟩:∃nn,nn=min x.length K.length:=⟨_,rfl⟩;have hmn:min (x.length:Int) (K.length:Int)=(nn:Int):=Nr;have hsm':x.take nn=K.take nn:=by rw[hnn];exact hsm
    have hwj:IntKind.i64.wrap ((j:Int)+1)=((j+1:Nat):Int):=NJ;obtain⟨ak,ck,rfl,_⟩:=hKf.slice;obtain⟨a5,c5,e5,z5⟩:=hz.upto (P:=Tryz.prog) Tryz.underlying37 ly (k:=nn) Nr;obtain⟨a6,c6,e6,z6⟩:=hKf.upto (P:=Tryz.prog) Tryz.underlying37 ly (k:=nn) Nr;have hln:(x.take nn).length=nn:=Oj;rw[jy]at z5 z6;rw[<-hsm']at z6;simp only[push_cast,seval,hE.z,f6,hd3,b6];rw[pK rfl Nr Nr,ab];simp only[push_cast,seval,hE.z,f6,↓p1,Int.toNat_natCast,Nat.zero_add,gT,nT,hss,hs1,hmn];refine ax Nt ?_;simp only[push_cast,seval,hE.z];rw[e5,ab];simp only[push_cast,seval,hE.z,f6];rw[e6,ab];simp only[push_cast,seval];refine(kO hE C6.V.so.wf C6.V.so.frz (l:=x.take nn) (by rw[hln];exact z5) (by rw[hln];exact z6) Nr).mono ?_;rintro v H7 ⟨rfl,rfl⟩;by_cases hbig:K.length<x.length
    ·have hdg:decide ((K.length:Int)<(x.length:Int))=true:=Nu;simp only[push_cast,seval,hE.z,f6,hdg];refine ej (jS hE.P) C6.V.so.wf C6.V.so.frz (lo:=H7.next) (Nat.le_refl _) (Own.nil _ _ _ _) hz.1 (cB _) (de _) Nr Nr λv' H8 ap=>?_;have k8:=(KW.refl C6.V.so.wf).app C6.V.so.wf (Own.nil _ _ _ _) ap;have o8:=ap.own;rw[Nat.zero_add,List.nil_append]at o8;obtain⟨G7,z7,x7⟩:=Own.frz C6.V.so.wf C6.V.so.frz k8 o8;simp only[push_cast,seval,f6,hwj];exact⟨n-(j+1),Nr,j+1,G7,x,v',rfl,Nr,⟨rfl,rfl⟩,z7,hlen,hEx,C6.ext hW2 x7⟩
    ·have hdg:decide ((K.length:Int)<(x.length:Int))=false:=Nu;simp only[push_cast,seval,hE.z,f6,hdg,hwj];exact⟨n-(j+1),Nr,j+1,G6,K,_,rfl,Nr,⟨rfl,rfl⟩,hKf,hKl,hK,C6⟩
   ·have hd3:decide ((j:Int)<(n:Int))=false:=Nu;have hwi:IntKind.i64.wrap ((i:Int)+1)=((i+1:Nat):Int):=NJ;simp only[push_cast,seval,hE.z,f6,hd3,b6,hwi];exact⟨N-(i+1),Nr,i+1,G6,L5,Y5,g5,gh',_,K,kv,rfl,Nr,q',Nr,⟨rfl,rfl⟩,hKf,hKl,hK,C6⟩
  ·have hd2:decide ((i:Int)<ws)=false:=by rw[hN1];simp;omega
   simp only[push_cast,seval,hE.z,f2,hws,hd2]
 ·have hd:decide ((400:Int)<ws)=true:=Nu;simp only[push_cast,seval,hE.z,hws,hd]
end
end Go.Proofs.YthbjaiilnkakcaaGreatDoor
namespace Go.Proofs.YthbjaiilnkakcaaGreatDoor.vrKeeps
open Go.ChangeShapes Go.WideShapes Go.ChangeAt Go.RowKit Go.Tm Go Go.Proofs
theorem params:Tryz.f4.params=#[3,22,22]:=Ny
theorem results:Tryz.f4.resultTypes=#[4]:=Ny
theorem mF(H:Type)(enc:TypeId×Value->H)(W:World)(base:Nat)(args:Array Value)(ds gs:List (DataW H))(before:List MemPlace)(hs:W.ShapedOpen Tryz.prog)
 (hval:∀(j:Nat) t v,Tryz.f4.params[j]? = some t->args[j]? = some v->Value.okWide Tryz.prog W .any base t v)
 (hwt:(DataW.weightsEach Tryz.prog (Tryz.f4.params.toList++(OpenSpec.ofChange Rows.vrKeepsSpec).bare.plain.varTypes Tryz.prog) (ds++gs)).all (·<=reachBytes)=true)
 (hW:DataW.Whole enc Tryz.prog Tryz.f4.params.toList Rows.vrKeepsSpec.vars false W args.toList ds gs before) :
 Calls Tryz.prog 4 args W λe W'=>∃v,e=.returned v/\Rows.vrKeepsSpec.post enc Tryz.prog Tryz.f4 false true false false W args v W':=by
 have hW':=hW;obtain⟨p,q,hA0,hV,rfl,hfz,hnd⟩:=hW;rw[params]at hA0 hval hwt;obtain⟨v0,v1,v2,d0,d1,d2,p0,p1,p2,rfl,rfl,rfl,h0,h1,h2⟩:=trodAll_three hA0;obtain⟨rfl,rfl⟩:=trodVars_none hV;rw[List.append_assoc p0 p1 p2]at hW';obtain⟨a,rfl⟩:=xS h0 (hval 0 _ v0 rfl rfl);have hc1:=jE Tryz.underlying22 (hval 1 _ v1 rfl rfl);have hc2:=jE Tryz.underlying22 (hval 2 _ v2 rfl rfl);have hwt':∀n,n∈DataW.weightsEach Tryz.prog (3::22::22::(OpenSpec.ofChange Rows.vrKeepsSpec).bare.plain.varTypes Tryz.prog) (d0::d1::d2::[])->n<=reachBytes:=by intro n hn;have:=List.all_eq_true.1 hwt n hn;simpa using this
 simp only[DataW.weightsEach,List.mem_append]at hwt';have hwt1:∀n,n∈d1.weights Tryz.prog 22->n<=reachBytes:=λn hn=>hwt' n (.inr (.inl hn));have hwt2:∀n,n∈d2.weights Tryz.prog 22->n<=reachBytes:=λn hn=>hwt' n (.inr (.inr (.inl hn)));obtain⟨l,hev,hsl,hpl⟩:=pS (W:=W) (vs:=[v1,v2]) h1 hwt1 Nw hc1;obtain⟨l2,hev2,hsl2,hpl2⟩:=pS (W:=W) (vs:=[v1,v2]) h2 hwt2 Nw hc2;obtain⟨r,h',k,rfl,hk⟩:=HO (wD W [v1,v2]) (tj W [v1,v2]) (qE _ _) (f:=a) hsl hsl2 (λe he=>(List.mem_append.1 he).elim (hev e) (hev2 e));have hcl1:cl1 (EW W [v1,v2]).base v1=true:=ui hpl (lL Nw);have hcl2:cl1 (EW W [v1,v2]).base v2=true:=ui hpl2 (lL Nw)
 have hlo:∀b o,b<(EW W [v1,v2]).base->(EW W [v1,v2]).ro b=some o->b<W.heap.size:=λb o _ hb=>by
  replace hb:W.heap[b]? = some o:=hb;rcases Nat.lt_or_ge b W.heap.size with h|h
  ·exact h
  ·rw[Array.getElem?_eq_none h]at hb;cases hb
 have hpo:=xb W [v1,v2] (size_le hs)
 have hcall:=qR hpo (od rfl) (tV (wD W [v1,v2])) mixed (hk k (Nat.le_refl _)) (λx hx=>by
  rcases List.mem_cons.1 hx with rfl|hx
  ·rfl
  ·rcases List.mem_cons.1 hx with rfl|hx
   ·exact pg _ _ hcl1
   ·simp only[List.mem_singleton]at hx;subst hx;exact pg _ _ hcl2)
  (vs:=[.int .i64 a,v1,v2]) (by rw[List.map_cons,List.map_cons,List.map_cons,List.map_nil,lT _ _ (λb _=>rfl) v1 hcl1,lT _ _ (λb _=>rfl) v2 hcl2];rfl) (λρ=>rfl) hlo (λb o _ hb=>hb)
 have hlt:∀x∈(p0++(p1++p2))++[],x.block<W.heap.size:=λx hx=>by simpa using hW'.lt x hx
 refine hcall.mono ?_;rintro e W' ⟨rfl,bel⟩;refine⟨_,rfl,_,_,_,[],p0++(p1++p2),[],hW',?_,?_,rfl,bel.frame _,λh=>by cases h⟩
 ·rw[results];exact trodAll_cons_mk (shut_bool Tryz.underlying4 _) trodAll_mk0
 ·rw[params];exact trodAll_mk3 (Below.trod Ny Ny (of_decide_eq_true Ny) h0 bel (λx hx=>hlt x Pa)) (Below.trod Ny Ny (of_decide_eq_true Ny) h1 bel (λx hx=>hlt x Pa)) (Below.trod Ny Ny (of_decide_eq_true Ny) h2 bel (λx hx=>hlt x Pa))
noncomputable def eS(os:Os):World:=World.laidAll Tryz.prog os Rows.vrKeepsRow.laid
theorem mg(os:Os)(args:Array Value):laidMet Tryz.prog Rows.vrKeepsRow.laid ((eS os).forCall (λ_ _=>0) ⟨#[],args,[]⟩).memory :=
 laidMet_laidAll args Ny Ny
def wit:Array Value:=#[.int .i64 0,.slice none 0 0,.slice none 0 0]
theorem reads(os:Os){H:Type}(enc:TypeId×Value->H):∃places,DataW.whole enc Tryz.prog ((eS os).forCall (λ_ _=>0) ⟨#[],wit,[]⟩).memory Tryz.f4.params.toList Rows.vrKeepsSpec.vars false wit.toList 8=some ([.lit (.int .i64 0),.nil,.nil],[],places) :=
 ⟨[],Ny⟩
theorem lifted(os:Os)(started:os.Started)(H:Type)(enc:TypeId×Value->H)(F:Stop.Interp) :
 ReturnsInHanded {} Tryz.checked os 4 .any ((OpenSpec.ofChange Rows.vrKeepsSpec).preRow enc Tryz.prog Tryz.f4 Rows.vrKeepsRow.domain false Rows.vrKeepsRow.laid) (((OpenSpec.ofChange Rows.vrKeepsSpec).at F).post enc Tryz.prog Tryz.f4 false true false false):=by
 obtain⟨places,hx⟩:=reads os enc
 refine returnsInHanded_of_row (C:=Tryz.checked) (s:=OpenSpec.ofChange Rows.vrKeepsSpec) own started Ny Tryz.func4
  (witness_row_at (enc:=enc) (C:=Tryz.checked) false (eS os) wit rfl Ny Ny Ny
   (OpenSpec.preRow_of_cond 8 hx Ny (λk hk=>by cases hk) Ny (mg os _))) ?_
 intro W base args ds gs before hval hW _ _ hwt hL hs _;exact mF H enc W base args ds gs before hs hval hwt hW
theorem said:Rows.VrKeepsSaid :=
 OpenClaim.holds_of_cond 4 Tryz.f4 rfl rfl rfl rfl rfl rfl rfl ⟨rfl,rfl,rfl,rfl,rfl⟩ rfl rfl rfl rfl rfl Ny Tryz.func4 Ny
  (of_decide_eq_true Ny) NP
  (λos started H enc _ F=>by rw[OpenClaim.pre_eq_preRow];exact lifted os started H enc F)
theorem plain(f:FuncId)(fn:Func)(hf:Tryz.pinned.checked.prog.funcNamed Tryz.f4.name=some f)(hfn:Tryz.pinned.checked.prog.funcs[f]? = some fn) :
 true=Tryz.pinned.checked.prog.looks []/\∀(j:Nat) t,fn.params[j]? = some t->Tryz.pinned.checked.prog.wantsStandIn t=false:=by
 obtain rfl:f=4:=Option.some.inj ((show Tryz.prog.funcNamed Tryz.f4.name=some 4 by kernel_rfl).symm.trans hf) |>.symm;obtain rfl:fn=Tryz.f4:=(Option.some.inj (Tryz.func4.symm.trans hfn)).symm;refine⟨Ny,λj t ht=>?_⟩;rw[params]at ht;have e:t=3\/t=22:=by
  match j with
  |0=>simp at ht;exact .inl ht.symm
  |1=>simp at ht;exact .inr ht.symm
  |2=>simp at ht;exact .inr ht.symm
  |j+3=>simp at ht
 rcases e with rfl|rfl
 ·exact(by kernel_rfl:Tryz.prog.wantsStandIn 3=false)
 ·exact(by kernel_rfl:Tryz.prog.wantsStandIn 22=false)
theorem card:Rows.VrKeepsCardSaid :=
 Claim7.holds_tied_plain_at .later [] _ _ _ _ said (λ_ h=>by cases h) Ny (λ_ h=>by cases h) vrKeeps_row_tie rfl ⟨rfl,rfl⟩ Ny rfl plain Ny
#print axioms card
end Go.Proofs.YthbjaiilnkakcaaGreatDoor.vrKeeps
