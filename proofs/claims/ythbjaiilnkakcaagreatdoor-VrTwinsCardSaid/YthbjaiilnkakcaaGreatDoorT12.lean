/- Part 12. -/
import Derived.Test.YthbjaiilnkakcaaGreatDoorT11
set_option linter.all false
set_option maxRecDepth 10000
set_option maxHeartbeats 8000000
namespace Vr
variable{b:Nat×Mg}{Q R:PR}{m:Mg}{s:Sv}{L:List Mg}
theorem iz{l:List Mg}{j:Nat}{c:Mg}:(j,c)∈bI l↔l[j]? = some c/\c.k≠0:=by
 unfold bI;rw[List.mem_filter,List.mem_map];constructor
 ·rintro⟨⟨⟨a,b⟩,h1,h2⟩,h3⟩;injection h2 with h2 h4;simp only at h2 h4;subst h2;subst h4;rw[List.mk_mem_zipIdx_iff_getElem?]at h1;exact⟨h1,by simpa using h3⟩
 ·rintro⟨h1,h2⟩;exact⟨⟨(c,j),List.mk_mem_zipIdx_iff_getElem?.2 h1,rfl⟩,PN⟩
theorem FW(l:List Mg):(bI l).length=cnt l.length λj=>(l.getD j {}).k != 0:=by
 have key:∀(l:List Mg) (k:Nat),(((l.zipIdx k).map λp=>(p.2,p.1)).filter λp=>p.2.k != 0).length=(l.filter λm=>m.k != 0).length:=by
  intro l
  induction l with
  |nil=>intro k;rfl
  | cons x l ih =>
    intro k;simp only[List.zipIdx_cons,List.map_cons,List.filter_cons];split
    ·simp only[List.length_cons,ih]
    ·exact ih _
 have key2:∀(l:List Mg),(l.filter λm=>m.k != 0).length=cnt l.length λj=>(l.getD j {}).k != 0:=by
  intro l;refine jZ (p:=λ(l:List Mg)=>(l.filter λm=>m.k != 0).length=cnt l.length λj=>(l.getD j {}).k != 0) rfl (λl x ih=>?_) l;rw[List.filter_append,List.length_append,ih,List.length_append,List.length_singleton,gU];have h1:cnt l.length (λj=>((l++[x]).getD j {}).k != 0)=cnt l.length λj=>(l.getD j {}).k != 0:=by
   unfold cnt;congr 1;apply List.filter_congr;intro j hj;have hj:j<l.length:=by simpa using hj
   rw[List.getD_eq_getElem?_getD,List.getD_eq_getElem?_getD,List.getElem?_append_left hj]
  rw[h1];congr 1;have h2:((l++[x]).getD l.length {})=x:=by rw[List.getD_eq_getElem?_getD,List.getElem?_append_right (Nat.le_refl _)];simp
  rw[h2];by_cases hx:x.k=0<;>simp[hx]
 unfold bI;rw[key,key2]
def leB(a b:Mg):Prop:=a.nm<b.nm\/(a.nm=b.nm/\a.op<=b.op)
theorem HJ(a:Mg):leB a a:=.inr ⟨rfl,Nat.le_refl _⟩
theorem vW{a b c:Mg}(h1:leB a b)(h2:leB b c):leB a c:=by unfold leB at *;omega
theorem ur{c b:Mg}:better c b=true↔¬leB c b:=by unfold better leB;simp only[Bool.or_eq_true,decide_eq_true_eq,Bool.and_eq_true,beq_iff_eq];omega
theorem oK:∀(l:List (Nat×Mg)) (b:Nat×Mg),∃r,l.foldl (λb c=>match b with|none=>some c|some b=>if better c.2 b.2 then some c else some b) (some b)=some r/\(r=b\/r∈l)/\leB b.2 r.2/\∀x,x∈l->leB x.2 r.2
 |[],b=>⟨b,rfl,.inl rfl,HJ _,λx hx=>Oa⟩
 | c::l,b=>by
   simp only[List.foldl_cons];by_cases h:better c.2 b.2=true
   ·rw[if_pos h];obtain⟨r,h1,h2,h3,h4⟩:=oK l c;have hn:=ur.1 h;refine⟨r,h1,.inr ?_,?_,λx hx=>?_⟩
    ·rcases h2 with h2|h2
     ·rw[h2];simp
     ·simp[h2]
    ·refine vW ?_ h3;unfold leB at *;omega
    ·rcases List.mem_cons.1 hx with rfl|hx
     ·exact h3
     ·exact h4 x hx
   ·rw[if_neg h];obtain⟨r,h1,h2,h3,h4⟩:=oK l b;have hn:leB c.2 b.2:=by
     by_cases hq:leB c.2 b.2
     ·exact hq
     ·exact absurd (ur.2 hq) h
    refine⟨r,h1,?_,h3,λx hx=>?_⟩
    ·rcases h2 with h2|h2
     ·exact .inl h2
     ·exact .inr Pg
    ·rcases List.mem_cons.1 hx with rfl|hx
     ·exact vW hn h3
     ·exact h4 x hx
theorem r7{l:List (Nat×Mg)}{r:Nat×Mg}(h:dV l=some r):r∈l/\∀x,x∈l->leB x.2 r.2:=by
 unfold dV at h
 cases l with
 |nil=>simp at h
 | cons c l =>
   simp only[List.foldl_cons]at h;obtain⟨r',h1,h2,h3,h4⟩:=oK l c;have h:=h1.symm.trans h;injection h with h;subst h;refine⟨by rcases h2 with h2|h2<;>simp[h2],λx hx=>?_⟩;rcases List.mem_cons.1 hx with rfl|hx
   ·exact h3
   ·exact h4 x hx
theorem vp:∀(l:List Mg) (a:Nat),l.foldl (λa m=>max a m.cm) a=a\/∃m,m∈l/\l.foldl (λa m=>max a m.cm) a=m.cm
 |[],a=>.inl rfl
 | m::l,a=>by
   simp only[List.foldl_cons];rcases vp l (max a m.cm) with h|⟨x,h1,h2⟩
   ·by_cases hm:a<=m.cm
    ·exact .inr ⟨m,Nw,by rw[h];omega⟩
    ·exact .inl (by rw[h];omega)
   ·exact .inr ⟨x,N6,h2⟩
theorem GH(l:List Mg):eP l=0\/∃m,m∈l/\eP l=m.cm:=vp l 0
def jR(g:Gh)(v i:Nat)(l:List Ent):Gh :=
 {M:=λu=>if u=v then l else g.M u,S:=λu=>if u=v then l.length else g.S u,st:=λu=>u=v\/g.st u,ack:=λu j=>if u=v/\j=i then l.length else g.ack u j}
section
variable{g:Gh}{v i u j:Nat}{l:List Ent}
theorem qK:(jR g v i l).M v=l:=by simp[jR]
theorem pN(h:u≠v):(jR g v i l).M u=g.M u:=by simp[jR,h]
theorem qJ:(jR g v i l).S v=l.length:=by simp[jR]
theorem CY(h:u≠v):(jR g v i l).S u=g.S u:=by simp[jR,h]
theorem BM:(jR g v i l).ack v i=l.length:=by simp[jR]
theorem mU(h:¬(u=v/\j=i)):(jR g v i l).ack u j=g.ack u j:=by simp only[jR];rw[if_neg h]
theorem xu:(jR g v i l).st v:=.inl rfl
end
section
variable{n T T' i:Nat}{g:Gh}{P:Nat->PR}
theorem JI(hT:T<=T')(hT4:T'<=10000)(I:GI n T g λj=>(P j).vw)(hi:i<n)(hodd:n%2=1)(h:RI n T g P i (P i))(hs:(P i).st=1)(hpv:(P i).vw%n=i)(hvT:(P i).vw<=T)
 (hcnt:(P i).F<(bI (P i).aH).length) (hown:((P i).aH.getD (P i).me {}).k≠0) {b:Nat×Mg} (hb:dV (bI (P i).aH)=some b):SR n T T' g P i (fD (P i) b):=by
 obtain⟨jb,c⟩:=b;obtain⟨hbm,hbest⟩:=r7 hb;obtain⟨hcj,hck⟩:=iz.1 hbm;have r:=h.ra Nr;obtain⟨c1,c2,c3,dc,c5⟩:=r.cm hs jb c hcj hck;have hnst:=r.np hs hpv;have hnmlt:=r.s1 hs;obtain⟨o,ho,hok⟩:∃o,(P i).aH[i]? = some o/\o.k≠0:=by
  rw[h.me,List.getD_eq_getElem?_getD]at hown
  cases hq:(P i).aH[i]? with
  |none=>rw[hq]at hown;exact absurd rfl hown
  |some o=>rw[hq]at hown;exact⟨o,rfl,hown⟩
 obtain⟨_,_,_,_,o5⟩:=r.cm hs i o ho hok;obtain⟨o6,o7⟩:=o5 rfl;have hob:leB o c:=hbest (i,o) (iz.2 ⟨ho,hok⟩);have hnc:(P i).nm<=c.nm/\((P i).nm=c.nm->(P i).op<=c.op):=by unfold leB at hob;omega
 have hcv:c.nm<(P i).vw:=by have:=dc.nv;omega
 have hcst:=dc.w.st;obtain⟨Q,hQ,hLG,hQop,hQf⟩:∃Q,Q=(if jb=(P i).me then P i else au (P i) c)/\LG n g c.nm Q/\Q.op=c.op/\∃l s k bs,Q={P i with log:=l,sv:=s,cm:=k,bs:=bs}:=by
  by_cases hj:jb=(P i).me
  ·refine⟨P i,by rw[if_pos hj],?_⟩;rw[h.me]at hj;obtain⟨c6,c7⟩:=c5 hj;rw[c6,c7];exact⟨r.lg,rfl,_,_,_,_,rfl⟩
  ·refine⟨_,by rw[if_neg hj],?_⟩;have hlp:=r.lg.lp I hcst hnc.1;have hco:(P i).cm<=c.op:=by
    rcases Nat.eq_or_lt_of_le hnc.1 with e|hlt
    ·have:=hnc.2 e;have:=r.lg.co;omega
    ·have:=(r.lg.cd.up I hcst hlt).1;have:=dc.w.so;omega
   exact hlp.install dc.w hco
 obtain⟨ql,qs,qc,qb,hQe⟩:=hQf;have hcl:c.op<=(g.M c.nm).length:=dc.w.ol;obtain⟨l,hl⟩:∃l,l=(g.M c.nm).take c.op:=⟨_,rfl⟩;have hll:l.length=c.op:=by rw[hl,List.length_take];omega
 obtain⟨v,hv⟩:∃v,v=(P i).vw:=⟨_,rfl⟩;obtain⟨R,hR⟩:∃R:PR,R={Q with st:=0,nm:=(P i).vw,told:=List.replicate (P i).n 0}:=⟨_,rfl⟩;have hRv:R.vw=v:=by rw[hR,hQe,hv]
 have hRop:R.op=c.op:=by rw[<-hQop,hR];rfl
 have hRme:R.me=i:=by rw[hR,hQe];exact h.me
 have hRn:R.n=n:=by rw[hR,hQe];exact h.nn
 have hRs:R.st=0:=by rw[hR]
 have hRnm:R.nm=v:=by rw[hR,hv]
 have hRt:R.told=List.replicate n 0:=by rw[hR,h.nn]
 have hRc:R.aH=(P i).aH:=by rw[hR,hQe]
 have hRa:R.ans=(P i).ans:=by rw[hR,hQe]
 have hRvo:R.aG=(P i).aG:=by rw[hR,hQe]
 have hRnc:R.nc=(P i).nc:=by rw[hR,hQe]
 have hRlog:R.log=Q.log:=by rw[hR]
 have hRbs:R.bs=Q.bs:=by rw[hR]
 have hRcm:R.cm=Q.cm:=by rw[hR]
 have hRsv:R.sv=Q.sv:=by rw[hR]
 have hbeg:fD (P i) (jb,c)=((aq R (eP (P i).aH)).1,R.allM (R.bM {k:=7,vw:=(P i).vw})++(aq R (eP (P i).aH)).2):=by unfold fD;simp only;rw[<-hQ,<-hR]
 rw[hbeg]
 have ha0:∀k,g.ack v k=0:=λk=>by
  rcases Nat.eq_zero_or_pos (g.ack v k) with h0|h0
  ·exact h0
  ·have:=(I.ak v k h0).1;rw[hv]at this;exact absurd this hnst
 have adv:∀R':PR,R'.vw=v->R'.st=0->Adv n T g (jR g v i l) P (upd P i R') i:=by
  intro R' e1 e2;refine⟨λu hu=>?_,λu hu=>?_,λu k=>?_,λu k hk=>?_,λk hk=>dg hk,by rw[cG,e1,hv];exact Nat.le_refl _,by rw[cG];exact λh2=>by omega⟩
  ·have hne:u≠v:=λe=>by rw[e,hv]at hu;exact hnst hu
   exact⟨.inr hu,CY hne,[],by rw[pN hne];simp,λ_=>rfl⟩
  ·rcases hu with hu|hu
   ·right;rw[hu,hv];exact hpv
   ·exact .inl hu
  ·by_cases hq:u=v/\k=i
   ·rw[hq.1,hq.2,ha0];exact Nat.zero_le _
   ·rw[mU hq];exact Nat.le_refl _
  ·rw[cG,e1]at hk;exact mU λhq=>by rcases hk with h1|h1<;>omega
 have gi:∀R':PR,R'.vw=v->R'.st=0->GI n T (jR g v i l) λk=>(upd P i R' k).vw:=by
  intro R' e1 e2;have a:=adv R' e1 e2;refine I.adv a (Nat.le_refl _) (λu hu=>?_) (λu hu=>?_) (λu hu1 hu2=>?_)
  ·by_cases hq:u=v/\i=i
   ·obtain⟨hq,_⟩:=hq;subst hq;rw[BM,qK,cG,e1];exact⟨xu,Nat.le_refl _,Nat.le_refl _⟩
   ·exact absurd (mU hq) hu
  ·have hne:u≠v:=λe=>by rw[e,hv]at hu;exact hnst hu
   rw[pN hne];exact⟨λe he=>.inl he,I.len u hu⟩
  ·have huv:u=v:=by
    rcases hu1 with h1|h1
    ·exact h1
    ·exact absurd h1 hu2
   subst huv;have hcn:c.nm≠u:=by rw[hv];omega
   rw[qJ,qK];refine⟨Nat.le_refl _,λ_=>⟨c.nm,λk=>((P i).aH.getD k {}).k != 0,by rw[hv];exact hcv,.inr hcst,?_,?_,?_,?_,?_⟩,λe he=>?_,by have:=I.len _ hcst;omega,by rw[hv];exact hvT,?_⟩
   ·rw[CY hcn,qJ,hll];exact dc.w.so
   ·rw[qJ,pN hcn,hll];exact hcl
   ·rw[qJ,qK,pN hcn,hll,hl,List.take_take,Nat.min_self]
   ·have h1:=FW (P i).aH;rw[h.ls.2.2.1]at h1;unfold PR.F at hcnt;rw[h.nn]at hcnt;omega
   ·intro k hk hq;have hq':((P i).aH.getD k {}).k≠0:=by simpa using hq
    obtain⟨x,hx,hxk⟩:∃x,(P i).aH[k]? = some x/\x.k≠0:=by
     rw[List.getD_eq_getElem?_getD]at hq'
     cases hz:(P i).aH[k]? with
     |none=>rw[hz]at hq';exact absurd rfl hq'
     |some x=>rw[hz]at hq';exact⟨x,rfl,hq'⟩
    obtain⟨x1,x2,x3,dx,x5⟩:=r.cm hs k x hx hxk;have hxb:leB x c:=hbest (k,x) (iz.2 ⟨hx,hxk⟩);have hxa:=dx.ak;rw[x2,x3,<-hv]at hxa;refine⟨?_,λw hw1 hw2=>?_,?_⟩
    ·have:=dx.vv;rw[x2,x3,<-hv]at this;exact Nat.le_trans this (a.vws k)
    ·rw[mU λe=>Nr];rcases Nat.eq_zero_or_pos (g.ack w k) with h0|h0
     ·exact h0
     ·have:=(hxa w hw2 h0).1;unfold leB at hxb;omega
    ·rw[mU λe=>Nr,qJ,hll];rcases Nat.eq_zero_or_pos (g.ack c.nm k) with h0|h0
     ·omega
     ·obtain⟨y1,y2⟩:=hxa c.nm (by rw[hv];exact hcv) h0;unfold leB at hxb;have:=y2 Nr;omega
   ·rw[hl]at he;exact I.ent _ e hcst (List.mem_of_mem_take he)
   ·rw[show u%n=i by rw[hv];exact hpv,cG,e1];exact Nat.le_refl _
 have hLGR:∀R':PR,R'.vw=v->R'.st=0->LG n (jR g v i l) v R:=by
  intro R' e1 e2;have a:=adv R' e1 e2;have I':=gi R' e1 e2;have h1:=hLG.adv a;have hle:Q.cm<=c.op:=by have:=hLG.co;omega
  have hMt:∀k,k<=c.op->((jR g v i l).M v).take k=(g.M c.nm).take k:=λk hk=>by
   rw[qK,hl,List.take_take,Nat.min_eq_left hk]
  have hcn:c.nm≠v:=by rw[hv];omega
  refine⟨xu,?_,by rw[hRbs,hRcm];exact hLG.bc,by rw[hRcm,hRop];exact hle,by rw[qJ,hRop,hll];exact Nat.le_refl _,by rw[qK,hRop,hll];exact Nat.le_refl _,?_,?_⟩
  ·rw[hRop,hRbs,hRlog,hMt _ (Nat.le_refl _),hLG.log,hQop]
  ·rw[hRcm];obtain⟨u,u1,u2,u3⟩:=h1.cd;refine⟨u,by rw[hv];omega,u2,?_⟩;rw[u3,pN hcn,hMt _ hle]
  ·rw[hRsv,hRcm,hMt _ hle];exact hLG.sv
 have hRR:RI n T (jR g v i l) (upd P i R) i R:=by
  have e1:=hRv;have a:=adv R hRv hRs;have hlgr:=hLGR R hRv hRs;refine⟨hRme,hRn,⟨by rw[hRt];simp,by rw[hRvo];exact h.ls.2.1,by rw[hRc];exact h.ls.2.2.1,by rw[hRa];exact h.ls.2.2.2⟩,by rw[hRv,hv];exact hvT,by rw[hRnc];exact h.nc,Nr,by rw[hRnm,hRv];exact Nat.le_refl _,λk hk=>?_,λ_=>⟨by rw[hRnm];exact hlgr,λ_=>by rw[hRnm,hRv],λh1=>Nr,λ_=>?_,λu hu=>?_,λh1=>Nr,λh1=>Nr,λh1=>Nr⟩,λh2=>Nr,λm hm=>h.mb m (by rw[<-hRc,<-hRa];exact hm)⟩
  ·rw[hRt,List.getD_eq_getElem?_getD,List.getElem?_replicate];split<;>simp
  ·rw[hRnm,qK,BM,hRop,hll];exact⟨rfl,rfl⟩
  ·rw[hRnm];by_cases hq:u=v/\i=i
   ·obtain⟨hq,_⟩:=hq;subst hq;rw[BM,hRop,hll];exact⟨Nat.le_refl _,λ_=>Nat.le_refl _⟩
   ·rw[mU hq]at hu;have:=(r.ak u hu).1;exact⟨by rw[hv];omega,λe=>absurd ⟨e,rfl⟩ hq⟩
 have htop:Cd n (jR g v i l) R.nm (eP (P i).aH):=by
  have I':=gi R hRv hRs;have a:=adv R hRv hRs;rcases GH (P i).aH with h1|⟨x,h1,h2⟩
  ·rw[h1];exact Cd.zero I' Nr
  ·rw[h2];by_cases hxk:x.k=0
   ·rw[r.c0 hs x h1 hxk];exact Cd.zero I' Nr
   ·obtain⟨k,hk⟩:=List.mem_iff_getElem?.1 h1;obtain⟨x1,x2,x3,dx,x5⟩:=r.cm hs k x hk hxk;have hd:=(dx.w.adv a).cd;rw[hRnm];exact(hd.up I' xu (by have:=dx.nv;rw[hv];omega)).2.1
 obtain⟨d1,d2,d3,d4,d5,d6,d7,d8⟩:=hRR.aq Nr htop;obtain⟨Z,hZ⟩:∃Z,Z=(aq R (eP (P i).aH)).1:=⟨_,rfl⟩;rw[<-hZ]at d1 d2 d3 d4 d5 d6 d7|-;have aZ:=adv Z (by rw[d3,hRv]) (by rw[d4,hRs]);have gZ:=gi Z (by rw[d3,hRv]) (by rw[d4,hRs]);refine⟨jR g v i l,aZ,?_,?_,λm hm hto=>?_⟩
 ·exact⟨gZ.z0,gZ.s0,gZ.sl,gZ.ak,gZ.q,λu e hu he=>eI.mono hT (gZ.ent u e hu he),λu hu=>Nat.le_trans (gZ.len u hu) hT,λu hu=>Nat.le_trans (gZ.vt u hu) hT,gZ.pv⟩
 ·have d1':=d1.mono hT;refine⟨d1'.me,d1'.nn,d1'.ls,d1'.vw,d1'.nc,d1'.st,d1'.nm,d1'.tl,λh2=>?_,λh2=>by rw[d4,hRs]at h2;omega,d1'.mb⟩;have q:=d1'.ra h2;exact⟨q.lg,q.s0,q.s1,q.pr,q.ak,λh3=>by rw[d4,hRs]at h3;omega,q.np,q.c0⟩
 ·rcases List.mem_append.1 hm with h1|h1
  ·obtain⟨k,k1,k2,rfl⟩:=gW.1 h1;rw[hRn]at k1;rw[hRme]at k2;have hlgr:=hLGR Z (by rw[d3,hRv]) (by rw[d4,hRs]);have hw:=hlgr.wh (m:={k:=7,vw:=(P i).vw}) rfl k;have gZ':GI n T' (jR g v i l) λk=>(upd P i Z k).vw:=⟨gZ.z0,gZ.s0,gZ.sl,gZ.ak,gZ.q,λu e hu he=>eI.mono hT (gZ.ent u e hu he),λu hu=>Nat.le_trans (gZ.len u hu) hT,λu hu=>Nat.le_trans (gZ.vt u hu) hT,gZ.pv⟩;obtain⟨b1,b2,b3,b4,b5⟩:=oZ hT4 gZ' (Q:=P) hlgr (m:={k:=7,vw:=(P i).vw}) rfl;rw[hv]at hw;refine⟨k1,by show R.me<n;rw[hRme];exact hi,by show R.me≠k;rw[hRme];exact λe=>k2 e.symm,by show 2<=7/\7<=11;omega,⟨by show(P i).vw<=T';omega,b1,b2,b3,Nat.zero_le _,Nat.zero_le _⟩,b4,b5,λh1=>?_,λh1=>?_,λh1=>?_,λh1=>?_,λ_=>⟨?_,by show R.me=(P i).vw%n;rw[hRme,hpv]⟩,λh1=>?_,λh1=>?_⟩
   all_goals first|exact absurd h1 (by show¬(7=_);omega)|skip
   rw[hv];exact hw
  ·have:=d8 m h1;omega
theorem Ct:upd (upd P i Q) i R=upd P i R:=by
 funext j;by_cases h:j=i
 ·subst h;rw[cG,cG]
 ·rw[dg h,dg h,dg h]
theorem SR.then{o1 o2:List Mg}(hv:(P i).vw<=Q.vw)(hQ:Q.st≠2)(ho:∀g' P' m,m∈o1->m.to<100->MI n T' g' P' m)(h:SR n T T' g (upd P i Q) i (R,o2)):SR n T T' g P i (R,o1++o2):=by
 obtain⟨g',a,I,r,m⟩:=h;have e:upd (upd P i Q) i (R,o2).1=upd P i R:=Ct;rw[e]at a I r m;refine⟨g',⟨a.m,a.s,a.al,a.ae,λj hj=>by show upd P i R j=P j;exact dg hj,?_,λh2=>?_⟩,I,r,λx hx hx1=>?_⟩
 ·have:=a.vw;rw[cG,cG]at this;show(P i).vw<=(upd P i R i).vw;rw[cG];omega
 ·have h3:(upd P i R i).st=2:=h2;obtain⟨h4,h5⟩:=a.rc h3;refine⟨h4,?_⟩;rw[cG (Q:=Q)]at h5;rcases h5 with⟨h5,_⟩|h5
  ·exact absurd h5 hQ
  ·exact .inr h5
 ·rcases List.mem_append.1 hx with h6|h6
  ·exact ho _ _ x h6 hx1
  ·exact m x h6 hx1
theorem lz{n j:Nat}(h:(List.replicate n ({}:Mg))[j]? = some m):m={}:=by
 rw[List.getElem?_replicate]at h;split at h
 ·injection h with h;exact h.symm
 ·cases h
theorem yC(I:GI n T g λj=>(P j).vw)(h:RI n T g P i (P i))(hs:(P i).st≠2){v:Nat}(hv:(P i).vw<v)(hvT:v<=T) :
 RI n T g (upd P i (bO (P i) v).1) i (bO (P i) v).1/\GI n T g (λj=>(upd P i (bO (P i) v).1 j).vw)/\(bO (P i) v).1.vw=v/\(bO (P i) v).1.st=1:=by
 have r:=h.ra hs;have hnm:=h.nm
 have a:Adv n T g g P (upd P i (bO (P i) v).1) i:=Adv.iL (Nat.le_of_lt hv) λh2=>by
  have:(1:Nat)=2:=h2;omega
 refine⟨⟨h.me,h.nn,?_,hvT,h.nc,by show 1<=2;omega,by show(P i).nm<=v;omega,λj hj=>?_,λ_=>?_,λh2=>?_,λm hm=>?_⟩,I.iL (Nat.le_refl _) a,rfl,rfl⟩
 ·refine⟨?_,?_,?_,h.ls.2.2.2⟩
  ·show(if v=(P i).vw then(P i).told else List.replicate (P i).n 0).length=n;rw[if_neg Nr];simp[h.nn]
  ·show(List.replicate (P i).n false).length=n;simp[h.nn]
  ·show(List.replicate (P i).n ({}:Mg)).length=n;simp[h.nn]
 ·show(if v=(P i).vw then(P i).told else List.replicate (P i).n 0).getD j 0<=_;rw[if_neg Nr,List.getD_eq_getElem?_getD,List.getElem?_replicate];split<;>simp
 ·refine⟨⟨r.lg.st,r.lg.log,r.lg.bc,r.lg.co,r.lg.so,r.lg.ol,r.lg.cd,r.lg.sv⟩,λh2=>?_,λ_=>by show(P i).nm<v;omega,r.pr,r.ak,λ_ j m hm hk=>?_,λ_ hp hst=>?_,λ_ m hm hk=>?_⟩
  ·have:(1:Nat)=0:=h2;omega
  ·have:=lz (n:=(P i).n) (j:=j) hm;subst this;exact absurd rfl hk
  ·have hst':g.st v:=hst;have hp':v%n=i:=hp;have:=I.pv v hst';simp only[hp']at this;omega
  ·have hm':m∈List.replicate (P i).n ({}:Mg):=hm;have:=(List.mem_replicate.1 hm').2;subst this;rfl
 ·have:(1:Nat)=2:=h2;omega
 ·have hm':m∈List.replicate (P i).n ({}:Mg)++(P i).ans:=hm;rcases List.mem_append.1 hm' with h1|h1
  ·have:=(List.mem_replicate.1 h1).2;subst this;exact⟨Nat.zero_le _,Nat.zero_le _,Nat.zero_le _,Nat.zero_le _,Nat.zero_le _,Nat.zero_le _,Nat.zero_le _,Nat.zero_le _⟩
  ·exact h.mb m (List.mem_append_right _ h1)
theorem vB(hi:i<n)(h:RI n T g P i (P i)){v:Nat}(hvT:v<=T')(g':Gh)(P':Nat->PR):∀m,m∈(bO (P i) v).2->MI n T' g' P' m:=by intro x hx;have hx':x∈PR.allM (bO (P i) v).1 {k:=5,vw:=v}:=hx;obtain⟨j,j1,j2,rfl⟩:=gW.1 hx';have j1':j<(P i).n:=j1;have j2':j≠(P i).me:=j2;rw[h.nn]at j1';rw[h.me]at j2';exact MI.mk0 j1' NT O8 (.inl rfl) ⟨hvT,Nat.zero_le _,Nat.zero_le _,Nat.zero_le _⟩ ⟨rfl,rfl,rfl,rfl⟩
theorem Iu(hT:T<=T')(hT4:T'<=10000)(I:GI n T g λj=>(P j).vw)(hi:i<n)(hodd:n%2=1)(h:RI n T g P i (P i))(hs:(P i).st=1)(hpv:(P i).vw%n=i){m:Mg}
 (hk:m.k=6) (hfr:m.fr<n) (hv:m.vw=(P i).vw) (hd:DI n g P m) (hown:m.fr=i->m.nm=(P i).nm/\m.op=(P i).op) (hb:m.vw<=T/\m.op<=T/\m.cm<=T/\m.bs<=T/\m.nm<=T/\m.nc<=T/\m.log.length<=T/\m.img.length<=1+16*T):SR n T T' g P i (dD (P i) m):=by
 have r:=h.ra Nr;unfold dD;obtain⟨Q,hQ⟩:∃Q,Q=(if ((P i).aH.getD m.fr {}).k=0 then {P i with aH:=(P i).aH.set m.fr m} else P i):=⟨_,rfl⟩;simp only;rw[<-hQ];have hQ':∃c,Q={P i with aH:=c}/\c.length=n/\(∀j x,c[j]? = some x->x=m/\j=m.fr\/(P i).aH[j]? = some x):=by
  rw[hQ];split
  ·refine⟨_,rfl,by rw[List.length_set];exact h.ls.2.2.1,λj x hx=>?_⟩;rw[List.getElem?_set]at hx;by_cases hj:m.fr=j
   ·subst hj;rw[if_pos rfl]at hx;split at hx
    ·injection hx with hx;exact .inl ⟨hx.symm,rfl⟩
    ·cases hx
   ·rw[if_neg hj]at hx;exact .inr hx
  ·exact⟨_,rfl,h.ls.2.2.1,λj x hx=>.inr hx⟩
 obtain⟨c,hQe,hcl,hcm⟩:=hQ'
 have a:Adv n T g g P (upd P i Q) i:=Adv.iL (by rw[hQe];exact Nat.le_refl _) λh2=>by
  rw[hQe]at h2;have:(P i).st=2:=h2;omega
 have I':=I.iL (Nat.le_refl T) a;have hRI:RI n T g (upd P i Q) i Q:=by
  rw[hQe]at a|-;refine⟨h.me,h.nn,⟨h.ls.1,h.ls.2.1,hcl,h.ls.2.2.2⟩,h.vw,h.nc,h.st,h.nm,h.tl,λ_=>⟨⟨r.lg.st,r.lg.log,r.lg.bc,r.lg.co,r.lg.so,r.lg.ol,r.lg.cd,r.lg.sv⟩,r.s0,r.s1,r.pr,r.ak,λ_ j x hx hxk=>?_,r.np,λ_ x hx hxk=>?_⟩,λh2=>?_,λx hx=>?_⟩
  ·rcases hcm j x hx with⟨h1,h2⟩|h1
   ·subst h1;subst h2;exact⟨hk,rfl,hv,hd.adv a,hown⟩
   ·obtain⟨c1,c2,c3,c4,c5⟩:=r.cm hs j x h1 hxk;exact⟨c1,c2,c3,c4.adv a,c5⟩
  ·obtain⟨j,hj⟩:=List.mem_iff_getElem?.1 hx;rcases hcm j x hj with⟨h1,h2⟩|h1
   ·subst h1;omega
   ·exact r.c0 hs x (List.mem_of_getElem? h1) hxk
  ·have:(P i).st=2:=h2;omega
  ·have hx':x∈c++(P i).ans:=hx;rcases List.mem_append.1 hx' with h1|h1
   ·obtain⟨j,hj⟩:=List.mem_iff_getElem?.1 h1;rcases hcm j x hj with⟨h2,_⟩|h2
    ·subst h2;exact hb
    ·exact h.mb x (List.mem_append_left _ (List.mem_of_getElem? h2))
   ·exact h.mb x (List.mem_append_right _ h1)
 have hQs:Q.st=1:=by rw[hQe];exact hs
 have hQv:Q.vw=(P i).vw:=by rw[hQe]
 have hF:(P i).F=Q.F:=by rw[hQe];rfl
 have hme:(P i).me=Q.me:=by rw[hQe]
 have stay:SR n T T' g P i (Q,[]):=by have:=SR.same (P:=upd P i Q) (i:=i) hT I' (by rw[cG];exact hRI) (out:=[]) λx hx=>Oa;rw[cG]at this;exact SR.then (o1:=[]) (by rw[hQv];exact Nat.le_refl _) Nr (λ_ _ x hx=>by simp at hx) this
 by_cases hc:(bI Q.aH).length<=(P i).F\/(Q.aH.getD (P i).me {}).k=0
 ·rw[if_pos hc];exact stay
 rw[if_neg hc]
 cases hbo:dV (bI Q.aH) with
 |none=>exact stay
 | some b =>
   have:=JI (P:=upd P i Q) (i:=i) (b:=b) hT hT4 I' hi hodd (by rw[cG];exact hRI) (by rw[cG];exact hQs) (by rw[cG,hQv];exact hpv) (by rw[cG,hQv];exact h.vw) (by rw[cG,<-hF];omega) (by rw[cG,<-hme];omega) (by rw[cG];exact hbo);rw[cG]at this;simp only
   cases hbp:fD Q b with
   |mk R o =>rw[hbp]at this;have h9:=SR.then (P:=P) (o1:=[]) (by rw[hQv];exact Nat.le_refl _) Nr (λ_ _ x hx=>by simp at hx) this;simpa using h9
theorem J8(hT:T<=T')(hT4:T'<=10000)(I:GI n T g λj=>(P j).vw)(hi:i<n)(hodd:n%2=1)(h:RI n T g P i (P i))(hs:(P i).st=1)(fr:Nat):SR n T T' g P i (ep (P i) fr):=by
 have r:=h.ra Nr;have hvT:=h.vw;unfold ep;have set:∀(vo:List Bool) (se:Bool),vo.length=n->RI n T g (upd P i {P i with aG:=vo,aJ:=se}) i {P i with aG:=vo,aJ:=se}/\GI n T g (λj=>(upd P i {P i with aG:=vo,aJ:=se} j).vw):=by
  intro vo se hvo
  have a:Adv n T g g P (upd P i {P i with aG:=vo,aJ:=se}) i:=Adv.iL (Nat.le_refl _) λh2=>by
   have:(P i).st=2:=h2;omega
  refine⟨⟨h.me,h.nn,⟨h.ls.1,hvo,h.ls.2.2⟩,h.vw,h.nc,h.st,h.nm,h.tl,λ_=>⟨⟨r.lg.st,r.lg.log,r.lg.bc,r.lg.co,r.lg.so,r.lg.ol,r.lg.cd,r.lg.sv⟩,r.s0,r.s1,r.pr,r.ak,λ_ j x hx hxk=>?_,r.np,r.c0⟩,λh2=>?_,h.mb⟩,I.iL (Nat.le_refl _) a⟩
  ·obtain⟨c1,c2,c3,c4,c5⟩:=r.cm hs j x hx hxk;exact⟨c1,c2,c3,c4.adv a,c5⟩
  ·have:(P i).st=2:=h2;omega
 have hvl:((P i).aG.set fr true).length=n:=by rw[List.length_set];exact h.ls.2.1
 simp only;by_cases hc:(P i).aJ=true\/dy ((P i).aG.set fr true)<(P i).F
 ·have hc':(P i).aJ=true\/dy ({P i with aG:=(P i).aG.set fr true}:PR).aG<(P i).F:=hc;rw[if_pos hc'];obtain⟨h1,h2⟩:=set _ (P i).aJ hvl;have:=SR.same (P:=upd P i {P i with aG:=(P i).aG.set fr true,aJ:=(P i).aJ}) (i:=i) hT h2 (by rw[cG];exact h1) (out:=[]) λx hx=>Oa;rw[cG]at this;exact SR.then (Q:={P i with aG:=(P i).aG.set fr true,aJ:=(P i).aJ}) (o1:=[]) (Nat.le_refl _) (by show(P i).st≠2;omega) (λ_ _ x hx=>by simp at hx) this
 have hc':¬((P i).aJ=true\/dy ({P i with aG:=(P i).aG.set fr true}:PR).aG<(P i).F):=hc;rw[if_neg hc'];obtain⟨h1,h2⟩:=set _ true hvl;generalize hQ:({P i with aG:=(P i).aG.set fr true,aJ:=true}:PR)=Q at h1 h2|-;have q1:Q.vw=(P i).vw:=by rw[<-hQ]
 have q2:Q.st=1:=by rw[<-hQ];exact hs
 have q3:Q.nm=(P i).nm:=by rw[<-hQ]
 have q4:Q.me=i:=by rw[<-hQ];exact h.me
 have rq:=h1.ra Nr;have hw:=rq.lg.wh (m:={k:=6,vw:=(P i).vw,nm:=(P i).nm}) rfl ((P i).vw%(P i).n);obtain⟨b1,b2,b3,b4,b5⟩:=oZ Nr h2 (Q:=P) rq.lg (m:={k:=6,vw:=(P i).vw,nm:=(P i).nm}) rfl;rw[q3]at hw;have hnm:=r.s1 hs;have hDI:DI n g (upd P i Q) (Q.toM (Q.bM {k:=6,vw:=(P i).vw,nm:=(P i).nm}) ((P i).vw%(P i).n)):=by
  refine⟨hw,hnm,?_,λu hu hk=>?_⟩
  ·show(P i).vw<=(upd P i Q Q.me).vw;rw[q4,cG,q1];exact Nat.le_refl _
  ·have hk':0<g.ack u Q.me:=hk;show u<=(P i).nm/\(u=(P i).nm->g.ack u Q.me<=Q.op);rw[q4]at hk' |-;obtain⟨x1,x2⟩:=rq.ak u hk';rw[q3]at x1 x2;exact⟨x1,x2⟩
 have hbb:(P i).nm<=T:=by have:=h.nm;omega
 by_cases hp:(P i).vw%(P i).n=(P i).me
 ·rw[if_pos hp];have hpv:Q.vw%n=i:=by rw[q1,<-h.nn,hp,h.me]
  have:=Iu (P:=upd P i Q) (i:=i) (m:=Q.toM (Q.bM {k:=6,vw:=(P i).vw,nm:=(P i).nm}) ((P i).vw%(P i).n)) hT hT4 h2 hi hodd (by rw[cG];exact h1) (by rw[cG];exact q2) (by rw[cG];exact hpv) rfl (by show Q.me<n;rw[q4];exact hi) (by rw[cG,q1];rfl) hDI (λ_=>by rw[cG];exact⟨q3.symm,rfl⟩) ⟨hvT,b1,b2,b3,hbb,Nat.zero_le _,b4,b5⟩;rw[cG]at this
  cases hcp:dD Q (Q.toM (Q.bM {k:=6,vw:=(P i).vw,nm:=(P i).nm}) ((P i).vw%(P i).n)) with
  |mk R o =>rw[hcp]at this;have h9:=SR.then (P:=P) (o1:=[]) Px Nr (λ_ _ x hx=>by simp at hx) this;simpa using h9
 ·rw[if_neg hp];rw[h.nn,h.me]at hp;have hmi:MI n T g (upd P i Q) (Q.toM (Q.bM {k:=6,vw:=(P i).vw,nm:=(P i).nm}) ((P i).vw%(P i).n)):=by
   refine⟨by show(P i).vw%(P i).n<n;rw[h.nn];exact Nat.mod_lt _ (by omega),by show Q.me<n;rw[q4];exact hi,by show Q.me≠(P i).vw%(P i).n;rw[q4,h.nn];exact λe=>hp e.symm,by show 2<=6/\6<=11;omega,⟨hvT,b1,b2,b3,hbb,Nat.zero_le _⟩,b4,b5,λh3=>?_,λh3=>?_,λh3=>?_,λ_=>⟨hDI,by show(P i).vw%(P i).n=(P i).vw%n;rw[h.nn]⟩,λh3=>?_,λh3=>?_,λh3=>?_⟩
   all_goals exact absurd h3 (by show¬(6=_);omega)
  have:=SR.same (P:=upd P i Q) (i:=i) hT h2 (by rw[cG];exact h1) (out:=[Q.toM (Q.bM {k:=6,vw:=(P i).vw,nm:=(P i).nm}) ((P i).vw%(P i).n)]) λx hx _=>by
   simp only[List.mem_singleton]at hx;subst hx;exact hmi.mono hT
  rw[cG]at this;have h9:=SR.then (P:=P) (o1:=[]) Px Nr (λ_ _ x hx=>by simp at hx) this;simpa using h9
theorem SR.pre{r:PR×List Mg}(h:SR n T T' g P i (r.1,r.2)):SR n T T' g P i r:=h
theorem J3(I:GI n T g λj=>(P j).vw)(hi:i<n)(h:RI n T g P i (P i)){v:Nat}(hv:(P i).vw<=v)(hvT:v<=T)(hn:v%n≠i)(hl:LG n g v Q){l:List Ent}{c b:Nat}(hQ:Q={P i with log:=l,sv:=s,cm:=c,bs:=b})
 (hak:∀u,0<g.ack u i->u=v->g.ack u i<=Q.op):RI n T g P i (bK Q v 0)/\(bK Q v 0).vw=v/\(bK Q v 0).st=0/\(bK Q v 0).nm=v/\(bK Q v 0).op=Q.op:=by
 have hQv:Q.vw=(P i).vw:=by rw[hQ]
 have hQn:Q.n=n:=by rw[hQ];exact h.nn
 have hQt:Q.told=(P i).told:=by rw[hQ]
 refine⟨⟨by show Q.me=i;rw[hQ];exact h.me,hQn,⟨?_,by show Q.aG.length=n;rw[hQ];exact h.ls.2.1,by show Q.aH.length=n;rw[hQ];exact h.ls.2.2.1,by show Q.ans.length=n;rw[hQ];exact h.ls.2.2.2⟩,hvT,by show Q.nc<=T;rw[hQ];exact h.nc,by show 0<=2;omega,Nat.le_refl _,λj hj=>?_,λ_=>⟨⟨hl.st,hl.log,hl.bc,hl.co,hl.so,hl.ol,hl.cd,hl.sv⟩,λ_=>rfl,λh2=>?_,λhp=>absurd hp hn,λu hu=>⟨?_,λe=>hak u hu e⟩,λh2=>?_,λh2=>?_,λh2=>?_⟩,λh2=>?_,λm hm=>h.mb m ?_⟩,rfl,rfl,rfl,rfl⟩
 ·show(if v=Q.vw then Q.told else List.replicate Q.n 0).length=n;rw[hQt,hQn];split
  ·exact h.ls.1
  ·simp
 ·show(if v=Q.vw then Q.told else List.replicate Q.n 0).getD j 0<=g.ack v j;rw[hQt,hQn,hQv];split
  ·rename_i e;rw[e];exact h.tl j hj
  ·rw[List.getD_eq_getElem?_getD,List.getElem?_replicate];split<;>simp
 ·have:(0:Nat)=1:=h2;omega
 ·show u<=v;have:=(I.ak u i hu).2.2;omega
 ·have:(0:Nat)=1:=h2;omega
 ·have:(0:Nat)=1:=h2;omega
 ·have:(0:Nat)=1:=h2;omega
 ·have:(0:Nat)=2:=h2;omega
 ·have hm':m∈Q.aH++Q.ans:=hm;rw[hQ]at hm';exact hm'
theorem yd(hT:T<=T')(I:GI n T g λj=>(P j).vw)(hi:i<n)(h:RI n T g P i (P i)){v:Nat}(hv:(P i).vw<=v)(hvT:v<=T)(hn:v%n≠i)(hl:LG n g v Q){l:List Ent}{c b:Nat}(hQ:Q={P i with log:=l,sv:=s,cm:=c,bs:=b})
 (hak:∀u,0<g.ack u i->u=v->g.ack u i<=Q.op) {k:Nat} (hk:Cd n g v k) {f:Nat} (hf:f<n) (hfi:f≠i):SR n T T' g P i ((aq (bK Q v 0) k).1,(aq (bK Q v 0) k).2++[okM (aq (bK Q v 0) k).1 f]):=by
 obtain⟨a1,a2,a3,a4,a5⟩:=J3 I hi h hv hvT hn hl hQ hak;obtain⟨c1,c2,c3,c4,c5,c6,c7,c8⟩:=a1.aq (k:=k) Nr (by rw[a4];exact hk);have hT2:=c1.opT I;refine SR.told hT I (by rw[c3,a2];exact hv) (by rw[c4,a3]) c1 (λx hx hx1=>?_) (.inl (by rw[c3,a2];exact hn));rcases List.mem_append.1 hx with h1|h1
 ·have:=c8 x h1;omega
 ·simp only[List.mem_singleton]at h1;subst h1;exact MI.ok hi c1.me (by rw[c3,a2];omega) Nr hf hfi (by rw[c3,a2];exact hl.st) (by rw[mV];exact Nat.le_max_right _ _)
theorem It(hT:T<=T')(hT4:T'<=10000)(I:GI n T g λj=>(P j).vw)(hi:i<n)(hodd:n%2=1)(h:RI n T g P i (P i))(hm:MI n T g P m)(hto:m.to=i)(hk:m.k=5\/m.k=6\/m.k=7):SR n T T' g P i (bg (P i) m):=by
 have hne:=hm.ne;have hfr:=hm.fr;rw[hto]at hne;have hb:=hm.b;have nil:∀x,x∈([]:List Mg)->x.to<100->MI n T' g P x:=λx hx=>Oa;unfold bg;by_cases hs:(P i).st=2
 ·rw[if_pos hs];exact SR.same hT I h nil
 rw[if_neg hs];have r:=h.ra hs;have hst2:=h.st;by_cases hk7:m.k=7
 ·rw[if_pos hk7];by_cases hc:m.vw<(P i).vw\/(m.vw=(P i).vw/\(P i).st≠1)\/m.op<(P i).cm
  ·rw[if_pos hc];exact SR.same hT I h nil
  rw[if_neg hc];obtain⟨w,hf⟩:=hm.k7 hk7;have hnmv:(P i).nm<m.vw:=by
   by_cases h1:(P i).st=1
   ·have:=r.s1 h1;omega
   ·have:=r.s0 Nr;omega
  have hlp:=r.lg.lp I w.st Nr;obtain⟨l1,l2,l,s,c,b,l3⟩:=hlp.install w Nr;exact yd hT I hi h Nr hb.1 (by rw[<-hf];exact hne) l1 l3 (λu hu e=>by have:=(r.ak u hu).1;omega) w.cd hfr hne
 rw[if_neg hk7]
 have main:∀(P1:Nat->PR) (Q:PR),P1 i=Q->GI n T g (λj=>(P1 j).vw)->RI n T g P1 i Q->MI n T g P1 m->∀o,SR n T T' g P1 i (if m.vw≠Q.vw\/Q.st≠1 then(Q,[]) else if m.k=5 then ep Q m.fr else if (!Q.bF)=true then(Q,[]) else dD Q m) ->
  ∃R o2,SR n T T' g P1 i (R,o2)/\(if m.vw≠Q.vw\/Q.st≠1 then(Q,o) else if m.k=5 then((ep Q m.fr).1,o++(ep Q m.fr).2) else if (!Q.bF)=true then(Q,o) else((dD Q m).1,o++(dD Q m).2))=(R,o++o2):=by
  intro P1 Q _ _ _ _ o hsr;by_cases c1:m.vw≠Q.vw\/Q.st≠1
  ·rw[if_pos c1]at hsr|-;exact⟨_,_,hsr,Nw⟩
  rw[if_neg c1]at hsr|-;by_cases c2:m.k=5
  ·rw[if_pos c2]at hsr|-;exact⟨_,_,hsr,rfl⟩
  rw[if_neg c2]at hsr|-;by_cases c3:(!Q.bF)=true
  ·rw[if_pos c3]at hsr|-;exact⟨_,_,hsr,Nw⟩
  rw[if_neg c3]at hsr|-;exact⟨_,_,hsr,rfl⟩
 have core:∀(P1:Nat->PR),GI n T g (λj=>(P1 j).vw)->RI n T g P1 i (P1 i)->MI n T g P1 m->SR n T T' g P1 i (if m.vw≠(P1 i).vw\/(P1 i).st≠1 then(P1 i,[]) else if m.k=5 then ep (P1 i) m.fr else if (!(P1 i).bF)=true then(P1 i,[]) else dD (P1 i) m):=by
  intro P1 I1 h1 hm1;by_cases c1:m.vw≠(P1 i).vw\/(P1 i).st≠1
  ·rw[if_pos c1];exact SR.same hT I1 h1 λx hx=>Oa
  rw[if_neg c1];by_cases c2:m.k=5
  ·rw[if_pos c2];exact J8 hT hT4 I1 hi hodd h1 Nr _
  rw[if_neg c2];by_cases c3:(!(P1 i).bF)=true
  ·rw[if_pos c3];exact SR.same hT I1 h1 λx hx=>Oa
  rw[if_neg c3];have hp:(P1 i).bF=true:=by
   cases hq:(P1 i).bF with
   |true=>rfl
   |false=>simp[hq]at c3
  have hpi:=(gK h1.nn h1.me).1 hp;obtain⟨d1,d2⟩:=hm1.k6 Nr;exact Iu hT hT4 I1 hi hodd h1 Nr hpi Nr hfr Nr d1 (λe=>absurd e hne) ⟨hb.1,hb.2.1,hb.2.2.1,hb.2.2.2.1,hb.2.2.2.2.1,hb.2.2.2.2.2,hm.lg,hm.im⟩
 simp only;by_cases hv:(P i).vw<m.vw
 ·rw[if_pos hv];obtain⟨s1,s2,s3,s4⟩:=yC I h hs hv hb.1;have so:=vB (T':=T') hi h (v:=m.vw) Nr;generalize hQ:bO (P i) m.vw=a at s1 s2 s3 s4 so|-;have aAdv:Adv n T g g P (upd P i a.1) i:=Adv.iL (by rw[s3];omega) λh2=>Nr;have hm1:=hm.adv aAdv;have h1:=core (upd P i a.1) s2 (by rw[cG];exact s1) hm1;rw[cG]at h1;obtain⟨R,o2,e1,e2⟩:=main (upd P i a.1) a.1 cG s2 s1 hm1 a.2 h1;have e3:(if m.vw≠a.1.vw\/a.1.st≠1 then a else if m.k=5 then((ep a.1 m.fr).1,a.2++(ep a.1 m.fr).2) else if (!a.1.bF)=true then a else((dD a.1 m).1,a.2++(dD a.1 m).2))=(R,a.2++o2):=e2;rw[e3];exact SR.then (by rw[s3];omega) Nr (λg' P' x hx _=>so g' P' x hx) e1
 ·rw[if_neg hv];have h1:=core P I h hm;obtain⟨R,o2,e1,e2⟩:=main P (P i) rfl I h hm [] h1;simp only at e2|-;rw[e2];simpa using e1
theorem IE(hT:T<=T')(I:GI n T g λj=>(P j).vw)(hi:i<n)(h:RI n T g P i (P i))(hm:MI n T g P m)(hto:m.to=i)(hk:m.k=9):SR n T T' g P i (cp (P i) m):=by
 have hne:=hm.ne;have hfr:=hm.fr;rw[hto]at hne;have hb:=hm.b;have nil:∀x,x∈([]:List Mg)->x.to<100->MI n T' g P x:=λx hx=>Oa;unfold cp;by_cases hc:(P i).st≠2\/m.nc≠(P i).nc
 ·rw[if_pos hc];exact SR.same hT I h nil
 rw[if_neg hc];have hs:(P i).st=2:=Nr;have hnc:m.nc=(P i).nc:=Nr;have r:=h.rr hs;obtain⟨m1,m2⟩:=hm.k9 hk;simp only;have hset:∀j x,((P i).ans.set m.fr m)[j]? = some x->(x=m/\j=m.fr)\/(P i).ans[j]? = some x:=by
  intro j x hx;rw[List.getElem?_set]at hx;by_cases hj:m.fr=j
  ·subst hj;rw[if_pos rfl]at hx;split at hx
   ·injection hx with hx;exact .inl ⟨hx.symm,rfl⟩
   ·cases hx
  ·rw[if_neg hj]at hx;exact .inr hx
 have hRR:RR n g i {P i with ans:=(P i).ans.set m.fr m}:=by
  refine⟨r.bs,r.cm,r.log,r.sv,λj x hx hxk=>?_⟩;rcases hset j x hx with⟨h1,h2⟩|h1
  ·subst h1;subst h2;refine⟨hk,rfl,hne,hnc,m1,λe=>?_⟩;obtain⟨w1,w2⟩:=m2 e;rw[hto]at w2;exact⟨w1,w2 hs hnc.symm⟩
  ·exact r.an j x h1 hxk
 have hQ:RI n T g P i {P i with ans:=(P i).ans.set m.fr m}:=by
  refine⟨h.me,h.nn,⟨h.ls.1,h.ls.2.1,h.ls.2.2.1,by rw[List.length_set];exact h.ls.2.2.2⟩,h.vw,h.nc,h.st,h.nm,h.tl,λh2=>absurd hs h2,λ_=>hRR,λx hx=>?_⟩;have hx':x∈(P i).aH++(P i).ans.set m.fr m:=hx;rcases List.mem_append.1 hx' with h1|h1
  ·exact h.mb x (List.mem_append_left _ h1)
  ·obtain⟨j,hj⟩:=List.mem_iff_getElem?.1 h1;rcases hset j x hj with⟨h2,_⟩|h2
   ·subst h2;exact⟨hb.1,hb.2.1,hb.2.2.1,hb.2.2.2.1,hb.2.2.2.2.1,hb.2.2.2.2.2,hm.lg,hm.im⟩
   ·exact h.mb x (List.mem_append_right _ (List.mem_of_getElem? h2))
 generalize hQe:({P i with ans:=(P i).ans.set m.fr m}:PR)=Q at hRR hQ|-;have hQa:(P i).ans.set m.fr m=Q.ans:=Pf;have q1:Q.vw=(P i).vw:=Pf;have q2:Q.st=(P i).st:=Pf;have q3:Q.nc=(P i).nc:=Pf;have aQ:Adv n T g g P (upd P i Q) i:=Adv.iL Px λh2=>.inl ⟨hs,q3⟩;have IQ:=I.iL (Nat.le_refl T) aQ;rw[hQa];split
 ·exact SR.row hT I q1 q2 q3 hQ λx hx=>Oa
 ·rename_i hcc;have hwn:Q.ans.getD (cU Q.ans%(P i).n) {}=Q.ans.getD (cU Q.ans%n) {}:=by rw[h.nn]
  rw[hwn]at hcc|-;obtain⟨w,hw⟩:∃w,Q.ans[cU Q.ans%n]? = some w:=by refine⟨_,List.getElem?_eq_getElem ?_⟩;rw[hQ.ls.2.2.2];exact Nat.mod_lt _ Nr
  have hwg:Q.ans.getD (cU Q.ans%n) {}=w:=by rw[List.getD_eq_getElem?_getD,hw];rfl
  rw[hwg]at hcc|-;have hwk:w.k≠0:=Nr;have hwv:w.vw=cU Q.ans:=Nr;obtain⟨w1,w2,w3,w4,w5,w6⟩:=hRR.an _ _ hw hwk;obtain⟨w7,w8⟩:=w6 (by rw[hwv]);rw[hwv]at w7 w8;have hwb:=hQ.mb w (List.mem_append_right _ (List.mem_of_getElem? hw));have hlp:=hRR.lp (w:=cU Q.ans) I Nr;obtain⟨l1,l2,l,s,c,b,l3⟩:=hlp.install w7 (by rw[hRR.cm];exact Nat.zero_le _);have hQi:RI n T g (upd P i Q) i (upd P i Q i):=by rw[cG];exact⟨hQ.me,hQ.nn,hQ.ls,hQ.vw,hQ.nc,hQ.st,hQ.nm,hQ.tl,λh2=>Nr,hQ.rr,hQ.mb⟩
  have:=yd (P:=upd P i Q) hT IQ hi hQi (v:=cU Q.ans) (by rw[cG,q1];omega) (by rw[<-hwv];exact hwb.1) w3 l1 (by rw[cG];exact l3) (λu hu e=>by rw[e,l2];exact w8) w7.cd (f:=cU Q.ans%n) (Nat.mod_lt _ Nr) w3;obtain⟨g',a1,a2,a3,a4⟩:=this;rw[h.nn];have e1:∀R:PR,upd (upd P i Q) i R=upd P i R:=λR=>Ct;simp only[e1]at a1 a2 a3 a4;refine⟨g',⟨a1.m,a1.s,a1.al,a1.ae,λj hj=>dg hj,?_,λh2=>?_⟩,a2,a3,a4⟩
  ·have:=a1.vw;rw[cG,cG,q1]at this;rw[cG];exact this
  ·obtain⟨b1,b2⟩:=a1.rc h2;refine⟨b1,?_⟩;rw[cG (Q:=Q),q2,q3]at b2;exact b2
theorem Jd(hT:T<=T')(I:GI n T g λj=>(P j).vw)(hi:i<n)(h:RI n T g P i (P i))(hm:MI n T g P m)(hto:m.to=i)(hk:m.k=11):SR n T T' g P i (cP (P i) m):=by
 have hne:=hm.ne;have hfr:=hm.fr;rw[hto]at hne;have hb:=hm.b;have nil:∀x,x∈([]:List Mg)->x.to<100->MI n T' g P x:=λx hx=>Oa;obtain⟨k1,k2,k3,k4,k5,k6,k7,k8⟩:=hm.k11 hk;unfold cP;by_cases hc:(P i).st≠0\/m.vw<(P i).vw\/(m.vw=(P i).vw/\m.op<=(P i).op)
 ·rw[if_pos hc];exact SR.same hT I h nil
 rw[if_neg hc];have hs:(P i).st=0:=Nr;have r:=h.ra Nr;have hnm:=r.s0 hs;have hlt:m.vw=(P i).vw->(P i).op<m.op:=Nr;have hn0:0<n:=Nr;have hnp:m.vw=(P i).vw->m.vw%n≠i:=by intro e e2;obtain⟨p1,p2⟩:=r.pr (by rw[hnm,<-e];exact e2);rw[hnm,<-e]at p1;have:=hlt e;omega
 have go:∀(Q:PR),LG n g m.vw Q->(∃l s c b,Q={P i with log:=l,sv:=s,cm:=c,bs:=b})->Q.op=m.op ->
  SR n T T' g P i ((aq (bK Q m.vw 0) m.cm).1,(aq (bK Q m.vw 0) m.cm).2++if (aq (bK Q m.vw 0) m.cm).1.bF=true then [] else [okM (aq (bK Q m.vw 0) m.cm).1 (m.vw%(P i).n)]):=by
  intro Q hl hQ hop;obtain⟨l,s,c,b,hQ⟩:=hQ;have hnpv:m.vw%n≠i:=by
   intro e;rcases Nat.eq_or_lt_of_le (show(P i).vw<=m.vw by omega) with e1|e1
   ·exact hnp e1.symm e
   ·have:=I.pv m.vw k1;simp only[e]at this;omega
  have hak:∀u,0<g.ack u i->u=m.vw->g.ack u i<=Q.op:=λu hu e=>by
   obtain⟨x1,x2⟩:=r.ak u hu;rcases Nat.eq_or_lt_of_le (show(P i).vw<=m.vw by omega) with e1|e1
   ·have:=x2 Nr;have:=hlt e1.symm;omega
   ·omega
  obtain⟨a1,a2,a3,a4,a5⟩:=J3 I hi h Nr hb.1 hnpv hl hQ hak;obtain⟨c1,c2,c3,c4,c5,c6,c7,c8⟩:=a1.aq (k:=m.cm) Nr (by rw[a4];exact k7);have hprim:¬(aq (bK Q m.vw 0) m.cm).1.bF=true:=λe=>hnpv (by rw[<-a2,<-c3];exact(gK c1.nn c1.me).1 e);rw[if_neg hprim,h.nn];exact yd hT I hi h Nr hb.1 hnpv hl hQ hak k7 (Nat.mod_lt _ hn0) hnpv
 have inst:∀(w:Wh n g m.vw m),¬m.op<(P i).cm->LG n g m.vw (au (P i) m)/\(∃l s c b,au (P i) m={P i with log:=l,sv:=s,cm:=c,bs:=b})/\(au (P i) m).op=m.op:=by intro w hco;have hlp:=r.lg.lp I k1 Nr;obtain⟨l1,l2,l3⟩:=hlp.install w Nr;exact⟨l1,l3,l2⟩
 simp only;by_cases hi1:(!eV m.img)=true
 ·rw[if_pos hi1];by_cases hc2:m.bs<=(P i).cm\/m.op<(P i).cm
  ·rw[if_pos hc2];exact SR.same hT I h nil
  rw[if_neg hc2];have hw:Wh n g m.vw m:=by
   rcases k8 with e|⟨w,_⟩
   ·rw[e]at hi1;simp[eV]at hi1
   ·exact w
  obtain⟨x1,x2,x3⟩:=inst hw Nr;exact go _ x1 x2 x3
 rw[if_neg hi1];have himg:m.img=[]:=by
  cases hq:m.img with
  |nil=>rfl
  |cons a l=>rw[hq]at hi1;simp[eV]at hi1
 by_cases hv:m.vw=(P i).vw
 ·rw[if_pos hv];by_cases hc2:(P i).op<m.bs
  ·rw[if_pos hc2];exact SR.same hT I h nil
  rw[if_neg hc2];have hl:=r.lg;rw[hnm,<-hv]at hl;have hop2:=hlt hv;have hpl:(P i).log.length=(P i).op-(P i).bs:=NH;have hbc:=hl.bc;have hco:=hl.co;have hml:m.log.length=m.op-m.bs:=by rw[k2,List.length_drop,List.length_take];omega
  have hlog:(P i).log++m.log.drop ((P i).op-m.bs)=((g.M m.vw).take m.op).drop (P i).bs:=by
   rw[hl.log,k2,List.drop_drop];have e1:m.bs+((P i).op-m.bs)=(P i).op:=Nr;rw[e1];have e2:(g.M m.vw).take m.op=(g.M m.vw).take (P i).op++((g.M m.vw).take m.op).drop (P i).op:=by
    conv=>lhs;rw[<-List.take_append_drop (P i).op ((g.M m.vw).take m.op)]
    rw[List.take_take,Nat.min_eq_left Nr]
   conv=>rhs;rw[e2]
   rw[List.drop_append_of_le_length (by rw[List.length_take];have:=hl.ol;omega)]
  have hop3:PR.op {P i with log:=(P i).log++m.log.drop ((P i).op-m.bs)}=m.op:=by unfold PR.op;simp only[List.length_append,List.length_drop,hml];show(P i).bs+((P i).log.length+(m.op-m.bs-((P i).bs+(P i).log.length-m.bs)))=m.op;have:(P i).op=(P i).bs+(P i).log.length:=rfl;omega
  refine go _ ⟨hl.st,by rw[hop3];exact hlog,hbc,by rw[hop3];show(P i).cm<=m.op;omega,by rw[hop3];exact k4,by rw[hop3];exact k5,hl.cd,hl.sv⟩ ⟨_,_,_,_,rfl⟩ hop3
 rw[if_neg hv];by_cases hc2:(P i).cm<m.bs\/m.op<(P i).cm
 ·rw[if_pos hc2];exact SR.same hT I h nil
 rw[if_neg hc2];have hlp:=r.lg.lp I k1 Nr;have hw:LG n g m.vw (au (P i) m)/\(∃l s c b,au (P i) m={P i with log:=l,sv:=s,cm:=c,bs:=b})/\(au (P i) m).op=m.op:=by
  have w':Wh n g m.vw {m with cm:=max m.cm m.bs,img:=if 0<m.bs then save (bj ((g.M m.vw).take (max m.cm m.bs))) else []}:=by
   refine⟨k1,k2,Nat.le_max_right _ _,by show max m.cm m.bs<=m.op;omega,k4,k5,?_,rfl⟩;show Cd n g m.vw (max m.cm m.bs);rcases Nat.le_total m.bs m.cm with e|e
   ·rw[Nat.max_eq_left e];exact k7
   ·rw[Nat.max_eq_right e];exact hlp.cd.le Nr
  obtain⟨l1,l2,l3⟩:=hlp.install w' (by show(P i).cm<=m.op;omega);have e:au (P i) {m with cm:=max m.cm m.bs,img:=if 0<m.bs then save (bj ((g.M m.vw).take (max m.cm m.bs))) else []}=au (P i) m:=by unfold au;rw[if_neg (show¬(P i).cm<m.bs by omega),if_neg (show¬(P i).cm<m.bs by omega)]
  rw[e]at l1 l2 l3;exact⟨l1,l3,l2⟩
 exact go _ hw.1 hw.2.1 hw.2.2
theorem vu(hT1:T+1<=T')(hT4:T'<=10000)(I:GI n T g λj=>(P j).vw)(hi:i<n)(h:RI n T g P i (P i)):SR n T T' g P i (bw (P i)):=by
 have hT:T<=T':=Nr;have hvT:=h.vw;have hnT:=h.nc;unfold bw;by_cases hs:(P i).st=2
 ·rw[if_pos hs];refine SR.same hT I h λx hx _=>?_;obtain⟨j,j1,j2,rfl⟩:=gW.1 hx;rw[h.nn]at j1;rw[h.me]at j2;exact MI.mk0 j1 NT OC (.inr (.inl rfl)) ⟨Nat.zero_le _,Nat.zero_le _,Nat.zero_le _,by show(P i).nc<=T';omega⟩ ⟨rfl,rfl,rfl,rfl⟩
 rw[if_neg hs];by_cases hp:(P i).st=0/\(P i).bF=true
 ·rw[if_pos hp];exact SR.same hT I h λx hx=>Oa
 rw[if_neg hp];have I':GI n T' g λj=>(P j).vw:=⟨I.z0,I.s0,I.sl,I.ak,I.q,λu e hu he=>eI.mono hT (I.ent u e hu he),λu hu=>Nat.le_trans (I.len u hu) hT,λu hu=>Nat.le_trans (I.vt u hu) hT,I.pv⟩;obtain⟨s1,s2,s3,s4⟩:=yC I' (h.mono hT) hs (v:=(P i).vw+1) Nr Nr;have so:=vB (T':=T') hi h (v:=(P i).vw+1) Nr;have a:Adv n T g g P (upd P i (bO (P i) ((P i).vw+1)).1) i:=Adv.iL (by rw[s3];omega) λh2=>Nr;exact⟨g,a,s2,s1,λm hm _=>so _ _ m hm⟩
theorem GO(hT:T<=T')(hT4:T'<=10000)(I:GI n T g λj=>(P j).vw)(hi:i<n)(hodd:n%2=1)(h:RI n T g P i (P i))(hm:MI n T g P m)(hto:m.to=i):SR n T T' g P i (bX (P i) m):=by
 have hk:=hm.k;have nil:∀x,x∈([]:List Mg)->x.to<100->MI n T' g P x:=λx hx=>Oa;unfold bX;by_cases hg:(!fW (P i) m)=true
 ·rw[if_pos hg];exact SR.same hT I h nil
 rw[if_neg hg,if_neg Nr];by_cases h4:m.k<=4
 ·rw[if_pos h4];exact Hv hT I hi hodd h hm hto ⟨Nr,h4⟩
 rw[if_neg h4];by_cases h7:m.k<=7
 ·rw[if_pos h7];exact It hT hT4 I hi hodd h hm hto Nr
 rw[if_neg h7];by_cases h8:m.k=8
 ·rw[if_pos h8];exact Bm hT Nr I hi h hm hto
 rw[if_neg h8];by_cases h9:m.k=9
 ·rw[if_pos h9];exact IE hT I hi h hm hto h9
 rw[if_neg h9];by_cases h10:m.k=10
 ·rw[if_pos h10];exact BK hT Nr I hi h hm hto
 rw[if_neg h10];exact Jd hT I hi h hm hto Nr
end
def jC(m:Mg):Prop:=∃L:List Ent,m.img=save (bj L)/\L.length<=m.cm/\∀e,e∈L->eI 10000 e
theorem eI.sz{T:Nat}{e:Ent}(h:eI T e):e.t.size=1:=by rw[h.2.2.2.2];decide
structure PR.Ok(P:PR):Prop extends P.Sz where
 es:∀e,e∈P.sv.l->eI 10000 e
 op4:P.op<=10000
structure Mg.Ok(m:Mg):Prop where
 n:m.vw<=10000/\m.op<=10000/\m.cm<=10000/\m.bs<=10000/\m.nm<=10000/\m.nc<=10000
 lg:m.log.length<=10000
 im:m.img.length<=1000000
 en:m.en.c<=1000000/\m.en.n<=1000000
 ls:∀e,e∈m.log->e.c<=1000000/\e.n<=1000000
theorem js(h:fU m=true):m.bs<=m.cm/\m.cm<=m.op/\m.log.length=m.op-m.bs:=by unfold fU at h;simp only[Bool.and_eq_true,decide_eq_true_eq,beq_iff_eq]at h;exact⟨h.1.1,h.1.2,h.2⟩
theorem jC.un{m:Mg}(h:jC m):∃L:List Ent,m.img=1::(bj L).l.flatMap fq/\iT m.img=bj L/\bj (bj L).l=bj L/\(bj L).l.length<=m.cm/\(bj L).tab.length<=m.cm/\srt (bj L).tab/\∀e,e∈(bj L).l->eI 10000 e:=by obtain⟨L,h1,h2,h3⟩:=h;have z:=pQ L;exact⟨L,h1,by rw[h1,pe],xz L,Nr,Nr,z.2.2,λe he=>h3 e (pR L e he)⟩
theorem PR.Ok.mr{P:PR}{m:Mg}(z:P.Ok)(h3:m.log.length=m.op-m.bs)(k:m.Ok)(hco:P.cm<=m.op)(hi:P.cm<m.bs->m.bs<=m.cm/\m.cm<=m.op/\jC m):(au P m).Ok/\(au P m).op=m.op/\(au P m).n=P.n/\(au P m).me=P.me/\(au P m).vw=P.vw:=by
 have hz:=z.bs;have hc:=z.cm;have ko:=k.n.2.1;have hpl:P.log.length=P.op-P.bs:=NH;unfold au;by_cases hb:P.cm<m.bs
 ·rw[if_pos hb];obtain⟨h1,h2,hi⟩:=hi hb;obtain⟨L,e1,e2,e3,e4,e5,e6,e7⟩:=hi.un;have hop:PR.op {P with sv:=iT m.img,cm:=m.cm,bs:=m.bs,log:=m.log}=m.op:=by unfold PR.op;simp only;omega
  refine⟨⟨⟨z.n,z.odd,z.me,z.vw,h1,by rw[hop];exact h2,Pb,z.told,z.aG,z.aH,z.ans,?_,?_,?_,k.ls⟩,?_,Pb⟩,hop,rfl,rfl,rfl⟩
  ·show(iT m.img).tab.length<=m.cm;rw[e2];exact e5
  ·show(iT m.img).l.length<=m.cm;rw[e2];exact e4
  ·show srt (iT m.img).tab;rw[e2];exact e6
  ·show∀e,e∈(iT m.img).l->eI 10000 e;rw[e2];exact e7
 ·rw[if_neg hb];by_cases h4:P.bs<=m.bs
  ·rw[if_pos h4];have hop:PR.op {P with log:=P.log.take (m.bs-P.bs)++m.log}=m.op:=by unfold PR.op;simp only[List.length_append,List.length_take];omega
   exact⟨⟨⟨z.n,z.odd,z.me,z.vw,z.bs,PS,Pb,z.told,z.aG,z.aH,z.ans,z.tab,z.svl,z.srt,λe he=>by
    rcases List.mem_append.1 he with he|he
    ·exact z.ent e (List.mem_of_mem_take he)
    ·exact k.ls e he⟩,z.es,Pb⟩,hop,rfl,rfl,rfl⟩
  ·rw[if_neg h4];have hop:PR.op {P with log:=m.log.drop (P.bs-m.bs)}=m.op:=by unfold PR.op;simp only[List.length_drop];omega
   exact⟨⟨⟨z.n,z.odd,z.me,z.vw,z.bs,PS,Pb,z.told,z.aG,z.aH,z.ans,z.tab,z.svl,z.srt,λe he=>k.ls e (List.mem_of_mem_drop he)⟩,z.es,Pb⟩,hop,rfl,rfl,rfl⟩
theorem PR.Ok.install{P:PR}(z:P.Ok)(hm:fU m=true)(k:m.Ok)(hco:P.cm<=m.op)(hi:P.cm<m.bs->jC m):(au P m).Ok/\(au P m).op=m.op/\(au P m).n=P.n/\(au P m).me=P.me/\(au P m).vw=P.vw :=
 z.mr (js hm).2.2 k hco λh=>⟨(js hm).1,(js hm).2.1,hi h⟩
theorem PR.Ok.view{P:PR}(z:P.Ok){v s:Nat}(hv:v<=1000000):(bK P v s).Ok:=by
 refine⟨⟨z.n,z.odd,z.me,hv,z.bs,z.cm,z.op,?_,z.aG,z.aH,z.ans,z.tab,z.svl,z.srt,z.ent⟩,z.es,z.op4⟩;unfold bK;simp only;split
 ·exact z.told
 ·simp
theorem PR.Ok.start{P:PR}(z:P.Ok){v:Nat}(hv:v<=1000000):(bO P v).1.Ok:=by have y:=z.view (v:=v) (s:=1) hv;exact⟨⟨y.n,y.odd,y.me,y.vw,y.bs,y.cm,y.op,y.told,by simp[bO];rfl,by simp[bO];rfl,y.ans,y.tab,y.svl,y.srt,y.ent⟩,y.es,y.op4⟩
theorem ld{i:Nat}(h:L[i]? = some m):bI (L.take (i+1))=bI (L.take i)++(if m.k=0 then [] else [(i,m)]):=by
 have hi:i<L.length:=(List.getElem?_eq_some_iff.1 h).1;have hm:L[i]=m:=(List.getElem?_eq_some_iff.1 h).2;unfold bI;rw[List.take_succ_eq_append_getElem hi,hm,List.zipIdx_append,List.map_append,List.filter_append];congr 1;simp only[List.length_take,Nat.min_eq_left (Nat.le_of_lt hi),Nat.zero_add,List.zipIdx_cons,List.zipIdx_nil,List.map_cons,List.map_nil];by_cases hk:m.k=0
 ·simp[hk]
 ·simp[hk]
theorem sg(l:List (Nat×Mg))(x:Nat×Mg):dV (l++[x])=match dV l with|none=>some x|some b=>if better x.2 b.2 then some x else some b:=by unfold dV;rw[List.foldl_append];rfl
theorem tt{i:Nat}(h:L[i]? = some m):eP (L.take (i+1))=max (eP (L.take i)) m.cm:=by have hi:i<L.length:=(List.getElem?_eq_some_iff.1 h).1;have hm:L[i]=m:=(List.getElem?_eq_some_iff.1 h).2;unfold eP;rw[List.take_succ_eq_append_getElem hi,hm,List.foldl_append];rfl
theorem sf(x:Nat×Mg)(l:List (Nat×Mg)):∃r,dV (x::l)=some r:=by
 have gen:∀(l:List (Nat×Mg)) (a:Nat×Mg),∃r,l.foldl (λb c=>match b with|none=>some c|some b=>if better c.2 b.2 then some c else some b) (some a)=some r:=by
  intro l
  induction l with
  |nil=>intro a;exact⟨a,rfl⟩
  | cons y l ih =>
    intro a;rw[List.foldl_cons];simp only;split
    ·exact ih y
    ·exact ih a
 exact gen l x
theorem iB{l:List (Nat×Mg)}(h:dV l=some b):b∈l:=by
 have gen:∀(l:List (Nat×Mg)) (a:Option (Nat×Mg)) (b:Nat×Mg),l.foldl (λb c=>match b with|none=>some c|some b=>if better c.2 b.2 then some c else some b) a=some b->a=some b\/b∈l:=by
  intro l
  induction l with
  |nil=>intro a b h;exact .inl h
  | cons c l ih =>
    intro a b h;rw[List.foldl_cons]at h;rcases ih _ _ h with h1|h1
    ·cases a with
     |none=>simp only at h1;injection h1 with h1;subst h1;right;simp
     | some a =>
       simp only at h1;split at h1
       ·injection h1 with h1;subst h1;right;simp
       ·exact .inl h1
    ·right;simp[h1]
 rcases gen l none b h with h1|h1
 ·cases h1
 ·exact h1
theorem jA{l:List Mg}{j:Nat}{c:Mg}(h:(j,c)∈bI l):l[j]? = some c/\c.k≠0:=by unfold bI at h;obtain⟨h1,h2⟩:=List.mem_filter.1 h;obtain⟨p,h3,h4⟩:=List.mem_map.1 h1;injection h4 with h4 h5;subst h4;subst h5;exact⟨List.mk_mem_zipIdx_iff_getElem?.1 h3,PN⟩
theorem pX(l:List Mg):(bI l).length<=l.length:=by unfold bI;refine Nat.le_trans (List.length_filter_le _ _) ?_;simp
theorem uT(P:PR)(m:Mg):(au P m).aH=P.aH/\(au P m).ans=P.ans/\(au P m).aG=P.aG/\(au P m).aJ=P.aJ/\(au P m).told=P.told/\(au P m).st=P.st/\(au P m).nm=P.nm/\(au P m).nc=P.nc:=by
 unfold au;split
 ·exact⟨rfl,rfl,rfl,rfl,rfl,rfl,rfl,rfl⟩
 ·split<;>exact⟨rfl,rfl,rfl,rfl,rfl,rfl,rfl,rfl⟩
def eb(e:Ent):Prop:=e.c<=1000000/\e.n<=1000000
structure EB(m:Mg):Prop where
 en:eb m.en
 lg:∀e,e∈m.log->eb e
structure LI(P:PR):Prop where
 lg:∀e,e∈P.log->eb e
 cs:∀m,m∈P.aH->EB m
 asx:∀m,m∈P.ans->EB m
 ow:P.aJ=false->(P.aH.getD P.me {}).k=0
 an:∀(i:Nat) x,P.ans[i]? = some x->x.k≠0->x.fr=i
def OB(x:Mg):Prop:=EB x/\(x.to<100\/(x.log=[]/\x.img=[]))
def LS(r:PR×List Mg):Prop:=LI r.1/\∀x,x∈r.2->OB x
theorem EB.def:EB {}:=⟨⟨Nat.zero_le _,Nat.zero_le _⟩,λe h=>N7⟩
theorem EB.mk0{m:Mg}(h1:m.en=⟨0,0,.empty⟩)(h2:m.log=[]):EB m:=⟨by rw[h1];exact⟨Nat.zero_le _,Nat.zero_le _⟩,λe h=>by rw[h2]at h;simp at h⟩
theorem EB.toM{m:Mg}(h:EB m)(P:PR)(j:Nat):EB (P.toM m j):=⟨h.en,h.lg⟩
theorem LI.same{P:PR}(h:LI P)(h1:Q.log=P.log)(h2:Q.aH=P.aH)(h3:Q.ans=P.ans)(h4:Q.aJ=P.aJ)(h5:Q.me=P.me):LI Q :=
 ⟨by rw[h1];exact h.lg,by rw[h2];exact h.cs,by rw[h3];exact h.asx,by rw[h2,h4,h5];exact h.ow,by rw[h3];exact h.an⟩
theorem LI.log{P:PR}(h:LI P){l:List Ent}{s:Sv}{c b:Nat}(hl:∀e,e∈l->eb e):LI {P with log:=l,sv:=s,cm:=c,bs:=b}:=⟨hl,h.cs,h.asx,h.ow,h.an⟩
theorem LS.nil{P:PR}(h:LI P):LS (P,[]):=⟨h,λx hx=>Oa⟩
theorem OB.all{P:PR}{m:Mg}(h:EB m)(hn:P.n<=100):∀x,x∈P.allM m->OB x:=λx hx=>by
 obtain⟨j,h1,_,rfl⟩:=gW.1 hx;exact⟨⟨h.en,h.lg⟩,.inl (by show j<100;omega)⟩
theorem OB.one{P:PR}{m:Mg}(h:EB m){j:Nat}(hj:j<100):∀x,x∈[P.toM m j]->OB x:=λx hx=>by
 simp only[List.mem_singleton]at hx;subst hx;exact⟨⟨h.en,h.lg⟩,.inl hj⟩
theorem OB.app{a b:List Mg}(h1:∀x,x∈a->OB x)(h2:∀x,x∈b->OB x):∀x,x∈a++b->OB x:=λx hx=>(List.mem_append.1 hx).elim (h1 x) (h2 x)
theorem ug:∀(l:List Ent) (P:PR),(∀e,e∈l->eb e)->∀x,x∈(dt l P).2->OB x
 |[],P,_,x,hx=>by simp[dt]at hx
 | e::l,P,h,x,hx=>by
   unfold dt at hx;simp only at hx;rcases List.mem_append.1 hx with hx|hx
   ·unfold br at hx;simp only at hx;split at hx
    ·simp only[List.mem_singleton]at hx;subst hx;exact⟨⟨h e Nw,λe he=>by simp[PR.toM]at he⟩,.inr ⟨rfl,rfl⟩⟩
    ·simp at hx
   ·exact ug l _ (λe he=>h e (by simp[he])) x hx
theorem LI.aq{P:PR}(h:LI P)(k:Nat):LS (aq P k):=by have h1:∀e,e∈P.todo k->eb e:=λe he=>h.lg e (List.mem_of_mem_drop (List.mem_of_mem_take he));refine⟨?_,ug _ _ h1⟩;unfold Vr.aq;rw[iP];exact h.same rfl rfl rfl rfl rfl
theorem LI.install{P:PR}(h:LI P)(hm:EB m):LI (au P m):=by
 unfold au;split
 ·exact h.log hm.lg
 ·split
  ·exact h.log (λe he=>(List.mem_append.1 he).elim (λh1=>h.lg e (List.mem_of_mem_take h1)) (hm.lg e))
  ·exact h.log (λe he=>hm.lg e (List.mem_of_mem_drop he))
theorem LI.view{P:PR}(h:LI P)(v s:Nat):LI (bK P v s):=h.same rfl rfl rfl rfl rfl
theorem EB.whole{P:PR}(h:LI P)(hm:eb m.en):EB (P.bM m):=⟨hm,h.lg⟩
theorem eb0:eb ⟨0,0,.empty⟩:=⟨Nat.zero_le _,Nat.zero_le _⟩
theorem Aa{n j:Nat}:((List.replicate n ({}:Mg)).getD j {}).k=0:=by rw[List.getD_eq_getElem?_getD,List.getElem?_replicate];split<;>rfl
theorem LI.start{P:PR}(h:LI P)(hn:P.n<=100)(v:Nat):LS (bO P v):=by refine⟨⟨h.lg,λm hm=>?_,h.asx,λ_=>Aa,h.an⟩,OB.all (EB.mk0 rfl rfl) hn⟩;rw[List.eq_of_mem_replicate (show m∈List.replicate P.n {} from hm)];exact EB.def
theorem kW(P:PR)(m:Mg):(au P m).n=P.n/\(au P m).me=P.me/\(au P m).vw=P.vw:=by
 unfold au;split
 ·exact⟨rfl,rfl,rfl⟩
 ·split<;>exact⟨rfl,rfl,rfl⟩
theorem LI.begin{P:PR}(h:LI P)(hn:P.n<=100)(hb:EB b.2):LS (fD P b):=by
 unfold fD;simp only;obtain⟨Q,hQ⟩:∃Q,Q=if b.1=P.me then P else au P b.2:=⟨_,rfl⟩;rw[<-hQ];have hL:LI Q/\Q.n=P.n:=by
  rw[hQ];split
  ·exact⟨h,rfl⟩
  ·exact⟨h.install hb,(kW P b.2).1⟩
 obtain⟨R,hR⟩:∃R:PR,R={Q with st:=0,nm:=P.vw,told:=List.replicate P.n 0}:=⟨_,rfl⟩;rw[<-hR];have hRL:LI R:=by rw[hR];exact hL.1.same rfl rfl rfl rfl rfl
 have hRn:R.n<=100:=by rw[hR];show Q.n<=100;omega
 have hc:=hRL.aq (eP P.aH);exact⟨hc.1,OB.app (OB.all (EB.whole hRL eb0) hRn) hc.2⟩
theorem Kh{l:List Mg}{i j:Nat}(h:i≠j):(l.set i m).getD j {}=l.getD j {}:=by rw[List.getD_eq_getElem?_getD,List.getD_eq_getElem?_getD,List.getElem?_set,if_neg h]
theorem LI.aH{P:PR}(h:LI P)(hn:P.n<=100){m:Mg}(hm:EB m)(ho:m.fr≠P.me\/P.aJ=true):LS (dD P m):=by
 unfold dD;obtain⟨Q,hQ⟩:∃Q,Q=(if (P.aH.getD m.fr {}).k=0 then {P with aH:=P.aH.set m.fr m} else P):=⟨_,rfl⟩;simp only;rw[<-hQ];have hL:LI Q/\Q.n=P.n:=by
  rw[hQ];split
  ·refine⟨⟨h.lg,λx hx=>?_,h.asx,λhs=>?_,h.an⟩,rfl⟩
   ·rcases List.mem_or_eq_of_mem_set hx with hx|hx
    ·exact h.cs x hx
    ·rw[hx];exact hm
   ·rcases ho with ho|ho
    ·show((P.aH.set m.fr m).getD P.me {}).k=0;rw[Kh ho];exact h.ow hs
    ·have:P.aJ=false:=hs;rw[ho]at this;cases this
  ·exact⟨h,rfl⟩
 split
 ·exact LS.nil hL.1
 ·split
  ·exact LS.nil hL.1
  ·rename_i b hb;exact hL.1.begin Nr (hL.1.cs _ (List.mem_of_getElem? (jA (iB hb)).1))
theorem LI.KS{P:PR}(h:LI P)(hn:P.n<=100/\0<P.n)(fr:Nat):LS (ep P fr):=by
 unfold ep;simp only;split
 ·exact LS.nil (h.same rfl rfl rfl rfl rfl)
 ·obtain⟨Q,hQ⟩:∃Q:PR,Q={{P with aG:=P.aG.set fr true} with aJ:=true}:=⟨_,rfl⟩;have hs:Q.aJ=true:=by rw[hQ]
  have hL:LI Q:=by refine⟨by rw[hQ];exact h.lg,by rw[hQ];exact h.cs,by rw[hQ];exact h.asx,λh1=>?_,by rw[hQ];exact h.an⟩;rw[hs]at h1;cases h1
  have hQn:Q.n=P.n:=by rw[hQ]
  rw[<-hQ];have hm:EB (Q.toM (Q.bM {k:=6,vw:=P.vw,nm:=P.nm}) (P.vw%P.n)):=(EB.whole hL eb0).toM _ _;split
  ·exact hL.aH Nr hm (.inr hs)
  ·exact⟨hL,OB.one (EB.whole hL eb0) (by have:=Nat.mod_lt P.vw hn.2;omega)⟩
theorem LS.app{P:PR}{a b:List Mg}(h1:∀x,x∈a->OB x)(h2:LS (P,b)):LS (P,a++b):=⟨h2.1,OB.app h1 h2.2⟩
theorem LI.change{P:PR}(h:LI P)(hn:P.n<=100/\0<P.n)(hm:EB m)(hf:m.fr<P.n/\m.fr≠P.me):LS (bg P m):=by
 unfold bg;split
 ·exact LS.nil h
 split
 ·split
  ·exact LS.nil h
  ·have hc:=((h.install hm).view m.vw 0).aq m.cm;exact⟨hc.1,OB.app hc.2 (OB.one (EB.mk0 rfl rfl) Nr)⟩
 ·obtain⟨a,ha⟩:∃a,a=if P.vw<m.vw then bO P m.vw else(P,[]):=⟨_,rfl⟩;simp only;rw[<-ha];have hL:LS a/\a.1.n=P.n/\a.1.me=P.me:=by
   rw[ha];split
   ·exact⟨h.start hn.1 _,rfl,rfl⟩
   ·exact⟨LS.nil h,rfl,rfl⟩
  obtain⟨hL,e1,e2⟩:=hL;split
  ·exact hL
  ·split
   ·exact LS.app hL.2 (hL.1.KS (by rw[e1];exact hn) _)
   ·split
    ·exact hL
    ·exact LS.app hL.2 (hL.1.aH Nr hm (.inl (by rw[e2];exact hf.2)))
theorem LI.answer{P:PR}(h:LI P)(hn:P.n<=100/\0<P.n)(hm:EB m):LS (cp P m):=by
 unfold cp;split
 ·exact LS.nil h
 obtain⟨Q,hQ⟩:∃Q:PR,Q={P with ans:=P.ans.set m.fr m}:=⟨_,rfl⟩;have hQa:P.ans.set m.fr m=Q.ans:=by rw[hQ]
 simp only;rw[<-hQ];simp only[hQa];have hL:LI Q:=by
  rw[hQ];refine⟨h.lg,h.cs,λx hx=>?_,h.ow,λi x hx hk=>?_⟩
  ·rcases List.mem_or_eq_of_mem_set hx with hx|hx
   ·exact h.asx x hx
   ·rw[hx];exact hm
  ·have hx':(P.ans.set m.fr m)[i]? = some x:=hx;rw[List.getElem?_set]at hx';by_cases hi:m.fr=i
   ·rw[if_pos hi]at hx';split at hx'
    ·injection hx' with hx';rw[<-hx'];exact hi
    ·cases hx'
   ·rw[if_neg hi]at hx';exact h.an i x hx' hk
 split
 ·exact LS.nil hL
 ·have hw:EB (Q.ans.getD (cU Q.ans%P.n) {}):=by
   rw[List.getD_eq_getElem?_getD]
   cases hg:Q.ans[cU Q.ans%P.n]? with
   |none=>exact EB.def
   |some x=>exact hL.asx x (List.mem_of_getElem? hg)
  have hc:=((hL.install hw).view (cU Q.ans) 0).aq (Q.ans.getD (cU Q.ans%P.n) {}).cm;exact⟨hc.1,OB.app hc.2 (OB.one (EB.mk0 rfl rfl) (by have:=Nat.mod_lt (cU Q.ans) hn.2;omega))⟩
theorem LI.state{P:PR}(h:LI P)(hn:P.n<=100/\0<P.n)(hm:EB m):LS (cP P m):=by
 have go:∀Q:PR,LI Q->Q.n=P.n->LS ((Vr.aq (bK Q m.vw 0) m.cm).1,(Vr.aq (bK Q m.vw 0) m.cm).2++if (Vr.aq (bK Q m.vw 0) m.cm).1.bF then [] else [okM (Vr.aq (bK Q m.vw 0) m.cm).1 (m.vw%P.n)]):=by
  intro Q hQ e;have hc:=(hQ.view m.vw 0).aq m.cm;refine⟨hc.1,OB.app hc.2 ?_⟩;split
  ·exact λx hx=>Oa
  ·exact OB.one (EB.mk0 rfl rfl) (by have:=Nat.mod_lt m.vw (show 0<P.n by omega);omega)
 unfold cP;split
 ·exact LS.nil h
 simp only;split
 ·split
  ·exact LS.nil h
  ·exact go _ (h.install hm) (kW P m).1
 split
 ·split
  ·exact LS.nil h
  ·exact go _ (h.log (λe he=>(List.mem_append.1 he).elim (h.lg e) (λh1=>hm.lg e (List.mem_of_mem_drop h1)))) rfl
 ·split
  ·exact LS.nil h
  ·exact go _ (h.install hm) (kW P m).1
theorem LI.request{P:PR}(h:LI P)(hn:P.n<=100){m:Mg}(hm:EB m):LS (request P m):=by
 have go:LS (if (P.log.drop (P.cm-P.bs)).any (λx=>x.c==m.en.c&&decide (m.en.n<=x.n)) then(P,[]) else
  ({P with log:=P.log++[m.en]},PR.allM {P with log:=P.log++[m.en]} {k:=2,vw:=P.vw,op:=PR.op {P with log:=P.log++[m.en]},cm:=P.cm,en:=m.en})):=by
  split
  ·exact LS.nil h
  ·refine⟨h.log (λe he=>?_),OB.all ⟨hm.en,λe he=>by simp at he⟩ hn⟩;rcases List.mem_append.1 he with he|he
   ·exact h.lg e he
   ·simp only[List.mem_singleton]at he;rw[he];exact hm.en
 unfold Vr.request;split
 ·exact LS.nil h
 simp only;split
 ·exact go
 ·split
  ·exact LS.nil h
  ·split
   ·refine⟨h,λx hx=>?_⟩;simp only[List.mem_singleton]at hx;subst hx;exact⟨⟨hm.en,λe he=>by simp[PR.toM]at he⟩,.inr ⟨rfl,rfl⟩⟩
   ·exact go
theorem LI.normal{P:PR}(h:LI P)(hm:EB m)(hf:m.fr<100):LS (aX P m):=by
 have ask:∀v o,∀x,x∈ask P v o m.fr->OB x:=λv o=>OB.one (EB.mk0 rfl rfl) hf;unfold aX;split
 ·exact LS.nil h
 split
 ·split
  ·exact LS.nil h
  ·exact LI.aq (P:={P with told:=P.told.set m.fr (max (P.told.getD m.fr 0) m.op)}) (h.same rfl rfl rfl rfl rfl) _
 split
 ·exact LS.nil h
 split
 ·exact⟨h,ask _ _⟩
 split
 ·exact LS.nil h
 split
 ·split
  ·exact⟨h,ask _ _⟩
  ·exact h.aq _
 split
 ·exact⟨h,ask _ _⟩
 ·obtain⟨Q,hQ⟩:∃Q:PR,Q=if m.op=P.op+1 then {P with log:=P.log++[m.en]} else P:=⟨_,rfl⟩;simp only;rw[<-hQ];have hL:LI Q:=by
   rw[hQ];split
   ·refine h.log (λe he=>?_);rcases List.mem_append.1 he with he|he
    ·exact h.lg e he
    ·simp only[List.mem_singleton]at he;rw[he];exact hm.en
   ·exact h
  have hc:=hL.aq m.cm;exact⟨hc.1,OB.app hc.2 (OB.one (EB.mk0 rfl rfl) hf)⟩
theorem LI.pz{P:PR}(h:LI P){m:Mg}(hf:m.fr<100):∀x,x∈cJ P m->OB x:=by
 unfold cJ;split
 ·exact λx hx=>Oa
 ·refine OB.one ?_ hf;split
  ·exact EB.whole h eb0
  ·exact EB.mk0 rfl rfl
theorem LI.getState{P:PR}(h:LI P)(hf:m.fr<100):∀x,x∈bP P m->OB x:=by
 unfold bP;split
 ·exact λx hx=>Oa
 ·refine OB.one ?_ hf;split
  ·exact EB.whole h eb0
  ·exact⟨eb0,λe he=>h.lg e (List.mem_of_mem_drop he)⟩
theorem LI.step{P:PR}(h:LI P)(hn:P.n<=100/\0<P.n)(hm:EB m):LS (bX P m):=by
 unfold bX;by_cases hg:fW P m=true
 ·rw[if_neg (by simp[hg])];have hf:m.k=1\/m.fr<P.n/\m.fr≠P.me:=by unfold fW at hg;simp only[Bool.and_eq_true,Bool.or_eq_true,decide_eq_true_eq,beq_iff_eq,bne_iff_ne]at hg;exact hg.1.2
  by_cases h1:m.k=1
  ·rw[if_pos h1];exact h.request hn.1 hm
  rw[if_neg h1];have hf':m.fr<P.n/\m.fr≠P.me:=hf.resolve_left h1;split
  ·exact h.normal hm Nr
  split
  ·exact h.change hn hm hf'
  split
  ·exact⟨h,h.pz Nr⟩
  split
  ·exact h.answer hn hm
  split
  ·exact⟨h,h.getState Nr⟩
  ·exact h.state hn hm
 ·rw[if_pos (by simp[hg])];exact LS.nil h
theorem LI.timeout{P:PR}(h:LI P)(hn:P.n<=100):LS (bw P):=by
 unfold bw;split
 ·exact⟨h,OB.all (EB.mk0 rfl rfl) hn⟩
 split
 ·exact LS.nil h
 ·exact h.start hn _
theorem LI.idle{P:PR}(h:LI P)(hn:P.n<=100):∀x,x∈idle P->OB x:=by
 unfold Vr.idle;split
 ·exact λx hx=>Oa
 split
 ·refine OB.all ⟨?_,λe he=>by simp at he⟩ hn;show eb (P.log.getLastD ⟨0,0,.empty⟩);rw[List.getLastD_eq_getLast?]
  cases hl:P.log.getLast? with
  |none=>exact eb0
  |some e=>exact h.lg e (List.mem_of_getLast? hl)
 ·exact OB.all (EB.mk0 rfl rfl) hn
theorem LI.JS{P:PR}(h:LI P)(k:Nat):LI (eO P k):=h.log λe he=>h.lg e (List.mem_of_mem_drop he)
theorem LI.new(me n:Nat):LI (PR.new me n):=by
 have hr:∀m,m∈List.replicate n ({}:Mg)->m={}:=λm hm=>List.eq_of_mem_replicate hm;refine⟨λe he=>by simp[PR.new]at he,λm hm=>?_,λm hm=>?_,λ_=>Aa,λi x hx hk=>?_⟩
 ·rw[hr m hm];exact EB.def
 ·rw[hr m hm];exact EB.def
 ·rw[hr x (List.mem_of_getElem? hx)]at hk;exact absurd rfl hk
theorem LI.wX{P:PR}(hn:P.n<=100)(k:Nat):LS (bH P k) :=
 ⟨(LI.new P.me P.n).same rfl rfl rfl rfl rfl,OB.all (EB.mk0 rfl rfl) hn⟩
theorem ix(P:PR)(k:Nat):(aq P k).2.length<=P.log.length:=by
 unfold aq;refine Nat.le_trans (mG _ _) ?_
 unfold PR.todo
 rw[List.length_take,List.length_drop];omega
theorem iI(P:PR)(m:Mg):(P.allM m).length<=P.n:=iQ P m P.n
theorem kU(P:PR)(m:Mg):(au P m).log.length<=P.log.length+m.log.length:=by
 unfold au;split
 ·show m.log.length<=_;omega
 ·split
  ·simp only[List.length_append,List.length_take];omega
  ·simp only[List.length_drop];omega
section
variable{P:PR}{B:Nat}(hP:P.log.length<=B)
include hP
theorem Iw(hb:b.2.log.length<=B):(fD P b).2.length<=P.n+2*B:=by
 unfold fD;simp only;obtain⟨Q,hQ⟩:∃Q,Q=if b.1=P.me then P else au P b.2:=⟨_,rfl⟩;rw[<-hQ];have hL:Q.log.length<=2*B/\Q.n=P.n:=by
  rw[hQ];split
  ·exact⟨Nr,rfl⟩
  ·have:=kU P b.2;exact⟨Nr,(kW P b.2).1⟩
 obtain⟨R,hR⟩:∃R:PR,R={Q with st:=0,nm:=P.vw,told:=List.replicate P.n 0}:=⟨_,rfl⟩;rw[<-hR];have h1:R.log.length<=2*B:=by rw[hR];exact hL.1
 have h2:R.n=P.n:=by rw[hR];exact hL.2
 have h3:=iI R (R.bM {k:=7,vw:=P.vw});have h4:=ix R (eP P.aH);rw[List.length_append];omega
theorem Db(hc:∀x,x∈P.aH->x.log.length<=B)(hm:m.log.length<=B):(dD P m).2.length<=P.n+2*B:=by
 unfold dD;obtain⟨Q,hQ⟩:∃Q,Q=(if (P.aH.getD m.fr {}).k=0 then {P with aH:=P.aH.set m.fr m} else P):=⟨_,rfl⟩;simp only;rw[<-hQ];have hL:Q.log.length<=B/\Q.n=P.n/\∀x,x∈Q.aH->x.log.length<=B:=by
  rw[hQ];split
  ·refine⟨hP,rfl,λx hx=>?_⟩;rcases List.mem_or_eq_of_mem_set hx with hx|hx
   ·exact hc x hx
   ·rw[hx];exact hm
  ·exact⟨hP,rfl,hc⟩
 split
 ·simp
 ·split
  ·simp
  ·rename_i b hb;have:=Iw (P:=Q) hL.1 (b:=b) (hL.2.2 _ (List.mem_of_getElem? (jA (iB hb)).1));omega
theorem I4(hc:∀x,x∈P.aH->x.log.length<=B)(fr:Nat):(ep P fr).2.length<=P.n+2*B+1:=by
 unfold ep;simp only;split
 ·simp
 ·obtain⟨Q,hQ⟩:∃Q:PR,Q={{P with aG:=P.aG.set fr true} with aJ:=true}:=⟨_,rfl⟩;have h1:Q.log.length<=B/\Q.n=P.n/\∀x,x∈Q.aH->x.log.length<=B:=by rw[hQ];exact⟨hP,rfl,hc⟩
  rw[<-hQ];have h2:(Q.toM (Q.bM {k:=6,vw:=P.vw,nm:=P.nm}) (P.vw%P.n)).log=Q.log:=rfl;generalize Q.toM (Q.bM {k:=6,vw:=P.vw,nm:=P.nm}) (P.vw%P.n)=m at h2|-;split
  ·have:=Db (P:=Q) (m:=m) h1.1 h1.2.2 (by rw[h2];exact h1.1);omega
  ·simp only[List.length_singleton];omega
theorem FV(hc:∀x,x∈P.aH->x.log.length<=B)(hm:m.log.length<=B):(bg P m).2.length<=2*P.n+2*B+1:=by
 unfold bg;split
 ·simp
 split
 ·split
  ·simp
  ·have h1:=ix (bK (au P m) m.vw 0) m.cm;have h2:=kU P m;have h3:(bK (au P m) m.vw 0).log=(au P m).log:=rfl;rw[h3]at h1;simp only[List.length_append,List.length_singleton];omega
 ·obtain⟨a,ha⟩:∃a,a=if P.vw<m.vw then bO P m.vw else(P,[]):=⟨_,rfl⟩;simp only;rw[<-ha];have hL:a.2.length<=P.n/\a.1.n=P.n/\a.1.log.length<=B/\∀x,x∈a.1.aH->x.log.length<=B:=by
   rw[ha];split
   ·refine⟨iI _ _,rfl,hP,λx hx=>?_⟩;rw[List.eq_of_mem_replicate (show x∈List.replicate P.n {} from hx)];exact Nat.zero_le _
   ·exact⟨Nw,rfl,hP,hc⟩
  obtain⟨h1,h2,h3,h4⟩:=hL;split
  ·omega
  ·split
   ·have:=I4 h3 h4 m.fr;simp only[List.length_append];omega
   ·split
    ·omega
    ·have:=Db h3 h4 hm;simp only[List.length_append];omega
theorem Gb(ha:∀x,x∈P.ans->x.log.length<=B)(hm:m.log.length<=B):(cp P m).2.length<=2*B+1:=by
 unfold cp;split
 ·simp
 obtain⟨Q,hQ⟩:∃Q:PR,Q={P with ans:=P.ans.set m.fr m}:=⟨_,rfl⟩;have hQa:P.ans.set m.fr m=Q.ans:=by rw[hQ]
 simp only;rw[<-hQ];simp only[hQa];have hL:Q.log.length<=B/\∀x,x∈Q.ans->x.log.length<=B:=by
  rw[hQ];refine⟨hP,λx hx=>?_⟩;rcases List.mem_or_eq_of_mem_set hx with hx|hx
  ·exact ha x hx
  ·rw[hx];exact hm
 split
 ·simp
 ·obtain⟨w,hw⟩:∃w,w=Q.ans.getD (cU Q.ans%P.n) {}:=⟨_,rfl⟩;rw[<-hw];have hwl:w.log.length<=B:=by
   rw[hw,List.getD_eq_getElem?_getD]
   cases hg:Q.ans[cU Q.ans%P.n]? with
   |none=>exact Nat.zero_le _
   |some x=>exact hL.2 x (List.mem_of_getElem? hg)
  have h1:=ix (bK (au Q w) (cU Q.ans) 0) w.cm;have h2:=kU Q w;have h3:(bK (au Q w) (cU Q.ans) 0).log=(au Q w).log:=rfl;rw[h3]at h1;simp only[List.length_append,List.length_singleton];omega
theorem GU(hm:m.log.length<=B):(cP P m).2.length<=2*B+1:=by
 have go:∀Q:PR,Q.log.length<=2*B->((aq (bK Q m.vw 0) m.cm).2++if (aq (bK Q m.vw 0) m.cm).1.bF then [] else [okM (aq (bK Q m.vw 0) m.cm).1 (m.vw%P.n)]).length<=2*B+1:=by intro Q hQ;have h1:=ix (bK Q m.vw 0) m.cm;have h3:(bK Q m.vw 0).log=Q.log:=rfl;rw[h3]at h1;rw[List.length_append];split<;>simp<;>omega
 have hi:=kU P m;unfold cP;split
 ·simp
 simp only;split
 ·split
  ·simp
  ·exact go _ Nr
 split
 ·split
  ·simp
  ·exact go _ (by simp only[List.length_append,List.length_drop];omega)
 ·split
  ·simp
  ·exact go _ Nr
theorem Bl(m:Mg):(request P m).2.length<=P.n+1:=by
 unfold request;split
 ·simp
 simp only;split
 ·split
  ·simp
  ·have:=iI {P with log:=P.log++[m.en]} {k:=2,vw:=P.vw,op:=PR.op {P with log:=P.log++[m.en]},cm:=P.cm,en:=m.en};exact Nat.le_succ_of_le this
 ·split
  ·simp
  ·split
   ·simp
   ·split
    ·simp
    ·have:=iI {P with log:=P.log++[m.en]} {k:=2,vw:=P.vw,op:=PR.op {P with log:=P.log++[m.en]},cm:=P.cm,en:=m.en};exact Nat.le_succ_of_le this
theorem Fc(m:Mg):(aX P m).2.length<=B+2:=by
 unfold aX;split
 ·simp
 split
 ·split
  ·simp
  ·simp only;refine Nat.le_trans (ix _ _) ?_;show P.log.length<=_;omega
 split
 ·simp
 split
 ·simp[ask]
 split
 ·simp
 split
 ·split
  ·simp[ask]
  ·have:=ix P m.cm;omega
 split
 ·simp[ask]
 ·obtain⟨Q,hQ⟩:∃Q:PR,Q=if m.op=P.op+1 then {P with log:=P.log++[m.en]} else P:=⟨_,rfl⟩;simp only;rw[<-hQ];have hL:Q.log.length<=B+1:=by
   rw[hQ];split
   ·simp only[List.length_append,List.length_singleton];omega
   ·omega
  have:=ix Q m.cm;simp only[List.length_append,List.length_singleton];omega
theorem Jc(hc:∀x,x∈P.aH++P.ans->x.log.length<=B)(hm:m.log.length<=B):(bX P m).2.length<=2*P.n+2*B+3:=by
 have h1:=Bl hP m;have h2:=Fc hP m;have h3:=FV hP (λx hx=>hc x (List.mem_append_left _ hx)) hm;have h4:=Gb hP (λx hx=>hc x (List.mem_append_right _ hx)) hm;have h5:=GU hP hm;have h6:(cJ P m).length<=1:=by unfold cJ;split<;>simp
 have h7:(bP P m).length<=1:=by unfold bP;split<;>simp
 unfold bX;split
 ·simp
 split
 ·omega
 split
 ·omega
 split
 ·omega
 split
 ·simp only;omega
 split
 ·omega
 split
 ·simp only;omega
 ·omega
omit hP in
theorem AV:(bw P).2.length<=P.n:=by
 unfold bw;split
 ·exact iI _ _
 split
 ·simp
 ·exact iI _ _
omit hP in
theorem Jy:(idle P).length<=P.n:=by
 unfold idle;split
 ·simp
 split
 ·exact iI _ _
 ·exact iI _ _
end
structure GP where
 P:Nat->PR
 down:List Bool
 net:List Mg
 aJ:List Nat
 time:Nat
structure Ev where
 d:Int
 a:Int
 b:Int
def evA(a:Int):Nat:=if a<0 then(-(a+1)).toNat else a.toNat
def iN(to c n : Nat) : Mg := {k := 1, fr := 100 + c, to := to, en := ⟨c, n, "t".toByteArray⟩}
def GP.act(g:GP)(i:Nat)(r:PR×List Mg):GP:={g with P:=upd g.P i r.1,net:=da g.net r.2}
def GP.xO(g:GP)(n:Nat):Nat:=cnt n λi=>g.down.getD i false||(g.P i).st==2
def ev1(g:GP)(e:Ev):GP:={g with time:=g.time+1,aJ:=if e.d=0 then g.aJ.set (1+(e.b%4).toNat) (g.aJ.getD (1+(e.b%4).toNat) 0+1) else g.aJ}
noncomputable def Ag(n:Nat)(g:GP)(e:Ev):GP :=
 let i:=evA e.a%n;let c:=1+(e.b%4).toNat;let g:=ev1 g e
 if g.down.getD i false=true\/g.aJ.getD c 0=0 then g else g.act i (bX (g.P i) (iN i c (g.aJ.getD c 0)))
noncomputable def ud(g:GP)(e:Ev):GP :=
 let g:={g with time:=g.time+1}
 if g.net=[] then g else
 let k:=evA e.a%g.net.length;let m:=g.net.getD k {}
 if e.d=9 then {g with net:=g.net++[m]} else
 let g:={g with net:=g.net.take k++g.net.drop (k+1)}
 if e.d=8\/g.down.getD m.to false=true then g else g.act m.to (bX (g.P m.to) m)
def nC(g:GP)(i:Nat)(e:Ev):PR×List Mg :=
 if e.d=10 then bw (g.P i) else if e.d=11 then(g.P i,idle (g.P i)) else(eO (g.P i) (e.b%8).toNat,[])
noncomputable def evG(n:Nat)(g:GP)(e:Ev):GP :=
 let i:=evA e.a%n
 if e.d<=1 then Ag n g e
 else if e.d<=9 then ud g e
 else
  let g:={g with time:=g.time+1}
  if g.down.getD i false=true/\e.d≠14 then g
  else if e.d<=12 then g.act i (nC g i e)
  else if e.d=13 then if (n-1)/2<=g.xO n/\(g.P i).st≠2 then g else {g with down:=g.down.set i true}
  else if¬g.down.getD i false=true then g
  else GP.act {g with down:=g.down.set i false} i (bH (g.P i) g.time)
structure GVI(n:Nat)(gh:Gh)(g:GP):Prop where
 gi:GI n g.time gh λj=>(g.P j).vw
 ri:∀i,i<n->RI n g.time gh g.P i (g.P i)
 mi:∀m,m∈g.net->MI n g.time gh g.P m
 dn:g.down.length=n
 sn:g.aJ.length=9
 sb:∀c,g.aJ.getD c 0<=g.time
def oR(n:Nat)(gh gh':Gh):Prop:=∀v k,gh.st v->Cd n gh v k->gh'.st v/\Cd n gh' v k/\(gh'.M v).take k=(gh.M v).take k
theorem oR.refl(n:Nat)(gh:Gh):oR n gh gh:=λv k h1 h2=>⟨h1,h2,rfl⟩
theorem Adv.more{n T i:Nat}{g g':Gh}{P P':Nat->PR}(a:Adv n T g g' P P' i):oR n g g':=λv k h1 h2=>⟨(a.m v h1).1,a.cd h1 h2,a.take h1 h2.len⟩
theorem uB{net out:List Mg}(h:m∈da net out):m∈net\/(m∈out/\m.to<100):=by
 unfold da at h;rcases List.mem_append.1 h with h|h
 ·exact .inl h
 ·have h1:=List.mem_filter.1 (List.mem_of_mem_take h);exact .inr ⟨h1.1,by simpa using h1.2⟩
section
variable{n:Nat}{gh:Gh}{g:GP}
theorem GI.time{T T':Nat}{vw:Nat->Nat}(hT:T<=T')(I:GI n T gh vw):GI n T' gh vw :=
 ⟨I.z0,I.s0,I.sl,I.ak,I.q,λu e hu he=>eI.mono hT (I.ent u e hu he),λu hu=>Nat.le_trans (I.len u hu) hT,λu hu=>Nat.le_trans (I.vt u hu) hT,I.pv⟩
theorem GVI.act{g0:GP}{i:Nat}{r:PR×List Mg}(hi:i<n)(h:SR n g0.time g.time gh g.P i r)(ht:g0.time<=g.time)(h1:∀j,j<n->RI n g0.time gh g.P j (g.P j))(h2:∀m,m∈g.net->MI n g0.time gh g.P m)(hd:g.down.length=n)(hs:g.aJ.length=9)(hb:∀c,g.aJ.getD c 0<=g.time) :
 ∃gh',GVI n gh' (g.act i r)/\oR n gh gh':=by
 obtain⟨gh',a,I',r',m'⟩:=h;refine⟨gh',⟨I',λj hj=>?_,λm hm=>?_,hd,hs,hb⟩,a.more⟩
 ·by_cases hji:j=i
  ·subst hji;show RI n g.time gh' (upd g.P j r.1) j (upd g.P j r.1 j);rw[cG];exact r'
  ·exact((h1 j hj).adv a hji).mono ht
 ·rcases uB hm with h3|⟨h3,h4⟩
  ·exact((h2 m h3).adv a).mono ht
  ·exact m' m h3 h4
theorem GVI.tick(h:GVI n gh g){s:List Nat}{d:List Bool}{net:List Mg}(hs:s.length=9)(hb:∀c,s.getD c 0<=g.time+1)(hd:d.length=n)(hn:∀m,m∈net->m∈g.net):GVI n gh {g with time:=g.time+1,aJ:=s,down:=d,net:=net} :=
 ⟨h.gi.time (Nat.le_succ _),λi hi=>(h.ri i hi).mono (Nat.le_succ _),λm hm=>(h.mi m (hn m hm)).mono (Nat.le_succ _),hd,hs,hb⟩
theorem GVI.event(hodd:n%2=1)(h:GVI n gh g)(hT:g.time+1<=10000)(e:Ev):∃gh',GVI n gh' (evG n g e)/\oR n gh gh':=by
 have hn0:0<n:=Nr;have hi:evA e.a%n<n:=Nat.mod_lt _ hn0;have hsb:∀c,g.aJ.getD c 0<=g.time+1:=λc=>by have:=h.sb c;omega
 have stay:∀{net:List Mg} {d:List Bool},d.length=n->(∀m,m∈net->m∈g.net)->GVI n gh {g with time:=g.time+1,down:=d,net:=net}:=λhd hn=>h.tick h.sn hsb hd hn;unfold evG;simp only;by_cases h1:e.d<=1
 ·rw[if_pos h1];unfold Ag;simp only;obtain⟨c,hc⟩:∃c,c=1+(e.b%4).toNat:=⟨_,rfl⟩;have hc4:1<=c/\c<=4:=Nr;rw[<-hc];obtain⟨g1,hg1⟩:∃g1,g1=ev1 g e:=⟨_,rfl⟩;rw[<-hg1];have e1:g1.time=g.time+1:=by rw[hg1];rfl
  have e2:g1.P=g.P:=by rw[hg1];rfl
  have e3:g1.net=g.net:=by rw[hg1];rfl
  have e4:g1.down=g.down:=by rw[hg1];rfl
  have e5:g1.aJ.length=9/\∀c,g1.aJ.getD c 0<=g.time+1:=by
   rw[hg1];unfold ev1;simp only;split
   ·refine⟨by rw[List.length_set];exact h.sn,λc'=>?_⟩;rw[List.getD_eq_getElem?_getD,List.getElem?_set];split
    ·split
     ·have:=h.sb (1+(e.b%4).toNat);simp only[Option.getD_some];omega
     ·simp
    ·rw[<-List.getD_eq_getElem?_getD];exact hsb c'
   ·exact⟨h.sn,hsb⟩
  by_cases h2:g1.down.getD (evA e.a%n) false=true\/g1.aJ.getD c 0=0
  ·rw[if_pos h2];refine⟨gh,⟨?_,λi hi=>?_,λm hm=>?_,by rw[e4];exact h.dn,e5.1,by rw[e1];exact e5.2⟩,oR.refl _ _⟩
   ·rw[e1,e2];exact h.gi.time (Nat.le_succ _)
   ·rw[e1,e2];exact(h.ri i hi).mono (Nat.le_succ _)
   ·rw[e3]at hm;rw[e1,e2];exact(h.mi m hm).mono (Nat.le_succ _)
  ·rw[if_neg h2];have hr:=h.ri _ hi;have he:eI (g.time+1) (iN (evA e.a%n) c (g1.aJ.getD c 0)).en:=⟨hc4.1,hc4.2,by show 1<=g1.aJ.getD c 0;omega,e5.2 c,rfl⟩;have hstep:bX (g.P (evA e.a%n)) (iN (evA e.a%n) c (g1.aJ.getD c 0))=request (g.P (evA e.a%n)) (iN (evA e.a%n) c (g1.aJ.getD c 0)):=by
    have hgood:fW (g.P (evA e.a%n)) (iN (evA e.a%n) c (g1.aJ.getD c 0))=true:=by
     unfold fW;have h4:¬((iN (evA e.a%n) c (g1.aJ.getD c 0)).k=6\/(iN (evA e.a%n) c (g1.aJ.getD c 0)).k=7\/(iN (evA e.a%n) c (g1.aJ.getD c 0)).k=9):=by show¬((1:Nat)=6\/(1:Nat)=7\/(1:Nat)=9);omega
     rw[if_neg h4,hr.me];simp[iN]
    unfold bX;rw[hgood];simp[iN]
   have hs:=vP (T':=g.time+1) (Nat.le_refl _) h.gi hi hr he;rw[<-hstep]at hs;rw[e2];have:=GVI.act (g0:=g) (g:=g1) (i:=evA e.a%n) hi (by rw[e1,e2];exact hs) (by rw[e1];exact Nat.le_succ _) (by rw[e2];exact h.ri) (by rw[e2,e3];exact h.mi) (by rw[e4];exact h.dn) e5.1 (by rw[e1];exact e5.2);exact this
 rw[if_neg h1];by_cases h9:e.d<=9
 ·rw[if_pos h9];unfold ud;simp only;by_cases h2:g.net=[]
  ·rw[if_pos h2];exact⟨gh,stay h.dn λm hm=>hm,oR.refl _ _⟩
  rw[if_neg h2];have hl:0<g.net.length:=by
   cases hq:g.net with
   |nil=>exact absurd hq h2
   |cons a l=>simp
  have hk:evA e.a%g.net.length<g.net.length:=Nat.mod_lt _ hl;have hmem:g.net.getD (evA e.a%g.net.length) {}∈g.net:=by rw[List.getD_eq_getElem?_getD,List.getElem?_eq_getElem hk];exact List.getElem_mem hk
  generalize hkk:evA e.a%g.net.length=k at *;generalize hmm:g.net.getD k {}=m at *;by_cases h3:e.d=9
  ·rw[if_pos h3];refine⟨gh,stay h.dn λx hx=>?_,oR.refl _ _⟩;rcases List.mem_append.1 hx with h4|h4
   ·exact h4
   ·simp only[List.mem_singleton]at h4;subst h4;exact hmem
  rw[if_neg h3]
  have hsub:∀x,x∈g.net.take k++g.net.drop (k+1)->x∈g.net:=λx hx=>by
   rcases List.mem_append.1 hx with h4|h4
   ·exact List.mem_of_mem_take h4
   ·exact List.mem_of_mem_drop h4
  by_cases h4:e.d=8\/g.down.getD m.to false=true
  ·rw[if_pos h4];exact⟨gh,stay h.dn hsub,oR.refl _ _⟩
  rw[if_neg h4];have hm:=h.mi m hmem;exact GVI.act (g0:=g) (g:={g with time:=g.time+1,net:=g.net.take k++g.net.drop (k+1)}) hm.to (GO (Nat.le_succ _) hT h.gi hm.to hodd (h.ri _ hm.to) hm rfl) (Nat.le_succ _) h.ri (λx hx=>h.mi x (hsub x hx)) h.dn h.sn hsb
 rw[if_neg h9];have hr:=h.ri _ hi;by_cases h2:g.down.getD (evA e.a%n) false=true/\e.d≠14
 ·rw[if_pos h2];exact⟨gh,stay h.dn λm hm=>hm,oR.refl _ _⟩
 rw[if_neg h2];by_cases h12:e.d<=12
 ·rw[if_pos h12];refine GVI.act (g0:=g) (g:={g with time:=g.time+1}) hi ?_ (Nat.le_succ _) h.ri h.mi h.dn h.sn hsb;unfold nC;split
  ·exact vu (Nat.le_refl _) hT h.gi hi hr
  ·split
   ·exact HV (Nat.le_succ _) h.gi hi hr
   ·exact Cu (Nat.le_succ _) h.gi hr _
 rw[if_neg h12];by_cases h13:e.d=13
 ·rw[if_pos h13];split
  ·exact⟨gh,stay h.dn λm hm=>hm,oR.refl _ _⟩
  ·exact⟨gh,stay (by rw[List.length_set];exact h.dn) λm hm=>hm,oR.refl _ _⟩
 rw[if_neg h13];split
 ·exact⟨gh,stay h.dn λm hm=>hm,oR.refl _ _⟩
 ·exact GVI.act (g0:=g) (g:={g with time:=g.time+1,down:=g.down.set (evA e.a%n) false}) hi (vO hn0 h.gi hi hr) (Nat.le_succ _) h.ri h.mi (by rw[List.length_set];exact h.dn) h.sn hsb
end
def GP.new(n:Nat):GP:=⟨λi=>PR.new i n,List.replicate n false,[],List.replicate 9 0,0⟩
def Gh.new:Gh:=⟨λ_=>[],λ_=>0,λv=>v=0,λ_ _=>0⟩
theorem GVI.new{n:Nat}(hn:0<n):GVI n Gh.new (GP.new n):=by
 have I:GI n 0 Gh.new λj=>((GP.new n).P j).vw:=by
  refine⟨rfl,rfl,λv _=>Nat.le_refl _,λv i h=>absurd h (Nat.lt_irrefl 0),λv h h0=>?_,λv e _ h=>by simp[Gh.new]at h,λv _=>Nat.le_refl _,λv h=>?_,λv h=>?_⟩
  ·have:v=0:=h;omega
  ·have:v=0:=h;omega
  ·have:v=0:=h;subst this;exact Nat.zero_le _
 refine⟨I,λi hi=>?_,λm hm=>by simp[GP.new]at hm,by simp[GP.new],by simp[GP.new],λc=>?_⟩
 ·have hcd:Cd n Gh.new 0 0:=Cd.zero I hn;refine⟨rfl,rfl,by simp[GP.new,PR.new],Nat.le_refl _,Nat.le_refl _,Nat.zero_le _,Nat.le_refl _,λj hj=>?_,λ_=>⟨⟨rfl,rfl,Nat.le_refl _,Nat.le_refl _,Nat.le_refl _,Nat.le_refl _,hcd,rfl⟩,λ_=>rfl,λh=>?_,λ_=>⟨rfl,rfl⟩,λu h=>absurd h (Nat.lt_irrefl 0),λh=>?_,λh=>?_,λh=>?_⟩,λh=>?_,λm hm=>?_⟩
  ·show(List.replicate n 0).getD j 0<=0;rw[List.getD_eq_getElem?_getD,List.getElem?_replicate];split<;>simp
  all_goals first|(have:(0:Nat)=1:=h;omega)|(have:(0:Nat)=2:=h;omega)|skip
  have hm':m∈List.replicate n ({}:Mg)++List.replicate n ({}:Mg):=hm;simp only[List.mem_append,List.mem_replicate]at hm';have:m={}:=by rcases hm' with h1|h1<;>exact h1.2
  subst this;exact⟨Nat.zero_le _,Nat.zero_le _,Nat.zero_le _,Nat.zero_le _,Nat.zero_le _,Nat.zero_le _,Nat.zero_le _,Nat.zero_le _⟩
 ·show(List.replicate 9 0).getD c 0<=0;rw[List.getD_eq_getElem?_getD,List.getElem?_replicate];split<;>simp
def kf(x y:List Ent):Prop:=x.take (min x.length y.length)=y.take (min x.length y.length)
theorem kf.symm{x y:List Ent}(h:kf x y):kf y x:=by unfold kf at *;rw[Nat.min_comm];exact h.symm
theorem kf.app(x c:List Ent):kf x (x++c):=by unfold kf;simp
def Ex(n:Nat)(gh:Gh)(x:List Ent):Prop:=∃v k,gh.st v/\Cd n gh v k/\x=(bj ((gh.M v).take k)).l
theorem Ex.more{n:Nat}{gh gh':Gh}(m:oR n gh gh'){x:List Ent}(h:Ex n gh x):Ex n gh' x:=by obtain⟨v,k,h1,h2,h3⟩:=h;obtain⟨m1,m2,m3⟩:=m v k h1 h2;exact⟨v,k,m1,m2,by rw[m3];exact h3⟩
section
variable{n T:Nat}{gh:Gh}{vw:Nat->Nat}
theorem Ex.same(I:GI n T gh vw){x y:List Ent}(hx:Ex n gh x)(hy:Ex n gh y):kf x y:=by
 have wl:∀{v v' k k':Nat},v<=v'->gh.st v->gh.st v'->Cd n gh v k->Cd n gh v' k'->kf (bj ((gh.M v).take k)).l (bj ((gh.M v').take k')).l:=by
  intro v v' k k' hv s s' c c';have e:(gh.M v').take k=(gh.M v).take k:=by
   rcases Nat.eq_or_lt_of_le hv with e|hlt
   ·rw[e]
   ·exact(c.up I s' hlt).2.2
  rw[<-e];rcases Nat.le_total k k' with hk|hk
  ·have:(gh.M v').take k'=(gh.M v').take k++((gh.M v').take k').drop k:=by
    conv=>lhs;rw[<-List.take_append_drop k ((gh.M v').take k')]
    rw[List.take_take,Nat.min_eq_left hk]
   rw[this];obtain⟨C,hC⟩:=Af ((gh.M v').take k) (((gh.M v').take k').drop k);rw[hC];exact kf.app _ _
  ·have:(gh.M v').take k=(gh.M v').take k'++((gh.M v').take k).drop k':=by
    conv=>lhs;rw[<-List.take_append_drop k' ((gh.M v').take k)]
    rw[List.take_take,Nat.min_eq_left hk]
   rw[this];obtain⟨C,hC⟩:=Af ((gh.M v').take k') (((gh.M v').take k).drop k');rw[hC];exact(kf.app _ _).symm
 obtain⟨v,k,a1,a2,rfl⟩:=hx;obtain⟨v',k',b1,b2,rfl⟩:=hy;rcases Nat.le_total v v' with h|h
 ·exact wl h a1 b1 a2 b2
 ·exact(wl h b1 a1 b2 a2).symm
theorem RI.ex{P:Nat->PR}(I:GI n T gh λj=>(P j).vw)(hn:0<n){i:Nat}(h:RI n T gh P i (P i)):Ex n gh (P i).sv.l:=by
 by_cases hs:(P i).st=2
 ·have r:=h.rr hs;exact⟨0,0,I.z0,Cd.zero I hn,by rw[r.sv];simp[bj]⟩
 ·have r:=(h.ra hs).lg;exact⟨_,_,r.st,r.cd,by rw[r.sv]⟩
theorem Ex.Kj{x:List Ent}(h:Ex n gh x):Gf x:=by obtain⟨v,k,_,_,rfl⟩:=h;exact(FH _).1
theorem Ex.ent(I:GI n T gh vw){x:List Ent}(h:Ex n gh x):∀e,e∈x->eI T e:=by obtain⟨v,k,h1,_,rfl⟩:=h;exact λe he=>I.ent v e h1 (List.mem_of_mem_take (pR _ e he))
end
end Vr
