/- Part 13. -/
import Derived.Test.YthbjaiilnkakcaaGreatDoorT12
set_option linter.all false
set_option maxRecDepth 10000
set_option maxHeartbeats 8000000
namespace Vr
structure GL(n:Nat)(g:GP):Prop where
 li:∀i,i<n->LI (g.P i)
 eb:∀m,m∈g.net->EB m
section
variable{n:Nat}{g:GP}
theorem GL.act(h:GL n g){i:Nat}{r:PR×List Mg}(hr:LS r):GL n (g.act i r):=by
 refine⟨λj hj=>?_,λm hm=>?_⟩
 ·show LI (upd g.P i r.1 j);by_cases hji:j=i
  ·subst hji;rw[cG];exact hr.1
  ·rw[dg hji];exact h.li j hj
 ·rcases uB hm with h1|⟨h1,_⟩
  ·exact h.eb m h1
  ·exact(hr.2 m h1).1
theorem GL.with(h:GL n g){s:List Nat}{d:List Bool}{net:List Mg}{t:Nat}(hn:∀m,m∈net->m∈g.net):GL n {g with time:=t,aJ:=s,down:=d,net:=net} :=
 ⟨h.li,λm hm=>h.eb m (hn m hm)⟩
theorem CH{i c k:Nat}(hc:c<=4)(hk:k<=1000000):EB (iN i c k):=⟨⟨by show c<=1000000;omega,hk⟩,λe he=>by simp[iN]at he⟩
theorem GL.event(hn:n<=100/\0<n)(hnn:∀i,i<n->(g.P i).n=n)(hto:∀m,m∈g.net->m.to<n)(hs:∀c,g.aJ.getD c 0<=100000)(h:GL n g)(e:Ev):GL n (evG n g e):=by
 have hi:evA e.a%n<n:=Nat.mod_lt _ hn.2;unfold evG;simp only;by_cases h1:e.d<=1
 ·rw[if_pos h1];unfold Ag;simp only;obtain⟨c,hc⟩:∃c,c=1+(e.b%4).toNat:=⟨_,rfl⟩;have hc4:1<=c/\c<=4:=Nr;rw[<-hc];have h2:GL n (ev1 g e):=h.with λm hm=>hm;have hb:(ev1 g e).aJ.getD c 0<=100001:=by
   have:=hs c;unfold ev1;simp only;split
   ·rw[List.getD_eq_getElem?_getD,List.getElem?_set];split
    ·split
     ·have:=hs (1+(e.b%4).toNat);simp only[Option.getD_some];omega
     ·simp
    ·rw[<-List.getD_eq_getElem?_getD];omega
   ·omega
  split
  ·exact h2
  ·exact h2.act ((h.li _ hi).step (by rw[hnn _ hi];exact hn) (CH hc4.2 Nr))
 rw[if_neg h1];by_cases h9:e.d<=9
 ·rw[if_pos h9];unfold ud;simp only;by_cases h2:g.net=[]
  ·rw[if_pos h2];exact h.with λm hm=>hm
  rw[if_neg h2];have hl:0<g.net.length:=by
   cases hq:g.net with
   |nil=>exact absurd hq h2
   |cons a l=>simp
  have hk:evA e.a%g.net.length<g.net.length:=Nat.mod_lt _ hl;have hmem:g.net.getD (evA e.a%g.net.length) {}∈g.net:=by rw[List.getD_eq_getElem?_getD,List.getElem?_eq_getElem hk];exact List.getElem_mem hk
  generalize hkk:evA e.a%g.net.length=k at *;generalize hmm:g.net.getD k {}=m at *;by_cases h3:e.d=9
  ·rw[if_pos h3];refine h.with λx hx=>?_;rcases List.mem_append.1 hx with h4|h4
   ·exact h4
   ·simp only[List.mem_singleton]at h4;subst h4;exact hmem
  rw[if_neg h3]
  have hsub:∀x,x∈g.net.take k++g.net.drop (k+1)->x∈g.net:=λx hx=>by
   rcases List.mem_append.1 hx with h4|h4
   ·exact List.mem_of_mem_take h4
   ·exact List.mem_of_mem_drop h4
  by_cases h4:e.d=8\/g.down.getD m.to false=true
  ·rw[if_pos h4];exact h.with hsub
  rw[if_neg h4];exact GL.act (h.with hsub) ((h.li _ (hto m hmem)).step (by rw[hnn _ (hto m hmem)];exact hn) (h.eb m hmem))
 rw[if_neg h9];have hL:=h.li _ hi;have hN:=hnn _ hi;by_cases h2:g.down.getD (evA e.a%n) false=true/\e.d≠14
 ·rw[if_pos h2];exact h.with λm hm=>hm
 rw[if_neg h2];by_cases h12:e.d<=12
 ·rw[if_pos h12];refine GL.act (h.with λm hm=>hm) ?_;unfold nC;split
  ·exact hL.timeout Nr
  ·split
   ·exact⟨hL,hL.idle Nr⟩
   ·exact⟨hL.JS _,λx hx=>Oa⟩
 rw[if_neg h12];by_cases h13:e.d=13
 ·rw[if_pos h13];split
  ·exact h.with λm hm=>hm
  ·exact h.with λm hm=>hm
 rw[if_neg h13];split
 ·exact h.with λm hm=>hm
 ·exact GL.act (h.with λm hm=>hm) (LI.wX Nr _)
end
theorem GL.new(n:Nat):GL n (GP.new n):=⟨λi _=>LI.new i n,λm hm=>by simp[GP.new]at hm⟩
end Vr
namespace Go.Tm
open Vr
structure PM where
 me:Nat
 n:Nat
 vw:Nat
 st:Nat
 nm:Nat
 op:Nat
 cm:Nat
 bs:Nat
 nc:Nat
 log:List Ent
 sv:Sv
 told:List Nat
 vs:List Bool
 asked:Bool
 aH:List Mg
end Go.Tm
namespace Vr
def PR.pm(P:PR):Go.Tm.PM:=⟨P.me,P.n,P.vw,P.st,P.nm,P.op,P.cm,P.bs,P.nc,P.log,P.sv,P.told,P.pV,P.pA,P.pC⟩
end Vr
namespace Go.Tm
open Vr
abbrev rwC(M:PM)(t c:Nat)(vl vt vv vo:Value):List Value :=
 [iv M.me,iv M.n,.iface 47 (ptr t),iv M.vw,iv M.st,iv M.nm,iv M.op,iv M.cm,iv M.bs,iv M.nc,vl,vt,vv,.bool M.asked,.map (some c),vo]
attribute [push_cast] rwC
structure RW(E:Env)(G:Mem)(h:ag)(X:Nat->Prop)(M:PM)(out:List Mg)(r t:Nat)(D:QD):Prop where
 hr:h.get r=some (.cells (rwC M t D.c D.vl D.vt D.vv D.vo) 78 true)
 ht:∃ss,h.get t=some (.cells ss 45 true)/\SvR E G M.sv ss
 hl:Own h 60 3 0 M.log.length (cq M.log) D.vl
 htl:Own h 3 1 0 M.told.length (bT M.told) D.vt
 hv:Own h 4 1 0 M.vs.length (cF M.vs) D.vv
 ho:∃co,Own h 66 17 0 out.length co D.vo/\bu E G out co
 hc:∃es ck,h.get D.c=some (.map es ck)/\CmR E G es ck M.aH
 hx:∀b,b∈r::t::D.c::(slB D.vl++slB D.vt++slB D.vv++slB D.vo)->X b
theorem QR'.raw{E:Env}{G:Mem}{h:ag}{X:Nat->Prop}{P:PR}{out:List Mg}{r t:Nat}{D:QD}(q:QR' E G h X P out r t D):RW E G h X P.pm out r t D:=⟨q.hr,q.ht,q.hl,q.htl,q.hv,q.ho,q.hc,q.hx⟩
theorem RW.qr{E:Env}{G:Mem}{h:ag}{X:Nat->Prop}{P:PR}{M:PM}{out:List Mg}{r t:Nat}{D:QD}(q:RW E G h X M out r t D)(e:M=P.pm):QR' E G h X P out r t D:=by subst e;exact⟨q.hr,q.ht,q.hl,q.htl,q.hv,q.ho,q.hc,q.hx⟩
theorem CmR.same{E:Env}{G:Mem}{es:List MapEntry}{ck:Nat}{L L':List Mg}(h:CmR E G es ck L)(e:∀(i:Nat) m,m.k≠0->(L[i]? = some m↔L'[i]? = some m)):CmR E G es ck L':=by
 obtain⟨h0,ks,h1,h2,h3,h4⟩:=h;refine⟨h0,ks,h1,h2,λi=>?_,λj k hj=>?_⟩
 ·rw[h3];constructor
  ·rintro⟨m,hm,hk⟩;exact⟨m,(e i m hk).1 hm,hk⟩
  ·rintro⟨m,hm,hk⟩;exact⟨m,(e i m hk).2 hm,hk⟩
 ·obtain⟨x,m,cs,a1,a2,a3,a4,a5⟩:=h4 j k hj;obtain⟨m',hm',hk'⟩:=(h3 k).1 (List.mem_of_getElem? hj);rw[a4]at hm';injection hm' with hm';subst hm';exact⟨x,m,cs,a1,a2,a3,(e k m hk').1 a4,a5⟩
theorem RW.own{h h':ag}{r:Nat}{cs0:List Value}(h0:h.get r=some (.cells cs0 78 true))(k:∀b o,b≠r->h.get b=some o->h'.get b=some o){e z n:Nat}{cs:List Value}{v:Value}(ht:e≠78)(H:Own h e z 0 n cs v):Own h' e z 0 n cs v :=
 QR'.lW h0 k (λc fx e1=>by injection e1 with _ e1;exact ht e1.symm) H
theorem PX.pO{E:Env}{G:Mem}{h h1:ag}{X:Nat->Prop}(hS:SO E G h X)(k:KW E h h1){r:Nat}{o o':bz}(hr:h.get r=some o)(hx:X r):PX E G h X G (h1.put r o') (λb=>X b\/(h.next<=b/\b<h1.next)) :=
 (PX.BO hS k).trans hS.wf (PX.put (PX.BO hS k).so (.inl hx) (k.k.get _ _ hr))
theorem RW.hdr{E:Env}{G:Mem}{h h':ag}{X X':Nat->Prop}{M M':PM}{out:List Mg}{r t:Nat}{D:QD}(q:RW E G h X M out r t D)
 (hr:h'.get r=some (.cells (rwC M' t D.c D.vl D.vt D.vv D.vo) 78 true)) (k:∀b o,b≠r->h.get b=some o->h'.get b=some o)
 (hl:M'.log=M.log) (hs:M'.sv=M.sv) (ht:M'.told=M.told) (hv:M'.vs=M.vs) (hc:M'.aH=M.aH) (hx:∀b,X b->X' b):RW E G h' X' M' out r t D:=by
 obtain⟨ss,t1,t2⟩:=q.ht;obtain⟨co,o1,o2⟩:=q.ho;obtain⟨es,ck,c1,c2⟩:=q.hc;have tne:t≠r:=λe=>by rw[e,q.hr]at t1;injection t1 with t1;injection t1 with _ t1;cases t1
 have cne:D.c≠r:=λe=>by rw[e,q.hr]at c1;injection c1 with c1;cases c1
 refine⟨hr,⟨ss,k _ _ tne t1,by rw[hs];exact t2⟩,by rw[hl];exact RW.own q.hr k (by decide) q.hl,by rw[ht];exact RW.own q.hr k (by decide) q.htl,by rw[hv];exact RW.own q.hr k (by decide) q.hv,⟨co,RW.own q.hr k Nz o1,o2⟩,⟨es,ck,k _ _ cne c1,by rw[hc];exact c2⟩,λb hb=>hx b (q.hx b hb)⟩
end Go.Tm
namespace Go.Proofs.YthbjaiilnkakcaaGreatDoor
open Go.Tm Vr
variable{E:Env}(hE:EOk E)
include hE
section
variable{G:Mem}{h:ag}{X:Nat->Prop}(hS:SO E G h X){M:PM}{out:List Mg}{r t:Nat}{D:QD}(q:RW E G h X M out r t D)
include hS q
theorem An(hn:1<=M.n/\M.n<=7):af E 33 [ptr r] h λv h'=>v=.tuple #[]/\∃X' D',PX E G h X G h' X'/\RW E G h' X' {M with vs:=List.replicate M.n false,asked:=false,aH:=[]} out r t D':=by
 have hr:=q.hr;have nr:=hS.wf.nlt hr;have hrn:=(hS.wf.live _ _ hr).2;refine en hE Tryz.func33 rfl rfl Tryz.ntmps33 rfl Nv (rs:=[]) rfl ?_;simp only[push_cast,seval,hE.z,nr,hr];rw[Bt Nr Nr Nr Nr,aR];have n1:¬h.next=r:=Nr;have n2:¬h.next+1=r:=Nr;simp only[push_cast,seval,hE.z,hr,n1,n2];have kA:=(KW.refl hS.wf).push (o:=.cells (bR M.n [.bool false]) 4 true);have kB:=kA.trans ((KW.refl kA.w).push (o:=.map [] 0));obtain⟨ss,t1,t2⟩:=q.ht;obtain⟨co,o1,o2⟩:=q.ho;have hXr:X r:=q.hx r Nw
 have key:∀(cs':List Value) b o,b≠r->h.get b=some o->(((h.push (.cells (bR M.n [.bool false]) 4 true)).push (.map [] 0)).put r (.cells cs' 78 true)).get b=some o:=λcs' b o hb hg=>by
  rw[ai,if_neg (λe=>hb e.symm)];exact kB.k.get _ _ hg
 have tne:t≠r:=λe=>N1;refine⟨_,⟨h.next+1,D.vl,D.vt,.slice (some ⟨h.next,0,none⟩) M.n M.n,D.vo⟩,PX.pO hS kB hr hXr,⟨?_,⟨ss,key _ _ _ tne t1,t2⟩,RW.own hr (key _) Nz q.hl,RW.own hr (key _) Nz q.htl,?_,⟨co,RW.own hr (key _) Nz o1,o2⟩,⟨[],0,?_,CmR.nil⟩,?_⟩⟩
 ·rw[ai,if_pos rfl]
 ·refine .inr ⟨h.next,M.n,[],true,Nw,?_,by simp[cF],Nw,Nw,Nat.zero_le _,Nr⟩;rw[ai,if_neg Nr,ah,if_neg Nw,ah,if_pos rfl,iD,List.append_nil]
 ·rw[ai,if_neg (show¬r=h.next+1 by omega),ah,if_pos Nw]
 ·intro b hb;simp only[List.mem_cons,List.mem_append,bU]at hb|-;have hxq:=q.hx;rcases hb with hb|hb|hb|((hb|hb)|hb)|hb
  ·left;rw[hb];exact hXr
  ·left;exact hxq b NN
  ·right;omega
  ·left;exact hxq b NN
  ·left;exact hxq b NN
  ·right;simp[slB]at hb;omega
  ·left;exact hxq b NN
end
end Go.Proofs.YthbjaiilnkakcaaGreatDoor
namespace Go.Tm
open Vr
def PM.enter(M:PM)(v:Nat):PM:={M with told:=if v=M.vw then M.told else List.replicate M.n 0,vw:=v,vs:=List.replicate M.n false,asked:=false,aH:=[]}
end Go.Tm
namespace Go.Proofs.YthbjaiilnkakcaaGreatDoor
open Go.Tm Vr
variable{E:Env}(hE:EOk E)
include hE
section
variable{G:Mem}{h:ag}{X:Nat->Prop}(hS:SO E G h X){M:PM}{out:List Mg}{r t:Nat}{D:QD}(q:RW E G h X M out r t D)
include hS q
theorem Ah(hn:1<=M.n/\M.n<=7)(v:Nat):af E 103 [ptr r,iv v] h λw h'=>w=.tuple #[]/\∃X' D',PX E G h X G h' X'/\RW E G h' X' (M.enter v) out r t D':=by
 have hr:=q.hr;have nr:=hS.wf.nlt hr;have hrn:=(hS.wf.live _ _ hr).2;have hXr:X r:=q.hx r Nw;by_cases hv:v=M.vw
 ·subst hv;refine en hE Tryz.func103 rfl rfl Tryz.ntmps103 rfl Nv (rs:=[]) rfl ?_;simp only[push_cast,seval,hE.z,nr,hr];have p1:PX E G h X G (h.put r (.cells (rwC M t D.c D.vl D.vt D.vv D.vo) 78 true)) X:=PX.put hS hXr hr;have q1:RW E G (h.put r (.cells (rwC M t D.c D.vl D.vt D.vv D.vo) 78 true)) X M out r t D:=q.hdr ND (λb o hb hg=>by rw[ai,if_neg (λe=>hb e.symm)];exact hg) rfl rfl rfl rfl rfl (λb hb=>hb);refine(An hE p1.so q1 hn).mono ?_;rintro w h5 ⟨rfl,X5,D5,p5,q5⟩;simp only[push_cast,seval];exact⟨X5,D5,p1.trans hS.wf p5,by unfold PM.enter;rw[if_pos rfl];exact q5⟩
 ·have hne:((v:Int) != (M.vw:Int))=true:=Nu;refine en hE Tryz.func103 rfl rfl Tryz.ntmps103 rfl Nv (rs:=[]) rfl ?_;simp only[push_cast,seval,hE.z,nr,hr,hne];rw[xh Nr Nr Nr Nr,aR];have n1:¬h.next=r:=Nr;simp only[push_cast,seval,hE.z,hr,n1];have kA:=(KW.refl hS.wf).push (o:=.cells (bR M.n [.int .i64 0]) 3 true);have p1:=PX.pO hS kA (o':=.cells (rwC {M with vw:=v} t D.c D.vl (.slice (some ⟨h.next,0,none⟩) M.n M.n) D.vv D.vo) 78 true) hr hXr;obtain⟨ss,t1,t2⟩:=q.ht;obtain⟨co,o1,o2⟩:=q.ho;obtain⟨es,ck,c1,c2⟩:=q.hc
  have key:∀(cs':List Value) b o,b≠r->h.get b=some o->((h.push (.cells (bR M.n [.int .i64 0]) 3 true)).put r (.cells cs' 78 true)).get b=some o:=λcs' b o hb hg=>by
   rw[ai,if_neg (λe=>hb e.symm)];exact kA.k.get _ _ hg
  have tne:t≠r:=λe=>N1;have cne:D.c≠r:=λe=>OQ;have q1:RW E G ((h.push (.cells (bR M.n [.int .i64 0]) 3 true)).put r (.cells (rwC {M with vw:=v} t D.c D.vl (.slice (some ⟨h.next,0,none⟩) M.n M.n) D.vv D.vo) 78 true)) (λb=>X b\/(h.next<=b/\b<(h.push (.cells (bR M.n [.int .i64 0]) 3 true)).next)) {M with vw:=v,told:=List.replicate M.n 0} out r t ⟨D.c,D.vl,.slice (some ⟨h.next,0,none⟩) M.n M.n,D.vv,D.vo⟩:=by
   refine⟨ND,⟨ss,key _ _ _ tne t1,t2⟩,RW.own hr (key _) Nz q.hl,?_,RW.own hr (key _) Nz q.hv,⟨co,RW.own hr (key _) Nz o1,o2⟩,⟨es,ck,key _ _ _ cne c1,c2⟩,?_⟩
   ·refine .inr ⟨h.next,M.n,[],true,Nw,?_,by simp[bT],Nw,Nw,Nat.zero_le _,Nr⟩;rw[ai,if_neg Nr,ah,if_pos rfl,gx,List.append_nil]
   ·intro b hb;show X b\/(h.next<=b/\b<(h.push (.cells (bR M.n [.int .i64 0]) 3 true)).next);rw[bU];simp only[List.mem_cons,List.mem_append]at hb;have hxq:=q.hx;rcases hb with hb|hb|hb|((hb|hb)|hb)|hb
    ·left;exact hxq b NN
    ·left;exact hxq b NN
    ·left;exact hxq b NN
    ·left;exact hxq b NN
    ·right;simp[slB]at hb;omega
    ·left;exact hxq b NN
    ·left;exact hxq b NN
  refine(An hE p1.so q1 hn).mono ?_;rintro w h5 ⟨rfl,X5,D5,p5,q5⟩;simp only[push_cast,seval];exact⟨X5,D5,p1.trans hS.wf p5,by unfold PM.enter;rw[if_neg hv];exact q5⟩
theorem Ix(hn:1<=M.n/\M.n<=7)(v:Nat):af E 82 [ptr r,iv v] h λw h'=>w=.tuple #[]/\∃X' D',PX E G h X G h' X'/\RW E G h' X' (PM.enter {M with st:=0,nm:=v} v) out r t D':=by have hr:=q.hr;have hXr:X r:=q.hx r Nw;refine en hE Tryz.func82 rfl rfl Tryz.ntmps82 rfl Nv (rs:=[]) rfl ?_;simp only[push_cast,seval,hE.z,hr];have p1:PX E G h X G (h.put r (.cells (rwC {M with st:=0,nm:=v} t D.c D.vl D.vt D.vv D.vo) 78 true)) X:=PX.put hS hXr hr;have q1:RW E G (h.put r (.cells (rwC {M with st:=0,nm:=v} t D.c D.vl D.vt D.vv D.vo) 78 true)) X {M with st:=0,nm:=v} out r t D:=q.hdr ND (λb o hb hg=>by rw[ai,if_neg (λe=>hb e.symm)];exact hg) rfl rfl rfl rfl rfl (λb hb=>hb);refine(Ah hE p1.so q1 hn v).mono ?_;rintro w h5 ⟨rfl,X5,D5,p5,q5⟩;simp only[push_cast,seval];exact⟨X5,D5,p1.trans hS.wf p5,q5⟩
end
section
variable{G:Mem}{h:ag}{X:Nat->Prop}(hS:SO E G h X){P:PR}{out:List Mg}{r t:Nat}(hQ:QR E G h X P out r t)
include hS hQ
theorem mY(hn:1<=P.n/\P.n<=7)(v:Nat):af E 82 [ptr r,iv v] h λw h'=>w=.tuple #[]/\∃X',PX E G h X G h' X'/\QR E G h' X' (bK P v 0) out r t:=by obtain⟨D,q⟩:=hQ;refine(Ix hE hS q.raw hn v).mono ?_;rintro w h' ⟨rfl,X',D',p,q'⟩;exact⟨rfl,X',p,D',q'.qr rfl⟩
theorem qQ(z:P.Sz)(ho:out.length<=100)(v:Nat):af E 77 [ptr r,iv v] h λw h'=>w=.tuple #[]/\∃X',PX E G h X G h' X'/\QR E G h' X' (bO P v).1 (out++(bO P v).2) r t:=by
 obtain⟨D,q⟩:=hQ;have hr:=q.hr;have hXr:X r:=q.hx r Nw;have hn:1<=P.n/\P.n<=7:=⟨Ow,z.n.2⟩;refine en hE Tryz.func77 rfl rfl Tryz.ntmps77 rfl Nv (rs:=[]) rfl ?_;simp only[push_cast,seval,hE.z,hr];have p1:PX E G h X G (h.put r (.cells (rwC {P.pm with st:=1} t D.c D.vl D.vt D.vv D.vo) 78 true)) X:=PX.put hS hXr hr;have q1:RW E G (h.put r (.cells (rwC {P.pm with st:=1} t D.c D.vl D.vt D.vv D.vo) 78 true)) X {P.pm with st:=1} out r t D:=q.raw.hdr ND (λb o hb hg=>by rw[ai,if_neg (λe=>hb e.symm)];exact hg) rfl rfl rfl rfl rfl (λb hb=>hb);refine(Ah hE p1.so q1 hn v).mono ?_;rintro w h5 ⟨rfl,X5,D5,p5,q5⟩;have q6:QR E G h5 X5 (bO P v).1 out r t:=by
  refine⟨D5,RW.qr (M:={(PM.enter {P.pm with st:=1} v) with aH:=List.replicate P.n {}}) ?_ rfl⟩;obtain⟨es,ck,c1,c2⟩:=q5.hc
  exact⟨q5.hr,q5.ht,q5.hl,q5.htl,q5.hv,q5.ho,⟨es,ck,c1,c2.same λi m hk=>⟨λhx=>by simp[PM.enter]at hx,λhx=>by
   have hm:=List.eq_of_mem_replicate (List.mem_of_getElem? hx);rw[hm]at hk
   exact absurd rfl hk⟩⟩,q5.hx⟩
 simp only[push_cast,seval,hE.z];refine(mJ hE p5.so q6 (by show P.n<=1000;omega) Nr (m:={k:=5,vw:=v}) ⟨_,_,_,rfl,Fz.nil,Fz.nil,Fz.nil⟩).mono ?_;rintro v ha ⟨rfl,X6,px6,q6⟩;simp only[push_cast,seval];exact⟨X6,p1.trans hS.wf (p5.trans p1.so.wf px6),q6⟩
end
end Go.Proofs.YthbjaiilnkakcaaGreatDoor
namespace Vr
theorem tq:∀(n k:Nat),n<128^(k+1)->(cK n).length<=k+1
 | n,k,h=>by
   by_cases hn:n<128
   ·rw[er hn];simp
   ·rw[fH hn]
    cases k with
    |zero=>simp at h;omega
    |succ k =>have:=tq (n/128) k (by rw[Nat.div_lt_iff_lt_mul (by omega)];rw[Nat.pow_succ]at h;omega);simp;omega
termination_by n=>n
decreasing_by omega
theorem mP{n:Nat}(h:n<18446744073709551616):(cK n).length<=10:=tq n 9 (Nat.lt_of_lt_of_le h Nz)
end Vr
namespace Go.Tm
open Vr
theorem Ks{E:Env}{h:ag}{t t1 e by_ lo n:Nat}{cs:List Value}{v:Value}{s:ByteArray}{d:Option Nat}{R:bl}{tm:Tr Value}(T:jW E t e 1 by_)(ht:E.P.underlying t1=some .string)(hW:WF E h)(hlo:lo<=h.next)(H:Own h e 1 lo n cs v)
 (hb:(n+s.size)*by_<=140737488355328) (hn:n+s.size<=9223372036854775807)
 (K:∀v' h',Apd E h h' e 1 lo (n+s.size) (cs++cM s.data.toList) v v'->R (du tm d v') h'):kwv (cI E h t t1 v (.string s)) d R tm h:=by
 have:cI E h t t1 v (.string s)=cI E h t t v (.string s):=by unfold cI;rw[ht,T.und];cases v<;>rfl
 rw[this];have hsz:s.data.toList.length=s.size:=PD;refine vX T hW hlo H (m:=s.size) rfl (λ_=>?_) (by simp[cM,hsz]) (iA _) hb hn K;simp only[lj];rw[List.take_of_length_le Nr];unfold cM;rfl
theorem oJ(l l':List UInt8):cM (l++l')=cM l++cM l':=by simp[cM]
end Go.Tm
namespace Go.Proofs.YthbjaiilnkakcaaGreatDoor
open Go.Tm Vr
variable{n:Nat}{v:Value}
variable{E:Env}(hE:EOk E)
include hE
theorem nP{h:ag}(hW:WF E h)(hn:n<18446744073709551616):af E 108 [.int .u64 n] h λv h'=>Own h' 5 1 h.next (cK n).length (cM (cK n)) v/\KW E h h':=by
 refine en hE Tryz.func108 rfl rfl Tryz.ntmps108 rfl Nv (rs:=[.tmp 2]) rfl ?_;simp only[push_cast,seval,hE.z];refine bG (λm tm h'=>∃v l,aj tm 0=.int .u64 m/\aj tm 3=v/\l++cK m=cK n/\Own h' 5 1 h.next l.length (cM l) v/\m<18446744073709551616/\KW E h h') n ?_ ?_
 ·simp only[push_cast,seval];exact⟨_,[],rfl,rfl,Own.nil _ _ _ _,hn,KW.refl hW⟩
 ·rintro m tm h' ⟨v,l,f0,f3,hl,hown,hm,kw⟩;have:=kw.k.next;have hlen:=congrArg List.length hl;have hd1:=mP hn;rw[List.length_append]at hlen;simp only[push_cast,seval,f0];refine eT (λhb=>?_) (λhb=>?_)
  ·have hge:128<=m:=by have:(m:Int)>=128:=(by simpa using hb);omega
   simp only[push_cast,seval,hE.z,f0,f3];have e8:IntKind.u8.wrap (IntKind.u8.wrap ((m:Int).tmod 128)+128)=(((m%128+128).toUInt8).toNat:Int):=by rw[Int.tmod_eq_emod_of_nonneg Nr,IntKind.wrap_u8,IntKind.wrap_u8];rw[show(m%128+128).toUInt8.toNat=m%128+128 by simp[Nat.toUInt8];omega];omega
   rw[e8];rw[KE rfl,aR];simp only[push_cast,seval];refine eZ (BR hE.P) kw.w (lo:=h.next) Nr hown rfl rfl Nr Nr ?_;intro v' h2 a hx2;simp only[push_cast,seval,f0];refine⟨m/128,Nr,_,l++[(m%128+128).toUInt8],?_,rfl,?_,?_,Nr,?_⟩
   ·rw[Int.tdiv_eq_ediv_of_nonneg Nr,oU Nr Nr];rfl
   ·rw[<-hl,fH (n:=m) Nr];simp
   ·rw[List.length_append,oJ];exact a.own
   ·exact kw.app hW hown a
  ·have hlt:m<128:=by have:¬(m:Int)>=128:=(by simpa using hb);omega
   simp only[push_cast,seval,hE.z,f0,f3];have e8:IntKind.u8.wrap (m:Int)=((m.toUInt8).toNat:Int):=by rw[IntKind.wrap_u8,show m.toUInt8.toNat=m by simp[Nat.toUInt8];omega];omega
   rw[e8];rw[KE rfl,aR];simp only[push_cast,seval];refine eZ (BR hE.P) kw.w (lo:=h.next) Nr hown rfl rfl Nr Nr ?_;intro v' h2 a hx2;simp only[push_cast,seval];rw[er hlt]at hl;refine⟨?_,kw.app hW hown a⟩;rw[<-hl,List.length_append,oJ];exact a.own
omit hE in
theorem Cp{x:Int}(h0:0<=x)(h1:x<4294967296):IntKind.u32.wrap x=x:=by rw[IntKind.wrap_u32];omega
section
variable{G:Mem}{h:ag}(hW:WF E h)(hG:Frz E G h){S:Sv}{cs:List Value}(hP:SvR E G S cs)
include hW hG hP
theorem yP(hl:S.l.length<=1000000)(hs:∀e,e∈S.l->e.c<=1000000/\e.n<=1000000/\e.t.size<=1000):af E 99 [.agg cs.toArray] h λv h'=>Own h' 5 1 h.next (save S).length (cM (save S)) v/\KW E h h':=by
 obtain⟨a1,c1,a2,c2,ct,rfl,f1,f2,f3⟩:=hP.e;refine en hE Tryz.func99 rfl rfl Tryz.ntmps99 rfl Nv (rs:=[.tmp 2]) rfl ?_;simp only[push_cast,seval,hE.z];rw[KE rfl,aR];simp only[push_cast,seval,hE.z]
 refine bG (λm tm h'=>∃(i:Nat) (v:Value) (l:List UInt8),m=S.l.length-i/\i<=S.l.length/\aj tm 1=.pointer (some ⟨h.next,0,none⟩)/\aj tm 4=iv i/\aj tm 3=v/\h'.get h.next=some (.cells [.bool false,.slice a1 S.l.length c1,.slice none 0 0,.slice a2 S.tab.length c2] 43 true) /\
  l=1::(S.l.take i).flatMap fq/\Own h' 5 1 (h.next+1) l.length (cM l) v/\KW E h h'/\l.length<=1+1030*i) S.l.length ?_ ?_
 ·simp only[push_cast,seval];refine⟨0,_,[1],Nr,Nr,rfl,rfl,Nw,?_,(KW.refl hW).push.push,Nw⟩;refine .inr ⟨h.next+1,1,[],true,rfl,?_,by simp[cM],Nw,Nw,Nr,Nr⟩;rw[ah,if_pos Nw];rfl
 ·rintro m tm h2 ⟨i,v,l,rfl,hi,f1',f4,f3',g1,hl1,hown,kw,hle⟩;have n2:=kw.w.nlt g1;have n3:=kw.w.b0;simp only[push_cast,seval,hE.z,f1',f4,g1,n2];refine eT (λhb=>?_) (λhb=>?_)
  ·have hlt:i<S.l.length:=OY;obtain⟨lb,lc,e1',hsp,hac⟩:=f1.1.elem (hG.aK kw.k) hlt;injection e1' with e1' _ e3';subst e1';subst e3';rw[eU (List.getElem?_eq_getElem hlt)]at hac;unfold fo at hac;have hse:=hs _ (List.getElem_mem hlt);have htk:=List.take_succ_eq_append_getElem hlt;generalize S.l[i]=e at *;simp only[push_cast,seval,hE.z,f1',f4,g1,n2];rw[jP hsp Nr Nr,ab];have l12:=(kw.w.live _ _ g1).2;have hlo:=(hown.lt kw.w);have w10:IntKind.u64.wrap (IntKind.u32.wrap (e.c:Int))=((e.c:Nat):Int):=O6;have w11:IntKind.u64.wrap (IntKind.u32.wrap (e.n:Int))=((e.n:Nat):Int):=O6;have w12:IntKind.u64.wrap (e.t.size:Int)=((e.t.size:Nat):Int):=by rw[oU (by omega) (by omega)]
   simp only[push_cast,seval,hE.z,f3',↓hac,Int.toNat_natCast,n3,w10];have kE:=(KW.refl kw.w).push (o:=.cells [iv e.c,iv e.n,.string e.t] 60 true);have gE:(h2.push (.cells [iv e.c,iv e.n,.string e.t] 60 true)).get h2.next=some (.cells [iv e.c,iv e.n,.string e.t] 60 true):=NI;have d1:=mP (n:=e.c) Nr;have d2:=mP (n:=e.n) Nr;have d3:=mP (n:=e.t.size) Nr;refine(nP hE kE.w (n:=e.c) Nr).mono ?_;rintro v3 h3 ⟨o3,k3⟩;simp only[push_cast,seval];have y3:=kE.trans k3;refine tU (BR hE.P) y3.w (lo:=h.next+1) (by have:=y3.k.next;omega) (hown.aK y3.k) o3 (iA _) Nr Nr ?_;intro v4 h4 a4;have z4:=(kw.trans y3).app hW (hown.aK y3.k) a4;have x3:=y3.k.next;have gE4:=a4.get _ _ (k3.k.get _ _ gE) (λhb=>by have:=(hlo _ hb).2;omega)
   have n4:=z4.w.nlt gE4;have x4:=a4.next;have g14:=a4.get _ _ (y3.k.get _ _ g1) (λhb=>by have:=(hlo _ hb).1;omega)
   have o4:=a4.own;simp only[push_cast,seval,hE.z,n4,gE4,w11];refine(nP hE z4.w (n:=e.n) Nr).mono ?_;rintro v5 h5 ⟨o5,k5⟩;have gE5:=k5.k.get _ _ gE4;have x5:=k5.k.next;simp only[push_cast,seval];refine tU (BR hE.P) k5.w (lo:=h.next+1) Nr (o4.aK k5.k) o5 (iA _) Nr Nr ?_;intro v6 h6 a6;have z6:=(z4.trans k5).app hW (o4.aK k5.k) a6
   have gE6:=a6.get _ _ gE5 (λhb=>by
    rcases a4.blk _ hb with h|h
    ·have:=(hlo _ h).2;omega
    ·have x3':=k3.k.next
     rw[bU]at x3';omega)
   have n6:=z6.w.nlt gE6;have o6:=a6.own;have x6:=a6.next
   have hb6:∀b,b∈slB v6->b≠h.next/\b≠h2.next:=λb hb=>by
    have x3':=k3.k.next;rw[bU]at x3';rcases a6.blk _ hb with h|h
    ·rcases a4.blk _ h with h|h
     ·have:=hlo _ h;omega
     ·omega
    ·omega
   have g16:=a6.get _ _ (k5.k.get _ _ g14) (λhb=>by
    rcases a4.blk _ hb with h|h
    ·have:=hlo _ h;omega
    ·omega)
   simp only[push_cast,seval];refine gtA [1,3,4,5] λt hf=>?_;simp only[push_cast,seval,gz,f1',f4]at hf;obtain⟨f1',f3',f4,f5'⟩:=hf;refine aB [(8,5),(8,6)] Nt Nt Nt ?_;simp only[push_cast,seval,hE.z,f3',f5',n6,gE6,w12];refine(nP hE z6.w (n:=e.t.size) Nr).mono ?_;rintro v7 h7 ⟨o7,k7⟩;have gE7:=k7.k.get _ _ gE6;have x7:=k7.k.next;have g17:=k7.k.get _ _ g16;simp only[push_cast,seval];refine tU (BR hE.P) k7.w (lo:=h.next+1) Nr (o6.aK k7.k) o7 (iA _) Nr Nr ?_;intro v8 h8 a8;have z8:=(z6.trans k7).app hW (o6.aK k7.k) a8;have gE8:=a8.get _ _ gE7 (λhb=>(hb6 _ hb).2 rfl);have g18:=a8.get _ _ g17 (λhb=>(hb6 _ hb).1 rfl);have x8:=a8.next
   have hb8:∀b,b∈slB v8->b≠h.next/\b≠h2.next:=λb hb=>by
    rcases a8.blk _ hb with h|h
    ·exact hb6 b h
    ·have x3':=k3.k.next;rw[bU]at x3';omega
   simp only[push_cast,seval,hE.z,f5',n6,gE8];refine Ks (BR hE.P) (by rw[hE.P];exact Tryz.underlying9) z8.w (lo:=h.next+1) Nr a8.own Nr Nr ?_;intro v9 h9 a9;have z9:=z8.app hW a8.own a9;have g19:=a9.get _ _ g18 (λhb=>(hb8 _ hb).1 rfl);have gE9:=a9.get _ _ gE8 (λhb=>(hb8 _ hb).2 rfl);simp only[push_cast,seval,hE.z,f1',f4,n6,gE7,gE6,gE8,dq];have hsz:e.t.data.toList.length=e.t.size:=PD;have hle2:(fq e).length=(cK e.c).length+(cK e.n).length+(cK e.t.size).length+e.t.size:=by unfold fq;simp only[List.length_append,hsz]
   refine⟨S.l.length-(i+1),Nr,i+1,_,l++fq e,rfl,Nr,NJ,rfl,g19,?_,?_,z9,?_⟩
   ·rw[htk,hl1,List.flatMap_append];simp
   ·have h9':=a9.own;have e1:(l++fq e).length=l.length+(cK e.c).length+(cK e.n).length+(cK e.t.size).length+e.t.size:=by rw[List.length_append,hle2];omega
    have e2:cM (l++fq e)=cM l++cM (cK e.c)++cM (cK e.n)++cM (cK e.t.size)++cM e.t.data.toList:=by unfold fq;simp only[oJ,List.append_assoc]
    rw[e1,e2];exact h9'
   ·rw[List.length_append,hle2];omega
  ·have hge:i=S.l.length:=by have:¬i<S.l.length:=(by simpa using hb);omega
   subst hge;rw[List.take_length]at hl1;simp only[push_cast,seval,f3'];subst hl1;refine⟨?_,kw⟩;exact hown.low (Nat.le_succ _)
end
theorem qP{h:ag}(hW:WF E h){cs:List Value}{a:Option Addr}{c:Nat}(ha:a=none->n=0)(hx:∀h',KW E h h'->0<n->lj E h' 3 (.slice a n c) n=some cs)(ho:cs.all Value.oneCell'=true)(hl:cs.length=n*3)(hn:n<=1000000) :
 af E 84 [.slice a n c] h λv' h'=>Own h' 60 3 h.next n cs v'/\KW E h h':=by
 rcases a with _|a
 ·have hn0:=ha rfl;subst hn0;have:cs=[]:=List.eq_nil_of_length_eq_zero (by simpa using hl);subst this;have hnil:hJ Tryz.prog true 37 (.slice none 0 c) (.slice none 0 0)=some true:=by simp[hJ,Tryz.underlying37]
  refine en hE Tryz.func84 rfl rfl Tryz.ntmps84 rfl Nv (rs:=[.tmp 2]) rfl ?_;simp only[push_cast,seval,hE.P];rw[hnil];simp only[push_cast,seval,ab,Option.map_some];exact⟨Own.nil _ _ _ _,KW.refl hW⟩
 ·refine en hE Tryz.func84 rfl rfl Tryz.ntmps84 rfl Nv (rs:=[.tmp 2]) rfl ?_;simp only[push_cast,seval,hE.P];have hnil:hJ Tryz.prog true 37 (.slice (some a) n c) (.slice none 0 0)=some false:=by simp[hJ,Tryz.underlying37]
  have hz:mL Tryz.prog 37 0 []=some (λb=>.slice (some ⟨b,0,none⟩) 0 0,.cells [] 60 true):=by have:=lx (jS hE.P);rwa[hE.P]at this
  rw[hnil];simp only[push_cast,seval,hE.P,ab,Option.map_some];rw[hz,aR];simp only[push_cast,seval];have k0:=(KW.refl hW).push (o:=.cells [] 60 true);refine vX (jS hE.P) (hW.push _) (lo:=h.next) Nw (Own.empty (E:=E) (Nat.le_refl _)) (m:=n) rfl (hx _ k0) hl ho Nr Nr ?_;intro v' h' a';simp only[push_cast,seval];have o':=a'.own;rw[Nat.zero_add,List.nil_append]at o';exact⟨o',k0.app hW (Own.empty (E:=E) (Nat.le_refl _)) a'⟩
theorem mW{G:Mem}{h:ag}(hW:WF E h)(hG:Frz E G h){cs:List Value}(hv:Sl E G 3 n cs v)(ho:cs.all Value.oneCell'=true)(hl:cs.length=n*3)(hn:n<=1000000) :
 af E 84 [v] h λv' h'=>Own h' 60 3 h.next n cs v'/\KW E h h':=by
 obtain⟨a,c,rfl,hc1,hc2,⟨h3,_⟩,hcs⟩:=hv;refine qP hE hW (λe=>?_) (λh' k h0=>?_) ho hl hn
 ·rcases hcs with⟨h1,_⟩|⟨b,h1,_⟩
  ·exact h1
  ·rw[e]at h1;cases h1
 ·rcases hcs with⟨h1,_⟩|⟨b,rfl,hg⟩
  ·omega
  ·simp only[lj];rw[if_neg Nr];exact fX (hG.aK k.k) hg
theorem FT{h:ag}(hW:WF E h){lo:Nat}{cs:List Value}(hv:Own h 60 3 lo n cs v)(ho:cs.all Value.oneCell'=true)(hn:n<=1000000) :
 af E 84 [v] h λv' h'=>Own h' 60 3 h.next n cs v'/\KW E h h':=by
 rcases hv with⟨rfl,rfl,rfl⟩|⟨b,cap,rest,fx,rfl,hg,hl,hc,hle,h5,h6⟩
 ·exact qP hE hW (λ_=>rfl) (λh' k h0=>by omega) rfl rfl Nr
 ·refine qP hE hW (λe=>by cases e) (λh' k h0=>?_) ho hl hn;have hg':=k.k.get _ _ hg;simp only[lj];rw[if_neg Nr];unfold cg;rw[if_neg (by have:=k.w.nlt hg';simpa using this)];simp only[hg'];rw[if_pos PC,List.drop_zero,<-hl,List.take_left]
theorem IH : uy E.P 47 "Save" = some 276 := by rw[hE.P]; decide +kernel
theorem II : uy E.P 47 "Load" = some 275 := by rw[hE.P]; decide +kernel
theorem AQ{G:Mem}{h:ag}(hW:WF E h)(hG:Frz E G h){S:Sv}{ss:List Value}{t:Nat}(ht:h.get t=some (.cells ss 45 true))(hs:SvR E G S ss)(hl:S.l.length<=1000000)(he:∀e,e∈S.l->e.c<=1000000/\e.n<=1000000/\e.t.size<=1000) :
 af E 276 [ptr t] h λv h'=>KW E h h'/\∃v1,v=.tuple #[v1,.int .i64 0]/\Own h' 5 1 h.next (save S).length (cM (save S)) v1:=by
 have hs0:=hs;obtain⟨a1,c1,a2,c2,ct,rfl,h1,h2,h3⟩:=hs.e;have nt:=hW.nlt ht;refine en hE Tryz.func276 rfl rfl Tryz.ntmps276 rfl Nv (rs:=[.tmp 2,.tmp 3]) rfl ?_;simp only[push_cast,seval,hE.P,ht,nt];refine(yP hE hW hG hs0 hl he).mono ?_;rintro v h5 ⟨o5,k5⟩;simp only[push_cast,seval];exact⟨k5,_,rfl,o5⟩
section
variable{G:Mem}{h:ag}{X:Nat->Prop}(hS:SO E G h X){P:PR}{out:List Mg}{r t:Nat}(hQ:QR E G h X P out r t)
include hS hQ
theorem mO(z:P.Sz)(he:∀e,e∈P.sv.l->e.c<=1000000/\e.n<=1000000/\e.t.size<=1000){m:Mg}{ms:List Value}(hm:MgR E G m ms) :
 af E 83 [ptr r,.agg ms.toArray] h λv h'=>∃G' mc,v=.tuple #[.agg mc.toArray,.bool true]/\MgR E G' (P.bM m) mc/\Ext E G h G' h':=by
 have hm0:=hm;obtain⟨b1,d1,b2,d2,b3,d3,rfl,m1,m2,m3⟩:=hm.e;obtain⟨⟨dc,vl,vt,vv,vo⟩,q⟩:=hQ;have hr:=q.hr;have nr:=hS.wf.nlt hr;have e1:=hS.wf.ne hr;have hop:=z.op;have nb:=hS.wf.nb0;refine en hE Tryz.func83 rfl rfl Tryz.ntmps83 rfl Nv (rs:=[.cell 4 66,.tmp 5]) rfl ?_;simp only[push_cast,seval,hE.z];have hrn:=(hS.wf.live _ _ hr).2;have n0:(h.next=r)=False:=Nu;have n1:(h.next+1=r)=False:=Nu;have kA:=((KW.refl hS.wf).push (o:=.cells (mCS m b1 d1 b2 d2 b3 d3) 66 true)).push (o:=.cells (mgC {} (.slice none 0 0) (.slice none 0 0) (.slice none 0 0)) 66 true);refine aB [(3,16),(7,16),(7,18),(11,16),(11,18),(11,20)] Nt Nt Nt ?_;simp only[push_cast,seval,hE.z,hr,nr,e1,n1];have hlz:P.log.length<=P.op:=NH;refine(FT hE kA.w (q.hl.aK kA.k) (de _) Nr).mono ?_;rintro v h3 ⟨o3,k3⟩;obtain⟨va,vc,rfl,_⟩:=o3.fh;have gm:=k3.k.get h.next _ (show _=some (.cells (mCS m b1 d1 b2 d2 b3 d3) 66 true) by rw[ah,if_neg Nw,ah,if_pos rfl]);have g1:=k3.k.get (h.next+1) _ (show _=some (.cells (mgC {} (.slice none 0 0) (.slice none 0 0) (.slice none 0 0)) 66 true) by rw[ah,if_pos Nw]);have gr:=k3.k.get r _ (kA.k.get _ _ hr);have ng1:=k3.w.nlt g1;have ngr:=k3.w.nlt gr;simp only[push_cast,seval,hE.z,ngr,gm,gr,n0,n1,hr,aV];have hlt3:=(k3.w.live _ _ gm).2;have kB:KW E h (h3.put h.next (.cells (mgC {m with op:=P.op,cm:=P.cm,bs:=P.bs,log:=P.log} (.slice va P.log.length vc) (.slice b2 m.img.length d2) (.slice b3 0 d3)) 66 true)):=(kA.trans k3).put (Nat.le_refl _) hlt3 hS.wf;have hlo3:=o3.lt k3.w
 have hsl:∀b,b∈slB (.slice va P.log.length vc)->b≠h.next:=λb hb e=>by
  have:=hlo3 b hb;rw[bU,bU]at this;omega
 have oB:Own (h3.put h.next (.cells (mgC {m with op:=P.op,cm:=P.cm,bs:=P.bs,log:=P.log} (.slice va P.log.length vc) (.slice b2 m.img.length d2) (.slice b3 0 d3)) 66 true)) 60 3 h.next P.log.length (cq P.log) (.slice va P.log.length vc) :=
  (o3.low (show h.next<=((h.push _).push _).next by simp;omega)).at λb o hb hg=>by rw[ai,if_neg (λe=>hsl b hb e.symm)];exact hg
 have gmB:(h3.put h.next (.cells (mgC {m with op:=P.op,cm:=P.cm,bs:=P.bs,log:=P.log} (.slice va P.log.length vc) (.slice b2 m.img.length d2) (.slice b3 0 d3)) 66 true)).get h.next=some (.cells (mgC {m with op:=P.op,cm:=P.cm,bs:=P.bs,log:=P.log} (.slice va P.log.length vc) (.slice b2 m.img.length d2) (.slice b3 0 d3)) 66 true):=ND;by_cases hb:0<P.bs
 ·have hb1:decide ((0:Int)<(P.bs:Int))=true:=Nu;obtain⟨ss,t1,t2⟩:=q.ht;have gtB:=kB.k.get _ _ t1;simp only[push_cast,seval,hE.z,hb1,ngr,gr,n0];rw[kR (IH hE)];refine(AQ hE kB.w (hS.frz.aK kB.k) gtB t2 (by have:=z.svl;have:=z.cm;omega) he).mono ?_;rintro v h5 ⟨k5,v1,rfl,o5⟩;obtain⟨ia,ic,rfl,_⟩:=o5.fh;have gm5:=k5.k.get _ _ gmB;have g15:=k5.k.get (h.next+1) _ (show _=some (.cells (mgC {} (.slice none 0 0) (.slice none 0 0) (.slice none 0 0)) 66 true) by rw[ai,if_neg Nr];exact g1);have nm5:=k5.w.nlt gm5;have ng5:=k5.w.nlt g15;simp only[push_cast,seval,hE.z,nm5,ng5,gm5,g15];have hlB:h.next+1<(h3.put h.next (.cells (mgC {m with op:=P.op,cm:=P.cm,bs:=P.bs,log:=P.log} (.slice va P.log.length vc) (.slice b2 m.img.length d2) (.slice b3 0 d3)) 66 true)).next:=by rw[dI];exact(k3.w.live _ _ g1).2
  have hl5:=k5.k.next;have k6:=(kB.trans k5).put (b:=h.next) (o:=.cells (mgC {m with op:=P.op,cm:=P.cm,bs:=P.bs,log:=P.log,img:=save P.sv} (.slice va P.log.length vc) (.slice ia (save P.sv).length ic) (.slice b3 0 d3)) 66 true) (Nat.le_refl _) Nr hS.wf;have kF:=k6.put (b:=h.next+1) (o:=.cells (mgC {m with op:=P.op,cm:=P.cm,bs:=P.bs,log:=P.log,img:=save P.sv} (.slice va P.log.length vc) (.slice ia (save P.sv).length ic) (.slice b3 0 d3)) 66 true) (Nat.le_succ _) (by rw[dI];omega) hS.wf
  have keyF:∀b o,b≠h.next->b≠h.next+1->h5.get b=some o->((h5.put h.next (.cells (mgC {m with op:=P.op,cm:=P.cm,bs:=P.bs,log:=P.log,img:=save P.sv} (.slice va P.log.length vc) (.slice ia (save P.sv).length ic) (.slice b3 0 d3)) 66 true)).put (h.next+1) (.cells (mgC {m with op:=P.op,cm:=P.cm,bs:=P.bs,log:=P.log,img:=save P.sv} (.slice va P.log.length vc) (.slice ia (save P.sv).length ic) (.slice b3 0 d3)) 66 true)).get b=some o:=λb o h1 h2 hg=>by
   rw[ai,if_neg (λe=>h2 e.symm),ai,if_neg (λe=>h1 e.symm)];exact hg
  have hsl2:∀b,b∈slB (.slice va P.log.length vc)->h.next+2<=b:=λb hb=>by have:=hlo3 b hb;rw[bU,bU]at this;omega
  have hslI:=o5.lt k5.w;have oF:=(oB.aK k5.k).at (λb o hb hg=>keyF b o (by have:=hsl2 b hb;omega) (by have:=hsl2 b hb;omega) hg);have oI:=o5.at (λb o hb hg=>keyF b o (by have:=hslI b hb;omega) (by have:=hslI b hb;omega) hg);have hlB2:=oB.lt kB.w;obtain⟨G1,s1,u1,f1,v1⟩:=Own.add kF.w (hS.frz.aK kF.k) oF (λb hb=>hS.eH (by have:=hsl2 b hb;omega))
  obtain⟨G2,s2,u2,f2,v2⟩:=Own.add kF.w f1 oI (λb hb=>by
   cases hg:G1 b with
   |none=>rfl
   | some c =>
     have hi:=hslI b hb;rcases v1 b c hg with h9|h9
     ·rw[hS.eH Nr]at h9;cases h9
     ·have:=hlB2 b h9.1;omega)
  have xF:Ext E G h G2 _:=⟨u1.trans u2,f2,λb c hg=>by
   rcases v2 b c hg with h9|⟨h9,_⟩
   ·rcases v1 b c h9 with h9|⟨h9,_⟩
    ·exact .inl h9
    ·right;have:=hsl2 b h9;omega
   ·right;have:=hslI b h9;omega,kF.k,kF.w⟩
  refine⟨G2,_,rfl,?_,xF⟩;have ew:P.bM m={m with op:=P.op,cm:=P.cm,bs:=P.bs,log:=P.log,img:=save P.sv}:=by unfold PR.bM;rw[if_pos hb]
  rw[ew];exact⟨_,_,_,rfl,(oF.fz kF.w s1).sub u2,oI.fz kF.w s2,m3.sub xF.sub⟩
 ·have hb1:decide ((0:Int)<(P.bs:Int))=false:=Nu;simp only[push_cast,seval,hE.z,hb1,nb,ng1,g1];have hltB:h.next+1<(h3.put h.next (.cells (mgC {m with op:=P.op,cm:=P.cm,bs:=P.bs,log:=P.log} (.slice va P.log.length vc) (.slice b2 m.img.length d2) (.slice b3 0 d3)) 66 true)).next:=by rw[dI];exact(k3.w.live _ _ g1).2
  have kF:=kB.put (o:=.cells (mgC {m with op:=P.op,cm:=P.cm,bs:=P.bs,log:=P.log} (.slice va P.log.length vc) (.slice b2 m.img.length d2) (.slice b3 0 d3)) 66 true) (Nat.le_succ _) hltB hS.wf
  have oF:=oB.at (h':=(h3.put h.next (.cells (mgC {m with op:=P.op,cm:=P.cm,bs:=P.bs,log:=P.log} (.slice va P.log.length vc) (.slice b2 m.img.length d2) (.slice b3 0 d3)) 66 true)).put (h.next+1) (.cells (mgC {m with op:=P.op,cm:=P.cm,bs:=P.bs,log:=P.log} (.slice va P.log.length vc) (.slice b2 m.img.length d2) (.slice b3 0 d3)) 66 true)) λb o hb hg=>by
   rw[ai,if_neg (λe=>by have:=hlo3 b hb;rw[bU,bU]at this;omega)];exact hg
  obtain⟨G1,z1,x1⟩:=Own.frz hS.wf hS.frz kF oF;refine⟨G1,_,rfl,?_,x1⟩;have ew:P.bM m={m with op:=P.op,cm:=P.cm,bs:=P.bs,log:=P.log}:=by unfold PR.bM;rw[if_neg hb]
  rw[ew];exact⟨_,_,_,rfl,z1,m2.sub x1.sub,m3.sub x1.sub⟩
end
end Go.Proofs.YthbjaiilnkakcaaGreatDoor
namespace Go.Tm
theorem Own.iY{E:Env}{G:Mem}{h hF:ag}(hW:WF E h)(hG:Frz E G h)(k:KW E h hF){e1 z1 n1 lo1 e2 z2 n2 lo2:Nat}{cs1 cs2:List Value}{v1 v2:Value}(o1:Own hF e1 z1 lo1 n1 cs1 v1)(l1:h.next<=lo1)(o2:Own hF e2 z2 lo2 n2 cs2 v2)(l2:h.next<=lo2)(d:∀b,b∈slB v1->b<lo2) :
 ∃G',Fz E G' z1 n1 cs1 v1/\Fz E G' z2 n2 cs2 v2/\Ext E G h G' hF:=by
 have gn:∀b,h.next<=b->G b=none:=λb hb=>by
  cases hg:G b with
  |none=>rfl
  |some c =>obtain⟨e,fx,hh⟩:=hG b c hg;have:=(hW.live _ _ hh).2;omega
 have b1:=o1.lt k.w;have b2:=o2.lt k.w;obtain⟨G1,s1,u1,f1,v1'⟩:=Own.add k.w (hG.aK k.k) o1 (λb hb=>gn b (by have:=b1 b hb;omega))
 obtain⟨G2,s2,u2,f2,v2'⟩:=Own.add k.w f1 o2 (λb hb=>by
  cases hg:G1 b with
  |none=>rfl
  | some c =>
    have hi:=b2 b hb;rcases v1' b c hg with h9|h9
    ·rw[gn b Nr]at h9;cases h9
    ·have:=d b h9.1;omega)
 exact⟨G2,(o1.fz k.w s1).sub u2,o2.fz k.w s2,u1.trans u2,f2,λb c hg=>by
  rcases v2' b c hg with h9|⟨h9,_⟩
  ·rcases v1' b c h9 with h9|⟨h9,_⟩
   ·exact .inl h9
   ·right;have:=b1 b h9;omega
  ·right;have:=b2 b h9;omega,k.k,k.w⟩
end Go.Tm
namespace Go.Proofs.YthbjaiilnkakcaaGreatDoor
open Go.Tm Vr
variable{E:Env}(hE:EOk E)
include hE
section
variable{G:Mem}{h:ag}(hW:WF E h)(hG:Frz E G h){P:PR}{cs:List Value}(hP:PRR E G P cs)
include hW hG hP
theorem mN(z:P.Sz)(he:∀e,e∈P.sv.l->e.c<=1000000/\e.n<=1000000/\e.t.size<=1000){m:Mg}{ms:List Value}(hm:MgR E G m ms) :
 af E 61 [.agg cs.toArray,.agg ms.toArray] h λv h'=>∃G' mc,v=.agg mc.toArray/\MgR E G' (P.bM m) mc/\Ext E G h G' h':=by
 have hP0:=hP;obtain⟨a1,c1,a2,c2,a3,c3,a4,c4,a5,c5,a6,c6,a7,c7,ct,cc,ca,rfl,q1,⟨q2,q3,q4⟩,q5⟩:=hP.e;obtain⟨b1,d1,b2,d2,b3,d3,rfl,m1,m2,m3⟩:=hm.e;have hop:=z.op;have zb:=z.bs;have zc:=z.cm;have hll:P.log.length<=P.op:=NH;refine en hE Tryz.func61 rfl rfl Tryz.ntmps61 rfl Nv (rs:=[.cell 4 66]) rfl ?_;simp only[push_cast,seval,hE.z,hW.b0];have kA:=(((KW.refl hW).push (o:=.cells (rCS P a1 c1 a2 c2 a3 c3 a4 c4 a5 c5 a6 c6 a7 c7) 49 true)).push (o:=.cells (mCS m b1 d1 b2 d2 b3 d3) 66 true)).push (o:=.cells (mgC {} (.slice none 0 0) (.slice none 0 0) (.slice none 0 0)) 66 true);refine(dK hE kA.w hP0 Nr Nr).mono ?_;rintro v h3 ⟨rfl,k3⟩;have gR:=k3.k.get h.next _ (show _=some (.cells (rCS P a1 c1 a2 c2 a3 c3 a4 c4 a5 c5 a6 c6 a7 c7) 49 true) by rw[ah,if_neg Nu,ah,if_neg Nw,ah,if_pos rfl]);have gM:=k3.k.get (h.next+1) _ (show _=some (.cells (mCS m b1 d1 b2 d2 b3 d3) 66 true) by rw[ah,if_neg Nw,ah,if_pos Nw]);have gZ:=k3.k.get (h.next+2) _ (show _=some (.cells (mgC {} (.slice none 0 0) (.slice none 0 0) (.slice none 0 0)) 66 true) by rw[ah,if_pos Nw]);have nR:=k3.w.nlt gR;have p2:(h.next+1=h.next)=False:=Nw;simp only[push_cast,seval,hE.z,gR,gM,nR,p2];have hltM:=(k3.w.live _ _ gM).2;have hltZ:=(k3.w.live _ _ gZ).2;have kB:KW E h (h3.put (h.next+1) (.cells (mgC {m with op:=P.op,cm:=P.cm,bs:=P.bs} (.slice b1 m.log.length d1) (.slice b2 m.img.length d2) (.slice b3 0 d3)) 66 true)):=(kA.trans k3).put (Nat.le_succ _) hltM hW;refine(iq hE kB.w hP0 (hG.aK kB.k) (k:=P.bs) ⟨Nat.le_refl _,Nr⟩ Nr).mono ?_;rintro v h4 ⟨o4,k4⟩;have elog:dv P P.bs=P.log:=Oe;have elen:P.op-P.bs=P.log.length:=NH;rw[elog,elen]at o4;obtain⟨va,vc,rfl,_⟩:=o4.fh;have hlo4:=o4.lt k4.w;rw[dI]at hlo4;have gR4:=k4.k.get _ _ (show(h3.put (h.next+1) (.cells (mgC {m with op:=P.op,cm:=P.cm,bs:=P.bs} (.slice b1 m.log.length d1) (.slice b2 m.img.length d2) (.slice b3 0 d3)) 66 true)).get h.next=some _ by rw[ai,if_neg Nr];exact gR);have gZ4:=k4.k.get _ _ (show(h3.put (h.next+1) (.cells (mgC {m with op:=P.op,cm:=P.cm,bs:=P.bs} (.slice b1 m.log.length d1) (.slice b2 m.img.length d2) (.slice b3 0 d3)) 66 true)).get (h.next+2)=some _ by rw[ai,if_neg Nr];exact gZ);have gM4:=k4.k.get _ _ (show(h3.put (h.next+1) (.cells (mgC {m with op:=P.op,cm:=P.cm,bs:=P.bs} (.slice b1 m.log.length d1) (.slice b2 m.img.length d2) (.slice b3 0 d3)) 66 true)).get (h.next+1)=some _ by rw[ai,if_pos rfl]);have nR4:=k4.w.nlt gR4;have nM4:=k4.w.nlt gM4;have nZ4:=k4.w.nlt gZ4;have p3:(h.next+1=h.next+2)=False:=Nw;have hltM4:=(k4.w.live _ _ gM4).2;have hltZ4:=(k4.w.live _ _ gZ4).2;have kC:=(kB.trans k4).put (b:=h.next+1) (o:=.cells (mgC {m with op:=P.op,cm:=P.cm,bs:=P.bs,log:=P.log} (.slice va P.log.length vc) (.slice b2 m.img.length d2) (.slice b3 0 d3)) 66 true) (Nat.le_succ _) hltM4 hW
 have oC:Own (h4.put (h.next+1) (.cells (mgC {m with op:=P.op,cm:=P.cm,bs:=P.bs,log:=P.log} (.slice va P.log.length vc) (.slice b2 m.img.length d2) (.slice b3 0 d3)) 66 true)) 60 3 h3.next P.log.length (cq P.log) (.slice va P.log.length vc) :=
  o4.at λb o hb hg=>by rw[ai,if_neg (λe=>by have:=hlo4 b hb;omega)];exact hg
 by_cases hb:0<P.bs
 ·have hb1:decide ((0:Int)<(P.bs:Int))=true:=Nu;simp only[push_cast,seval,hE.z,gR4,gM4,nR4,p2,hb1];refine(yP hE kC.w (hG.aK kC.k) (S:=P.sv) ⟨_,_,_,rfl,q2,q3,q4⟩ (by have:=z.svl;omega) he).mono ?_;rintro v h5 ⟨o5,k5⟩;obtain⟨ia,ic,rfl,_⟩:=o5.fh;have hlo5:=o5.lt k5.w;have hl5:=k5.k.next;rw[dI]at hlo5 hl5;have gM5:=k5.k.get _ _ (show(h4.put (h.next+1) (.cells (mgC {m with op:=P.op,cm:=P.cm,bs:=P.bs,log:=P.log} (.slice va P.log.length vc) (.slice b2 m.img.length d2) (.slice b3 0 d3)) 66 true)).get (h.next+1)=some _ by rw[ai,if_pos rfl]);have gZ5:=k5.k.get _ _ (show(h4.put (h.next+1) (.cells (mgC {m with op:=P.op,cm:=P.cm,bs:=P.bs,log:=P.log} (.slice va P.log.length vc) (.slice b2 m.img.length d2) (.slice b3 0 d3)) 66 true)).get (h.next+2)=some _ by rw[ai,if_neg Nr];exact gZ4);have nM5:=k5.w.nlt gM5;have nZ5:=k5.w.nlt gZ5;simp only[push_cast,seval,hE.z,gM5,gZ5,nM5,nZ5,p3];have k6:=(kC.trans k5).put (b:=h.next+1) (o:=.cells (mgC {m with op:=P.op,cm:=P.cm,bs:=P.bs,log:=P.log,img:=save P.sv} (.slice va P.log.length vc) (.slice ia (save P.sv).length ic) (.slice b3 0 d3)) 66 true) (Nat.le_succ _) Nr hW;have kF:=k6.put (b:=h.next+2) (o:=.cells (mgC {m with op:=P.op,cm:=P.cm,bs:=P.bs,log:=P.log,img:=save P.sv} (.slice va P.log.length vc) (.slice ia (save P.sv).length ic) (.slice b3 0 d3)) 66 true) Nr (by rw[dI];omega) hW
  have oF:=(oC.aK k5.k).at (h':=(h5.put (h.next+1) (.cells (mgC {m with op:=P.op,cm:=P.cm,bs:=P.bs,log:=P.log,img:=save P.sv} (.slice va P.log.length vc) (.slice ia (save P.sv).length ic) (.slice b3 0 d3)) 66 true)).put (h.next+2) (.cells (mgC {m with op:=P.op,cm:=P.cm,bs:=P.bs,log:=P.log,img:=save P.sv} (.slice va P.log.length vc) (.slice ia (save P.sv).length ic) (.slice b3 0 d3)) 66 true)) (λb o hb hg=>by
   have:=hlo4 b hb
   rw[ai,if_neg Nr,ai,if_neg Nr];exact hg)
  have oI:=o5.at (h':=(h5.put (h.next+1) (.cells (mgC {m with op:=P.op,cm:=P.cm,bs:=P.bs,log:=P.log,img:=save P.sv} (.slice va P.log.length vc) (.slice ia (save P.sv).length ic) (.slice b3 0 d3)) 66 true)).put (h.next+2) (.cells (mgC {m with op:=P.op,cm:=P.cm,bs:=P.bs,log:=P.log,img:=save P.sv} (.slice va P.log.length vc) (.slice ia (save P.sv).length ic) (.slice b3 0 d3)) 66 true)) (λb o hb hg=>by
   have:=hlo5 b hb
   rw[ai,if_neg Nr,ai,if_neg Nr];exact hg)
  obtain⟨G2,z1,z2,xF⟩:=Own.iY hW hG kF oF Nr oI (by rw[dI];omega) (λb hb=>by have:=hlo4 b hb;rw[dI];omega)
  refine⟨G2,_,rfl,?_,xF⟩;have ew:P.bM m={m with op:=P.op,cm:=P.cm,bs:=P.bs,log:=P.log,img:=save P.sv}:=by unfold PR.bM;rw[if_pos hb]
  rw[ew];exact⟨_,_,_,rfl,z1,z2,m3.sub xF.sub⟩
 ·have hb1:decide ((0:Int)<(P.bs:Int))=false:=Nu;simp only[push_cast,seval,hE.z,gR4,gM4,gZ4,nR4,nM4,nZ4,p2,p3,hb1];have kF:=kC.put (b:=h.next+2) (o:=.cells (mgC {m with op:=P.op,cm:=P.cm,bs:=P.bs,log:=P.log} (.slice va P.log.length vc) (.slice b2 m.img.length d2) (.slice b3 0 d3)) 66 true) Nr (by rw[dI];omega) hW
  have oF:=(oC.low (lo':=h.next) Nr).at (h':=(h4.put (h.next+1) (.cells (mgC {m with op:=P.op,cm:=P.cm,bs:=P.bs,log:=P.log} (.slice va P.log.length vc) (.slice b2 m.img.length d2) (.slice b3 0 d3)) 66 true)).put (h.next+2) (.cells (mgC {m with op:=P.op,cm:=P.cm,bs:=P.bs,log:=P.log} (.slice va P.log.length vc) (.slice b2 m.img.length d2) (.slice b3 0 d3)) 66 true)) (λb o hb hg=>by
   have:=hlo4 b hb
   rw[ai,if_neg Nr];exact hg)
  obtain⟨G1,z1,x1⟩:=Own.frz hW hG kF oF;refine⟨G1,_,rfl,?_,x1⟩;have ew:P.bM m={m with op:=P.op,cm:=P.cm,bs:=P.bs,log:=P.log}:=by unfold PR.bM;rw[if_neg hb]
  rw[ew];exact⟨_,_,_,rfl,z1,m2.sub x1.sub,m3.sub x1.sub⟩
end
end Go.Proofs.YthbjaiilnkakcaaGreatDoor
namespace Go.Tm
variable{l:List Oper}{m:Nat}
theorem DJ(y:Nat)(O:List Oper):fO y O=(swp y O).map (swO y):=rfl
theorem K7{a b:Oper}:swp 0 (a::b::l)=b::a::l:=rfl
theorem K8{n:Nat}{o:Oper}:swp (n+1) (o::l)=o::swp n l:=rfl
theorem Kd{y:Nat}{d:Option Nat}{op:Op}{ty:TypeId}{pos:String}{aft:Array Edge}{g:Option (Nat×Bool)}:swO y ⟨d,op,ty,pos,aft,g⟩=⟨d,op,ty,pos,aft.map λe=>{e with on:=swI y e.on},g⟩:=rfl
attribute [push_cast] DJ K7 K8 Kd List.map_cons List.map_nil
abbrev B1(E:Env)(H:ag)(b:Nat)(o:bz):Prop:=H.get b=some o/\(b<E.base)=False/\(H.next=b)=False/\(b=H.next)=False
abbrev B0(E:Env)(H:ag):Prop:=(H.next<E.base)=False/\(H.next+1<E.base)=False/\(H.next+1+1<E.base)=False/\(H.next+1+1+1<E.base)=False
abbrev D2(a b:Nat):Prop:=(a=b)=False/\(b=a)=False
structure MX(E:Env)(G:Mem)(h:ag)(G':Mem)(H:ag)(B:List (Nat×bz)):Prop where
 x:Ext E G h G' H
 bx:BX G' H (λ_=>False) B
 lo:∀b o,(b,o)∈B->h.next<=b
structure OL(E:Env)(lo:Nat)(G':Mem)(H:ag)(e z n:Nat)(cs:List Value)(v:Value):Prop where
 own:Own H e z lo n cs v
 ng:∀b,b∈slB v->G' b=none
section
variable{E:Env}{G G' G2:Mem}{h H H2:ag}{B:List (Nat×bz)}
theorem MX.start(hW:WF E h)(hG:Frz E G h):MX E G h G h []:=⟨(KW.refl hW).ext hG,BX.nil,λb o h=>N7⟩
theorem MX.gen{motive:ag->Prop}(c:MX E G h G' H B)(K:∀H,MX E G h G' H B->motive H):motive H:=K H c
theorem MX.call(c:MX E G h G' H B)(y:Ext E G' H G2 H2):MX E G h G2 H2 B:=by
 refine⟨⟨c.x.sub.trans y.sub,y.frz,λb v hb=>?_,c.x.aK.trans y.aK,y.wf⟩,⟨λb o hb=>y.aK.get _ _ (c.bx.get b o hb),λb o hb=>⟨λx=>x,?_⟩,c.bx.nd⟩,c.lo⟩
 ·rcases y.new b v hb with h1|h1
  ·exact c.x.new b v h1
  ·right;have:=c.x.aK.next;omega
 ·cases hg:G2 b with
  |none=>rfl
  | some v =>
    rcases y.new b v hg with h1|h1
    ·rw[(c.bx.out b o hb).2]at h1;cases h1
    ·have:=(c.x.wf.live _ _ (c.bx.get b o hb)).2;omega
theorem MX.kw(c:MX E G h G' H B)(k:KW E H H2):MX E G h G' H2 B:=c.call (k.ext c.x.frz)
theorem MX.new(c:MX E G h G' H B){o:bz}:MX E G h G' (H.push o) ((H.next,o)::B):=by
 have d:=c.kw ((KW.refl c.x.wf).push (o:=o));refine⟨d.x,c.bx.new c.x.wf (λx=>x) (c.x.eH (Nat.le_refl _)),λb p hb=>?_⟩;rcases List.mem_cons.1 hb with hb|hb
 ·injection hb with hb _;subst hb;exact c.x.aK.next
 ·exact c.lo b p hb
theorem MX.put(c:MX E G h G' H B)(hW:WF E h)(i:Nat){b:Nat}{o o':bz}(hi:B[i]? = some (b,o)):MX E G h G' (H.put b o') (B.set i (b,o')):=by
 have hm:=List.mem_of_getElem? hi;refine⟨c.x.put hW (c.lo b o hm) (c.bx.out b o hm).2 (c.bx.get b o hm),c.bx.put i hi,λd p hd=>?_⟩;rcases List.mem_or_eq_of_mem_set hd with hd|hd
 ·exact c.lo d p hd
 ·injection hd with hd _;subst hd;exact c.lo d o hm
theorem MX.drop(c:MX E G h G' H B)(k:Nat):MX E G h G' H (B.drop k) :=
 ⟨c.x,⟨λb o h=>c.bx.get b o (List.mem_of_mem_drop h),λb o h=>c.bx.out b o (List.mem_of_mem_drop h),N2⟩,λb o h=>c.lo b o (List.mem_of_mem_drop h)⟩
theorem MX.at(c:MX E G h G' H B)(i:Nat){b:Nat}{o:bz}(hi:B[i]? = some (b,o)):B1 E H b o:=by have g:=c.bx.get b o (List.mem_of_getElem? hi);exact⟨g,c.x.wf.nlt g,c.x.wf.ne g,c.x.wf.ne' g⟩
theorem MX.lt(c:MX E G h G' H B)(i:Nat){b:Nat}{o:bz}(hi:B[i]? = some (b,o)):b<H.next:=(c.x.wf.live _ _ (c.bx.get b o (List.mem_of_getElem? hi))).2
theorem MX.no(c:MX E G h G' H B)(i:Nat){b:Nat}{o:bz}(hi:B[i]? = some (b,o)):G' b=none:=(c.bx.out b o (List.mem_of_getElem? hi)).2
theorem MX.b0(c:MX E G h G' H B):B0 E H:=⟨c.x.wf.b0,c.x.wf.b1,c.x.wf.b2,c.x.wf.b3⟩
theorem MX.d2(c:MX E G h G' H B)(i j:Nat){a b:Nat}{o p:bz}(hi:B[i]? = some (a,o))(hj:B[j]? = some (b,p))(hij:i≠j):D2 a b:=by
 have key:a≠b:=λe=>by
  subst e;have h1:(B.map Prod.fst)[i]? = some a:=by rw[List.getElem?_map,hi];rfl
  have h2:(B.map Prod.fst)[j]? = some a:=by rw[List.getElem?_map,hj];rfl
  obtain⟨l1,e1⟩:=List.getElem?_eq_some_iff.1 h1;obtain⟨l2,e2⟩:=List.getElem?_eq_some_iff.1 h2;have hp:=List.pairwise_iff_getElem.1 c.bx.nd;rcases Nat.lt_trichotomy i j with h3|h3|h3
  ·exact hp i j l1 l2 h3 (e1.trans e2.symm)
  ·exact hij h3
  ·exact hp j i l2 l1 h3 (e2.trans e1.symm)
 exact⟨eq_false key,eq_false λe=>key e.symm⟩
variable{a b d f g:Nat}{o p q s t:bz}
theorem MX.f1(c:MX E G h G' H [(a,o)]):B0 E H/\B1 E H a o:=⟨c.b0,c.at 0 rfl⟩
theorem MX.f2(c:MX E G h G' H [(a,o),(b,p)]):B0 E H/\B1 E H a o/\B1 E H b p/\D2 a b:=⟨c.b0,c.at 0 rfl,c.at 1 rfl,c.d2 0 1 rfl rfl Nz⟩
theorem MX.f3(c:MX E G h G' H [(a,o),(b,p),(d,q)]):B0 E H/\B1 E H a o/\B1 E H b p/\B1 E H d q/\D2 a b/\D2 a d/\D2 b d:=⟨c.b0,c.at 0 rfl,c.at 1 rfl,c.at 2 rfl,c.d2 0 1 rfl rfl Nz,c.d2 0 2 rfl rfl Nz,c.d2 1 2 rfl rfl Nz⟩
theorem MX.f4(c:MX E G h G' H [(a,o),(b,p),(d,q),(f,s)]):B0 E H/\B1 E H a o/\B1 E H b p/\B1 E H d q/\B1 E H f s/\D2 a b/\D2 a d/\D2 a f/\D2 b d/\D2 b f/\D2 d f:=⟨c.b0,c.at 0 rfl,c.at 1 rfl,c.at 2 rfl,c.at 3 rfl,c.d2 0 1 rfl rfl Nz,c.d2 0 2 rfl rfl Nz,c.d2 0 3 rfl rfl Nz,c.d2 1 2 rfl rfl Nz,c.d2 1 3 rfl rfl Nz,c.d2 2 3 rfl rfl Nz⟩
theorem MX.f5(c:MX E G h G' H [(a,o),(b,p),(d,q),(f,s),(g,t)]):B0 E H/\B1 E H a o/\B1 E H b p/\B1 E H d q/\B1 E H f s/\B1 E H g t/\D2 a b/\D2 a d/\D2 a f/\D2 a g/\D2 b d/\D2 b f/\D2 b g/\D2 d f/\D2 d g/\D2 f g:=⟨c.b0,c.at 0 rfl,c.at 1 rfl,c.at 2 rfl,c.at 3 rfl,c.at 4 rfl,c.d2 0 1 rfl rfl Nz,c.d2 0 2 rfl rfl Nz,c.d2 0 3 rfl rfl Nz,c.d2 0 4 rfl rfl Nz,c.d2 1 2 rfl rfl Nz,c.d2 1 3 rfl rfl Nz,c.d2 1 4 rfl rfl Nz,c.d2 2 3 rfl rfl Nz,c.d2 2 4 rfl rfl Nz,c.d2 3 4 rfl rfl Nz⟩
variable{e z n:Nat}{cs:List Value}{v:Value}
theorem OL.nil{lo:Nat}:OL E lo G' H e z 0 [] (.slice none 0 0):=⟨Own.nil _ _ _ _,λb hb=>by simp[slB]at hb⟩
theorem OL.of{lo:Nat}(c:MX E G h G' H B)(k:KW E H H2)(o:Own H2 e z H.next n cs v)(hl:lo<=H.next):OL E lo G' H2 e z n cs v:=⟨o.low hl,λb hb=>c.x.eH (o.lt k.w b hb).1⟩
theorem OL.call{lo:Nat}(o:OL E lo G' H e z n cs v)(hW:WF E H)(y:Ext E G' H G2 H2):OL E lo G2 H2 e z n cs v:=⟨o.own.aK y.aK,λb hb=>by
 cases hg:G2 b with
 |none=>rfl
 | some c =>
   rcases y.new b c hg with h1|h1
   ·rw[o.ng b hb]at h1;cases h1
   ·have:=(o.own.lt hW b hb).2;omega⟩
theorem OL.kw{lo:Nat}(o:OL E lo G' H e z n cs v)(k:KW E H H2):OL E lo G' H2 e z n cs v:=⟨o.own.aK k.k,o.ng⟩
theorem OL.push{lo:Nat}(o:OL E lo G' H e z n cs v)(hW:WF E H){p:bz}:OL E lo G' (H.push p) e z n cs v:=⟨o.own.aK ((KW.refl hW).push).k,o.ng⟩
theorem OL.put{lo:Nat}(o:OL E lo G' H e z n cs v){b:Nat}{p p':bz}(hb:H.get b=some p)(ht:b<lo\/∀c fx,p≠.cells c e fx):OL E lo G' (H.put b p') e z n cs v :=
 ⟨o.own.at λd q hd hg=>by
  rw[ai,if_neg (λe1=>by
   subst e1;rcases ht with ht|ht
   ·rcases o.own with⟨rfl,_⟩|⟨b',cap,rest,fx,rfl,_,_,_,_,h4,_⟩
    ·simp[slB]at hd
    ·simp only[slB,List.mem_singleton]at hd;omega
   ·exact o.own.tag hb ht hd)];exact hg,o.ng⟩
theorem OL.lo{lo:Nat}(o:OL E lo G' H e z n cs v):∀b,b∈slB v->lo<=b:=λb hb=>by
 rcases o.own with⟨rfl,_⟩|⟨b',cap,rest,fx,rfl,_,_,_,_,h4,_⟩
 ·simp[slB]at hb
 ·simp only[slB,List.mem_singleton]at hb;omega
def Dj(lo e:Nat)(B:List (Nat×bz)):Prop:=∀b o,(b,o)∈B->b<lo\/∀c fx,o≠.cells c e fx
theorem Dj.nil{lo e:Nat}:Dj lo e []:=λb o h=>N7
theorem Dj.tag{lo e e':Nat}{b:Nat}{c:List Value}{fx:Bool}{B:List (Nat×bz)}(h:Dj lo e B)(hn:e'≠e):Dj lo e ((b,.cells c e' fx)::B):=λd p hd=>by
 rcases List.mem_cons.1 hd with hd|hd
 ·injection hd with _ hd;subst hd;exact .inr λc' fx' e1=>by injection e1 with _ e1;exact hn e1
 ·exact h d p hd
theorem Dj.low{lo e:Nat}{b:Nat}{o:bz}{B:List (Nat×bz)}(h:Dj lo e B)(hn:b<lo):Dj lo e ((b,o)::B):=λd p hd=>by
 rcases List.mem_cons.1 hd with hd|hd
 ·injection hd with hd _;subst hd;exact .inl hn
 ·exact h d p hd
theorem OL.dj{lo:Nat}(o:OL E lo G' H e z n cs v){b:Nat}{p:bz}(hb:H.get b=some p)(ht:b<lo\/∀c fx,p≠.cells c e fx):b∉slB v:=λhd=>by
 rcases ht with ht|ht
 ·have:=o.lo b hd;omega
 ·exact o.own.tag hb ht hd
theorem MX.app{lo:Nat}(c:MX E G h G' H B)(hW:WF E h)(ol:OL E lo G' H e z n cs v)(ht:Dj lo e B)(hl:h.next<=lo){m:Nat}{cs':List Value}{v':Value}(a:Apd E H H2 e z lo m cs' v v') :
 MX E G h G' H2 B/\OL E lo G' H2 e z m cs' v':=by
 refine⟨⟨c.x.app hW a λb hb=>⟨Nat.le_trans hl (ol.lo b hb),ol.ng b hb⟩,⟨λb o hb=>a.get _ _ (c.bx.get b o hb) (ol.dj (c.bx.get b o hb) (ht b o hb)),c.bx.out,c.bx.nd⟩,c.lo⟩,a.own,λb hb=>?_⟩;rcases a.blk b hb with h1|h1
 ·exact ol.ng b h1
 ·exact c.x.eH h1
theorem MX.still{lo:Nat}(c:MX E G h G' H B)(hW:WF E h)(ol:OL E lo G' H e z n cs v)(ht:Dj lo e B)(hl:h.next<=lo):∃G2,Fz E G2 z n cs v/\MX E G h G2 H B/\Sub G' G2/\∀b c,G2 b=some c->G' b=some c\/b∈slB v:=by
 obtain⟨G2,z2,x2,s2,g2⟩:=c.x.iY (ol.own.low hl);refine⟨G2,z2,⟨x2,⟨c.bx.get,λb o hb=>⟨λx=>x,?_⟩,c.bx.nd⟩,c.lo⟩,s2,g2⟩
 cases hg:G2 b with
 |none=>rfl
 | some d =>
   rcases g2 b d hg with h1|h1
   ·rw[(c.bx.out b o hb).2]at h1;cases h1
   ·exact(ol.dj (c.bx.get b o hb) (ht b o hb) h1).elim
theorem OL.still{lo:Nat}{e' z' n':Nat}{cs':List Value}{v':Value}(o2:OL E lo G' H e' z' n' cs' v')(d:∀b,b∈slB v'->b∉slB v)(g:∀b c,G2 b=some c->G' b=some c\/b∈slB v):OL E lo G2 H e' z' n' cs' v':=⟨o2.own,λb hb=>by
 cases hg:G2 b with
 |none=>rfl
 | some c =>
   rcases g b c hg with h1|h1
   ·rw[o2.ng b hb]at h1;cases h1
   ·exact(d b hb h1).elim⟩
theorem OL.write{lo:Nat}(ol:OL E lo G' H e z n cs v)(hW:WF E H){i:Nat}(hi:i<n){xs:List Value}(hl:xs.length=z)(ho:xs.all Value.oneCell'=true) :
 ∃b c p o',v=.slice (some ⟨b,0,none⟩) n c/\H.get b=some p/\b∈slB v/\bQ H ⟨b,i*z,none⟩ xs=some (H.put b o')/\OL E lo G' (H.put b o') e z n (cs.take (i*z)++xs++cs.drop ((i+1)*z)) v:=by
 obtain⟨ow,hng⟩:=ol;rcases ow with⟨_,h1,_⟩|⟨b,cap,rest,fx,rfl,hg,hc1,hc2,hc3,hc4,hc5⟩
 ·omega
 ·have h1:i*z+z<=n*z:=by have:(i+1)*z<=n*z:=Nat.mul_le_mul_right z Nr;rw[Nat.add_mul]at this;omega
  have hsp:bJ (cs++rest) (i*z) xs=(cs.take (i*z)++xs++cs.drop ((i+1)*z))++rest:=by unfold bJ;rw[List.take_append_of_le_length Nr,List.drop_append_of_le_length Nr,Nat.add_mul,Nat.one_mul,hl];simp
  refine⟨b,cap,_,.cells ((cs.take (i*z)++xs++cs.drop ((i+1)*z))++rest) e fx,rfl,hg,OA,?_,.inr ⟨b,cap,rest,fx,rfl,ND,?_,hc2,hc3,hc4,hc5⟩,hng⟩
  ·simp only[bQ,hg];rw[if_pos ⟨N0,ho⟩,hsp]
  ·rw[List.length_append,List.length_append,List.length_take,List.length_drop,hl,hc1,Nat.add_mul];omega
theorem MX.Kn{lo:Nat}(c:MX E G h G' H B)(hW:WF E h)(ol:OL E lo G' H e z n cs v)(ht:Dj lo e B)(hl:h.next<=lo){b:Nat}{p o':bz}(hp:H.get b=some p)(hb:b∈slB v):MX E G h G' (H.put b o') B:=by refine⟨c.x.put hW (Nat.le_trans hl (ol.lo b hb)) (ol.ng b hb) hp,⟨λd q hd=>?_,c.bx.out,c.bx.nd⟩,c.lo⟩;rw[ai,if_neg (λe1=>by subst e1;exact ol.dj (c.bx.get _ q hd) (ht _ q hd) hb)];exact c.bx.get d q hd
theorem MX.uW{motive:ag->Prop}{lo:Nat}(c:MX E G h G' H B)(o:OL E lo G' H e z n cs v)(K:∀H,MX E G h G' H B->OL E lo G' H e z n cs v->motive H):motive H:=K H c o
theorem MX.MR{motive:ag->Prop}{lo lo' e' z' n':Nat}{cs':List Value}{v':Value}(c:MX E G h G' H B)(o:OL E lo G' H e z n cs v)(o':OL E lo' G' H e' z' n' cs' v')(K:∀H,MX E G h G' H B->OL E lo G' H e z n cs v->OL E lo' G' H e' z' n' cs' v'->motive H):motive H:=K H c o o'
theorem cQ{c:Nat->St}{D:List Nat}{v:Value}(K:Nat)(hD:∀k,k<K->k∈D)(h:sc (c K).h.next v=true):scQ (live c D) v=true:=gf (λb=>decide (b<(c K).h.next)) _ (λb hb=>md K hD (of_decide_eq_true hb)) v (by rw[ij];exact h)
theorem JV{m':Nat}{v:Value}(h:sc m v=true)(hm:m<=m'):sc m' v=true:=by rw[<-ij]at h|-;exact gf _ _ (λb hb=>by simp at hb|-;omega) v h
theorem wQ{v w:Value}(h:sc m v=true)(h2:sc m w=true):sc m (.tuple #[v,w])=true:=by rw[<-ij]at h h2|-;unfold scQ iK;simp only[iJ,List.forall_mem_cons,List.not_mem_nil,false_implies,implies_true,and_true];exact⟨h,h2⟩
theorem MX.Hy{lo:Nat}(c:MX E G h G' H B)(hl:cs.length=n*z)(hn:n<=9223372036854775807)(hlo:lo<=H.next):MX E G h G' (H.push (.cells cs e true)) B/\OL E lo G' (H.push (.cells cs e true)) e z n cs (.slice (some ⟨H.next,0,none⟩) n n):=by refine⟨c.kw (KW.refl c.x.wf).push,.inr ⟨H.next,n,[],true,rfl,by rw[ah,if_pos rfl,List.append_nil],hl,Nw,Nat.le_refl _,hlo,hn⟩,λb hb=>?_⟩;simp only[slB,List.mem_singleton]at hb;exact c.x.eH Nr
theorem wR{q:Nat->Bool}{cs:List Value}{e:TypeId}{fx:Bool}(h:scQ q (.agg cs.toArray)=true):jH q (.cells cs e fx)=true:=by unfold scQ iK at h;simp only[iJ]at h;simp only[jH,List.all_eq_true];exact h
end
theorem Gp{E:Env}{c:Code}{R:bl}{Q:cY}{tm:Tr Value}{h:ag}(P:bl)(m:∀tm h,P tm h->R tm h)(H:wpc E c (xk P Q) tm h):wpc E c (xk R Q) tm h :=
 IX _ (λe tm h he=>by cases e with
  |normal=>exact m _ _ he
  |ret=>exact he
  |exit i=>exact he
  |goto l=>exact he) H
theorem awu{b:Bool}:(awb undef b=true)=False:=by simp[awb,undef]
end Go.Tm
namespace Go.Tm
open Vr
variable{b i n:Nat}{cs:List Value}{v:Value}{fx:Bool}
def Bz(Z:Nat->Prop)(G:Mem)(n:Nat)(l:List Nat):Prop:=∀b,b∈l->¬Z b/\G b=none/\b<n
theorem Bz.px{E:Env}{G G':Mem}{h h':ag}{Z Z':Nat->Prop}{l:List Nat}(B:Bz Z G h.next l)(p:PX E G h Z G' h' Z'):Bz Z' G' h'.next l:=λb hb=>by
 obtain⟨h1,h2,h3⟩:=B b hb;exact⟨p.nx h1 h3,p.nn h3 h2,Nat.lt_of_lt_of_le h3 p.kx.next⟩
theorem Own.still{E:Env}{G:Mem}{h:ag}{e z lo:Nat}(hW:WF E h)(hG:Frz E G h)(H:Own h e z lo n cs v):∃G',Fz E G' z n cs v/\Sub G G'/\Frz E G' h/\∀b c,G' b=some c->G b=some c\/b∈slB v:=by
 rcases H with⟨rfl,rfl,rfl⟩|⟨b,cap,rest,fx,rfl,hg,hc1,hc2,hc3,hc4,hc5⟩
 ·exact⟨G,Fz.nil,Sub.refl _,hG,λb c h=>.inl h⟩
 ·have hs:Sub G (λj=>if j=b then some (cs++rest) else G j):=by
   intro j c hj;show(if j=b then some (cs++rest) else G j)=some c;by_cases e1:j=b
   ·subst e1;obtain⟨e',fx',hh⟩:=hG j c hj;rw[hg]at hh;injection hh with hh;injection hh with hh;rw[if_pos rfl,hh]
   ·rw[if_neg e1];exact hj
  have hnb:¬b<E.base:=Oh;refine⟨λj=>if j=b then some (cs++rest) else G j,⟨⟨some ⟨b,0,none⟩,cap,rfl,hc3,hc5,⟨λx=>Oy,λb' e=>.inr ⟨cs++rest,On⟩⟩,.inr ⟨_,rfl,?_⟩⟩,λa k c e=>N9⟩,hs,?_,?_⟩
  ·unfold eo;rw[if_neg hnb];simp only[if_true];rw[if_pos PO];simp[<-hc1]
  ·intro j c hj;replace hj:(if j=b then some (cs++rest) else G j)=some c:=hj;split at hj
   ·rename_i e1;subst e1;injection hj with hj;subst hj;exact⟨_,_,hg⟩
   ·exact hG j c hj
  ·intro j c hj;replace hj:(if j=b then some (cs++rest) else G j)=some c:=hj;split at hj
   ·rename_i e1;subst e1;right;simp[slB]
   ·exact .inl hj
theorem BX.px{E:Env}{G G':Mem}{H H':ag}{Z Z':Nat->Prop}{xs:List (Nat×bz)}(hW:WF E H)(B:BX G H Z xs)(p:PX E G H Z G' H' Z'):BX G' H' Z' xs:=by refine⟨λb o h=>p.kx.get _ _ (B.out b o h).1 (B.get b o h),λb o h=>?_,B.nd⟩;obtain⟨h1,h2⟩:=B.out b o h;have hl:=(hW.live _ _ (B.get b o h)).2;exact⟨p.nx h1 hl,p.nn hl h2⟩
theorem hU.still{E:Env}{G:Mem}{h:ag}{e z:Nat}(hW:WF E h)(hG:Frz E G h)(H:hU h e z n cs v)(hn:0<n):∃G',Fz E G' z n cs v/\Sub G G'/\Frz E G' h:=by
 rcases H with⟨_,h1,_⟩|⟨b,off,cap,pre,rest,fx,rfl,hg,h1,h2,h3,h4,h5⟩|⟨b',off',kk,pre,fx,_,h1,_⟩
 ·omega
 ·have hs:Sub G (λj=>if j=b then some (pre++(cs++rest)) else G j):=by
   intro j c hj;show(if j=b then some (pre++(cs++rest)) else G j)=some c;by_cases e1:j=b
   ·subst e1;obtain⟨e',fx',hh⟩:=hG j c hj;rw[hg]at hh;injection hh with hh;injection hh with hh;rw[if_pos rfl,hh]
   ·rw[if_neg e1];exact hj
  have hnb:¬b<E.base:=Oh;refine⟨λj=>if j=b then some (pre++(cs++rest)) else G j,⟨⟨some ⟨b,off*z,none⟩,cap,rfl,h4,h5,⟨λx=>Oy,λb' e=>.inr ⟨pre++(cs++rest),On⟩⟩,.inr ⟨_,rfl,?_⟩⟩,λa k c e=>by injection e with e e2;injection e with e;subst e;exact⟨rfl,λh0=>by omega⟩⟩,hs,?_⟩
  ·unfold eo;rw[if_neg hnb];simp only[if_true];rw[if_pos (by simp[h1,h2])];rw[<-h1,List.drop_left,<-h2,List.take_left]
  ·intro j c hj;replace hj:(if j=b then some (pre++(cs++rest)) else G j)=some c:=hj;split at hj
   ·rename_i e1;subst e1;injection hj with hj;subst hj;exact⟨_,_,hg⟩
   ·exact hG j c hj
 ·omega
theorem bu.take{E:Env}{G:Mem}:∀{l:List Mg} {c:List Value},bu E G l c->∀i,bu E G (l.take i) (c.take (i*17))
 |[],c,h,i=>by rw[show c=[] from h];simp[bu]
 |v::l,c,h,0=>by simp[bu]
 | v::l,c,h,i+1=>by
   obtain⟨c1,c2,rfl,h1,h2⟩:=h;rw[show(i+1)*17=c1.length+i*17 by rw[h1.len];omega,List.take_length_add_append];exact⟨c1,_,rfl,h1,h2.take i⟩
theorem JK{P:Program}{t e z:Nat}(hu:P.underlying t=some (.slice e))(hz:asz P e=some z){a:Addr}{cap:Nat}(hs:a.spot=none)(h0:0<n)(h1:n<=cap):Ca P t (.slice (some a) n cap) none (some (.int .i64 (n:Int))) (.int .i64 (n:Int))=some (.slice (some ⟨a.block,a.off,some 0⟩) n n):=by unfold Ca;simp only[hu,hz,hs];rw[if_pos ⟨trivial,Nr,Nr⟩,Int.toNat_natCast]
theorem fN{E:Env}{h:ag}(hW:WF E h){L:List Bool}{e:Nat}(hb:h.get b=some (.cells (cF L) e fx))(hi:i<L.length):cg E h ⟨b,i,none⟩ 1=some [.bool (L.getD i false)]:=by unfold cg;simp only[hb];rw[if_neg (by have:=hW.nlt hb;simpa using this),if_pos (by simp[cF];omega)];unfold cF;rw[<-List.map_drop,List.drop_eq_getElem_cons hi,List.getD_eq_getElem?_getD,List.getElem?_eq_getElem hi];rfl
theorem uq{h:ag}{x:Bool}{L:List Bool}{e:Nat}(hb:h.get b=some (.cells (cF L) e fx))(hi:i<L.length):bQ h ⟨b,i,none⟩ [.bool x]=some (h.put b (.cells (cF (L.set i x)) e fx)):=by simp only[bQ,hb];rw[if_pos ⟨by simp[cF];omega,rfl⟩];congr 3;unfold bJ cF;simp only[List.length_singleton];rw[List.set_eq_take_append_cons_drop,if_pos Pn];simp
section
variable{E:Env}{G:Mem}{h h2:ag}{L:List Rr}{Y:Nat->Prop}{net net':List Mg}{vL vN vN':Value}{co:List Value}
theorem GS.Ld(g:GS E G h L Y net vL vN)(k:KW E h h2)(o:Own h2 66 17 h.next net'.length co vN')(r:bu E G net' co) :
 GS E G h2 L (λx=>Y x\/x∈slB vN') net' vL vN'/\PX E G h (un L Y) G h2 (un L (λx=>Y x\/x∈slB vN')):=by
 have g2:=g.ext (k.ext g.rs.frz);have hlo:∀x,x∈slB vN'->h.next<=x/\x<h2.next:=λx hx=>o.lt k.w x hx;have sy:SO E G h2 (λx=>Y x\/x∈slB vN'):=by
  refine⟨g2.rs.wf,g2.rs.frz,λb c hb hx=>?_,λb hx=>?_⟩
  ·rcases hx with hx|hx
   ·exact g.sy.dis b c hb hx
   ·rw[g.sy.eH (hlo b hx).1]at hb;cases hb
  ·rcases hx with hx|hx
   ·exact g2.sy.lt b hx
   ·exact(hlo b hx).2
 have gs:GS E G h2 L (λx=>Y x\/x∈slB vN') net' vL vN':=by
  refine⟨g2.rs,sy,λa ha x hx hy=>?_,g2.ol,λb hb=>.inl (g.yl b hb),⟨co,o.toQ,r⟩,λb hb=>.inr hb⟩;rcases hy with hy|hy
  ·exact g.dj a ha x hx hy
  ·have:=(g.rs.so a ha).lt x hx;have:=(hlo x hy).1;omega
 refine⟨gs,(PX.kw g.so k).wide (λb hb=>hb) gs.so λb hb=>?_⟩;rcases hb with(hb|hb)|hb
 ·exact .inl (.inl hb)
 ·exact .inr (hlo b hb).1
 ·exact .inl (.inr hb)
end
end Go.Tm
namespace Go.Proofs.YthbjaiilnkakcaaGreatDoor
open Go.Tm Vr
variable{E:Env}(hE:EOk E)
include hE
def gX(L:List Rr)(Y:Nat->Prop)(bD bS:Nat):Nat->Prop:=λx=>un L Y x\/x=bD\/x=bS
section
variable{G:Mem}{h:ag}{L:List Rr}{Y:Nat->Prop}{net:List Mg}{down:List Bool}{aJ:List Nat}{bD bS tv:Nat}{cs:List Value}(V:GV E G h L Y net down aJ bD bS cs tv)
include V
omit hE in
theorem GV.so:SO E G h (gX L Y bD bS):=by
 obtain⟨vL,vN,_,g⟩:=V.e;refine⟨g.so.wf,g.so.frz,λb c hb hx=>?_,λb hx=>?_⟩
 ·rcases hx with hx|rfl|rfl
  ·exact g.so.dis b c hb hx
  ·rw[V.yD]at hb;cases hb
  ·rw[V.yS]at hb;cases hb
 ·rcases hx with hx|rfl|rfl
  ·exact g.so.lt b hx
  ·exact(g.so.wf.live _ _ V.gD).2
  ·exact(g.so.wf.live _ _ V.gS).2
omit hE in
theorem GV.move{G':Mem}{h':ag}{L':List Rr}{Y':Nat->Prop}{net':List Mg}{vL vN:Value}(px:PX E G h (un L Y) G' h' (un L' Y'))(g':GS E G' h' L' Y' net' vL vN) :
 GV E G' h' L' Y' net' down aJ bD bS [vL,.slice (some ⟨bD,0,none⟩) down.length down.length,vN,.slice (some ⟨bS,0,none⟩) aJ.length aJ.length,iv tv] tv/\PX E G h (gX L Y bD bS) G' h' (gX L' Y' bD bS):=by
 have lD:=(V.so.wf.live _ _ V.gD).2;have lS:=(V.so.wf.live _ _ V.gS).2
 have V':GV E G' h' L' Y' net' down aJ bD bS [vL,.slice (some ⟨bD,0,none⟩) down.length down.length,vN,.slice (some ⟨bS,0,none⟩) aJ.length aJ.length,iv tv] tv :=
  ⟨⟨vL,vN,rfl,g'⟩,px.box V.nD V.gD,px.box V.nS V.gS,px.nx V.nD lD,px.nx V.nS lS,px.nn lD V.yD,px.nn lS V.yS,V.ne⟩
 refine⟨V',px.wide (λb hb=>.inl hb) V'.so λb hb=>?_⟩;rcases hb with hb|hb
 ·rcases px.xs b hb with h1|h1
  ·exact .inl (.inl h1)
  ·exact .inr h1
 ·exact .inl (.inr hb)
theorem KF{i:Nat}{a:Rr}(hi:L[i]? = some a){m:Mg}{ms:List Value}{dk nk:Nat}(hdk:dk=0\/dk=10\/dk=11\/dk=12\/dk=13)(hnk:nk<65536)(hm:MgR E G m ms){P':PR}{out:List Mg}(hol:out.length<=1000000)
 (hA:∀{G1:Mem} {H:ag},SO E G1 H a.X->QR E G1 H a.X a.P [] a.r a.t->PRR E G1 a.P a.cs->MgR E G1 m ms->af E 27 [.agg a.c.toArray,.agg (iv dk::iv nk::ms).toArray] H λv h'=>∃G' X' rc' r' t',PX E G1 H a.X G' h' X'/\QR E G' h' X' P' [] r' t'/\PRR E G' P' rc'/\v=.tuple #[.agg (ptr r'::ptr t'::rc').toArray,.bool true])
 (hB:∀{G1:Mem} {H:ag},WF E H->Frz E G1 H->PRR E G1 a.P a.cs->MgR E G1 m ms->xg E G1 H a.P a.cs ms dk nk out) :
 af E 19 [.agg cs.toArray,iv i,.agg (iv dk::iv nk::ms).toArray] h λv h'=>∃G' b Y' cs',PX E G h (gX L Y bD bS) G' h' (gX (L.set i b) Y' bD bS)/\GV E G' h' (L.set i b) Y' (da net out) down aJ bD bS cs' tv/\b.P=P'/\v=.tuple #[.agg cs'.toArray,.bool true]:=by
 obtain⟨vL,vN,rfl,g⟩:=V.e;refine(KG hE g hi hdk hnk hm hol hA hB).mono ?_;rintro v h' ⟨G',b,Y',vN',px,g',hb,rfl⟩;obtain⟨V',px'⟩:=V.move px g';exact⟨G',b,Y',_,px',V',hb,rfl⟩
end
omit hE
end Go.Proofs.YthbjaiilnkakcaaGreatDoor
namespace Go.Proofs.YthbjaiilnkakcaaGreatDoor
open Go.Tm Vr
section
variable{E:Env}{G:Mem}{h:ag}{L:List Rr}{Y:Nat->Prop}{net:List Mg}{down:List Bool}{aJ:List Nat}{bD bS tv:Nat}{cs:List Value}
theorem GV.other{G':Mem}{h':ag}{Z Z':Nat->Prop}(V:GV E G h L Y net down aJ bD bS cs tv)(p:PX E G h Z G' h' Z')(hd:∀x,gX L Y bD bS x->¬Z x):GV E G' h' L Y net down aJ bD bS cs tv:=by obtain⟨vL,vN,e1,g⟩:=V.e;have lD:=(V.so.wf.live _ _ V.gD).2;have lS:=(V.so.wf.live _ _ V.gS).2;exact⟨⟨vL,vN,e1,g.other p λx hx=>hd x (.inl hx)⟩,p.kx.get _ _ (hd _ (.inr (.inl rfl))) V.gD,p.kx.get _ _ (hd _ (.inr (.inr rfl))) V.gS,V.nD,V.nS,p.nn lD V.yD,p.nn lS V.yS,V.ne⟩
theorem GV.kw{h':ag}(V:GV E G h L Y net down aJ bD bS cs tv)(k:KW E h h'):GV E G h' L Y net down aJ bD bS cs tv :=
 V.other (PX.kw (SO.eR V.so.wf V.so.frz) k) λ_ _ x=>x
theorem GV.put{b:Nat}{o o':bz}(V:GV E G h L Y net down aJ bD bS cs tv)(hb:h.get b=some o')(hG:G b=none)(hn:¬gX L Y bD bS b):GV E G (h.put b o) L Y net down aJ bD bS cs tv :=
 V.other (PX.self V.so.wf V.so.frz hb hG) λx hx e=>hn (by rw[<-e];exact hx)
end
theorem GV.sl{E:Env}{G:Mem}{h:ag}{L:List Rr}{Y:Nat->Prop}{net:List Mg}{down:List Bool}{aJ:List Nat}{bD bS tv:Nat}{cs:List Value}(V:GV E G h L Y net down aJ bD bS cs tv) :
 ∃aL cL aN cN,cs=[.slice aL L.length cL,.slice (some ⟨bD,0,none⟩) down.length down.length,.slice aN net.length cN,.slice (some ⟨bS,0,none⟩) aJ.length aJ.length,iv tv]:=by
 obtain⟨vL,vN,rfl,gs⟩:=V.e;obtain⟨aL,cL,rfl,_⟩:=gs.ol.fh;obtain⟨co,h1,_⟩:=gs.on;obtain⟨aN,cN,rfl,_⟩:=h1.fh;exact⟨_,_,_,_,rfl⟩
structure CE(E:Env)(G:Mem)(h:ag)(Z:Nat->Prop)(n bD bS:Nat)(H:ag)(G':Mem)(L:List Rr)(Y:Nat->Prop)(g:GP)(cs:List Value)(xs:List (Nat×bz)):Prop where
 p:PX E G h Z G' H (gX L Y bD bS)
 V:GV E G' H L Y g.net g.down g.aJ bD bS cs g.time
 hL:L.length=n
 hP:∀i a,L[i]? = some a->a.P=g.P i
 bx:BX G' H (gX L Y bD bS) xs
 lo:∀b o,(b,o)∈xs->h.next<=b
section
variable{E:Env}{G G':Mem}{h H:ag}{Z:Nat->Prop}{n bD bS:Nat}{L:List Rr}{Y:Nat->Prop}{g:GP}{cs:List Value}{xs:List (Nat×bz)}
theorem CE.start(V:GV E G h L Y g.net g.down g.aJ bD bS cs g.time)(hL:L.length=n)(hP:∀i a,L[i]? = some a->a.P=g.P i):CE E G h (gX L Y bD bS) n bD bS h G L Y g cs [] :=
 ⟨PX.refl V.so,V,hL,hP,BX.nil,λb o hb=>by simp at hb⟩
variable(c:CE E G h Z n bD bS H G' L Y g cs xs)
include c
theorem CE.move(hW:WF E h){G2:Mem}{H2:ag}{L2:List Rr}{Y2:Nat->Prop}{g2:GP}{cs2:List Value}(px:PX E G' H (gX L Y bD bS) G2 H2 (gX L2 Y2 bD bS))(V2:GV E G2 H2 L2 Y2 g2.net g2.down g2.aJ bD bS cs2 g2.time)(hL2:L2.length=n)(hP2:∀i a,L2[i]? = some a->a.P=g2.P i) :
 CE E G h Z n bD bS H2 G2 L2 Y2 g2 cs2 xs:=⟨c.p.trans hW px,V2,hL2,hP2,c.bx.px c.V.so.wf px,c.lo⟩
theorem CE.kw(hW:WF E h){H2:ag}(k:KW E H H2):CE E G h Z n bD bS H2 G' L Y g cs xs :=
 ⟨c.p.trans hW (PX.kw c.V.so k),c.V.kw k,c.hL,c.hP,c.bx.kw c.V.so.wf k,c.lo⟩
theorem CE.new(hW:WF E h){o:bz}:CE E G h Z n bD bS (H.push o) G' L Y g cs ((H.next,o)::xs):=by
 have d:=c.kw hW ((KW.refl c.V.so.wf).push (o:=o));refine⟨d.p,d.V,d.hL,d.hP,c.bx.new c.V.so.wf (λhx=>by have:=c.V.so.lt _ hx;omega) (c.V.so.eH (Nat.le_refl _)),λb p hb=>?_⟩
 rcases List.mem_cons.1 hb with hb|hb
 ·injection hb with hb _;subst hb;exact c.p.kx.next
 ·exact c.lo b p hb
theorem CE.put(hW:WF E h)(i:Nat){b:Nat}{o o':bz}(hi:xs[i]? = some (b,o)):CE E G h Z n bD bS (H.put b o') G' L Y g cs (xs.set i (b,o')):=by
 have hm:=List.mem_of_getElem? hi;obtain⟨h1,h2,h3⟩:=c.bx.at i hi;refine⟨c.p.fresh hW (c.lo b o hm) h3 h1,c.V.put h1 h3 h2,c.hL,c.hP,c.bx.put i hi,λd p hd=>?_⟩;rcases List.mem_or_eq_of_mem_set hd with hd|hd
 ·exact c.lo d p hd
 ·injection hd with hd _;subst hd;exact c.lo d o hm
theorem CE.drop(k:Nat):CE E G h Z n bD bS H G' L Y g cs (xs.drop k) :=
 ⟨c.p,c.V,c.hL,c.hP,⟨λb o h=>c.bx.get b o (List.mem_of_mem_drop h),λb o h=>c.bx.out b o (List.mem_of_mem_drop h),N2⟩,λb o h=>c.lo b o (List.mem_of_mem_drop h)⟩
theorem CE.asx{g2:GP}(h1:g2.P=g.P)(h2:g2.net=g.net)(h3:g2.down=g.down)(h4:g2.aJ=g.aJ)(h5:g2.time=g.time):CE E G h Z n bD bS H G' L Y g2 cs xs :=
 ⟨c.p,by rw[h2,h3,h4,h5];exact c.V,c.hL,by rw[h1];exact c.hP,c.bx,c.lo⟩
theorem CE.at(i:Nat){b:Nat}{o:bz}(hi:xs[i]? = some (b,o)):B1 E H b o:=by have g:=c.bx.get b o (List.mem_of_getElem? hi);exact⟨g,c.V.so.wf.nlt g,c.V.so.wf.ne g,c.V.so.wf.ne' g⟩
theorem CE.b0:B0 E H:=⟨c.V.so.wf.b0,c.V.so.wf.b1,c.V.so.wf.b2,c.V.so.wf.b3⟩
theorem CE.lt(i:Nat){b:Nat}{o:bz}(hi:xs[i]? = some (b,o)):b<H.next:=(c.V.so.wf.live _ _ (c.bx.get b o (List.mem_of_getElem? hi))).2
theorem CE.d2(i j:Nat){a b:Nat}{o p:bz}(hi:xs[i]? = some (a,o))(hj:xs[j]? = some (b,p))(hij:i≠j):D2 a b:=by
 have key:a≠b:=λe=>by
  subst e;have h1:(xs.map Prod.fst)[i]? = some a:=by rw[List.getElem?_map,hi];rfl
  have h2:(xs.map Prod.fst)[j]? = some a:=by rw[List.getElem?_map,hj];rfl
  obtain⟨l1,e1⟩:=List.getElem?_eq_some_iff.1 h1;obtain⟨l2,e2⟩:=List.getElem?_eq_some_iff.1 h2;have hp:=List.pairwise_iff_getElem.1 c.bx.nd;rcases Nat.lt_trichotomy i j with h3|h3|h3
  ·exact hp i j l1 l2 h3 (e1.trans e2.symm)
  ·exact hij h3
  ·exact hp j i l2 l1 h3 (e2.trans e1.symm)
 exact⟨eq_false key,eq_false λe=>key e.symm⟩
theorem CE.dB(i:Nat){b:Nat}{o:bz}(hi:xs[i]? = some (b,o)):D2 b bD:=by have h1:b≠bD:=λe=>(c.bx.out b o (List.mem_of_getElem? hi)).1 (.inr (.inl e));exact⟨eq_false h1,eq_false λe=>h1 e.symm⟩
theorem CE.gen{motive:ag->Prop}(K:∀H,CE E G h Z n bD bS H G' L Y g cs xs->motive H):motive H:=K H c
theorem CE.node{i:Nat}(hi:i<n){vL vD vN vS t:Value}(e:cs=[vL,vD,vN,vS,t]):∃bL cap a,vL=.slice (some ⟨bL,0,none⟩) n cap/\cg E H ⟨bL,i*20,none⟩ 20=some (ptr a.r::ptr a.t::a.cs)/\L[i]? = some a/\QR E G' H a.X (g.P i) [] a.r a.t/\PRR E G' (g.P i) a.cs:=by obtain⟨vL',vN',e1,gs⟩:=c.V.e;rw[e]at e1;injection e1 with e1 _;subst e1;obtain⟨a,ha⟩:∃a,L[i]? = some a:=⟨_,List.getElem?_eq_getElem (by rw[c.hL];exact hi)⟩;obtain⟨bL,cap,e2,e3⟩:=gs.node ha;have haL:=List.mem_of_getElem? ha;have q:=gs.rs.qr a haL;have p:=gs.rs.pr a haL;rw[c.hP i a ha]at q p;exact⟨bL,cap,a,by rw[e2,c.hL],e3,ha,q,p⟩
theorem CE.wait{vL vD vN vS t:Value}(e:cs=[vL,vD,vN,vS,t]):∃co,hU H 66 17 g.net.length co vN/\bu E G' g.net co:=by obtain⟨vL',vN',e1,gs⟩:=c.V.e;rw[e]at e1;injection e1 with e1 e2;injection e2 with e2 e3;injection e3 with e3 e4;subst e3;exact gs.on
theorem CE.time{tv:Nat}{vL vD vN vS t:Value}(e:cs=[vL,vD,vN,vS,t]):CE E G h Z n bD bS H G' L Y {g with time:=tv} [vL,vD,vN,vS,iv tv] xs:=by obtain⟨vL',vN',e1,gs⟩:=c.V.e;rw[e]at e1;injection e1 with e1 e2;injection e2 with e2 e3;injection e3 with e3 e4;injection e4 with e4 e5;subst e1;subst e2;subst e3;subst e4;exact⟨c.p,⟨⟨_,_,rfl,gs⟩,c.V.gD,c.V.gS,c.V.nD,c.V.nS,c.V.yD,c.V.yS,c.V.ne⟩,c.hL,c.hP,c.bx,c.lo⟩
theorem CE.down(hW:WF E h)(d:List Bool)(hd:d.length=g.down.length):CE E G h Z n bD bS (H.put bD (.cells (cF d) 4 true)) G' L Y {g with down:=d} cs xs:=by
 have hDX:gX L Y bD bS bD:=.inr (.inl rfl);have px:=PX.put c.V.so hDX c.V.gD (o:=.cells (cF d) 4 true);obtain⟨vL,vN,e1,gs⟩:=c.V.e;have V2:GV E G' (H.put bD (.cells (cF d) 4 true)) L Y g.net d g.aJ bD bS cs g.time:=by refine⟨⟨vL,vN,?_,gs.put c.V.gD c.V.yD c.V.nD⟩,ND,by rw[ai,if_neg c.V.ne];exact c.V.gS,c.V.nD,c.V.nS,c.V.yD,c.V.yS,c.V.ne⟩;rw[e1,hd]
 exact c.move hW px V2 c.hL c.hP
theorem CE.aJ(hW:WF E h)(d:List Nat)(hd:d.length=g.aJ.length):CE E G h Z n bD bS (H.put bS (.cells (bT d) 3 true)) G' L Y {g with aJ:=d} cs xs:=by
 have hSX:gX L Y bD bS bS:=.inr (.inr rfl);have px:=PX.put c.V.so hSX c.V.gS (o:=.cells (bT d) 3 true);obtain⟨vL,vN,e1,gs⟩:=c.V.e;have V2:GV E G' (H.put bS (.cells (bT d) 3 true)) L Y g.net g.down d bD bS cs g.time:=by refine⟨⟨vL,vN,?_,gs.put c.V.gS c.V.yS c.V.nS⟩,by rw[ai,if_neg (λe=>c.V.ne e.symm)];exact c.V.gD,ND,c.V.nD,c.V.nS,c.V.yD,c.V.yS,c.V.ne⟩;rw[e1,hd]
 exact c.move hW px V2 c.hL c.hP
theorem CE.net(hW:WF E h){net':List Mg}{vL vD vN vS t vN':Value}{co:List Value}{H2:ag}(e:cs=[vL,vD,vN,vS,t])(k:KW E H H2)(o:Own H2 66 17 H.next net'.length co vN')(r:bu E G' net' co) :
 CE E G h Z n bD bS H2 G' L (λx=>Y x\/x∈slB vN') {g with net:=net'} [vL,vD,vN',vS,t] xs:=by
 obtain⟨vL',vN'',e1,gs⟩:=c.V.e;rw[e]at e1;injection e1 with e1 e2;injection e2 with e2 e3;injection e3 with e3 e4;injection e4 with e4 e5;injection e5 with e5 _;subst e1;subst e2;subst e3;subst e4;subst e5;obtain⟨gs',px⟩:=gs.Ld k o r;obtain⟨V',px'⟩:=c.V.move px gs';exact c.move hW px' V' c.hL c.hP
end
section
variable{E:Env}{G G':Mem}{h H:ag}{Z:Nat->Prop}{n bD bS:Nat}{L:List Rr}{Y:Nat->Prop}{g:GP}{cs:List Value}{a b d z:Nat}{o p q w:bz}
theorem CE.f1(c:CE E G h Z n bD bS H G' L Y g cs [(a,o)]):B0 E H/\B1 E H a o:=⟨c.b0,c.at 0 rfl⟩
theorem CE.f2(c:CE E G h Z n bD bS H G' L Y g cs [(a,o),(b,p)]):B0 E H/\B1 E H a o/\B1 E H b p/\D2 a b:=⟨c.b0,c.at 0 rfl,c.at 1 rfl,c.d2 0 1 rfl rfl Nz⟩
theorem CE.f3(c:CE E G h Z n bD bS H G' L Y g cs [(a,o),(b,p),(d,q)]):B0 E H/\B1 E H a o/\B1 E H b p/\B1 E H d q/\D2 a b/\D2 a d/\D2 b d :=
 ⟨c.b0,c.at 0 rfl,c.at 1 rfl,c.at 2 rfl,c.d2 0 1 rfl rfl Nz,c.d2 0 2 rfl rfl Nz,c.d2 1 2 rfl rfl Nz⟩
theorem CE.f4(c:CE E G h Z n bD bS H G' L Y g cs [(a,o),(b,p),(d,q),(z,w)]):B0 E H/\B1 E H a o/\B1 E H b p/\B1 E H d q/\B1 E H z w/\D2 a b/\D2 a d/\D2 b d/\D2 a z/\D2 b z/\D2 d z :=
 ⟨c.b0,c.at 0 rfl,c.at 1 rfl,c.at 2 rfl,c.at 3 rfl,c.d2 0 1 rfl rfl Nz,c.d2 0 2 rfl rfl Nz,c.d2 1 2 rfl rfl Nz,c.d2 0 3 rfl rfl Nz,c.d2 1 3 rfl rfl Nz,c.d2 2 3 rfl rfl Nz⟩
end
structure nJ(E:Env)(G:Mem)(h:ag)(Z:Nat->Prop)(n bD bS:Nat)(g:GP)(i dk nk:Nat)(m:Mg)(r:PR×List Mg):Prop where
 go:∀{H:ag} {G':Mem} {L:List Rr} {Y:Nat->Prop} {cs:List Value} {xs:List (Nat×bz)} {ms:List Value},CE E G h Z n bD bS H G' L Y g cs xs->MgR E G' m ms ->
  af E 19 [.agg cs.toArray,iv i,.agg (iv dk::iv nk::ms).toArray] H λv h'=>∃G2 L2 Y2 cs2,CE E G h Z n bD bS h' G2 L2 Y2 (g.act i r) cs2 xs/\v=.tuple #[.agg cs2.toArray,.bool true]
variable{E:Env}(hE:EOk E)
include hE
section
variable{G G':Mem}{h H:ag}{Z:Nat->Prop}{n bD bS:Nat}{L:List Rr}{Y:Nat->Prop}{g:GP}{cs:List Value}{xs:List (Nat×bz)}(c:CE E G h Z n bD bS H G' L Y g cs xs)(hW:WF E h)
include c hW
theorem uC{i:Nat}(hi:i<n){m:Mg}{ms:List Value}{dk nk:Nat}(hdk:dk=0\/dk=10\/dk=11\/dk=12\/dk=13)(hnk:nk<65536)(hm:MgR E G' m ms){r:PR×List Mg}(hol:r.2.length<=1000000)
 (hA:∀{G1:Mem} {H:ag} {X:Nat->Prop} {pr pt:Nat} {pc:List Value},SO E G1 H X->QR E G1 H X (g.P i) [] pr pt->PRR E G1 (g.P i) pc->MgR E G1 m ms->af E 27 [.agg (ptr pr::ptr pt::pc).toArray,.agg (iv dk::iv nk::ms).toArray] H λv h'=>∃G' X' rc' r' t',PX E G1 H X G' h' X'/\QR E G' h' X' r.1 [] r' t'/\PRR E G' r.1 rc'/\v=.tuple #[.agg (ptr r'::ptr t'::rc').toArray,.bool true])
 (hB:∀{G1:Mem} {H:ag} {pc:List Value},WF E H->Frz E G1 H->PRR E G1 (g.P i) pc->MgR E G1 m ms->xg E G1 H (g.P i) pc ms dk nk r.2) :
 af E 19 [.agg cs.toArray,iv i,.agg (iv dk::iv nk::ms).toArray] H λv h'=>∃G2 L2 Y2 cs2,CE E G h Z n bD bS h' G2 L2 Y2 (g.act i r) cs2 xs/\v=.tuple #[.agg cs2.toArray,.bool true]:=by
 obtain⟨ar,har⟩:∃ar,L[i]? = some ar:=⟨_,List.getElem?_eq_getElem (by rw[c.hL];exact hi)⟩;have haP:=c.hP _ _ har
 have hact:=KF hE c.V har hdk hnk hm (P':=r.1) (out:=r.2) hol
  (λs q hp hm1=>by rw[haP]at q hp;exact hA s q hp hm1)
  (λw f hp hm1=>by rw[haP]at hp|-;exact hB w f hp hm1)
 refine hact.mono ?_;rintro v h' ⟨G2,b,Y2,cs2,px,V2,hb,rfl⟩;refine⟨G2,L.set i b,Y2,cs2,c.move hW px V2 (by rw[List.length_set];exact c.hL) λj a hj=>?_,rfl⟩;show a.P=upd g.P i r.1 j;rcases jF har hj with⟨h1,h2⟩|⟨h1,h2⟩
 ·subst h1;subst h2;rw[hb,cG]
 ·rw[dg h1];exact c.hP j a h2
end
end Go.Proofs.YthbjaiilnkakcaaGreatDoor
