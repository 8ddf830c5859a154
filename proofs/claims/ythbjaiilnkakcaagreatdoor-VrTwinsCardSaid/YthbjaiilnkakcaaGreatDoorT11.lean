/- Part 11. -/
import Derived.Test.YthbjaiilnkakcaaGreatDoorT10
set_option linter.all false
set_option maxRecDepth 10000
set_option maxHeartbeats 8000000
namespace Go.Tm
open Vr
def eR:Nat->Prop:=λ_=>False
theorem SO.eR{E:Env}{G:Mem}{h:ag}(w:WF E h)(f:Frz E G h):SO E G h eR:=⟨w,f,λ_ _ _ x=>x,λ_ x=>x.elim⟩
theorem PX.any{E:Env}{G G':Mem}{h h':ag}{X X':Nat->Prop}(p:PX E G h eR G' h' X')(s:SO E G h X):PX E G h X G' h' (λb=>X b\/X' b):=by
 refine⟨p.sub,p.new,⟨λb o hn hb=>p.kx.get b o (λx=>x) hb,p.kx.next⟩,λb hb=>?_,p.so.wf,p.so.frz,λb c hb hx=>?_,λb hb=>?_⟩
 ·rcases hb with hb|hb
  ·exact .inl hb
  ·rcases p.xs b hb with h1|h1
   ·exact h1.elim
   ·exact .inr h1
 ·rcases hx with hx|hx
  ·rcases p.new b c hb with h1|h1
   ·exact s.dis b c h1 hx
   ·have:=s.lt b hx;omega
  ·exact p.so.dis b c hb hx
 ·rcases hb with hb|hb
  ·exact Nat.lt_of_lt_of_le (s.lt b hb) p.kx.next
  ·exact p.so.lt b hb
def Bx(L:List Rr)(Y:Nat->Prop)(G:Mem)(l:List Nat):Prop:=∀b,b∈l->¬un L Y b/\G b=none
theorem Gz:un [] eR=eR:=by funext b;simp[un,eR]
theorem GS.nil{E:Env}{G:Mem}{h:ag}(w:WF E h)(f:Frz E G h):GS E G h [] eR [] (.slice none 0 0) (.slice none 0 0) :=
 ⟨⟨w,f,λa ha=>by simp at ha,λa ha=>by simp at ha,λa ha=>by simp at ha,λi j a b ha=>by simp at ha⟩,SO.eR w f,λa ha=>by simp at ha,Own.nil _ _ _ _,λb hb=>by simp[slB]at hb,⟨[],hU.nil _ _ _,rfl⟩,λb hb=>by simp[slB]at hb⟩
section
variable{E:Env}{G G1:Mem}{h h1 h2 h3:ag}{L:List Rr}{Y:Nat->Prop}{vL:Value}
theorem GS.snoc(g:GS E G h L Y [] vL (.slice none 0 0)){b:Rr}(p:PX E G h eR G1 h1 b.X)(q:QR E G1 h1 b.X b.P [] b.r b.t)(hp:PRR E G1 b.P b.cs)(k:KW E h1 h2){vL':Value}(a:Apd E h2 h3 51 20 0 (L.length+1) (L.flatMap Rr.c++b.c) vL vL') :
 GS E G1 h3 (L++[b]) (λx=>Y x\/x∈slB vL') [] vL' (.slice none 0 0)/\PX E G h (un L Y) G1 h3 (un (L++[b]) (λx=>Y x\/x∈slB vL')):=by
 have g1:GS E G1 h1 L Y [] vL (.slice none 0 0):=g.other p λx hx hf=>hf;have rs1:=g.rs.snoc p q hp;have x2:=k.ext p.so.frz;have rs2:=rs1.ext x2;have g2:=g1.ext x2
 have hbl:∀x,b.X x->h.next<=x:=λx hx=>by
  rcases p.xs x hx with h4|h4
  ·exact h4.elim
  ·exact h4
 have pY:=PX.app g2.sy a g2.yl;have hdj:∀c,c∈L++[b]->∀x,c.X x->¬Y x:=by
  intro c hc x hx hy;rcases List.mem_append.1 hc with hc|hc
  ·exact g.dj c hc x hx hy
  ·simp at hc;subst hc;have:=g.sy.lt x hy;have:=hbl x hx;omega
 have hdj':∀c,c∈L++[b]->∀x,c.X x->¬(Y x\/x∈slB vL'):=by
  rintro c hc x hx (h4|h4)
  ·exact hdj c hc x hx h4
  ·rcases a.blk x h4 with h5|h5
   ·exact hdj c hc x hx (g2.yl x h5)
   ·have:=(rs2.so c hc).lt x hx;omega
 have gs:GS E G1 h3 (L++[b]) (λx=>Y x\/x∈slB vL') [] vL' (.slice none 0 0):=by refine⟨rs2.other pY hdj,pY.so,hdj',?_,λx hx=>.inr hx,⟨[],hU.nil _ _ _,rfl⟩,λx hx=>by simp[slB]at hx⟩;have:=a.own;rw[List.length_append,List.flatMap_append];simpa using this
 refine⟨gs,g1.so.frz |> λ_=>?_⟩;have p01:PX E G h (un L Y) G1 h1 (λx=>un L Y x\/b.X x):=p.any g.so;have p12:PX E G1 h1 (λx=>un L Y x\/b.X x) G1 h2 (λx=>un L Y x\/b.X x):=PX.kw p01.so k;have p02:=p01.trans g.rs.wf p12;have p23:PX E G1 h2 (λx=>un L Y x\/b.X x) G1 h3 (un (L++[b]) (λx=>Y x\/x∈slB vL')):=by
  refine pY.wide (λx hx=>.inl (.inl hx)) gs.so λx hx=>?_;rcases hx with(hx|hx)|⟨c,hc,hx⟩
  ·exact .inl (.inl (.inl hx))
  ·rcases a.blk x hx with h5|h5
   ·exact .inl (.inl (.inl (g2.yl x h5)))
   ·exact .inr h5
  ·rcases List.mem_append.1 hc with hc|hc
   ·exact .inl (.inl (.inr ⟨c,hc,hx⟩))
   ·simp at hc;subst hc;exact .inl (.inr hx)
 exact p02.trans g.rs.wf p23
end
end Go.Tm
namespace Go.Proofs.YthbjaiilnkakcaaGreatDoor
open Go.Tm Vr
variable{E:Env}(hE:EOk E)
include hE
structure GV(E:Env)(G:Mem)(h:ag)(L:List Rr)(Y:Nat->Prop)(net:List Mg)(down:List Bool)(aJ:List Nat)(bD bS:Nat)(cs:List Value)(tv:Nat):Prop where
 e:∃vL vN,cs=[vL,.slice (some ⟨bD,0,none⟩) down.length down.length,vN,.slice (some ⟨bS,0,none⟩) aJ.length aJ.length,iv tv]/\GS E G h L Y net vL vN
 gD:h.get bD=some (.cells (cF down) 4 true)
 gS:h.get bS=some (.cells (bT aJ) 3 true)
 nD:¬un L Y bD
 nS:¬un L Y bS
 yD:G bD=none
 yS:G bS=none
 ne:bD≠bS
section
variable{G:Mem}{h:ag}(hW:WF E h)(hG:Frz E G h)
include hW hG
theorem pL{f n:Nat}(hn:n=3\/n=5\/n=7)(hf:n=2*f+1):af E 7 [iv f] h λv h'=>∃G' L Y bD bS cs,PX E G h eR G' h' (λx=>un L Y x\/x=bD\/x=bS)/\GV E G' h' L Y [] (List.replicate n false) (List.replicate 9 0) bD bS cs 0/\L.length=n/\(∀i a,L[i]? = some a->a.P=PR.new i n)/\v=.tuple #[.agg cs.toArray,.bool true]:=by
 have e1:IntKind.i64.wrap (IntKind.i64.wrap (2*(f:Int))+1)=(n:Int):=by have e0:IntKind.i64.wrap (2*(f:Int))=2*(f:Int):=cx Nr Nr;rw[e0,cx Nr Nr];omega
 refine en hE Tryz.func7 rfl rfl Tryz.ntmps7 rfl Nv (rs:=[.cell 2 29,.tmp 3]) rfl ?_;simp only[push_cast,seval,hE.z,e1];refine gtA [2,4] λt1 hf=>?_;simp only[push_cast,seval,gz]at hf;obtain⟨f2,f4⟩:=hf;refine cR (motive:=λH=>aF E _ _ _ H) (λH=>KW E h H/\H.get h.next=some (.cells zCG 29 true)) ⟨(KW.refl hW).push,NI⟩ ?_;rintro H ⟨kH,gZ⟩;have lZ:=(kH.w.live _ _ gZ).2;have v1:=kH.w.b1;refine dE [] [1,2,4,5] [(1,[0]),(2,[]),(4,[])] [(0,(12,[0])),(1,(13,[1,0])),(2,(14,[2])),(3,(15,[3,0,1,2])),(4,(5,[4]))] [0,1,2,3,4,5] Nt Nt Nt Nt Nt Nv rfl ?_;simp only[push_cast,seval,hE.z,f4];rw[Bt Nr Nr Nr Nr,aR];simp only[push_cast,seval,hE.z];rw[xh Nr Nr Nr Nr,aR];simp only[push_cast,seval,hE.z];refine⟨⟨?_,?_,?_,?_,?_⟩,?_⟩
 ·simp
 ·simp only[push_cast,seval,jo]
  try simp
 ·simp only[push_cast,seval,jx,Op.operands,Go.Tm.sc,scA,scL];simp;omega
 ·simp only[push_cast,seval,hE.z,aOk,wz];have zb:∀q:Nat->Bool,jH q (.cells (bR n [.bool false]) 4 true)=true:=λq=>tx rfl;exact⟨⟨_,Bt Nr Nr Nr Nr,zb _⟩,⟨_,xh Nr Nr Nr Nr,CB⟩,rfl⟩
 ·simp only[push_cast,seval,dOk];refine⟨rfl,eW (K:=1) Nz (Nat.le_refl _) (Nat.lt_succ_self _),eW (K:=2) Nz (Nat.le_refl _) (Nat.lt_succ_self _),?_,dA (k:=4) Nz (Nat.le_refl _) (Nat.lt_succ_self _)⟩;simp only[scQ,iK,j5,Bool.and_true,Bool.true_and,Bool.and_eq_true];exact⟨dA (k:=1) Nz (Nat.le_refl _) (Nat.lt_succ_self _),dA (k:=2) Nz (Nat.le_refl _) (Nat.lt_succ_self _)⟩
 ·have e9:bR 9 [Value.int .i64 0]=bT (List.replicate 9 0):=gx 9;have k4:=(((kH.push (o:=.cells (bR n [.bool false]) 4 true)).push (o:=.cells (bR 9 [.int .i64 0]) 3 true)).push (o:=.cells zCG 29 true)).put (o:=.cells [.slice none 0 0,.slice (some ⟨H.next,0,none⟩) n n,.slice none 0 0,.slice (some ⟨H.next+1,0,none⟩) 9 9,.int .i64 0] 29 true) (b:=H.next+1+1) (by have:=kH.k.next;omega) Nw hW;have hnn:=kH.k.next;refine gtm (motive:=wpc E _ _) [2,4,5,6] λt2 hf=>?_;simp only[push_cast,seval,gz,f2,f4]at hf;obtain⟨p2,p4,p5,p6⟩:=hf
  refine cR (motive:=λH=>wpc E _ _ _ H) (λH4=>KW E h H4/\H4.get h.next=some (.cells zCG 29 true)/\H4.get H.next=some (.cells (cF (List.replicate n false)) 4 true)/\H4.get (H.next+1)=some (.cells (bT (List.replicate 9 0)) 3 true)/\H4.get (H.next+1+1)=some (.cells [.slice none 0 0,.slice (some ⟨H.next,0,none⟩) n n,.slice none 0 0,.slice (some ⟨H.next+1,0,none⟩) 9 9,.int .i64 0] 29 true))
   ⟨k4,by rw[ai,if_neg (by omega),ah,if_neg (by simp;omega),ah,if_neg (by simp;omega),ah,if_neg (by omega)];exact gZ,by rw[ai,if_neg (by omega),ah,if_neg (by simp;omega),ah,if_neg (by simp),ah,if_pos rfl,iD],by rw[ai,if_neg (by omega),ah,if_neg (by simp),ah,if_pos (by simp),e9],ND⟩ ?_
  clear k4;rintro H4 ⟨k4,gZ4,gD4,gS4,gB4⟩;have s0:SO E G h eR:=SO.eR hW hG;have yy:∀b,h.next<=b->G b=none:=λb hb=>s0.eH hb
  refine bG (λk tm H5=>∃i G' L Y vL,k=n-i/\i<=n/\aj tm 2=ptr h.next/\aj tm 4=iv n/\aj tm 5=ptr (H.next+1+1)/\aj tm 6=iv i/\PX E G h eR G' H5 (un L Y)/\GS E G' H5 L Y [] vL (.slice none 0 0)/\L.length=i/\(∀j a,L[j]? = some a->a.P=PR.new j n) /\
   H5.get h.next=some (.cells zCG 29 true)/\H5.get H.next=some (.cells (cF (List.replicate n false)) 4 true)/\H5.get (H.next+1)=some (.cells (bT (List.replicate 9 0)) 3 true)/\H5.get (H.next+1+1)=some (.cells [vL,.slice (some ⟨H.next,0,none⟩) n n,.slice none 0 0,.slice (some ⟨H.next+1,0,none⟩) 9 9,.int .i64 0] 29 true) /\
   Bx L Y G' [h.next,H.next,H.next+1,H.next+1+1]) n ?_ ?_
  ·simp only[push_cast,seval,p2,p4,p5,p6];refine⟨0,G,[],eR,.slice none 0 0,Nr,Nr,rfl,?_⟩;rw[Gz];exact⟨PX.kw s0 k4,GS.nil k4.w (hG.aK k4.k),rfl,λj a h1=>(by simp at h1),gZ4,gD4,gS4,gB4,λb hb=>⟨by rw[Gz];exact λx=>x,yy b (by simp at hb;omega)⟩⟩
  ·rintro k tm H5 ⟨i,G',L,Y,vL,rfl,hi,p2,p4,p5,p6,px,gs,hL,hP,gZ5,gD5,gS5,gB5,hbx⟩;by_cases hlt:i<n
   ·have hd:decide ((i:Int)<(n:Int))=true:=Nu;simp only[push_cast,seval,hE.z,p4,p6,hd];have nZ5:=gs.rs.wf.nlt gZ5;have nB5:=gs.rs.wf.nlt gB5;refine(Ac hE (SO.eR gs.rs.wf gs.rs.frz) (me:=i) hn hlt).mono ?_;rintro v1 H6 ⟨G1,X1,r,t,rc,p1,q1,hrc,rfl⟩;have kx1:∀b o,H5.get b=some o->H6.get b=some o:=λb o hb=>p1.kx.get b o (λx=>x) hb;have gZ6:=kx1 _ _ gZ5;have gB6:=kx1 _ _ gB5;obtain⟨a1,c1,a2,c2,a3,c3,a4,c4,a5,c5,a6,c6,a7,c7,ct,cc,ca,hrc1,_⟩:=hrc.e;have u0:=p1.so.wf.b0;have u2:=p1.so.wf.ne gB6;rw[hrc1];simp only[push_cast,seval,hE.z,p5,u0,u2,gB6,nB5];rw[MY rfl,aR];simp only[push_cast,seval];have k1:=(KW.refl p1.so.wf).push (o:=.cells [ptr r,ptr t,iv (PR.new i n).me,iv (PR.new i n).n,iv (PR.new i n).vw,iv (PR.new i n).st,iv (PR.new i n).nm,iv (PR.new i n).bs,iv (PR.new i n).cm,iv (PR.new i n).nc,.slice a1 (PR.new i n).log.length c1,.bool false,.slice a2 (PR.new i n).sv.l.length c2,.slice none 0 0,.slice a3 (PR.new i n).sv.tab.length c3,.slice a4 (PR.new i n).told.length c4,.slice a5 (PR.new i n).aG.length c5,.bool (PR.new i n).aJ,.slice a6 (PR.new i n).aH.length c6,.slice a7 (PR.new i n).ans.length c7] 51 true);refine eZ (MU hE.P) k1.w (lo:=0) (Nat.zero_le _) (gs.ol.at λb o hb hg=>k1.k.get _ _ (kx1 _ _ hg)) rfl rfl Nr Nr ?_;intro v' H7 a _;rw[hrc1]at hrc;obtain⟨gs7,px7⟩:=gs.snoc (b:=⟨PR.new i n,r,t,[iv (PR.new i n).me,iv (PR.new i n).n,iv (PR.new i n).vw,iv (PR.new i n).st,iv (PR.new i n).nm,iv (PR.new i n).bs,iv (PR.new i n).cm,iv (PR.new i n).nc,.slice a1 (PR.new i n).log.length c1,.bool false,.slice a2 (PR.new i n).sv.l.length c2,.slice none 0 0,.slice a3 (PR.new i n).sv.tab.length c3,.slice a4 (PR.new i n).told.length c4,.slice a5 (PR.new i n).aG.length c5,.bool (PR.new i n).aJ,.slice a6 (PR.new i n).aH.length c6,.slice a7 (PR.new i n).ans.length c7],X1⟩) p1 q1 hrc k1 a;have hlz:=(gs.rs.wf.live _ _ gZ5).2;have hld:=(gs.rs.wf.live _ _ gD5).2;have hls:=(gs.rs.wf.live _ _ gS5).2;have hlb:=(gs.rs.wf.live _ _ gB5).2;have hb7:Bx (L++[⟨PR.new i n,r,t,[iv (PR.new i n).me,iv (PR.new i n).n,iv (PR.new i n).vw,iv (PR.new i n).st,iv (PR.new i n).nm,iv (PR.new i n).bs,iv (PR.new i n).cm,iv (PR.new i n).nc,.slice a1 (PR.new i n).log.length c1,.bool false,.slice a2 (PR.new i n).sv.l.length c2,.slice none 0 0,.slice a3 (PR.new i n).sv.tab.length c3,.slice a4 (PR.new i n).told.length c4,.slice a5 (PR.new i n).aG.length c5,.bool (PR.new i n).aJ,.slice a6 (PR.new i n).aH.length c6,.slice a7 (PR.new i n).ans.length c7],X1⟩]) (λx=>Y x\/x∈slB v') G1 [h.next,H.next,H.next+1,H.next+1+1]:=by
     intro b hb;obtain⟨h8,h9⟩:=hbx b hb;have hlt5:b<H5.next:=by simp only[List.mem_cons,List.not_mem_nil,or_false]at hb;rcases hb with rfl|rfl|rfl|rfl<;>assumption
     refine⟨λhx=>?_,px7.nn hlt5 h9⟩;rcases px7.xs b hx with h10|h10
     ·exact h8 h10
     ·omega
    have gg7:∀b o,b∈[h.next,H.next,H.next+1,H.next+1+1]->H5.get b=some o->H7.get b=some o:=λb o hb hg=>px7.kx.get b o (hbx b hb).1 hg;have gZ7:=gg7 _ _ Nw gZ5;have gD7:=gg7 _ _ Nw gD5;have gS7:=gg7 _ _ Nw gS5;have gB7:=gg7 _ _ Nw gB5;obtain⟨av,cv,rfl⟩:=a.sl;simp only[push_cast,seval,hE.z,p2,p4,p5,p6,gB7];have hB:=hb7 (H.next+1+1) Nw;refine⟨n-(i+1),Nr,i+1,G1,_,_,.slice av (L.length+1) cv,rfl,Nr,bk Nr,PX.fresh hW (px.trans hW px7) Nr hB.2 gB7,gs7.put gB7 hB.2 hB.1,by simp[hL],?_,?_,?_,?_,?_,hb7⟩
    ·intro j a hj;by_cases hjl:j<L.length
     ·rw[List.getElem?_append_left hjl]at hj;exact hP j a hj
     ·rw[List.getElem?_append_right Nr]at hj;have:j=i:=by
       by_cases h0:j-L.length=0
       ·omega
       ·rw[List.getElem?_eq_none Nu]at hj;cases hj
      subst this;rw[hL,Nat.sub_self]at hj;simp at hj;rw[<-hj]
    ·rw[if_neg Nr];exact gZ7
    ·exact gD7
    ·exact gS7
    ·rfl
   ·have hd:decide ((i:Int)<(n:Int))=false:=Nu;have nZ5:=gs.rs.wf.nlt gZ5;have nB5:=gs.rs.wf.nlt gB5;obtain⟨aL,cL,hvL,_⟩:=gs.ol.fh;subst hvL;simp only[push_cast,seval,hE.z,p2,p4,p5,p6,hd,gB5,nB5,gZ5,nZ5];have hZ:=hbx h.next Nw;have hD:=hbx H.next Nw;have hS:=hbx (H.next+1) Nw;have gs':=gs.put (o:=.cells [.slice aL L.length cL,.slice (some ⟨H.next,0,none⟩) n n,.slice none 0 0,.slice (some ⟨H.next+1,0,none⟩) 9 9,.int .i64 0] 29 true) gZ5 hZ.2 hZ.1;have px':=PX.fresh (o:=.cells [.slice aL L.length cL,.slice (some ⟨H.next,0,none⟩) n n,.slice none 0 0,.slice (some ⟨H.next+1,0,none⟩) 9 9,.int .i64 0] 29 true) hW px (Nat.le_refl _) hZ.2 gZ5;have lD:=(gs.rs.wf.live _ _ gD5).2;have lS:=(gs.rs.wf.live _ _ gS5).2;have so':SO E G' (H5.put h.next (.cells [.slice aL L.length cL,.slice (some ⟨H.next,0,none⟩) n n,.slice none 0 0,.slice (some ⟨H.next+1,0,none⟩) 9 9,.int .i64 0] 29 true)) (λx=>un L Y x\/x=H.next\/x=H.next+1):=by
     refine⟨px'.so.wf,px'.so.frz,λb c hb hx=>?_,λb hx=>?_⟩
     ·rcases hx with hx|rfl|rfl
      ·exact px'.so.dis b c hb hx
      ·rw[hD.2]at hb;cases hb
      ·rw[hS.2]at hb;cases hb
     ·rcases hx with hx|rfl|rfl
      ·exact px'.so.lt b hx
      ·simpa using lD
      ·simpa using lS
    refine⟨G',L,Y,H.next,H.next+1,[.slice aL L.length cL,.slice (some ⟨H.next,0,none⟩) n n,.slice none 0 0,.slice (some ⟨H.next+1,0,none⟩) 9 9,.int .i64 0],px'.wide (λ_ x=>x) so' λb hx=>?_,⟨⟨_,_,by rw[List.length_replicate];rfl,gs'⟩,?_,?_,hD.1,hS.1,hD.2,hS.2,Nr⟩,Nr,hP,rfl⟩
    ·rcases hx with hx|rfl|rfl
     ·exact px'.xs b hx
     ·right;omega
     ·right;omega
    ·rw[ai,if_neg Nr];exact gD5
    ·rw[ai,if_neg Nr];exact gS5
end
end Go.Proofs.YthbjaiilnkakcaaGreatDoor
namespace Go.Tm
structure BX(G:Mem)(H:ag)(Z:Nat->Prop)(xs:List (Nat×bz)):Prop where
 get:∀b o,(b,o)∈xs->H.get b=some o
 out:∀b o,(b,o)∈xs->¬Z b/\G b=none
 nd:(xs.map Prod.fst).Nodup
section
variable{E:Env}{G G':Mem}{H H':ag}{Z Z':Nat->Prop}{xs:List (Nat×bz)}
theorem BX.at(B:BX G H Z xs)(i:Nat){b:Nat}{o:bz}(h:xs[i]? = some (b,o)):H.get b=some o/\¬Z b/\G b=none :=
 ⟨B.get b o (List.mem_of_getElem? h),B.out b o (List.mem_of_getElem? h)⟩
theorem BX.nil:BX G H Z []:=⟨λb o h=>N7,λb o h=>N7,Nw⟩
theorem BX.kw(hW:WF E H)(B:BX G H Z xs)(k:KW E H H'):BX G H' Z xs:=⟨λb o h=>k.k.get _ _ (B.get b o h),B.out,B.nd⟩
theorem BX.new(hW:WF E H)(B:BX G H Z xs)(hZ:¬Z H.next)(hG:G H.next=none){o:bz}:BX G (H.push o) Z ((H.next,o)::xs):=by
 refine⟨λb p h=>?_,λb p h=>?_,?_⟩
 ·rcases List.mem_cons.1 h with h|h
  ·injection h with h1 h2;subst h1;subst h2;rw[ah,if_pos rfl]
  ·have hg:=B.get b p h;rw[ah,if_neg (by have:=(hW.live _ _ hg).2;omega)];exact hg
 ·rcases List.mem_cons.1 h with h|h
  ·injection h with h1 h2;subst h1;exact⟨hZ,hG⟩
  ·exact B.out b p h
 ·rw[List.map_cons,List.nodup_cons];refine⟨λh=>?_,B.nd⟩;obtain⟨⟨b,p⟩,h1,h2⟩:=List.mem_map.1 h;have:=(hW.live _ _ (B.get b p h1)).2;simp only at h2;omega
theorem BX.put(B:BX G H Z xs)(i:Nat){b:Nat}{o o':bz}(h:xs[i]? = some (b,o)):BX G (H.put b o') Z (xs.set i (b,o')):=by
 have hi:i<xs.length:=(List.getElem?_eq_some_iff.1 h).1;have key:∀c p,(c,p)∈xs.set i (b,o')->(c=b/\p=o')\/(c≠b/\(c,p)∈xs):=by
  intro c p hc;obtain⟨j,hj⟩:=List.mem_iff_getElem?.1 hc;rw[List.getElem?_set]at hj;by_cases hij:i=j
  ·subst hij;rw[if_pos rfl,if_pos hi]at hj;injection hj with hj;injection hj with h1 h2;exact .inl ⟨h1.symm,h2.symm⟩
  ·rw[if_neg hij]at hj;refine .inr ⟨λe=>hij ?_,List.mem_of_getElem? hj⟩;subst e;have h1:(xs.map Prod.fst)[i]? = some c:=by rw[List.getElem?_map,h];rfl
   have h2:(xs.map Prod.fst)[j]? = some c:=by rw[List.getElem?_map,hj];rfl
   obtain⟨l1,e1⟩:=List.getElem?_eq_some_iff.1 h1;obtain⟨l2,e2⟩:=List.getElem?_eq_some_iff.1 h2;have hp:=List.pairwise_iff_getElem.1 B.nd;rcases Nat.lt_trichotomy i j with h3|h3|h3
   ·exact absurd (e1.trans e2.symm) (hp i j l1 l2 h3)
   ·exact h3
   ·exact absurd (e2.trans e1.symm) (hp j i l2 l1 h3)
 refine⟨λc p hc=>?_,λc p hc=>?_,?_⟩
 ·rcases key c p hc with⟨h1,h2⟩|⟨h1,h2⟩
  ·subst h1;subst h2;rw[ai,if_pos rfl]
  ·rw[ai,if_neg (λe=>h1 e.symm)];exact B.get c p h2
 ·rcases key c p hc with⟨h1,h2⟩|⟨h1,h2⟩
  ·subst h1;exact B.out c o (List.mem_of_getElem? h)
  ·exact B.out c p h2
 ·have:(xs.set i (b,o')).map Prod.fst=xs.map Prod.fst:=by
   apply List.ext_getElem?;intro j;rw[List.getElem?_map,List.getElem?_map,List.getElem?_set];by_cases hij:i=j
   ·subst hij;rw[if_pos rfl,if_pos hi,h];rfl
   ·rw[if_neg hij]
  rw[this];exact B.nd
end
end Go.Tm
namespace Vr
variable{b j k u v:Nat}{p q:Nat->Bool}{Q:PR}
theorem wK{a:Nat}(ha:a<256)(hb:b<256)(h:a.toUInt8=b.toUInt8):a=b:=by have:=congrArg UInt8.toNat h;simp only[Nat.toUInt8,UInt8.toNat_ofNat']at this;omega
theorem er{n:Nat}(h:n<128):cK n=[n.toUInt8]:=by rw[cK,dif_pos h]
theorem fH{n:Nat}(h:¬n<128):cK n=(n%128+128).toUInt8::cK (n/128):=by rw[cK,dif_neg h]
theorem nO:∀(a b:Nat) (x y:List UInt8),cK a++x=cK b++y->a=b/\x=y:=by
 intro a
 induction a using Nat.strongRecOn with
 | ind a ih =>
   intro b x y h;by_cases ha:a<128
   ·by_cases hb:b<128
    ·rw[er ha,er hb]at h;simp only[List.cons_append,List.nil_append,List.cons.injEq]at h;exact⟨wK Nr Nr h.1,h.2⟩
    ·rw[er ha,fH hb]at h;simp only[List.cons_append,List.nil_append,List.cons.injEq]at h;have:=wK Nr Nr h.1;omega
   ·by_cases hb:b<128
    ·rw[fH ha,er hb]at h;simp only[List.cons_append,List.nil_append,List.cons.injEq]at h;have:=wK Nr Nr h.1;omega
    ·rw[fH ha,fH hb]at h;simp only[List.cons_append,List.cons.injEq]at h;have h1:=wK Nr Nr h.1;obtain⟨h2,h3⟩:=ih (a/128) Nr _ _ _ h.2;exact⟨Nr,h3⟩
theorem FY{s t:ByteArray}(h:s.data.toList=t.data.toList):s=t:=by cases s;cases t;simp only at h;congr 1;exact Array.toList_inj.1 h
theorem DQ{e e':Ent}{x y:List UInt8}(h:fq e++x=fq e'++y):e=e'/\x=y:=by
 unfold fq at h;simp only[List.append_assoc]at h;obtain⟨h1,h⟩:=nO _ _ _ _ h;obtain⟨h2,h⟩:=nO _ _ _ _ h;obtain⟨h3,h⟩:=nO _ _ _ _ h;have hl:e.t.data.toList.length=e'.t.data.toList.length:=by simpa using h3
 obtain⟨h4,h5⟩:=List.append_inj h hl;have:=FY h4;cases e;cases e';simp only at h1 h2 this;subst h1;subst h2;subst this;exact⟨rfl,h5⟩
theorem tB(e:Ent):fq e≠[]:=by unfold fq;rw[cK];split<;>simp
theorem vG:∀(l l':List Ent),l.flatMap fq=l'.flatMap fq->l=l'
 |[],[],_=>rfl
 | [],e::l',h=>by
   simp only[List.flatMap_nil,List.flatMap_cons]at h;have:=List.append_eq_nil_iff.1 h.symm;exact absurd this.1 (tB e)
 | e::l,[],h=>by
   simp only[List.flatMap_nil,List.flatMap_cons]at h;have:=List.append_eq_nil_iff.1 h;exact absurd this.1 (tB e)
 | e::l,e'::l',h=>by
   simp only[List.flatMap_cons]at h;obtain⟨h1,h2⟩:=DQ h;rw[h1,vG l l' h2]
theorem yw{l:List Ent}(h:(bj l).l=l):iT (save (bj l))=bj l:=by have hex:∃l':List Ent,(bj l').l=l'/\save (bj l)=save (bj l'):=⟨l,h,rfl⟩;unfold iT;rw[dif_pos hex];obtain⟨h1,h2⟩:=hex.choose_spec;generalize hex.choose=l' at h1 h2;unfold save at h2;simp only[List.cons.injEq,true_and]at h2;have:=vG _ _ h2;rw[h,h1]at this;rw[this]
theorem fA(l:List Ent)(e:Ent):bj (l++[e])=(bq (bj l) e).1:=by simp[bj]
theorem m4(s:Sv)(e:Ent):(bq s e).1=s\/(bq s e).1.l=s.l++[e]:=by
 unfold bq;split
 ·exact .inr rfl
 ·split
  ·exact .inl rfl
  ·split
   ·exact .inl rfl
   ·exact .inr rfl
theorem jZ{α:Type}{p:List α->Prop}(h0:p [])(h1:∀l a,p l->p (l++[a]))(l:List α):p l:=by
 generalize hn:l.length=n
 induction n generalizing l with
 |zero=>rw[List.eq_nil_of_length_eq_zero hn];exact h0
 | succ n ih =>
   rcases List.eq_nil_or_concat l with rfl|⟨m,a,rfl⟩
   ·simp at hn
   ·rw[List.concat_eq_append]at hn|-;exact h1 m a (ih m (by simpa using hn))
theorem xz(L:List Ent):bj (bj L).l=bj L:=by
 refine jZ (p:=λL=>bj (bj L).l=bj L) rfl (λl e ih=>?_) L;rw[fA];rcases m4 (bj l) e with h|h
 ·rw[h,ih]
 ·rw[h,fA,ih]
theorem BQ(L:List Ent):(bj (bj L).l).l=(bj L).l:=by rw[xz]
theorem pe(L:List Ent):iT (save (bj L))=bj L:=by have:=yw (BQ L);rwa[xz]at this
theorem mf{c:Nat}:∀{l:List La},bt l c=none->∀x,x∈l->x.c≠c
 |[],_,x,hx=>Oa
 | y::l,h,x,hx=>by
   rw[bt]at h;split at h
   ·cases h
   ·rename_i hy;rcases List.mem_cons.1 hx with rfl|hx
    ·exact hy
    ·exact mf h x hx
theorem yE{l:List La}(h:srt l){x y:La}(hx:x∈l)(hy:y∈l)(hc:x.c=y.c):x=y:=by
 induction l with
 |nil=>simp at hx
 | cons z l ih =>
   obtain⟨a1,a2⟩:=List.pairwise_cons.1 h;rcases List.mem_cons.1 hx with h1|h1
   ·rcases List.mem_cons.1 hy with h2|h2
    ·rw[h1,h2]
    ·have:=a1 y h2;rw[h1]at hc;omega
   ·rcases List.mem_cons.1 hy with h2|h2
    ·have:=a1 x h1;rw[h2]at hc;omega
    ·exact ih a2 h1 h2
theorem Cc{s:Sv}{e:Ent}(hs:srt s.tab)(hl:(bq s e).1.l=s.l++[e]):(∀x,x∈s.tab->x.c≠e.c->x∈(bq s e).1.tab)/\∃x,x∈(bq s e).1.tab/\x.c=e.c/\x.n=e.n:=by
 have key:∀(k:Nat) (r:Rpl),(k=0\/(k=1/\∃x,bt s.tab e.c=some x))->(∀x,x∈s.tab->x.c≠e.c->x∈s.tab.take (placeOf e.c s.tab 0 0)++[⟨e.c,e.n,r⟩]++s.tab.drop (placeOf e.c s.tab 0 0+k))/\∃x,x∈s.tab.take (placeOf e.c s.tab 0 0)++[⟨e.c,e.n,r⟩]++s.tab.drop (placeOf e.c s.tab 0 0+k)/\x.c=e.c/\x.n=e.n:=by
  intro k r hk;rw[lU hs,<-List.drop_drop];obtain⟨e1,e2⟩:=qu (c:=e.c) hs;rw[e1,e2];refine⟨λx hx hc=>?_,⟨e.c,e.n,r⟩,Nw,rfl,rfl⟩;by_cases hlt:x.c<e.c
  ·simp[hx,hlt]
  ·have hm:x∈s.tab.filter (λx=>!decide (x.c<e.c)):=List.mem_filter.2 ⟨hx,Nu⟩;rcases hk with hk|⟨hk,y,hy⟩
   ·subst hk;simp only[List.drop_zero,List.mem_append];exact .inr hm
   ·subst hk;obtain⟨hy1,hy2⟩:=jt hy;have hym:y∈s.tab.filter (λx=>!decide (x.c<e.c)):=List.mem_filter.2 ⟨hy1,Nu⟩;have hsg:srt (s.tab.filter λx=>!decide (x.c<e.c)):=hs.filter _;generalize hg:s.tab.filter (λx=>!decide (x.c<e.c))=g at *
    cases g with
    |nil=>simp at hm
    | cons z g =>
      obtain⟨a1,a2⟩:=List.pairwise_cons.1 hsg;have hzm:z∈s.tab.filter (λx=>!decide (x.c<e.c)):=by rw[hg];simp
      have hz:=(List.mem_filter.1 hzm).2;simp at hz;have hzc:z.c=e.c:=by
       rcases List.mem_cons.1 hym with h1|h1
       ·rw[<-h1];exact hy2
       ·have:=a1 y h1;omega
      rcases List.mem_cons.1 hm with h1|h1
      ·subst h1;exact absurd hzc hc
      ·simp only[List.drop_succ_cons,List.drop_zero,List.mem_append];exact .inr h1
 unfold bq at hl|-;split
 ·exact key 0 _ (.inl rfl)
 ·rename_i x hx;simp only[hx]at hl;split
  ·rename_i h1;rw[if_pos h1]at hl;have:=congrArg List.length hl;simp at this
  ·rename_i h1;rw[if_neg h1]at hl;split
   ·rename_i h2;rw[if_pos h2]at hl;have:=congrArg List.length hl;simp at this
   ·exact key 1 _ (.inr ⟨rfl,x,hx⟩)
def Gf(W:List Ent):Prop:=W.Pairwise λa b=>a.c=b.c->a.n<b.n
theorem FH(L:List Ent):Gf (bj L).l/\srt (bj L).tab/\∀a,a∈(bj L).l->∃x,x∈(bj L).tab/\x.c=a.c/\a.n<=x.n:=by
 refine jZ (p:=λL=>Gf (bj L).l/\srt (bj L).tab/\∀a,a∈(bj L).l->∃x,x∈(bj L).tab/\x.c=a.c/\a.n<=x.n) ⟨by simp[bj,Gf],by simp[bj,srt],λa ha=>by simp[bj]at ha⟩ (λl e ih=>?_) L;obtain⟨h1,h2,h3⟩:=ih;rw[fA];rcases m4 (bj l) e with h|h
 ·rw[h];exact⟨h1,h2,h3⟩
 ·obtain⟨t1,t2,t3,t4,t5⟩:=Cc h2 h;rw[h];refine⟨?_,oO h2,λa ha=>?_⟩
  ·refine List.pairwise_append.2 ⟨h1,Nw,λa ha b hb hab=>?_⟩;simp only[List.mem_singleton]at hb;subst hb;obtain⟨x,hx,hxc,hxn⟩:=h3 a ha;unfold bq at h
   cases hl:bt (bj l).tab b.c with
   |none=>exact absurd (hxc.trans hab) (mf hl x hx)
   | some y =>
     obtain⟨hy1,hy2⟩:=jt hl;have hxy:=yE h2 hx hy1 Nr;subst hxy;simp only[hl]at h;by_cases c1:b.n<x.n
     ·rw[if_pos c1]at h;have:=congrArg List.length h;simp at this
     ·rw[if_neg c1]at h;by_cases c2:b.n=x.n
      ·rw[if_pos c2]at h;have:=congrArg List.length h;simp at this
      ·omega
  ·rcases List.mem_append.1 ha with ha|ha
   ·obtain⟨x,hx,hxc,hxn⟩:=h3 a ha;by_cases hc:x.c=e.c
    ·refine⟨t2,t3,Nr,?_⟩;unfold bq at h
     cases hl:bt (bj l).tab e.c with
     |none=>exact absurd hc (mf hl x hx)
     | some y =>
       obtain⟨hy1,hy2⟩:=jt hl;have hxy:=yE h2 hx hy1 Nr;subst hxy;simp only[hl]at h;by_cases c1:e.n<x.n
       ·rw[if_pos c1]at h;have:=congrArg List.length h;simp at this
       ·omega
    ·exact⟨x,t1 x hx hc,hxc,hxn⟩
   ·simp only[List.mem_singleton]at ha;subst ha;exact⟨t2,t3,t4,Nr⟩
theorem pR(L:List Ent):∀a,a∈(bj L).l->a∈L:=by
 refine jZ (p:=λL=>∀a,a∈(bj L).l->a∈L) (λa ha=>by simp[bj]at ha) (λl e ih a ha=>?_) L;rw[fA]at ha;rcases m4 (bj l) e with h|h
 ·rw[h]at ha;simp[ih a ha]
 ·rw[h]at ha;rcases List.mem_append.1 ha with h1|h1
  ·simp[ih a h1]
  ·simp only[List.mem_singleton]at h1;simp[h1]
theorem Af(A B:List Ent):∃C,(bj (A++B)).l=(bj A).l++C:=by
 refine jZ (p:=λB=>∃C,(bj (A++B)).l=(bj A).l++C) ⟨[],Nw⟩ (λl e ih=>?_) B;obtain⟨C,hC⟩:=ih;rw[<-List.append_assoc,fA];rcases m4 (bj (A++l)) e with h|h
 ·rw[h];exact⟨C,hC⟩
 ·rw[h,hC];exact⟨C++[e],Nw⟩
theorem pQ(L:List Ent):(bj L).tab.length<=L.length/\(bj L).l.length<=L.length/\srt (bj L).tab:=by refine jZ (p:=λL=>(bj L).tab.length<=L.length/\(bj L).l.length<=L.length/\srt (bj L).tab) ⟨by simp[bj],by simp[bj],by simp[bj,srt]⟩ (λl e ih=>?_) L;rw[fA];have:=ux (s:=bj l) (e:=e);simp only[List.length_append,List.length_singleton];exact⟨Nr,Nr,oO ih.2.2⟩
def cnt(n:Nat)(p:Nat->Bool):Nat:=((List.range n).filter p).length
theorem gU(n:Nat)(p:Nat->Bool):cnt (n+1) p=cnt n p+if p n then 1 else 0:=by unfold cnt;rw[List.range_succ,List.filter_append,List.length_append];congr 1;by_cases h:p n<;>simp[h]
theorem KD(n:Nat)(p:Nat->Bool):cnt n p<=n:=by unfold cnt;exact Nat.le_trans (List.length_filter_le _ _) Nw
theorem Am(p q:Nat->Bool):∀n,cnt n p+cnt n q<=cnt n (λi=>p i&&q i)+n
 |0=>by simp[cnt]
 | n+1=>by
   have:=Am p q n;rw[gU,gU,gU];cases hp:p n<;>cases hq:q n<;>simp<;>omega
theorem Kk{n:Nat}(hp:n/2+1<=cnt n p)(hq:n/2+1<=cnt n q):∃i,i<n/\p i=true/\q i=true:=by have h:=Am p q n;have h1:0<cnt n (λi=>p i&&q i):=Nr;unfold cnt at h1;obtain⟨i,hi⟩:=List.exists_mem_of_length_pos h1;rw[List.mem_filter]at hi;simp only[List.mem_range,Bool.and_eq_true]at hi;exact⟨i,hi.1,hi.2⟩
theorem uh{n:Nat}(h:∀i,i<n->p i=true->q i=true):cnt n p<=cnt n q:=by
 induction n with
 |zero=>simp[cnt]
 |succ n ih =>rw[gU,gU];have:=ih λi hi=>h i Nr;have:=h n Nr;cases hp:p n<;>cases hq:q n<;>simp[hp,hq] at*<;> omega
structure Gh where
 M:Nat->List Ent
 S:Nat->Nat
 st:Nat->Prop
 ack:Nat->Nat->Nat
def com(n:Nat)(g:Gh)(u k:Nat):Prop:=g.st u/\k<=(g.M u).length/\n/2+1<=cnt n λi=>decide (k<=g.ack u i)
def Cd(n:Nat)(g:Gh)(v k:Nat):Prop:=∃u,u<=v/\com n g u k/\(g.M u).take k=(g.M v).take k
structure GI(n T:Nat)(g:Gh)(vw:Nat->Nat):Prop where
 z0:g.st 0
 s0:g.S 0=0
 sl:∀v,g.st v->g.S v<=(g.M v).length
 ak:∀v i,0<g.ack v i->g.st v/\g.ack v i<=(g.M v).length/\v<=vw i
 q:∀v,g.st v->0<v->∃b q,b<v/\g.st b/\g.S b<=g.S v/\g.S v<=(g.M b).length/\(g.M v).take (g.S v)=(g.M b).take (g.S v)/\n/2+1<=cnt n q /\
  ∀i,i<n->q i=true->v<=vw i/\(∀u,b<u->u<v->g.ack u i=0)/\g.ack b i<=g.S v
 ent : ∀v e, g.st v -> e ∈ g.M v -> 1 <= e.c /\ e.c <= 4 /\ 1 <= e.n /\ e.n <= T /\ e.t = "t".toByteArray
 len:∀v,g.st v->(g.M v).length<=T
 vt:∀v,g.st v->v<=T
 pv:∀v,g.st v->v<=vw (v%n)
theorem pf{α:Type}{l:List α}{a:Nat}(h:a<=b):(l.take b).take a=l.take a:=by rw[List.take_take,Nat.min_eq_left h]
theorem nQ{α:Type}{l m:List α}{a:Nat}(h:a<=b)(e:l.take b=m.take b):l.take a=m.take a:=by rw[<-pf (l:=l) h,<-pf (l:=m) h,e]
section
variable{n T:Nat}{g:Gh}{vw:Nat->Nat}
theorem com.le{u k k':Nat}(h:com n g u k)(hk:k'<=k):com n g u k' :=
 ⟨h.1,Nat.le_trans hk h.2.1,Nat.le_trans h.2.2 (uh λi _ hi=>by
  simp only[decide_eq_true_eq]at hi|-;omega)⟩
theorem Cd.le{v k k':Nat}(h:Cd n g v k)(hk:k'<=k):Cd n g v k':=by obtain⟨u,h1,h2,h3⟩:=h;exact⟨u,h1,h2.le hk,nQ hk h3⟩
theorem Cd.len{v k:Nat}(h:Cd n g v k):k<=(g.M v).length:=by obtain⟨u,h1,h2,h3⟩:=h;have:=congrArg List.length h3;rw[List.length_take,List.length_take]at this;have:=h2.2.1;omega
theorem GI.main(I:GI n T g vw)(hc:com n g u k):∀v,g.st v->u<v->k<=g.S v/\(g.M v).take k=(g.M u).take k:=by
 intro v
 induction v using Nat.strongRecOn with
 | ind v ih =>
   intro hv huv;by_cases hk:k=0
   ·subst hk;simp
   obtain⟨b,q,hb,hbs,hbS,hbl,hbM,hq,hqi⟩:=I.q v hv Nr;obtain⟨i,hi,hi1,hi2⟩:=Kk hc.2.2 hq;simp only[decide_eq_true_eq]at hi1;obtain⟨h1,h2,h3⟩:=hqi i hi hi2;rcases Nat.lt_trichotomy b u with hbu|hbu|hbu
   ·have:=h2 u hbu huv;omega
   ·subst hbu;have hkS:k<=g.S v:=Nr;exact⟨hkS,nQ hkS hbM⟩
   ·obtain⟨h4,h5⟩:=ih b hb hbs hbu;have hkS:k<=g.S v:=Nr;exact⟨hkS,(nQ hkS hbM).trans h5⟩
theorem Cd.up(I:GI n T g vw){v w k:Nat}(h:Cd n g v k)(hw:g.st w)(hvw:v<w):k<=g.S w/\Cd n g w k/\(g.M w).take k=(g.M v).take k:=by obtain⟨u,h1,h2,h3⟩:=h;obtain⟨h4,h5⟩:=I.main h2 w hw Nr;exact⟨h4,⟨u,Nr,h2,h5.symm⟩,h5.trans h3⟩
theorem Cd.zero(I:GI n T g vw)(hn:0<n):Cd n g v 0:=by
 refine⟨0,Nat.zero_le _,⟨I.z0,Nat.zero_le _,?_⟩,Nw⟩;have:cnt n (λi=>decide (0<=g.ack 0 i))=n:=by
  unfold cnt;have:(List.range n).filter (λi=>decide (0<=g.ack 0 i))=List.range n:=by rw[List.filter_eq_self];intro i _;simp
  rw[this];simp
 rw[this];omega
end
structure Adv(n T:Nat)(g g':Gh)(P P':Nat->PR)(i:Nat):Prop where
 m:∀v,g.st v->g'.st v/\g'.S v=g.S v/\∃x,g'.M v=g.M v++x/\(v%n≠i->x=[])
 s:∀v,g'.st v->g.st v\/v%n=i
 al:∀u j,g.ack u j<=g'.ack u j
 ae:∀u j,j≠i\/u≠(P' i).vw->g'.ack u j=g.ack u j
 po:∀j,j≠i->P' j=P j
 vw:(P i).vw<=(P' i).vw
 rc:(P' i).st=2->(∀u,g'.ack u i=g.ack u i)/\(((P i).st=2/\(P' i).nc=(P i).nc)\/T<(P' i).nc)
section
variable{n T i:Nat}{g g':Gh}{P P':Nat->PR}(a:Adv n T g g' P P' i)
include a
theorem Adv.take{v k:Nat}(h:g.st v)(hk:k<=(g.M v).length):(g'.M v).take k=(g.M v).take k:=by obtain⟨_,_,x,hx,_⟩:=a.m v h;rw[hx,List.take_append_of_le_length hk]
theorem Adv.len{v:Nat}(h:g.st v):(g.M v).length<=(g'.M v).length:=by obtain⟨_,_,x,hx,_⟩:=a.m v h;rw[hx,List.length_append];omega
theorem Adv.same{v:Nat}(h:g.st v)(hv:v%n≠i):g'.M v=g.M v:=by obtain⟨_,_,x,hx,h0⟩:=a.m v h;rw[hx,h0 hv,List.append_nil]
theorem Adv.com{u k:Nat}(h:com n g u k):com n g' u k :=
 ⟨(a.m u h.1).1,Nat.le_trans h.2.1 (a.len h.1),Nat.le_trans h.2.2 (uh λj _ hj=>by
  have:=a.al u j
  simp only[decide_eq_true_eq]at hj|-;omega)⟩
theorem Adv.cd{v k:Nat}(hv:g.st v)(h:Cd n g v k):Cd n g' v k:=by have hl:=h.len;obtain⟨u,h1,h2,h3⟩:=h;exact⟨u,h1,a.com h2,by rw[a.take h2.1 h2.2.1,a.take hv hl,h3]⟩
theorem Adv.vws(j:Nat):(P j).vw<=(P' j).vw:=by
 by_cases h:j=i
 ·subst h;exact a.vw
 ·rw[a.po j h];exact Nat.le_refl _
theorem Adv.Kl{u j:Nat}(h:u<(P j).vw):g'.ack u j=g.ack u j:=by
 refine a.ae u j ?_;by_cases hj:j=i
 ·subst hj;right;have:=a.vw;omega
 ·exact .inl hj
end
structure Wh(n:Nat)(g:Gh)(v:Nat)(m:Mg):Prop where
 st:g.st v
 log:m.log=((g.M v).take m.op).drop m.bs
 bc:m.bs<=m.cm
 co:m.cm<=m.op
 so:g.S v<=m.op
 ol:m.op<=(g.M v).length
 cd:Cd n g v m.cm
 img:m.img=if 0<m.bs then save (bj ((g.M v).take m.cm)) else []
structure DI(n:Nat)(g:Gh)(P:Nat->PR)(m:Mg):Prop where
 w:Wh n g m.nm m
 nv:m.nm<m.vw
 vv:m.vw<=(P m.fr).vw
 ak:∀u,u<m.vw->0<g.ack u m.fr->u<=m.nm/\(u=m.nm->g.ack u m.fr<=m.op)
structure MI(n T:Nat)(g:Gh)(P:Nat->PR)(m:Mg):Prop where
 to:m.to<n
 fr:m.fr<n
 ne:m.fr≠m.to
 k:2<=m.k/\m.k<=11
 b:m.vw<=T/\m.op<=T/\m.cm<=T/\m.bs<=T/\m.nm<=T/\m.nc<=T
 lg:m.log.length<=T
 im:m.img.length<=1+16*T
 k2:m.k=2->g.st m.vw/\m.fr=m.vw%n/\1<=m.op/\(g.M m.vw)[m.op-1]? = some m.en/\Cd n g m.vw m.cm
 k3:m.k=3->g.st m.vw/\m.op<=g.ack m.vw m.fr
 k4:m.k=4->g.st m.vw/\m.fr=m.vw%n/\Cd n g m.vw m.cm
 k6:m.k=6->DI n g P m/\m.to=m.vw%n
 k7:m.k=7->Wh n g m.vw m/\m.fr=m.vw%n
 k9:m.k=9->(m.bs<=m.cm/\m.cm<=m.op/\m.log.length=m.op-m.bs)/\(m.fr=m.vw%n->Wh n g m.vw m/\((P m.to).st=2->(P m.to).nc=m.nc->g.ack m.vw m.to<=m.op))
 k11:m.k=11->g.st m.vw/\m.log=((g.M m.vw).take m.op).drop m.bs/\m.bs<=m.op/\g.S m.vw<=m.op/\m.op<=(g.M m.vw).length/\m.cm<=m.op/\Cd n g m.vw m.cm/\(m.img=[]\/(Wh n g m.vw m/\0<m.bs))
structure LG(n:Nat)(g:Gh)(v:Nat)(P:PR):Prop where
 st:g.st v
 log:P.log=((g.M v).take P.op).drop P.bs
 bc:P.bs<=P.cm
 co:P.cm<=P.op
 so:g.S v<=P.op
 ol:P.op<=(g.M v).length
 cd:Cd n g v P.cm
 sv:P.sv=bj ((g.M v).take P.cm)
structure RA(n:Nat)(g:Gh)(Q:Nat->PR)(i:Nat)(P:PR):Prop where
 lg:LG n g P.nm P
 s0:P.st=0->P.nm=P.vw
 s1:P.st=1->P.nm<P.vw
 pr:P.nm%n=i->P.op=(g.M P.nm).length/\g.ack P.nm i=P.op
 ak:∀u,0<g.ack u i->u<=P.nm/\(u=P.nm->g.ack u i<=P.op)
 cm:P.st=1->∀j m,P.aH[j]? = some m->m.k≠0->m.k=6/\m.fr=j/\m.vw=P.vw/\DI n g Q m/\(j=i->m.nm=P.nm/\m.op=P.op)
 np:P.st=1->P.vw%n=i->¬g.st P.vw
 c0:P.st=1->∀m,m∈P.aH->m.k=0->m.cm=0
structure RR(n:Nat)(g:Gh)(i:Nat)(P:PR):Prop where
 bs:P.bs=0
 cm:P.cm=0
 log:P.log=[]
 sv:P.sv=⟨[],[]⟩
 an:∀j m,P.ans[j]? = some m->m.k≠0->m.k=9/\m.fr=j/\j≠i/\m.nc=P.nc/\(m.bs<=m.cm/\m.cm<=m.op/\m.log.length=m.op-m.bs)/\(j=m.vw%n->Wh n g m.vw m/\g.ack m.vw i<=m.op)
structure RI(n T:Nat)(g:Gh)(Q:Nat->PR)(i:Nat)(P:PR):Prop where
 me:P.me=i
 nn:P.n=n
 ls:P.told.length=n/\P.aG.length=n/\P.aH.length=n/\P.ans.length=n
 vw:P.vw<=T
 nc:P.nc<=T
 st:P.st<=2
 nm:P.nm<=P.vw
 tl:∀j,j<n->P.told.getD j 0<=g.ack P.vw j
 ra:P.st≠2->RA n g Q i P
 rr:P.st=2->RR n g i P
 mb:∀m,m∈P.aH++P.ans->m.vw<=T/\m.op<=T/\m.cm<=T/\m.bs<=T/\m.nm<=T/\m.nc<=T/\m.log.length<=T/\m.img.length<=1+16*T
section
variable{n T i:Nat}{g g':Gh}{P P':Nat->PR}(a:Adv n T g g' P P' i)
include a
theorem Wh.adv{v:Nat}{m:Mg}(w:Wh n g v m):Wh n g' v m:=by
 obtain⟨h1,h2,_⟩:=a.m v w.st;have hl:=a.len w.st;refine⟨h1,?_,w.bc,w.co,by rw[h2];exact w.so,Nat.le_trans w.ol hl,a.cd w.st w.cd,?_⟩
 ·rw[a.take w.st w.ol];exact w.log
 ·rw[a.take w.st (Nat.le_trans w.co w.ol)];exact w.img
theorem DI.adv{m:Mg}(d:DI n g P m):DI n g' P' m:=by refine⟨d.w.adv a,d.nv,Nat.le_trans d.vv (a.vws _),λu hu hk=>?_⟩;have:=a.Kl (u:=u) (j:=m.fr) (Nat.lt_of_lt_of_le hu d.vv);rw[this]at hk|-;exact d.ak u hu hk
theorem MI.adv{m:Mg}(h:MI n T g P m):MI n T g' P' m:=by
 refine⟨h.to,h.fr,h.ne,h.k,h.b,h.lg,h.im,λhk=>?_,λhk=>?_,λhk=>?_,λhk=>?_,λhk=>?_,λhk=>?_,λhk=>?_⟩
 ·obtain⟨h1,h2,h3,h4,h5⟩:=h.k2 hk;obtain⟨q1,_,x,hx,_⟩:=a.m _ h1;refine⟨q1,h2,h3,?_,a.cd h1 h5⟩;rw[hx,List.getElem?_append_left (List.getElem?_eq_some_iff.1 h4).1];exact h4
 ·obtain⟨h1,h2⟩:=h.k3 hk;exact⟨(a.m _ h1).1,Nat.le_trans h2 (a.al _ _)⟩
 ·obtain⟨h1,h2,h3⟩:=h.k4 hk;exact⟨(a.m _ h1).1,h2,a.cd h1 h3⟩
 ·obtain⟨h1,h2⟩:=h.k6 hk;exact⟨h1.adv a,h2⟩
 ·obtain⟨h1,h2⟩:=h.k7 hk;exact⟨h1.adv a,h2⟩
 ·obtain⟨h1,h2⟩:=h.k9 hk;refine⟨h1,λhf=>?_⟩;obtain⟨h3,h4⟩:=h2 hf;refine⟨h3.adv a,λhs hn=>?_⟩;by_cases hj:m.to=i
  ·rw[hj]at hs hn h4|-;obtain⟨r1,r2⟩:=a.rc hs;rw[r1];rcases r2 with⟨r3,r4⟩|r3
   ·exact h4 r3 (by rw[<-r4];exact hn)
   ·have:=h.b.2.2.2.2.2;omega
  ·rw[a.po _ hj]at hs hn;rw[a.ae _ _ (.inl hj)];exact h4 hs hn
 ·obtain⟨h1,h2,h3,h4,h5,h6,h7,h8⟩:=h.k11 hk;obtain⟨q1,q2,_⟩:=a.m _ h1;exact⟨q1,by rw[a.take h1 h5];exact h2,h3,by rw[q2];exact h4,Nat.le_trans h5 (a.len h1),h6,a.cd h1 h7,h8.imp id λh=>⟨h.1.adv a,h.2⟩⟩
theorem LG.adv{v:Nat}{Q:PR}(w:LG n g v Q):LG n g' v Q:=by
 obtain⟨h1,h2,_⟩:=a.m v w.st;have hl:=a.len w.st;refine⟨h1,?_,w.bc,w.co,by rw[h2];exact w.so,Nat.le_trans w.ol hl,a.cd w.st w.cd,?_⟩
 ·rw[a.take w.st w.ol];exact w.log
 ·rw[a.take w.st (Nat.le_trans w.co w.ol)];exact w.sv
theorem RI.adv{j:Nat}(hj:j≠i)(h:RI n T g P j (P j)):RI n T g' P' j (P' j):=by
 rw[a.po j hj];have hak:∀u,g'.ack u j=g.ack u j:=λu=>a.ae u j (.inl hj);refine⟨h.me,h.nn,h.ls,h.vw,h.nc,h.st,h.nm,λk hk=>Nat.le_trans (h.tl k hk) (a.al _ _),λhs=>?_,λhs=>?_,h.mb⟩
 ·have r:=h.ra hs;refine⟨r.lg.adv a,r.s0,r.s1,λhp=>?_,λu hu=>?_,λh1 k m hm hk=>?_,λh1 hp=>?_,λh1 m hm hk=>?_⟩
  ·obtain⟨h1,h2⟩:=r.pr hp;rw[a.same r.lg.st Nr,hak];exact⟨h1,h2⟩
  ·rw[hak]at hu|-;exact r.ak u hu
  ·obtain⟨c1,c2,c3,c4,c5⟩:=r.cm h1 k m hm hk;exact⟨c1,c2,c3,c4.adv a,c5⟩
  ·intro hst;rcases a.s _ hst with h2|h2
   ·exact r.np h1 hp h2
   ·omega
  ·exact r.c0 h1 m hm hk
 ·have r:=h.rr hs;refine⟨r.bs,r.cm,r.log,r.sv,λk m hm hk=>?_⟩;obtain⟨c1,c2,c3,c4,c5,c6⟩:=r.an k m hm hk;refine⟨c1,c2,c3,c4,c5,λhp=>?_⟩;obtain⟨d1,d2⟩:=c6 hp;exact⟨d1.adv a,by rw[hak];exact d2⟩
end
def eI(T : Nat) (e : Ent) : Prop := 1 <= e.c /\ e.c <= 4 /\ 1 <= e.n /\ e.n <= T /\ e.t = "t".toByteArray
theorem eI.mono{T T':Nat}(h:T<=T'){e:Ent}(x:eI T e):eI T' e:=⟨x.1,x.2.1,x.2.2.1,Nat.le_trans x.2.2.2.1 h,x.2.2.2.2⟩
def QB(n:Nat)(g:Gh)(vw:Nat->Nat)(v:Nat):Prop:=∃b q,b<v/\g.st b/\g.S b<=g.S v/\g.S v<=(g.M b).length/\(g.M v).take (g.S v)=(g.M b).take (g.S v)/\n/2+1<=cnt n q /\
 ∀i,i<n->q i=true->v<=vw i/\(∀u,b<u->u<v->g.ack u i=0)/\g.ack b i<=g.S v
theorem GI.adv{n T T' i:Nat}{g g':Gh}{P P':Nat->PR}(a:Adv n T g g' P P' i)(I:GI n T g λj=>(P j).vw)(hT:T<=T')
 (hak:∀u,g'.ack u i≠g.ack u i->g'.st u/\g'.ack u i<=(g'.M u).length/\u<=(P' i).vw)
 (hx:∀v,g.st v->(∀e,e∈g'.M v->e∈g.M v\/eI T' e)/\(g'.M v).length<=T')
 (hn:∀v,g'.st v->¬g.st v->g'.S v<=(g'.M v).length/\(0<v->QB n g' (λj=>(P' j).vw) v)/\(∀e,e∈g'.M v->eI T' e)/\(g'.M v).length<=T'/\v<=T'/\v<=(P' (v%n)).vw) :
 GI n T' g' λj=>(P' j).vw:=by
 refine⟨(a.m 0 I.z0).1,by rw[(a.m 0 I.z0).2.1];exact I.s0,λv hv=>?_,λv j hj=>?_,λv hv h0=>?_,λv e hv he=>?_,λv hv=>?_,λv hv=>?_,λv hv=>?_⟩
 ·by_cases h:g.st v
  ·rw[(a.m v h).2.1];exact Nat.le_trans (I.sl v h) (a.len h)
  ·exact(hn v hv h).1
 ·by_cases hc:g'.ack v j=g.ack v j
  ·rw[hc]at hj|-;obtain⟨h1,h2,h3⟩:=I.ak v j hj;exact⟨(a.m v h1).1,Nat.le_trans h2 (a.len h1),Nat.le_trans h3 (a.vws j)⟩
  ·by_cases hji:j=i
   ·subst hji;exact hak v hc
   ·exact absurd (a.ae v j (.inl hji)) hc
 ·by_cases h:g.st v
  ·obtain⟨b,q,h1,h2,h3,h4,h5,h6,h7⟩:=I.q v h h0;have hS:=(a.m v h).2.1;rw[hS];refine⟨b,q,h1,(a.m b h2).1,by rw[(a.m b h2).2.1];exact h3,Nat.le_trans h4 (a.len h2),by rw[a.take h (I.sl v h),a.take h2 h4];exact h5,h6,λj hj hq=>?_⟩;obtain⟨q1,q2,q3⟩:=h7 j hj hq;refine⟨Nat.le_trans q1 (a.vws j),λu hu1 hu2=>?_,?_⟩
   ·rw[a.Kl (Nat.lt_of_lt_of_le hu2 q1)];exact q2 u hu1 hu2
   ·rw[a.Kl (Nat.lt_of_lt_of_le h1 q1)];exact q3
  ·exact(hn v hv h).2.1 h0
 ·by_cases h:g.st v
  ·rcases(hx v h).1 e he with h1|h1
   ·exact eI.mono hT (I.ent v e h h1)
   ·exact h1
  ·exact(hn v hv h).2.2.1 e he
 ·by_cases h:g.st v
  ·exact(hx v h).2
  ·exact(hn v hv h).2.2.2.1
 ·by_cases h:g.st v
  ·exact Nat.le_trans (I.vt v h) hT
  ·exact(hn v hv h).2.2.2.2.1
 ·by_cases h:g.st v
  ·exact Nat.le_trans (I.pv v h) (a.vws _)
  ·exact(hn v hv h).2.2.2.2.2
theorem MI.mono{n T T':Nat}{g:Gh}{P:Nat->PR}{m:Mg}(hT:T<=T')(h:MI n T g P m):MI n T' g P m:=by obtain⟨b1,b2,b3,b4,b5,b6⟩:=h.b;have:=h.im;exact⟨h.to,h.fr,h.ne,h.k,⟨Nr,Nr,Nr,Nr,Nr,Nr⟩,Nat.le_trans h.lg hT,Nr,h.k2,h.k3,h.k4,h.k6,h.k7,h.k9,h.k11⟩
theorem RI.mono{n T T':Nat}{g:Gh}{Q:Nat->PR}{i:Nat}{P:PR}(hT:T<=T')(h:RI n T g Q i P):RI n T' g Q i P :=
 ⟨h.me,h.nn,h.ls,Nat.le_trans h.vw hT,Nat.le_trans h.nc hT,h.st,h.nm,h.tl,h.ra,h.rr,λm hm=>by
  obtain⟨b1,b2,b3,b4,b5,b6,b7,b8⟩:=h.mb m hm
  exact⟨Nr,Nr,Nr,Nr,Nr,Nr,Nr,Nr⟩⟩
theorem iP:∀(l:List Ent) (P:PR),(dt l P).1={P with sv:=l.foldl (λs e=>(bq s e).1) P.sv,cm:=P.cm+l.length}
 |[],P=>by simp[dt]
 | e::l,P=>by
   rw[dt];simp only[iP l,br,List.foldl_cons,List.length_cons];congr 1;omega
theorem rY:∀(l:List Ent) (P:PR),∀m,m∈(dt l P).2->100<=m.to
 |[],P,m,h=>by simp[dt]at h
 | e::l,P,m,h=>by
   rw[dt]at h;simp only[List.mem_append]at h;rcases h with h|h
   ·unfold br at h;simp only at h;split at h
    ·simp only[List.mem_singleton]at h;subst h;simp[PR.toM]
    ·simp at h
   ·exact rY l _ m h
theorem BP(A B:List Ent):bj (A++B)=B.foldl (λs e=>(bq s e).1) (bj A):=by simp[bj]
section
variable{n T:Nat}{g:Gh}{vw:Nat->Nat}
theorem LG.aq{v k:Nat}{P:PR}(h:LG n g v P)(hc:Cd n g v k):∃c,P.cm<=c/\c<=P.op/\(k<=P.op->k<=c)/\(c=P.cm\/c<=k)/\(aq P k).1={P with sv:=bj ((g.M v).take c),cm:=c}/\Cd n g v c:=by
 have hlen:(P.todo k).length=min (k-P.cm) (P.op-P.cm):=by
  unfold PR.todo
  rw[List.length_take,List.length_drop];have:P.log.length=P.op-P.bs:=NH;have:=h.bc;have:=h.co;omega
 have htodo:(P.todo k)=((g.M v).drop P.cm).take (min (k-P.cm) (P.op-P.cm)):=by
  unfold PR.todo
  rw[h.log,List.drop_drop,Nat.add_sub_cancel' h.bc,List.drop_take,List.take_take]
 refine⟨P.cm+min (k-P.cm) (P.op-P.cm),Nr,by have:=h.co;omega,Nr,Nr,?_,?_⟩
 ·unfold Vr.aq;rw[iP,hlen];have:bj ((g.M v).take (P.cm+min (k-P.cm) (P.op-P.cm)))=(P.todo k).foldl (λs e=>(bq s e).1) P.sv:=by rw[List.take_add,BP,h.sv,htodo]
  rw[this]
 ·by_cases hk:k<=P.cm
  ·have:min (k-P.cm) (P.op-P.cm)=0:=Nr;rw[this];exact h.cd
  ·exact hc.le Nr
theorem LG.K9{v c:Nat}{P:PR}(h:LG n g v P)(h1:P.cm<=c)(h2:c<=P.op)(hc:Cd n g v c):LG n g v {P with sv:=bj ((g.M v).take c),cm:=c} :=
 ⟨h.st,h.log,Nat.le_trans h.bc h1,h2,h.so,h.ol,hc,rfl⟩
structure LP(n:Nat)(g:Gh)(w:Nat)(P:PR):Prop where
 bc:P.bs<=P.cm
 co:P.cm<=P.op
 lg:P.log.take (P.cm-P.bs)=((g.M w).take P.cm).drop P.bs
 sv:P.sv=bj ((g.M w).take P.cm)
 cd:Cd n g w P.cm
theorem LG.lp(I:GI n T g vw){v w:Nat}{P:PR}(h:LG n g v P)(hw:g.st w)(hvw:v<=w):LP n g w P:=by
 have hl:P.log.take (P.cm-P.bs)=((g.M v).take P.cm).drop P.bs:=by rw[h.log,List.drop_take,List.drop_take,List.take_take,Nat.min_eq_left (by have:=h.co;omega)]
 rcases Nat.eq_or_lt_of_le hvw with e|hlt
 ·subst e;exact⟨h.bc,h.co,hl,h.sv,h.cd⟩
 ·obtain⟨_,h2,h3⟩:=h.cd.up I hw hlt;exact⟨h.bc,h.co,by rw[h3];exact hl,by rw[h3];exact h.sv,h2⟩
theorem RR.lp(I:GI n T g vw)(hn:0<n){w i:Nat}{P:PR}(h:RR n g i P):LP n g w P:=by
 refine⟨by rw[h.bs,h.cm];exact Nat.le_refl _,by rw[h.cm];exact Nat.zero_le _,?_,?_,?_⟩
 ·rw[h.bs,h.cm];simp
 ·rw[h.cm,h.sv];simp[bj]
 ·rw[h.cm];exact Cd.zero I hn
theorem LP.install{w:Nat}{P:PR}{m:Mg}(p:LP n g w P)(h:Wh n g w m)(hco:P.cm<=m.op):LG n g w (au P m)/\(au P m).op=m.op /\
 ∃l s c b,au P m={P with log:=l,sv:=s,cm:=c,bs:=b}:=by
 have hml:m.log.length=m.op-m.bs:=by rw[h.log,List.length_drop,List.length_take];have:=h.ol;omega
 unfold au;by_cases h1:P.cm<m.bs
 ·rw[if_pos h1];have hop:PR.op {P with sv:=iT m.img,cm:=m.cm,bs:=m.bs,log:=m.log}=m.op:=by unfold PR.op;have:=h.bc;have:=h.co;simp only;omega
  refine⟨⟨h.st,by rw[hop];exact h.log,h.bc,by rw[hop];exact h.co,by rw[hop];exact h.so,by rw[hop];exact h.ol,h.cd,?_⟩,hop,_,_,_,_,rfl⟩;show iT m.img=_;rw[h.img,if_pos Nr,pe]
 ·rw[if_neg h1];have hpl:P.log.length=P.op-P.bs:=NH;have hbc:=p.bc;have hpc:=p.co;have hmc:=h.bc;have hmo:=h.co;have hol:=h.ol;by_cases h2:P.bs<=m.bs
  ·rw[if_pos h2];have htk:P.log.take (m.bs-P.bs)=((g.M w).take m.bs).drop P.bs:=by
    have e1:P.log.take (m.bs-P.bs)=(P.log.take (P.cm-P.bs)).take (m.bs-P.bs):=by rw[List.take_take,Nat.min_eq_left Nr]
    rw[e1,p.lg,List.drop_take,List.take_take,Nat.min_eq_left Nr,List.drop_take]
   have hlog:P.log.take (m.bs-P.bs)++m.log=((g.M w).take m.op).drop P.bs:=by
    rw[htk,h.log];have:(g.M w).take m.op=(g.M w).take m.bs++((g.M w).take m.op).drop m.bs:=by
     conv=>lhs;rw[<-List.take_append_drop m.bs ((g.M w).take m.op)]
     rw[List.take_take,Nat.min_eq_left Nr]
    conv=>rhs;rw[this]
    rw[List.drop_append_of_le_length Oj]
   have hop:PR.op {P with log:=P.log.take (m.bs-P.bs)++m.log}=m.op:=by unfold PR.op;simp only[List.length_append,List.length_take,hml];omega
   exact⟨⟨h.st,by rw[hop];exact hlog,hbc,PS,by rw[hop];exact h.so,by rw[hop];exact hol,p.cd,p.sv⟩,hop,_,_,_,_,rfl⟩
  ·rw[if_neg h2];have hlog:m.log.drop (P.bs-m.bs)=((g.M w).take m.op).drop P.bs:=by rw[h.log,List.drop_drop];congr 1;omega
   have hop:PR.op {P with log:=m.log.drop (P.bs-m.bs)}=m.op:=by unfold PR.op;simp only[List.length_drop,hml];omega
   exact⟨⟨h.st,by rw[hop];exact hlog,hbc,PS,by rw[hop];exact h.so,by rw[hop];exact hol,p.cd,p.sv⟩,hop,_,_,_,_,rfl⟩
end
def upd(P:Nat->PR)(i:Nat)(Q:PR):Nat->PR:=λj=>if j=i then Q else P j
theorem cG{P:Nat->PR}{i:Nat}:upd P i Q i=Q:=by simp[upd]
theorem dg{P:Nat->PR}{i:Nat}(h:j≠i):upd P i Q j=P j:=by simp[upd,h]
theorem yv{P:Nat->PR}{i:Nat}:upd P i (P i)=P:=by
 funext j;by_cases h:j=i
 ·subst h;rw[cG]
 ·rw[dg h]
def SR(n T T':Nat)(g:Gh)(P:Nat->PR)(i:Nat)(r:PR×List Mg):Prop :=
 ∃g',Adv n T g g' P (upd P i r.1) i/\GI n T' g' (λj=>(upd P i r.1 j).vw)/\RI n T' g' (upd P i r.1) i r.1/\∀m,m∈r.2->m.to<100->MI n T' g' (upd P i r.1) m
theorem Adv.iL{n T i:Nat}{g:Gh}{P:Nat->PR}{Q:PR}(hv:(P i).vw<=Q.vw)(hr:Q.st=2->((P i).st=2/\Q.nc=(P i).nc)\/T<Q.nc):Adv n T g g P (upd P i Q) i :=
 ⟨λv h=>⟨h,rfl,[],Nw,λ_=>rfl⟩,λv h=>.inl h,λ_ _=>Nat.le_refl _,λ_ _ _=>rfl,λj hj=>dg hj,by rw[cG];exact hv,by rw[cG];exact λh=>⟨λ_=>rfl,hr h⟩⟩
theorem GI.iL{n T T' i:Nat}{g:Gh}{P:Nat->PR}{Q:PR}(I:GI n T g λj=>(P j).vw)(hT:T<=T')(a:Adv n T g g P (upd P i Q) i):GI n T' g λj=>(upd P i Q j).vw :=
 I.adv a hT (λu h=>absurd rfl h) (λv hv=>⟨λe he=>.inl he,Nat.le_trans (I.len v hv) hT⟩) (λv h1 h2=>absurd h1 h2)
def tZ(g:Gh)(v i k:Nat):Gh:={g with ack:=λu j=>if u=v/\j=i then max (g.ack v i) k else g.ack u j}
theorem mV{g:Gh}{i:Nat}:(tZ g v i k).ack v i=max (g.ack v i) k:=by simp[tZ]
theorem s9{g:Gh}{i:Nat}(h:¬(u=v/\j=i)):(tZ g v i k).ack u j=g.ack u j:=by simp only[tZ];rw[if_neg h]
theorem Adv.KH{n T i v k:Nat}{g:Gh}{P:Nat->PR}{Q:PR}(hv:(P i).vw<=Q.vw)(hq:Q.vw=v)(hr:Q.st≠2):Adv n T g (tZ g v i k) P (upd P i Q) i:=by
 refine⟨λv h=>⟨h,rfl,[],by simp[tZ],λ_=>rfl⟩,λv h=>.inl h,λu j=>?_,λu j hj=>?_,λj hj=>dg hj,by rw[cG];exact hv,by rw[cG];exact λh=>absurd h hr⟩
 ·by_cases h:u=v/\j=i
  ·rw[h.1,h.2,mV];exact Nat.le_max_left _ _
  ·rw[s9 h];exact Nat.le_refl _
 ·rw[cG]at hj;exact s9 λh=>by rcases hj with h1|h1<;>omega
theorem GI.KH{n T T' i v k:Nat}{g:Gh}{P:Nat->PR}{Q:PR}(I:GI n T g λj=>(P j).vw)(hT:T<=T')(a:Adv n T g (tZ g v i k) P (upd P i Q) i)(hs:g.st v)(hk:k<=(g.M v).length)(hq:Q.vw=v):GI n T' (tZ g v i k) λj=>(upd P i Q j).vw:=by
 refine I.adv a hT (λu h=>?_) (λv hv=>⟨λe he=>.inl he,Nat.le_trans (I.len v hv) hT⟩) (λv h1 h2=>absurd h1 h2);by_cases h1:u=v/\i=i
 ·obtain⟨h1,_⟩:=h1;subst h1;rw[mV];refine⟨hs,?_,by rw[cG];omega⟩;rcases Nat.eq_zero_or_pos (g.ack u i) with h2|h2
  ·rw[h2];show max 0 k<=(g.M u).length;omega
  ·have:=(I.ak u i h2).2.1;show max (g.ack u i) k<=(g.M u).length;omega
 ·exact absurd (s9 h1) h
theorem gW{P:PR}{m x:Mg}:x∈P.allM m↔∃j,j<P.n/\j≠P.me/\x=P.toM m j:=by
 unfold PR.allM qZ;rw[List.mem_map];constructor
 ·rintro⟨j,hj,rfl⟩;rw[List.mem_filter]at hj;simp only[List.mem_range,bne_iff_ne]at hj;exact⟨j,hj.1,hj.2,rfl⟩
 ·rintro⟨j,h1,h2,rfl⟩;exact⟨j,List.mem_filter.2 ⟨by simpa using h1,PN⟩,rfl⟩
section
variable{n T T' i:Nat}{g:Gh}{P:Nat->PR}
theorem RI.row{Q:Nat->PR}{p:PR}(h:RI n T g Q i p)(hs:p.st≠2){l:List Ent}{s:Sv}{c b:Nat}(hl:LG n g p.nm {p with log:=l,sv:=s,cm:=c,bs:=b})
 (hp:p.nm%n=i->PR.op {p with log:=l,sv:=s,cm:=c,bs:=b}=(g.M p.nm).length/\g.ack p.nm i=PR.op {p with log:=l,sv:=s,cm:=c,bs:=b})
 (ha:∀u,0<g.ack u i->u<=p.nm/\(u=p.nm->g.ack u i<=PR.op {p with log:=l,sv:=s,cm:=c,bs:=b}))
 (hc:p.st=1->PR.op {p with log:=l,sv:=s,cm:=c,bs:=b}=p.op):RI n T g Q i {p with log:=l,sv:=s,cm:=c,bs:=b}:=by
 have r:=h.ra hs;refine⟨h.me,h.nn,h.ls,h.vw,h.nc,h.st,h.nm,h.tl,λ_=>⟨hl,r.s0,r.s1,hp,ha,λh1 j m hm hk=>?_,r.np,r.c0⟩,λh2=>absurd h2 hs,h.mb⟩;obtain⟨c1,c2,c3,c4,c5⟩:=r.cm h1 j m hm hk;exact⟨c1,c2,c3,c4,λhj=>by rw[hc h1];exact c5 hj⟩
theorem RI.aq{Q:Nat->PR}{p:PR}(h:RI n T g Q i p)(hs:p.st≠2){k:Nat}(hk:Cd n g p.nm k):RI n T g Q i (aq p k).1/\(aq p k).1.op=p.op/\(aq p k).1.vw=p.vw/\(aq p k).1.st=p.st/\(aq p k).1.nm=p.nm/\(aq p k).1.n=p.n/\(aq p k).1.me=p.me/\∀m,m∈(aq p k).2->100<=m.to:=by have r:=h.ra hs;obtain⟨c,h1,h2,h3,h4,h5,h6⟩:=r.lg.aq hk;refine⟨?_,by rw[h5];rfl,by rw[h5],by rw[h5],by rw[h5],by rw[h5],by rw[h5],rY _ _⟩;rw[h5];exact h.row hs (l:=p.log) (b:=p.bs) (r.lg.K9 h1 h2 h6) r.pr r.ak λ_=>rfl
theorem SR.same(hT:T<=T')(I:GI n T g λj=>(P j).vw)(h:RI n T g P i (P i)){out:List Mg}(ho:∀m,m∈out->m.to<100->MI n T' g P m):SR n T T' g P i (P i,out):=by
 have a:Adv n T g g P (upd P i (P i)) i:=Adv.iL (Nat.le_refl _) λhs=>.inl ⟨hs,rfl⟩;refine⟨g,a,I.iL hT a,?_,?_⟩
 ·rw[yv];exact h.mono hT
 ·rw[yv];exact ho
theorem SR.row(hT:T<=T')(I:GI n T g λj=>(P j).vw){Q:PR}(hv:Q.vw=(P i).vw)(hs:Q.st=(P i).st)(hn:Q.nc=(P i).nc)(h:RI n T g P i Q){out:List Mg}(ho:∀m,m∈out->m.to<100->MI n T' g (upd P i Q) m):SR n T T' g P i (Q,out):=by have a:Adv n T g g P (upd P i Q) i:=Adv.iL (by rw[hv];exact Nat.le_refl _) λhs2=>.inl ⟨by rw[<-hs];exact hs2,hn⟩;have hd:∀{m:Mg},DI n g P m->DI n g (upd P i Q) m:=λd=>d.adv a;refine⟨g,a,I.iL hT a,?_,ho⟩;have h':=h.mono hT;refine⟨h'.me,h'.nn,h'.ls,h'.vw,h'.nc,h'.st,h'.nm,h'.tl,λhs=>?_,h'.rr,h'.mb⟩;have r:=h'.ra hs;refine⟨r.lg,r.s0,r.s1,r.pr,r.ak,λh1 j m hm hk=>?_,r.np,r.c0⟩;obtain⟨c1,c2,c3,c4,c5⟩:=r.cm h1 j m hm hk;exact⟨c1,c2,c3,hd c4,c5⟩
theorem SR.told(hT:T<=T')(I:GI n T g λj=>(P j).vw)(hv:(P i).vw<=Q.vw)(hs:Q.st=0)(h:RI n T g P i Q){out:List Mg}(ho:∀m,m∈out->m.to<100->MI n T' (tZ g Q.vw i Q.op) (upd P i Q) m)(hp:Q.vw%n≠i\/Q.op<=g.ack Q.vw i):SR n T T' g P i (Q,out):=by
 have a:Adv n T g (tZ g Q.vw i Q.op) P (upd P i Q) i:=Adv.KH hv rfl Nr;have r:=h.ra Nr;have hnm:Q.nm=Q.vw:=r.s0 hs;have hst:=r.lg.st;have hol:=r.lg.ol;rw[hnm]at hst hol;refine⟨_,a,I.KH hT a hst hol rfl,?_,ho⟩;show RI n T' (tZ g Q.vw i Q.op) (upd P i Q) i Q;have h':=h.mono hT;refine⟨h'.me,h'.nn,h'.ls,h'.vw,h'.nc,h'.st,h'.nm,λj hj=>Nat.le_trans (h'.tl j hj) (a.al _ _),λ_=>?_,λh2=>Nr,h'.mb⟩;refine⟨r.lg.adv a,r.s0,r.s1,λhp2=>?_,λu hu=>?_,λh1=>Nr,λh1=>Nr,λh1=>Nr⟩
 ·obtain⟨p1,p2⟩:=r.pr hp2;refine⟨p1,?_⟩;rw[hnm,mV];rw[hnm]at p2;omega
 ·by_cases hu2:u=Q.vw/\i=i
  ·obtain⟨hu2,_⟩:=hu2;subst hu2;refine⟨Nr,λ_=>?_⟩;rw[mV];rcases Nat.eq_zero_or_pos (g.ack Q.vw i) with h0|h0
   ·omega
   ·have:=(r.ak _ h0).2 hnm.symm;omega
  ·rw[s9 hu2]at hu|-;exact r.ak u hu
end
section
variable{n T:Nat}{g:Gh}{P:Nat->PR}{m:Mg}
theorem MI.mk2(h1:m.to<n)(h2:m.fr<n)(h3:m.fr≠m.to)(hk:m.k=2)(hb:m.vw<=T/\m.op<=T/\m.cm<=T)(hz:m.bs=0/\m.nm=0/\m.nc=0/\m.log=[]/\m.img=[])
 (h:g.st m.vw/\m.fr=m.vw%n/\1<=m.op/\(g.M m.vw)[m.op-1]? = some m.en/\Cd n g m.vw m.cm):MI n T g P m :=
 ⟨h1,h2,h3,Nr,⟨hb.1,hb.2.1,hb.2.2,Nr,Nr,Nr⟩,by rw[hz.2.2.2.1];simp,by rw[hz.2.2.2.2];simp,λ_=>h,λh=>Nr,λh=>Nr,λh=>Nr,λh=>Nr,λh=>Nr,λh=>Nr⟩
theorem MI.mk3(h1:m.to<n)(h2:m.fr<n)(h3:m.fr≠m.to)(hk:m.k=3)(hb:m.vw<=T/\m.op<=T/\m.cm<=T)(hz:m.bs=0/\m.nm=0/\m.nc=0/\m.log=[]/\m.img=[])
 (h:g.st m.vw/\m.op<=g.ack m.vw m.fr):MI n T g P m :=
 ⟨h1,h2,h3,Nr,⟨hb.1,hb.2.1,hb.2.2,Nr,Nr,Nr⟩,by rw[hz.2.2.2.1];simp,by rw[hz.2.2.2.2];simp,λh=>Nr,λ_=>h,λh=>Nr,λh=>Nr,λh=>Nr,λh=>Nr,λh=>Nr⟩
theorem MI.mk4(h1:m.to<n)(h2:m.fr<n)(h3:m.fr≠m.to)(hk:m.k=4)(hb:m.vw<=T/\m.op<=T/\m.cm<=T)(hz:m.bs=0/\m.nm=0/\m.nc=0/\m.log=[]/\m.img=[])
 (h:g.st m.vw/\m.fr=m.vw%n/\Cd n g m.vw m.cm):MI n T g P m :=
 ⟨h1,h2,h3,Nr,⟨hb.1,hb.2.1,hb.2.2,Nr,Nr,Nr⟩,by rw[hz.2.2.2.1];simp,by rw[hz.2.2.2.2];simp,λh=>Nr,λh=>Nr,λ_=>h,λh=>Nr,λh=>Nr,λh=>Nr,λh=>Nr⟩
theorem MI.mk0(h1:m.to<n)(h2:m.fr<n)(h3:m.fr≠m.to)(hk:m.k=5\/m.k=8\/m.k=10)(hb:m.vw<=T/\m.op<=T/\m.cm<=T/\m.nc<=T)(hz:m.bs=0/\m.nm=0/\m.log=[]/\m.img=[]):MI n T g P m :=
 ⟨h1,h2,h3,Nr,⟨hb.1,hb.2.1,hb.2.2.1,Nr,Nr,hb.2.2.2⟩,by rw[hz.2.2.1];simp,by rw[hz.2.2.2];simp,λh=>Nr,λh=>Nr,λh=>Nr,λh=>Nr,λh=>Nr,λh=>Nr,λh=>Nr⟩
end
def nq(g:Gh)(v i:Nat)(e:Ent):Gh:={g with M:=λu=>if u=v then g.M v++[e] else g.M u,ack:=λu j=>if u=v/\j=i then(g.M v).length+1 else g.ack u j}
theorem oo{g:Gh}{i:Nat}{e:Ent}:(nq g v i e).M v=g.M v++[e]:=by simp[nq]
theorem CZ{g:Gh}{i:Nat}{e:Ent}(h:u≠v):(nq g v i e).M u=g.M u:=by simp[nq,h]
theorem xv{g:Gh}{i:Nat}{e:Ent}:(nq g v i e).ack v i=(g.M v).length+1:=by simp[nq]
theorem sZ{g:Gh}{i:Nat}{e:Ent}(h:¬(u=v/\j=i)):(nq g v i e).ack u j=g.ack u j:=by simp only[nq];rw[if_neg h]
section
variable{n T T' i:Nat}{g:Gh}{P:Nat->PR}
theorem gK{p:PR}(hn:p.n=n)(hm:p.me=i):p.bF=true↔p.vw%n=i:=by unfold PR.bF;rw[hn,hm];simp
theorem SR.append(hT1:T+1<=T')(I:GI n T g λj=>(P j).vw)(hi:i<n)(h:RI n T g P i (P i))(hs:(P i).st=0)(hp:(P i).bF=true){e:Ent}(he:eI T' e){out:List Mg}(ho:∀m,m∈out->∃j,j<n/\j≠i/\m=(P i).toM {k:=2,vw:=(P i).vw,op:=(P i).op+1,cm:=(P i).cm,en:=e} j) :
 SR n T T' g P i ({P i with log:=(P i).log++[e]},out):=by
 have hT:T<=T':=Nr;have hpi:=(gK h.nn h.me).1 hp;have r:=h.ra Nr;have hnm:=r.s0 hs;have hst:=r.lg.st;obtain⟨p1,p2⟩:=r.pr Pc;rw[hnm]at hst p1 p2;have hlen:=I.len _ hst;have hbc:=r.lg.bc;have hco:=r.lg.co;have hQv:({P i with log:=(P i).log++[e]}:PR).vw=(P i).vw:=rfl;have hop:PR.op {P i with log:=(P i).log++[e]}=(P i).op+1:=Oc;have a:Adv n T g (nq g (P i).vw i e) P (upd P i {P i with log:=(P i).log++[e]}) i:=by
  refine⟨λv hv=>⟨hv,rfl,?_⟩,λv hv=>.inl hv,λu j=>?_,λu j hj=>?_,λj hj=>dg hj,by rw[cG];exact Nat.le_refl _,by rw[cG];exact λh2=>by rw[show({P i with log:=(P i).log++[e]}:PR).st=(P i).st from rfl]at h2;omega⟩
  ·by_cases h1:v=(P i).vw
   ·subst h1;exact⟨[e],oo,λh2=>absurd hpi h2⟩
   ·exact⟨[],by rw[CZ h1];simp,λ_=>rfl⟩
  ·by_cases h1:u=(P i).vw/\j=i
   ·rw[h1.1,h1.2,xv];omega
   ·rw[sZ h1];exact Nat.le_refl _
  ·rw[cG]at hj;exact sZ λh1=>by rcases hj with h2|h2<;>omega
 have I':GI n T' (nq g (P i).vw i e) λj=>(upd P i {P i with log:=(P i).log++[e]} j).vw:=by
  refine I.adv a hT (λu h1=>?_) (λv hv=>?_) (λv h1 h2=>absurd h1 h2)
  ·by_cases h2:u=(P i).vw/\i=i
   ·obtain⟨h2,_⟩:=h2;subst h2;rw[xv,oo,cG];exact⟨hst,Nw,Nat.le_refl _⟩
   ·exact absurd (sZ h2) h1
  ·by_cases h1:v=(P i).vw
   ·subst h1;rw[oo];refine⟨λe' he'=>?_,Nu⟩;rcases List.mem_append.1 he' with h2|h2
    ·exact .inl h2
    ·simp only[List.mem_singleton]at h2;subst h2;exact .inr he
   ·rw[CZ h1];exact⟨λe' he'=>.inl he',Nat.le_trans (I.len v hv) hT⟩
 refine⟨_,a,I',?_,λm hm _=>?_⟩
 ·show RI n T' (nq g (P i).vw i e) (upd P i {P i with log:=(P i).log++[e]}) i {P i with log:=(P i).log++[e]};have h':=h.mono hT;refine⟨h'.me,h'.nn,h'.ls,h'.vw,h'.nc,h'.st,h'.nm,λj hj=>Nat.le_trans (h'.tl j hj) (a.al _ _),λ_=>?_,λh2=>by rw[show({P i with log:=(P i).log++[e]}:PR).st=(P i).st from rfl]at h2;omega,h'.mb⟩;have hlg:=r.lg.adv a;have hll:(g.M (P i).vw).drop (P i).bs=(P i).log:=by have:=r.lg.log;rw[hnm,p1,List.take_length]at this;exact this.symm
  refine⟨⟨?_,?_,hbc,by rw[hop];show(P i).cm<=_;omega,?_,?_,?_,?_⟩,r.s0,r.s1,λ_=>?_,λu hu=>?_,λh1=>N5,λh1=>N5,λh1=>N5⟩
  ·exact hlg.st
  ·rw[hop];show(P i).log++[e]=_;rw[hnm,oo,p1,List.take_of_length_le Nw,List.drop_append_of_le_length (by show(P i).bs<=_;omega),hll]
  ·rw[hop];have:=hlg.so;show(nq g (P i).vw i e).S (P i).nm<=_;omega
  ·rw[hop];show _<=((nq g (P i).vw i e).M (P i).nm).length;rw[hnm,oo];simp;omega
  ·exact hlg.cd
  ·exact hlg.sv
  ·rw[hop];show _=((nq g (P i).vw i e).M (P i).nm).length/\(nq g (P i).vw i e).ack (P i).nm i=_;rw[hnm,oo,xv];simp;omega
  ·rw[hop];show u<=(P i).nm/\(u=(P i).nm->_);rw[hnm];by_cases h2:u=(P i).vw/\i=i
   ·obtain⟨h2,_⟩:=h2;subst h2;rw[xv];exact⟨Nat.le_refl _,λ_=>Nr⟩
   ·rw[sZ h2]at hu|-;obtain⟨q1,q2⟩:=r.ak u hu;rw[hnm]at q1 q2;exact⟨q1,λh3=>Nat.le_succ_of_le (q2 h3)⟩
 ·obtain⟨j,hj,hji,rfl⟩:=ho m hm;have hcd:=a.cd hst (by rw[<-hnm];exact r.lg.cd);have hvT:=h.vw
  exact MI.mk2 hj NT (by show(P i).me≠j;rw[h.me];exact λh1=>hji h1.symm) rfl ⟨by show(P i).vw<=_;omega,by show(P i).op+1<=_;omega,by show(P i).cm<=_;omega⟩ ⟨rfl,rfl,rfl,rfl,rfl⟩
   ⟨hst,O3,by show 1<=(P i).op+1;omega,by
    show((nq g (P i).vw i e).M (P i).vw)[(P i).op+1-1]? = some e
    rw[oo,p1];simp,hcd⟩
theorem vP(hT1:T+1<=T')(I:GI n T g λj=>(P j).vw)(hi:i<n)(h:RI n T g P i (P i)){m:Mg}(he:eI T' m.en):SR n T T' g P i (request (P i) m):=by
 have hT:T<=T':=Nr;unfold request;by_cases h1:(P i).st≠0\/(!(P i).bF)=true
 ·rw[if_pos h1];exact SR.same hT I h λm hm=>by simp at hm
 ·rw[if_neg h1];have hs:(P i).st=0:=Nr;have hp:(P i).bF=true:=by
   cases hq:(P i).bF with
   |true=>rfl
   |false=>simp[hq]at h1
  have go:SR n T T' g P i (if ((P i).log.drop ((P i).cm-(P i).bs)).any (λx=>x.c==m.en.c&&decide (m.en.n<=x.n))=true then((P i),[]) else({P i with log:=(P i).log++[m.en]},PR.allM {P i with log:=(P i).log++[m.en]} {k:=2,vw:=(P i).vw,op:=PR.op {P i with log:=(P i).log++[m.en]},cm:=(P i).cm,en:=m.en})):=by
   split
   ·exact SR.same hT I h λm hm=>by simp at hm
   ·refine SR.append hT1 I hi h hs hp he λx hx=>?_;obtain⟨j,j1,j2,rfl⟩:=gW.1 hx;have hop:PR.op {P i with log:=(P i).log++[m.en]}=(P i).op+1:=Oc;refine⟨j,by rw[<-h.nn];exact j1,by rw[<-h.me];exact j2,?_⟩;rw[hop];rfl
  simp only;split
  ·exact go
  ·split
   ·exact SR.same hT I h λm hm=>by simp at hm
   ·split
    ·refine SR.same hT I h λx hx hto=>?_;simp only[List.mem_singleton]at hx;subst hx;have:100+m.en.c<100:=hto;omega
    ·exact go
theorem JG{n i:Nat}(hi:i<n)(h:∀j,j<n->p j=true->q j=true)(hp:p i=false)(hq:q i=true):cnt n p+1<=cnt n q:=by
 induction n with
 |zero=>omega
 | succ n ih =>
   rw[gU,gU];by_cases hin:i=n
   ·subst hin;have:=uh (n:=i) λj hj=>h j Nr;rw[hp,hq];simp;omega
   ·have:=ih Nr λj hj=>h j Nr;have:=h n Nr;cases hp2:p n<;>cases hq2:q n<;>simp[hp2,hq2] at*<;> omega
theorem Ar(P:PR):∀(n k b:Nat),gV P n k b=b\/∃j,k<=j/\j<k+n/\P.F<=lv P j/\gV P n k b=j
 |0,k,b=>.inl rfl
 | n+1,k,b=>by
   rw[gV];rcases Ar P n (k+1) (if P.F<=lv P k then k else b) with h|⟨j,h1,h2,h3,h4⟩
   ·by_cases hf:P.F<=lv P k
    ·rw[if_pos hf]at h|-;exact .inr ⟨k,Nr,Nr,hf,h⟩
    ·rw[if_neg hf]at h|-;exact .inl h
   ·exact .inr ⟨j,Nr,Nr,h3,h4⟩
theorem GJ(I:GI n T g λj=>(P j).vw)(hi:i<n)(hodd:n%2=1){p:PR}(hn:p.n=n)(hm:p.me=i)(hst:g.st p.vw)(ht:∀j,j<n->p.told.getD j 0<=g.ack p.vw j)(hF:p.F<=lv p k)(hk:k<=g.ack p.vw i)(hl:g.ack p.vw i<=(g.M p.vw).length):Cd n g p.vw k:=by
 refine⟨p.vw,Nat.le_refl _,⟨hst,Nr,?_⟩,rfl⟩;have h1:lv p k=cnt n λj=>j != i&&decide (k<=p.told.getD j 0):=by unfold lv cnt;rw[hn,hm]
 have h2:=JG (n:=n) (i:=i) (p:=λj=>j != i&&decide (k<=p.told.getD j 0)) (q:=λj=>decide (k<=g.ack p.vw j)) hi (λj hj hp=>by
  simp only[Bool.and_eq_true,decide_eq_true_eq]at hp|-;have:=ht j hj
  omega) Nw (by simpa using hk)
 unfold PR.F at hF;rw[hn]at hF;omega
theorem RI.Jf{Q:Nat->PR}{p:PR}(h:RI n T g Q i p){t:List Nat}(hl:t.length=n)(ht:∀j,j<n->t.getD j 0<=g.ack p.vw j):RI n T g Q i {p with told:=t} :=
 ⟨h.me,h.nn,⟨hl,h.ls.2⟩,h.vw,h.nc,h.st,h.nm,ht,λhs=>by
  have r:=h.ra hs
  exact⟨⟨r.lg.st,r.lg.log,r.lg.bc,r.lg.co,r.lg.so,r.lg.ol,r.lg.cd,r.lg.sv⟩,r.s0,r.s1,r.pr,r.ak,r.cm,r.np,r.c0⟩,λhs=>by
  have r:=h.rr hs
  exact⟨r.bs,r.cm,r.log,r.sv,r.an⟩,h.mb⟩
theorem MI.ask(hi:i<n){p:PR}(hp:p.me=i){v o f:Nat}(hv:v<=T)(ho:o<=T)(hf:f<n)(hne:f≠i){Q:Nat->PR}{x:Mg}(hx:x∈ask p v o f):MI n T g Q x:=by unfold Vr.ask at hx;simp only[List.mem_singleton]at hx;subst hx;exact MI.mk0 hf (by show p.me<n;omega) (by show p.me≠f;omega) (.inr (.inr rfl)) ⟨hv,ho,Nat.zero_le _,Nat.zero_le _⟩ ⟨rfl,rfl,rfl,rfl⟩
theorem MI.ok(hi:i<n){p:PR}(hp:p.me=i)(hv:p.vw<=T)(ho:p.op<=T){f:Nat}(hf:f<n)(hne:f≠i)(hst:g.st p.vw)(ha:p.op<=g.ack p.vw i){Q:Nat->PR}:MI n T g Q (p.toM {k:=3,vw:=p.vw,op:=p.op} f) :=
 MI.mk3 hf (by show p.me<n;omega) (by show p.me≠f;omega) rfl ⟨hv,ho,Nat.zero_le _⟩ ⟨rfl,rfl,rfl,rfl,rfl⟩ ⟨hst,by show p.op<=g.ack p.vw p.me;rw[hp];exact ha⟩
theorem RI.opT(I:GI n T g λj=>(P j).vw){Q:Nat->PR}{p:PR}(h:RI n T g Q i p):p.op<=T/\p.cm<=T/\p.bs<=T/\p.cm<=p.op:=by
 by_cases hs:p.st=2
 ·have r:=h.rr hs;have:p.op=0:=by unfold PR.op;rw[r.bs,r.log];rfl
  have:=r.bs;have:=r.cm;omega
 ·have r:=(h.ra hs).lg;have:=I.len _ r.st;have:=r.ol;have:=r.co;have:=r.bc;omega
theorem Hv(hT:T<=T')(I:GI n T g λj=>(P j).vw)(hi:i<n)(hodd:n%2=1)(h:RI n T g P i (P i)){m:Mg}(hm:MI n T g P m)(hto:m.to=i)(hk:2<=m.k/\m.k<=4):SR n T T' g P i (aX (P i) m):=by
 have hne:=hm.ne;have hfr:=hm.fr;rw[hto]at hne;have hopT:=h.opT I;have hvT:=h.vw;have hb:=hm.b;have nil:∀x,x∈([]:List Mg)->x.to<100->MI n T' g P x:=λx hx=>Oa;unfold aX;by_cases hs:(P i).st≠0
 ·rw[if_pos hs];exact SR.same hT I h nil
 rw[if_neg hs];have hs:(P i).st=0:=Nr;have r:=h.ra Nr;have hnm:=r.s0 hs;by_cases hk3:m.k=3
 ·rw[if_pos hk3];by_cases hpv:(!(P i).bF)=true\/m.vw≠(P i).vw
  ·rw[if_pos hpv];exact SR.same hT I h nil
  rw[if_neg hpv];have hp:(P i).bF=true:=by
   cases hq:(P i).bF with
   |true=>rfl
   |false=>simp[hq]at hpv
  have hv:m.vw=(P i).vw:=Nr;have hpi:=(gK h.nn h.me).1 hp;obtain⟨k1,k2⟩:=hm.k3 hk3;rw[hv]at k1 k2;obtain⟨p1,p2⟩:=r.pr Pc;rw[hnm]at p1 p2;have hQ:RI n T g P i {P i with told:=(P i).told.set m.fr (max ((P i).told.getD m.fr 0) m.op)}:=by
   refine h.Jf (by rw[List.length_set];exact h.ls.1) λj hj=>?_;rw[List.getD_eq_getElem?_getD,List.getElem?_set];have h1:=h.tl j hj;by_cases hjf:m.fr=j
   ·subst hjf;rw[if_pos rfl,if_pos (by rw[h.ls.1];exact hj)];show max _ _<=_;omega
   ·rw[if_neg hjf,<-List.getD_eq_getElem?_getD];exact h1
  simp only;generalize hQe:({P i with told:=(P i).told.set m.fr (max ((P i).told.getD m.fr 0) m.op)}:PR)=Q at hQ|-;have q1:Q.vw=(P i).vw:=Pf;have q2:Q.st=(P i).st:=Pf;have q3:Q.nc=(P i).nc:=Pf;have q4:Q.nm=(P i).nm:=Pf;have q5:Q.op=(P i).op:=by rw[<-hQe];rfl
  have hcd:Cd n g Q.nm (gV Q ((P i).op-(P i).cm) ((P i).cm+1) 0):=by
   rcases Ar Q ((P i).op-(P i).cm) ((P i).cm+1) 0 with h1|⟨j,h1,h2,h3,h4⟩
   ·rw[h1];exact Cd.zero I Nr
   ·rw[h4];have:=GJ I hi hodd hQ.nn hQ.me (by rw[q1];exact k1) hQ.tl h3 (by rw[q1,p2];omega) (by rw[q1,p2];omega);rw[q4,hnm,<-q1];exact this
  obtain⟨c1,c2,c3,c4,c5,c6,c7,c8⟩:=hQ.aq Nr hcd;have hnc:(aq Q (gV Q ((P i).op-(P i).cm) ((P i).cm+1) 0)).1.nc=Q.nc:=by unfold aq;rw[iP]
  exact SR.row hT I (by rw[c3,q1]) (by rw[c4,q2]) (by rw[hnc,q3]) c1 λx hx hx1=>by have:=c8 x hx;omega
 rw[if_neg hk3];by_cases hv1:m.vw<(P i).vw
 ·rw[if_pos hv1];exact SR.same hT I h nil
 rw[if_neg hv1];by_cases hv2:(P i).vw<m.vw
 ·rw[if_pos hv2];exact SR.same hT I h λx hx _=>MI.ask hi h.me Nr Nr hfr hne hx
 rw[if_neg hv2];have hv:m.vw=(P i).vw:=Nr;by_cases hp:(P i).bF=true
 ·rw[if_pos hp];exact SR.same hT I h nil
 rw[if_neg hp];have hnp:(P i).vw%n≠i:=λh1=>hp ((gK h.nn h.me).2 h1);by_cases hk4:m.k=4
 ·rw[if_pos hk4];by_cases hc:(P i).op<m.cm
  ·rw[if_pos hc];exact SR.same hT I h λx hx _=>MI.ask hi h.me Nr Nr hfr hne hx
  rw[if_neg hc];obtain⟨k1,k2,k3⟩:=hm.k4 hk4;rw[hv]at k3;obtain⟨c1,c2,c3,c4,c5,c6,c7,c8⟩:=h.aq (k:=m.cm) Nr (by rw[hnm];exact k3);have hnc:(aq (P i) m.cm).1.nc=(P i).nc:=by unfold aq;rw[iP]
  exact SR.row hT I c3 c4 hnc c1 λx hx hx1=>by have:=c8 x hx;omega
 rw[if_neg hk4];by_cases hop:(P i).op+1<m.op
 ·rw[if_pos hop];exact SR.same hT I h λx hx _=>MI.ask hi h.me Nr Nr hfr hne hx
 rw[if_neg hop];obtain⟨k1,k2,k3,k4,k5⟩:=hm.k2 Nr;rw[hv]at k1 k2 k4 k5;have hQ:RI n T g P i (if m.op=(P i).op+1 then {P i with log:=(P i).log++[m.en]} else P i):=by
  split
  ·rename_i he;have hopn:PR.op {P i with log:=(P i).log++[m.en]}=(P i).op+1:=Oc;have hl:=(List.getElem?_eq_some_iff.1 k4).1;have hr:=r.lg;have h2:=hr.bc;have h3:=hr.co;refine h.row Nr (l:=(P i).log++[m.en]) (s:=(P i).sv) (c:=(P i).cm) (b:=(P i).bs) ⟨hr.st,?_,hr.bc,by rw[hopn];show(P i).cm<=_;omega,by rw[hopn];have:=hr.so;show g.S (P i).nm<=_;omega,by rw[hopn,hnm];omega,hr.cd,hr.sv⟩ (λh1=>absurd (by rw[<-hnm];exact h1) hnp) (λu hu=>?_) (λh1=>by omega)
   ·rw[hopn];show(P i).log++[m.en]=_;rw[hnm];have h4:(g.M (P i).vw).take ((P i).op+1)=(g.M (P i).vw).take (P i).op++[m.en]:=by rw[he,Nat.add_sub_cancel]at k4;rw[List.take_add_one,k4];rfl
    have hlog:=hr.log;rw[hnm]at hlog;rw[h4,List.drop_append_of_le_length (by rw[List.length_take];show(P i).bs<=_;omega),<-hlog]
   ·rw[hopn];obtain⟨a1,a2⟩:=r.ak u hu;exact⟨a1,λh5=>Nat.le_succ_of_le (a2 h5)⟩
  ·exact h
 simp only;generalize hQe:(if m.op=(P i).op+1 then {P i with log:=(P i).log++[m.en]} else P i:PR)=Q at hQ|-;have q1:Q.vw=(P i).vw:=by rw[<-hQe];split<;>rfl
 have q2:Q.st=(P i).st:=by rw[<-hQe];split<;>rfl
 have q4:Q.nm=(P i).nm:=by rw[<-hQe];split<;>rfl
 obtain⟨c1,c2,c3,c4,c5,c6,c7,c8⟩:=hQ.aq (k:=m.cm) Nr (by rw[q4,hnm];exact k5);have hT2:=c1.opT I;refine SR.told hT I (by rw[c3,q1];exact Nat.le_refl _) (by rw[c4,q2];exact hs) c1 (λx hx hx1=>?_) (.inl (by rw[c3,q1];exact hnp));rcases List.mem_append.1 hx with h1|h1
 ·have:=c8 x h1;omega
 ·simp only[List.mem_singleton]at h1;subst h1;exact MI.ok hi c1.me (by rw[c3,q1];omega) Nr hfr hne (by rw[c3,q1];exact k1) (by rw[mV];exact Nat.le_max_right _ _)
end
theorem nK{n:Nat}(h:n<16384):(cK n).length<=2:=by
 by_cases h1:n<128
 ·rw[er h1];simp
 ·rw[fH h1,er Nr];simp
theorem DP{T:Nat}(hT:T<=10000){e:Ent}(he:eI T e):(fq e).length<=16:=by
 obtain⟨h1,h2,h3,h4,h5⟩:=he;unfold fq;have hs:e.t.size=1:=by rw[h5];decide
 have hd:e.t.data.toList.length=1:=by rw[h5];decide
 have a1:=nK (n:=e.c) Nr;have a2:=nK (n:=e.n) Nr;have a3:=nK (n:=e.t.size) Nr;simp only[List.length_append];omega
theorem vF{T:Nat}(hT:T<=10000):∀(l:List Ent),(∀e,e∈l->eI T e)->(l.flatMap fq).length<=16*l.length
 |[],_=>Nw
 | e::l,h=>by
   have h1:=DP hT (h e Nw);have h2:=vF hT l λx hx=>h x Pa;simp only[List.flatMap_cons,List.length_append,List.length_cons];omega
section
variable{n T T' i:Nat}{g:Gh}{P:Nat->PR}
theorem Jx(hT4:T<=10000){vw:Nat->Nat}(I:GI n T g vw)(hst:g.st v):(save (bj ((g.M v).take k))).length<=1+16*T:=by have h1:=pQ ((g.M v).take k);have h2:=vF hT4 (bj ((g.M v).take k)).l λe he=>I.ent v e hst (List.mem_of_mem_take (pR _ e he));have h3:=I.len v hst;unfold save;simp only[List.length_cons];rw[List.length_take]at h1;have:16*(bj ((g.M v).take k)).l.length<=16*T:=Nat.mul_le_mul_left _ Nr;omega
theorem LG.wh{v:Nat}{p:PR}(h:LG n g v p){m:Mg}(hm:m.img=[])(j:Nat):Wh n g v (p.toM (p.bM m) j) :=
 ⟨h.st,h.log,h.bc,h.co,h.so,h.ol,h.cd,by
  show(if 0<p.bs then save p.sv else m.img)=_
  rw[hm,h.sv];rfl⟩
theorem oZ(hT4:T<=10000)(I:GI n T g λj=>(P j).vw){Q:Nat->PR}{p:PR}(h:LG n g v p){m:Mg}(hm:m.img=[]):(p.bM m).op<=T/\(p.bM m).cm<=T/\(p.bM m).bs<=T/\(p.bM m).log.length<=T/\(p.bM m).img.length<=1+16*T:=by
 have h1:=I.len v h.st;have h2:=h.ol;have h3:=h.co;have h4:=h.bc;refine⟨by show p.op<=T;omega,by show p.cm<=T;omega,by show p.bs<=T;omega,?_,?_⟩
 ·show p.log.length<=T;have:p.log.length<=p.op:=NH;omega
 ·show(if 0<p.bs then save p.sv else m.img).length<=_;split
  ·rw[h.sv];exact Jx hT4 I h.st
  ·rw[hm];simp
theorem Bm(hT:T<=T')(hT4:T<=10000)(I:GI n T g λj=>(P j).vw)(hi:i<n)(h:RI n T g P i (P i)){m:Mg}(hm:MI n T g P m)(hto:m.to=i):SR n T T' g P i (P i,cJ (P i) m):=by
 have hne:=hm.ne;have hfr:=hm.fr;rw[hto]at hne;have hvT:=h.vw;have hb:=hm.b;refine SR.same hT I h λx hx _=>MI.mono hT ?_;unfold cJ at hx;by_cases hs:(P i).st≠0
 ·rw[if_pos hs]at hx;simp at hx
 rw[if_neg hs]at hx;have hs:(P i).st=0:=Nr;have r:=h.ra Nr;have hnm:=r.s0 hs;simp only[List.mem_singleton]at hx;by_cases hp:(P i).bF=true
 ·rw[if_pos hp]at hx;have hpi:=(gK h.nn h.me).1 hp;obtain⟨p1,p2⟩:=r.pr Pc;have hw:=r.lg.wh (m:={k:=9,vw:=(P i).vw,nc:=m.nc}) rfl m.fr;obtain⟨b1,b2,b3,b4,b5⟩:=oZ hT4 I (Q:=P) r.lg (m:={k:=9,vw:=(P i).vw,nc:=m.nc}) rfl;rw[hnm]at hw p1;subst hx;have hml:(P i).log.length=(P i).op-(P i).bs:=NH;refine⟨hfr,NT,Ob,by show 2<=9/\9<=11;omega,⟨hvT,b1,b2,b3,Nat.zero_le _,hb.2.2.2.2.2⟩,b4,b5,λh1=>?_,λh1=>?_,λh1=>?_,λh1=>?_,λh1=>?_,λ_=>⟨⟨r.lg.bc,r.lg.co,hml⟩,λ_=>⟨hw,λ_ _=>?_⟩⟩,λh1=>?_⟩
  all_goals first|exact absurd h1 (by show¬(9=_);omega)|skip
  show g.ack (P i).vw m.fr<=(P i).op;rw[p1];rcases Nat.eq_zero_or_pos (g.ack (P i).vw m.fr) with h0|h0
  ·omega
  ·exact(I.ak _ _ h0).2.1
 ·rw[if_neg hp]at hx;subst hx;refine⟨hfr,NT,Ob,by show 2<=9/\9<=11;omega,⟨hvT,Nat.zero_le _,Nat.zero_le _,Nat.zero_le _,Nat.zero_le _,hb.2.2.2.2.2⟩,Nat.zero_le _,Nat.zero_le _,λh1=>?_,λh1=>?_,λh1=>?_,λh1=>?_,λh1=>?_,λ_=>⟨⟨Nat.le_refl _,Nat.le_refl _,rfl⟩,λhpp=>?_⟩,λh1=>?_⟩
  all_goals first|exact absurd h1 (by show¬(9=_);omega)|skip
  have:(P i).me=(P i).vw%n:=hpp;exact absurd ((gK h.nn h.me).2 (by rw[<-this,h.me])) hp
theorem BK(hT:T<=T')(hT4:T<=10000)(I:GI n T g λj=>(P j).vw)(hi:i<n)(h:RI n T g P i (P i)){m:Mg}(hm:MI n T g P m)(hto:m.to=i):SR n T T' g P i (P i,bP (P i) m):=by
 have hne:=hm.ne;have hfr:=hm.fr;rw[hto]at hne;have hvT:=h.vw;have hb:=hm.b;refine SR.same hT I h λx hx _=>MI.mono hT ?_;unfold bP at hx;by_cases hc:(P i).st≠0\/m.vw≠(P i).vw\/(P i).op<m.op
 ·rw[if_pos hc]at hx;simp at hx
 rw[if_neg hc]at hx;have hs:(P i).st=0:=Nr;have hop:m.op<=(P i).op:=Nr;have r:=h.ra Nr;have hnm:=r.s0 hs;have hlg:=r.lg;rw[hnm]at hlg;simp only[List.mem_singleton]at hx;by_cases hp:m.op<(P i).bs
 ·rw[if_pos hp]at hx;have hw:=hlg.wh (m:={k:=11,vw:=(P i).vw,op:=(P i).op,cm:=(P i).cm,bs:=m.op}) rfl m.fr;obtain⟨b1,b2,b3,b4,b5⟩:=oZ hT4 I (Q:=P) hlg (m:={k:=11,vw:=(P i).vw,op:=(P i).op,cm:=(P i).cm,bs:=m.op}) rfl;subst hx;refine⟨hfr,NT,Ob,by show 2<=11/\11<=11;omega,⟨hvT,b1,b2,b3,Nat.zero_le _,Nat.zero_le _⟩,b4,b5,λh1=>?_,λh1=>?_,λh1=>?_,λh1=>?_,λh1=>?_,λh1=>?_,λ_=>⟨hlg.st,hlg.log,?_,hlg.so,hlg.ol,hlg.co,hlg.cd,.inr ⟨hw,?_⟩⟩⟩
  all_goals first|exact absurd h1 (by show¬(11=_);omega)|skip
  ·show(P i).bs<=(P i).op;have:=hlg.bc;have:=hlg.co;omega
  ·show 0<(P i).bs;omega
 ·rw[if_neg hp]at hx;subst hx;have h1:=I.len _ hlg.st;have h2:=hlg.ol;have h3:=hlg.co;have h4:=hlg.bc;have hl:dv (P i) m.op=((g.M (P i).vw).take (P i).op).drop m.op:=by unfold dv;rw[hlg.log,List.drop_drop];congr 1;omega
  refine⟨hfr,NT,Ob,by show 2<=11/\11<=11;omega,⟨hvT,by show(P i).op<=T;omega,by show(P i).cm<=T;omega,hb.2.1,Nat.zero_le _,Nat.zero_le _⟩,?_,by show([]:List UInt8).length<=_;simp,λh1=>?_,λh1=>?_,λh1=>?_,λh1=>?_,λh1=>?_,λh1=>?_,λ_=>⟨hlg.st,hl,hop,hlg.so,hlg.ol,hlg.co,hlg.cd,.inl rfl⟩⟩
  all_goals first|exact absurd h1 (by show¬(11=_);omega)|skip
  show(dv (P i) m.op).length<=T;rw[hl,List.length_drop,List.length_take];omega
theorem HV(hT:T<=T')(I:GI n T g λj=>(P j).vw)(hi:i<n)(h:RI n T g P i (P i)):SR n T T' g P i (P i,idle (P i)):=by
 have hvT:=h.vw;have hopT:=h.opT I;refine SR.same hT I h λx hx _=>MI.mono hT ?_;unfold idle at hx;by_cases hc:(P i).st≠0\/(!(P i).bF)=true
 ·rw[if_pos hc]at hx;simp at hx
 rw[if_neg hc]at hx;have hs:(P i).st=0:=Nr;have hp:(P i).bF=true:=by
  cases hq:(P i).bF with
  |true=>rfl
  |false=>simp[hq]at hc
 have hpi:=(gK h.nn h.me).1 hp;have r:=h.ra Nr;have hnm:=r.s0 hs;have hlg:=r.lg;obtain⟨p1,p2⟩:=r.pr Pc;rw[hnm]at hlg p1;by_cases hcm:(P i).cm<(P i).op
 ·rw[if_pos hcm]at hx;obtain⟨j,j1,j2,rfl⟩:=gW.1 hx;rw[h.nn]at j1;rw[h.me]at j2;refine MI.mk2 j1 NT OC rfl ⟨hvT,hopT.1,hopT.2.1⟩ ⟨rfl,rfl,rfl,rfl,rfl⟩ ⟨hlg.st,O3,by show 1<=(P i).op;omega,?_,hlg.cd⟩;show(g.M (P i).vw)[(P i).op-1]? = some ((P i).log.getLastD ⟨0,0,.empty⟩);have hl:=hlg.log;rw[p1,List.take_length]at hl;rw[p1,hl];have hlt:(g.M (P i).vw).length-1<(g.M (P i).vw).length:=Nr;have hbs:(P i).bs<=(g.M (P i).vw).length-1:=by have:=hlg.bc;omega
  rw[List.getLastD_eq_getLast?,List.getLast?_drop,if_neg Nr,List.getLast?_eq_getElem?,List.getElem?_eq_getElem hlt];rfl
 ·rw[if_neg hcm]at hx;obtain⟨j,j1,j2,rfl⟩:=gW.1 hx;rw[h.nn]at j1;rw[h.me]at j2;exact MI.mk4 j1 NT OC rfl ⟨hvT,Nat.zero_le _,hopT.2.1⟩ ⟨rfl,rfl,rfl,rfl,rfl⟩ ⟨hlg.st,O3,hlg.cd⟩
theorem Cu(hT:T<=T')(I:GI n T g λj=>(P j).vw)(h:RI n T g P i (P i))(aK:Nat):SR n T T' g P i (eO (P i) aK,[]):=by
 refine SR.row hT I (Q:=eO (P i) aK) rfl rfl rfl ?_ λm hm=>by simp at hm
 unfold eO;by_cases hs:(P i).st=2
 ·have r:=h.rr hs;have hk:max (P i).bs ((P i).cm-aK)=0:=by rw[r.bs,r.cm];simp
  have hl:dv (P i) 0=[]:=by unfold dv;rw[r.log];simp
  simp only[hk,hl];refine⟨h.me,h.nn,h.ls,h.vw,h.nc,h.st,h.nm,h.tl,λh2=>absurd hs h2,λ_=>⟨rfl,r.cm,rfl,r.sv,r.an⟩,h.mb⟩
 ·have r:=h.ra hs;have h1:=r.lg.bc;have h2:=r.lg.co;have hk1:(P i).bs<=max (P i).bs ((P i).cm-aK):=Nat.le_max_left _ _;have hk2:max (P i).bs ((P i).cm-aK)<=(P i).cm:=Nr;generalize max (P i).bs ((P i).cm-aK)=k at *;have hl:dv (P i) k=((g.M (P i).nm).take (P i).op).drop k:=by unfold dv;rw[r.lg.log,List.drop_drop];congr 1;omega
  have hop:PR.op {P i with log:=dv (P i) k,bs:=k}=(P i).op:=by have:=r.lg.ol;unfold PR.op;simp only[hl,List.length_drop,List.length_take];show k+(min ((P i).op) _-k)=(P i).op;omega
  refine h.row hs (l:=dv (P i) k) (s:=(P i).sv) (c:=(P i).cm) (b:=k) ⟨r.lg.st,?_,hk2,?_,?_,?_,r.lg.cd,r.lg.sv⟩ (λh3=>?_) (λu hu=>?_) λ_=>?_
  ·show dv (P i) k=((g.M (P i).nm).take (PR.op {P i with log:=dv (P i) k,bs:=k})).drop k;rw[hop];exact hl
  ·show(P i).cm<=PR.op {P i with log:=dv (P i) k,bs:=k};rw[hop];exact h2
  ·show _<=PR.op {P i with log:=dv (P i) k,bs:=k};rw[hop];exact r.lg.so
  ·show PR.op {P i with log:=dv (P i) k,bs:=k}<=_;rw[hop];exact r.lg.ol
  ·show PR.op {P i with log:=dv (P i) k,bs:=k}=_/\_=PR.op {P i with log:=dv (P i) k,bs:=k};rw[hop];exact r.pr h3
  ·show u<=(P i).nm/\(u=(P i).nm->g.ack u i<=PR.op {P i with log:=dv (P i) k,bs:=k});rw[hop];exact r.ak u hu
  ·exact hop
theorem vO(hn:0<n)(I:GI n T g λj=>(P j).vw)(hi:i<n)(h:RI n T g P i (P i)):SR n T (T+1) g P i (bH (P i) (T+1)):=by
 have hvT:=h.vw;have a:Adv n T g g P (upd P i (bH (P i) (T+1)).1) i:=Adv.iL (Nat.le_refl _) λ_=>.inr (Nat.lt_succ_self T);refine⟨g,a,I.iL (Nat.le_succ T) a,?_,λx hx _=>?_⟩
 ·refine⟨h.me,h.nn,?_,by show(P i).vw<=T+1;omega,Nat.le_refl _,Nat.le_refl _,Nat.zero_le _,λj hj=>?_,λh2=>absurd rfl h2,λ_=>⟨rfl,rfl,rfl,rfl,λj m hm hk=>?_⟩,λm hm=>?_⟩
  ·simp[bH,PR.new,h.nn]
  ·show(List.replicate (P i).n 0).getD j 0<=_;rw[List.getD_eq_getElem?_getD,List.getElem?_replicate];split<;>simp
  ·have hm':(List.replicate (P i).n ({}:Mg))[j]? = some m:=hm;rw[List.getElem?_replicate]at hm';split at hm'
   ·injection hm' with hm';subst hm';exact absurd rfl hk
   ·cases hm'
  ·have hm':m∈List.replicate (P i).n ({}:Mg)++List.replicate (P i).n ({}:Mg):=hm;simp only[List.mem_append,List.mem_replicate]at hm';have:m={}:=by rcases hm' with h1|h1<;>exact h1.2
   subst this;exact⟨Nat.zero_le _,Nat.zero_le _,Nat.zero_le _,Nat.zero_le _,Nat.zero_le _,Nat.zero_le _,Nat.zero_le _,Nat.zero_le _⟩
 ·have hx':x∈PR.allM (bH (P i) (T+1)).1 {k:=8,nc:=T+1}:=hx;obtain⟨j,j1,j2,rfl⟩:=gW.1 hx';have j1':j<(P i).n:=j1;have j2':j≠(P i).me:=j2;rw[h.nn]at j1';rw[h.me]at j2';exact MI.mk0 j1' NT O8 (.inr (.inl rfl)) ⟨Nat.zero_le _,Nat.zero_le _,Nat.zero_le _,Nat.le_refl _⟩ ⟨rfl,rfl,rfl,rfl⟩
end
end Vr
