/- Part 14: U79 U80 U81 U82 UY U60 U61 U62 U40. -/
import Derived.Test.YthbjaiilnkakcaaGreatDoorK13
import Derived.Laws.BitsAllLaws
import Derived.Laws.Bits64b
set_option linter.all false
set_option maxRecDepth 10000
set_option maxHeartbeats 8000000
namespace Go.Proofs.YthbjaiilnkakcaaGreatDoor
open Go.Tm Vr
variable{E:Env}(hE:EOk E)
include hE
section
variable{G:Mem}{h:ag}{L:List Rr}{Y:Nat->Prop}{g:GP}{n bD bS:Nat}{cs:List Value}(V:GV E G h L Y g.net g.down g.aJ bD bS cs g.time)(hL:L.length=n)(hP:∀i a,L[i]? = some a->a.P=g.P i)(hn:3<=n/\n<=7)(hd:g.down.length=n)(hs:g.aJ.length=9)(ht:g.time<=1000)(hb:∀c,g.aJ.getD c 0<=g.time)(hnet:g.net.length<=2000){e:Ev}(hr:(-9223372036854775808<=e.d/\e.d<=9223372036854775807)/\(-9223372036854775808<=e.a/\e.a<=9223372036854775807)/\(-9223372036854775808<=e.b/\e.b<=9223372036854775807))
variable(h1:9<e.d)
include h1
include V hL hP hn hd hs ht hb hnet hr
theorem FI(hdn:g.down.getD (evA e.a%n) false=true)(h2:e.d≠14):af E 8 [.agg cs.toArray,.agg #[.int .i64 e.d,.int .i64 e.a,.int .i64 e.b]] h λv h'=>∃G' L' Y' cs',CE E G h (gX L Y bD bS) n bD bS h' G' L' Y' (evG n g e) cs' []/\v=.tuple #[.agg cs'.toArray,.bool true]:=by
 have hW:=V.so.wf;obtain⟨aL,cL,aN,cN,rfl⟩:=V.sl;rw[hL]at V;have C1:=(((CE.start V hL hP).new hW (o:=.cells [.slice aL n cL,.slice (some ⟨bD,0,none⟩) g.down.length g.down.length,.slice aN g.net.length cN,.slice (some ⟨bS,0,none⟩) g.aJ.length g.aJ.length,iv g.time] 29 true)).new hW (o:=.cells [.int .i64 e.d,.int .i64 e.a,.int .i64 e.b] 34 true)).new hW (o:=.cells zCG 29 true);obtain⟨av,hav⟩:∃av,av=evA e.a:=⟨_,rfl⟩;obtain⟨iv0,hi0⟩:∃i,i=av%n:=⟨_,rfl⟩;have hav2:av<=9223372036854775807:=NZ;have hin:iv0<n:=NU;have e1:(av:Int).tmod (n:Int)=(iv0:Int):=by rw[Int.tmod_eq_emod_of_nonneg Nr,<-Int.natCast_emod,<-hi0]
 have hn0:((n:Int)=0)=False:=Nu;obtain⟨tv,htv⟩:∃tv,tv=g.time+1:=⟨_,rfl⟩;have e2:IntKind.i64.wrap ((g.time:Int)+1)=(tv:Int):=NG;rw[hL];refine en hE Tryz.func8 rfl rfl Tryz.ntmps8 rfl Nv (rs:=[.cell 4 29,.tmp 5]) rfl ?_;simp only[push_cast,seval,hE.z,hW.b0,hW.b1];refine gtK [2,3,4,6,7] λ_ f=>?_;simp only[push_cast,seval,gz]at f;refine CE.gen (motive:=λH=>kif E _ _ _ _ _ H) (xs:=[(h.next+1+1,_),(h.next+1,_),(h.next,_)]) C1 λH1 C1=>?_;refine dJ (λtm H=>(aj tm 2=ptr h.next/\aj tm 3=ptr (h.next+1)/\aj tm 4=ptr (h.next+1+1)/\aj tm 6=iv n/\aj tm 7=iv av)/\H=H1) ?_ ?_
 rotate_left
 ·by_cases ha:e.a<0
  ·have hda:decide (e.a<0)=true:=Od;have ev1:IntKind.i64.wrap (0-IntKind.i64.wrap (e.a+1))=(av:Int):=by have x1:IntKind.i64.wrap (e.a+1)=e.a+1:=cx Nr Nr;rw[x1,cx Nr Nr,hav];unfold evA;rw[if_pos ha];omega
   simp only[push_cast,seval,f,hda,ev1]
  ·have hda:decide (e.a<0)=false:=Od;have ev1:e.a=(av:Int):=NR;simp only[push_cast,seval,f,hda];exact congrArg (Value.int .i64) ev1
 rintro tm H ⟨f1,rfl⟩;simp only[push_cast,seval,hE.z,f1,C1.f3,e1,e2,hn0];refine gtK [2,3,4,6,7,8] λ_ f2=>?_;simp only[push_cast,seval,gz,f1]at f2;refine CE.gen (motive:=λH=>kif E _ _ _ _ _ H) (xs:=[(h.next+1+1,_),(h.next+1,_),(h.next,_)]) ((C1.put hW 2 rfl).time (tv:=tv) rfl) λH2 C2=>?_;clear C1;have hdr:=fN C2.V.so.wf C2.V.gD (i:=iv0) N4;rw[<-hav,<-hi0]at hdn;have hd1:decide (e.d<=1)=false:=Nu;have hd9:decide (e.d<=9)=false:=Nu
 have hevG:evG n g e=if g.down.getD iv0 false=true/\e.d≠14 then {g with time:=tv} else if e.d<=12 then GP.act {g with time:=tv} iv0 (nC {g with time:=tv} iv0 e)
  else if e.d=13 then if (n-1)/2<=GP.xO {g with time:=tv} n/\(g.P iv0).st≠2 then {g with time:=tv} else {g with time:=tv,down:=g.down.set iv0 true}
  else if¬g.down.getD iv0 false=true then {g with time:=tv} else GP.act {g with time:=tv,down:=g.down.set iv0 false} iv0 (bH (g.P iv0) tv):=by
  unfold evG;simp only;rw[if_neg Nr,if_neg Nr,<-hav,<-hi0,<-htv]
 rw[hdn]at hdr;have h14:(e.d != 14)=true:=Nu;simp only[push_cast,seval,hE.z,f2,C2.f3,hd1,hd9];rw[mu rfl Nr Nr,ab];simp only[push_cast,seval,hE.z,f2,C2.f3,↓hdr,Int.toNat_natCast,Nat.zero_add,Nat.mul_one,h14];rw[if_pos ⟨hdn,h2⟩]at hevG;refine⟨G,L,Y,_,?_,rfl⟩;rw[hevG];exact((C2.put hW 0 rfl).drop 3)
theorem Io{dk nk:Nat}(hdk:e.d=(dk:Int))(hnk:(nk:Int)=e.b%8)(h12:dk<=12)(hdn:g.down.getD (evA e.a%n) false=false)(hact:nJ E G h (gX L Y bD bS) n bD bS {g with time:=g.time+1} (evA e.a%n) dk nk {} (nC {g with time:=g.time+1} (evA e.a%n) e)):af E 8 [.agg cs.toArray,.agg #[.int .i64 e.d,.int .i64 e.a,.int .i64 e.b]] h λv h'=>∃G' L' Y' cs',CE E G h (gX L Y bD bS) n bD bS h' G' L' Y' (evG n g e) cs' []/\v=.tuple #[.agg cs'.toArray,.bool true]:=by
 have hW:=V.so.wf;obtain⟨aL,cL,aN,cN,rfl⟩:=V.sl;rw[hL]at V;have C1:=(((CE.start V hL hP).new hW (o:=.cells [.slice aL n cL,.slice (some ⟨bD,0,none⟩) g.down.length g.down.length,.slice aN g.net.length cN,.slice (some ⟨bS,0,none⟩) g.aJ.length g.aJ.length,iv g.time] 29 true)).new hW (o:=.cells [.int .i64 e.d,.int .i64 e.a,.int .i64 e.b] 34 true)).new hW (o:=.cells zCG 29 true);obtain⟨av,hav⟩:∃av,av=evA e.a:=⟨_,rfl⟩;obtain⟨iv0,hi0⟩:∃i,i=av%n:=⟨_,rfl⟩;have hav2:av<=9223372036854775807:=NZ;have hin:iv0<n:=NU;have e1:(av:Int).tmod (n:Int)=(iv0:Int):=by rw[Int.tmod_eq_emod_of_nonneg Nr,<-Int.natCast_emod,<-hi0]
 have hn0:((n:Int)=0)=False:=Nu;obtain⟨tv,htv⟩:∃tv,tv=g.time+1:=⟨_,rfl⟩;have e2:IntKind.i64.wrap ((g.time:Int)+1)=(tv:Int):=NG;rw[hL];refine en hE Tryz.func8 rfl rfl Tryz.ntmps8 rfl Nv (rs:=[.cell 4 29,.tmp 5]) rfl ?_;simp only[push_cast,seval,hE.z,hW.b0,hW.b1];refine gtK [2,3,4,6,7] λ_ f=>?_;simp only[push_cast,seval,gz]at f;refine CE.gen (motive:=λH=>kif E _ _ _ _ _ H) (xs:=[(h.next+1+1,_),(h.next+1,_),(h.next,_)]) C1 λH1 C1=>?_;refine dJ (λtm H=>(aj tm 2=ptr h.next/\aj tm 3=ptr (h.next+1)/\aj tm 4=ptr (h.next+1+1)/\aj tm 6=iv n/\aj tm 7=iv av)/\H=H1) ?_ ?_
 rotate_left
 ·by_cases ha:e.a<0
  ·have hda:decide (e.a<0)=true:=Od;have ev1:IntKind.i64.wrap (0-IntKind.i64.wrap (e.a+1))=(av:Int):=by have x1:IntKind.i64.wrap (e.a+1)=e.a+1:=cx Nr Nr;rw[x1,cx Nr Nr,hav];unfold evA;rw[if_pos ha];omega
   simp only[push_cast,seval,f,hda,ev1]
  ·have hda:decide (e.a<0)=false:=Od;have ev1:e.a=(av:Int):=NR;simp only[push_cast,seval,f,hda];exact congrArg (Value.int .i64) ev1
 rintro tm H ⟨f1,rfl⟩;simp only[push_cast,seval,hE.z,f1,C1.f3,e1,e2,hn0];refine gtK [2,3,4,6,7,8] λ_ f2=>?_;simp only[push_cast,seval,gz,f1]at f2;refine CE.gen (motive:=λH=>kif E _ _ _ _ _ H) (xs:=[(h.next+1+1,_),(h.next+1,_),(h.next,_)]) ((C1.put hW 2 rfl).time (tv:=tv) rfl) λH2 C2=>?_;clear C1;have hdr:=fN C2.V.so.wf C2.V.gD (i:=iv0) N4;rw[<-hav,<-hi0]at hdn;rw[<-hav,<-hi0,<-htv]at hact;have hd1:decide (e.d<=1)=false:=Nu;have hd9:decide (e.d<=9)=false:=Nu
 have hevG:evG n g e=if g.down.getD iv0 false=true/\e.d≠14 then {g with time:=tv} else if e.d<=12 then GP.act {g with time:=tv} iv0 (nC {g with time:=tv} iv0 e)
  else if e.d=13 then if (n-1)/2<=GP.xO {g with time:=tv} n/\(g.P iv0).st≠2 then {g with time:=tv} else {g with time:=tv,down:=g.down.set iv0 true}
  else if¬g.down.getD iv0 false=true then {g with time:=tv} else GP.act {g with time:=tv,down:=g.down.set iv0 false} iv0 (bH (g.P iv0) tv):=by
  unfold evG;simp only;rw[if_neg Nr,if_neg Nr,<-hav,<-hi0,<-htv]
 rw[hdn]at hdr;have h12:decide ((dk:Int)<=12)=true:=Nu;have e7:bits .and .i64 e.b 7=(nk:Int):=by rw[Mp];omega
 simp only[push_cast,seval,hE.z,f2,C2.f3,hd1,hd9];rw[mu rfl Nr Nr,ab];simp only[push_cast,seval,hE.z,f2,C2.f3,↓hdr,Int.toNat_natCast,Nat.zero_add,Nat.mul_one,h12,e7,hdk];rw[if_neg PK,if_pos Nr]at hevG;refine Go.Tm.aO [2,3,4] λ_ f3=>?_;simp only[push_cast,seval,gz,f2]at f3;refine CE.gen (motive:=λH=>af E _ _ H _) (xs:=[(h.next+1+1,_),(h.next+1,_),(h.next,_)]) C2 λH3 C3=>?_;clear C2;refine(hact.go C3 ⟨_,_,_,rfl,Fz.nil,Fz.nil,Fz.nil⟩).mono ?_;rintro v H4 ⟨G4,L4,Y4,cs4,C4,rfl⟩;obtain⟨aL4,cL4,aN4,cN4,rfl⟩:=C4.V.sl;simp only[push_cast,seval,hE.z,f3,C4.f3];refine⟨G4,L4,Y4,_,?_,rfl⟩;rw[hevG];exact((C4.put hW 0 rfl).drop 3)
theorem JE(h2:13<e.d)(hdn:g.down.getD (evA e.a%n) false=false):af E 8 [.agg cs.toArray,.agg #[.int .i64 e.d,.int .i64 e.a,.int .i64 e.b]] h λv h'=>∃G' L' Y' cs',CE E G h (gX L Y bD bS) n bD bS h' G' L' Y' (evG n g e) cs' []/\v=.tuple #[.agg cs'.toArray,.bool true]:=by
 have hW:=V.so.wf;obtain⟨aL,cL,aN,cN,rfl⟩:=V.sl;rw[hL]at V;have C1:=(((CE.start V hL hP).new hW (o:=.cells [.slice aL n cL,.slice (some ⟨bD,0,none⟩) g.down.length g.down.length,.slice aN g.net.length cN,.slice (some ⟨bS,0,none⟩) g.aJ.length g.aJ.length,iv g.time] 29 true)).new hW (o:=.cells [.int .i64 e.d,.int .i64 e.a,.int .i64 e.b] 34 true)).new hW (o:=.cells zCG 29 true);obtain⟨av,hav⟩:∃av,av=evA e.a:=⟨_,rfl⟩;obtain⟨iv0,hi0⟩:∃i,i=av%n:=⟨_,rfl⟩;have hav2:av<=9223372036854775807:=NZ;have hin:iv0<n:=NU;have e1:(av:Int).tmod (n:Int)=(iv0:Int):=by rw[Int.tmod_eq_emod_of_nonneg Nr,<-Int.natCast_emod,<-hi0]
 have hn0:((n:Int)=0)=False:=Nu;obtain⟨tv,htv⟩:∃tv,tv=g.time+1:=⟨_,rfl⟩;have e2:IntKind.i64.wrap ((g.time:Int)+1)=(tv:Int):=NG;rw[hL];refine en hE Tryz.func8 rfl rfl Tryz.ntmps8 rfl Nv (rs:=[.cell 4 29,.tmp 5]) rfl ?_;simp only[push_cast,seval,hE.z,hW.b0,hW.b1];refine gtK [2,3,4,6,7] λ_ f=>?_;simp only[push_cast,seval,gz]at f;refine CE.gen (motive:=λH=>kif E _ _ _ _ _ H) (xs:=[(h.next+1+1,_),(h.next+1,_),(h.next,_)]) C1 λH1 C1=>?_;refine dJ (λtm H=>(aj tm 2=ptr h.next/\aj tm 3=ptr (h.next+1)/\aj tm 4=ptr (h.next+1+1)/\aj tm 6=iv n/\aj tm 7=iv av)/\H=H1) ?_ ?_
 rotate_left
 ·by_cases ha:e.a<0
  ·have hda:decide (e.a<0)=true:=Od;have ev1:IntKind.i64.wrap (0-IntKind.i64.wrap (e.a+1))=(av:Int):=by have x1:IntKind.i64.wrap (e.a+1)=e.a+1:=cx Nr Nr;rw[x1,cx Nr Nr,hav];unfold evA;rw[if_pos ha];omega
   simp only[push_cast,seval,f,hda,ev1]
  ·have hda:decide (e.a<0)=false:=Od;have ev1:e.a=(av:Int):=NR;simp only[push_cast,seval,f,hda];exact congrArg (Value.int .i64) ev1
 rintro tm H ⟨f1,rfl⟩;simp only[push_cast,seval,hE.z,f1,C1.f3,e1,e2,hn0];refine gtK [2,3,4,6,7,8] λ_ f2=>?_;simp only[push_cast,seval,gz,f1]at f2;refine CE.gen (motive:=λH=>kif E _ _ _ _ _ H) (xs:=[(h.next+1+1,_),(h.next+1,_),(h.next,_)]) ((C1.put hW 2 rfl).time (tv:=tv) rfl) λH2 C2=>?_;clear C1;have hdr:=fN C2.V.so.wf C2.V.gD (i:=iv0) N4;rw[<-hav,<-hi0]at hdn;have hd1:decide (e.d<=1)=false:=Nu;have hd9:decide (e.d<=9)=false:=Nu
 have hevG:evG n g e=if g.down.getD iv0 false=true/\e.d≠14 then {g with time:=tv} else if e.d<=12 then GP.act {g with time:=tv} iv0 (nC {g with time:=tv} iv0 e)
  else if e.d=13 then if (n-1)/2<=GP.xO {g with time:=tv} n/\(g.P iv0).st≠2 then {g with time:=tv} else {g with time:=tv,down:=g.down.set iv0 true}
  else if¬g.down.getD iv0 false=true then {g with time:=tv} else GP.act {g with time:=tv,down:=g.down.set iv0 false} iv0 (bH (g.P iv0) tv):=by
  unfold evG;simp only;rw[if_neg Nr,if_neg Nr,<-hav,<-hi0,<-htv]
 rw[hdn]at hdr;have h12:decide (e.d<=12)=false:=Nu;have h13:(e.d==13)=false:=Nu;simp only[push_cast,seval,hE.z,f2,C2.f3,hd1,hd9];rw[mu rfl Nr Nr,ab];simp only[push_cast,seval,hE.z,f2,C2.f3,↓hdr,Int.toNat_natCast,Nat.zero_add,Nat.mul_one,h12,h13];rw[if_neg PK,if_neg Nr,if_neg Nr,if_pos PK]at hevG;rw[mu rfl Nr Nr,ab];simp only[push_cast,seval,hE.z,f2,C2.f3,↓hdr,Int.toNat_natCast,Nat.zero_add,Nat.mul_one];refine⟨G,L,Y,_,?_,rfl⟩;rw[hevG];exact((C2.put hW 0 rfl).drop 3)
theorem FM(h2:e.d=14)(hdn:g.down.getD (evA e.a%n) false=true)(hact:nJ E G h (gX L Y bD bS) n bD bS {g with time:=g.time+1,down:=g.down.set (evA e.a%n) false} (evA e.a%n) 13 (g.time+1) {} (bH (g.P (evA e.a%n)) (g.time+1))):af E 8 [.agg cs.toArray,.agg #[.int .i64 e.d,.int .i64 e.a,.int .i64 e.b]] h λv h'=>∃G' L' Y' cs',CE E G h (gX L Y bD bS) n bD bS h' G' L' Y' (evG n g e) cs' []/\v=.tuple #[.agg cs'.toArray,.bool true]:=by
 have hW:=V.so.wf;obtain⟨aL,cL,aN,cN,rfl⟩:=V.sl;rw[hL]at V;have C1:=(((CE.start V hL hP).new hW (o:=.cells [.slice aL n cL,.slice (some ⟨bD,0,none⟩) g.down.length g.down.length,.slice aN g.net.length cN,.slice (some ⟨bS,0,none⟩) g.aJ.length g.aJ.length,iv g.time] 29 true)).new hW (o:=.cells [.int .i64 e.d,.int .i64 e.a,.int .i64 e.b] 34 true)).new hW (o:=.cells zCG 29 true);obtain⟨av,hav⟩:∃av,av=evA e.a:=⟨_,rfl⟩;obtain⟨iv0,hi0⟩:∃i,i=av%n:=⟨_,rfl⟩;have hav2:av<=9223372036854775807:=NZ;have hin:iv0<n:=NU;have e1:(av:Int).tmod (n:Int)=(iv0:Int):=by rw[Int.tmod_eq_emod_of_nonneg Nr,<-Int.natCast_emod,<-hi0]
 have hn0:((n:Int)=0)=False:=Nu;obtain⟨tv,htv⟩:∃tv,tv=g.time+1:=⟨_,rfl⟩;have e2:IntKind.i64.wrap ((g.time:Int)+1)=(tv:Int):=NG;rw[hL];refine en hE Tryz.func8 rfl rfl Tryz.ntmps8 rfl Nv (rs:=[.cell 4 29,.tmp 5]) rfl ?_;simp only[push_cast,seval,hE.z,hW.b0,hW.b1];refine gtK [2,3,4,6,7] λ_ f=>?_;simp only[push_cast,seval,gz]at f;refine CE.gen (motive:=λH=>kif E _ _ _ _ _ H) (xs:=[(h.next+1+1,_),(h.next+1,_),(h.next,_)]) C1 λH1 C1=>?_;refine dJ (λtm H=>(aj tm 2=ptr h.next/\aj tm 3=ptr (h.next+1)/\aj tm 4=ptr (h.next+1+1)/\aj tm 6=iv n/\aj tm 7=iv av)/\H=H1) ?_ ?_
 rotate_left
 ·by_cases ha:e.a<0
  ·have hda:decide (e.a<0)=true:=Od;have ev1:IntKind.i64.wrap (0-IntKind.i64.wrap (e.a+1))=(av:Int):=by have x1:IntKind.i64.wrap (e.a+1)=e.a+1:=cx Nr Nr;rw[x1,cx Nr Nr,hav];unfold evA;rw[if_pos ha];omega
   simp only[push_cast,seval,f,hda,ev1]
  ·have hda:decide (e.a<0)=false:=Od;have ev1:e.a=(av:Int):=NR;simp only[push_cast,seval,f,hda];exact congrArg (Value.int .i64) ev1
 rintro tm H ⟨f1,rfl⟩;simp only[push_cast,seval,hE.z,f1,C1.f3,e1,e2,hn0];refine gtK [2,3,4,6,7,8] λ_ f2=>?_;simp only[push_cast,seval,gz,f1]at f2;refine CE.gen (motive:=λH=>kif E _ _ _ _ _ H) (xs:=[(h.next+1+1,_),(h.next+1,_),(h.next,_)]) ((C1.put hW 2 rfl).time (tv:=tv) rfl) λH2 C2=>?_;clear C1;have hdr:=fN C2.V.so.wf C2.V.gD (i:=iv0) N4;rw[<-hav,<-hi0]at hdn;rw[<-hav,<-hi0,<-htv]at hact;have hd1:decide (e.d<=1)=false:=Nu;have hd9:decide (e.d<=9)=false:=Nu
 have hevG:evG n g e=if g.down.getD iv0 false=true/\e.d≠14 then {g with time:=tv} else if e.d<=12 then GP.act {g with time:=tv} iv0 (nC {g with time:=tv} iv0 e)
  else if e.d=13 then if (n-1)/2<=GP.xO {g with time:=tv} n/\(g.P iv0).st≠2 then {g with time:=tv} else {g with time:=tv,down:=g.down.set iv0 true}
  else if¬g.down.getD iv0 false=true then {g with time:=tv} else GP.act {g with time:=tv,down:=g.down.set iv0 false} iv0 (bH (g.P iv0) tv):=by
  unfold evG;simp only;rw[if_neg Nr,if_neg Nr,<-hav,<-hi0,<-htv]
 rw[hdn]at hdr;have hd14:(e.d != 14)=false:=Pg;have h12:decide (e.d<=12)=false:=Nu;have h13:(e.d==13)=false:=Nu;simp only[push_cast,seval,hE.z,f2,C2.f3,hd1,hd9];rw[mu rfl Nr Nr,ab];simp only[push_cast,seval,hE.z,f2,C2.f3,↓hdr,Int.toNat_natCast,Nat.zero_add,Nat.mul_one,h12,h13,hd14];rw[if_neg Nr,if_neg Nr,if_neg Nr,if_neg PK]at hevG;have hdw:=uq (x:=false) C2.V.gD (i:=iv0) N4;rw[mu rfl Nr Nr,ab];simp only[push_cast,seval,hE.z,f2,C2.f3,↓hdr,Int.toNat_natCast,Nat.zero_add,Nat.mul_one];rw[mu rfl Nr Nr,ab];have hb2:=C2.dB 2 rfl;simp only[push_cast,seval,hE.P,f2,C2.f3,hdw,hb2,Int.toNat_natCast,Nat.zero_add,Nat.mul_one];refine Go.Tm.aO [2,3,4] λ_ f3=>?_;simp only[push_cast,seval,gz,f2]at f3;refine CE.gen (motive:=λH=>af E _ _ H _) (xs:=[(h.next+1+1,_),(h.next+1,_),(h.next,_)]) (C2.down hW (g.down.set iv0 false) Nw) λH3 C3=>?_;clear C2;refine(hact.go C3 ⟨_,_,_,rfl,Fz.nil,Fz.nil,Fz.nil⟩).mono ?_;rintro v H4 ⟨G4,L4,Y4,cs4,C4,rfl⟩;obtain⟨aL4,cL4,aN4,cN4,rfl⟩:=C4.V.sl;simp only[push_cast,seval,hE.z,f3,C4.f3];refine⟨G4,L4,Y4,_,?_,rfl⟩;rw[hevG];exact((C4.put hW 0 rfl).drop 3)
end
section
variable{G G':Mem}{h H:ag}{Z:Nat->Prop}{n bD bS:Nat}{L:List Rr}{Y:Nat->Prop}{g:GP}{cs:List Value}{xs:List (Nat×bz)}(c:CE E G h Z n bD bS H G' L Y g cs xs)(hW:WF E h)
include c hW
theorem JJ(hd:g.down.length=n)(hn:n<=7):af E 20 [.agg cs.toArray] H λv h'=>v=iv (g.xO n)/\KW E H h':=by
 obtain⟨aL,cL,aN,cN,rfl⟩:=c.V.sl;rw[c.hL]at c;have c1:=c.new hW (o:=.cells [.slice aL n cL,.slice (some ⟨bD,0,none⟩) g.down.length g.down.length,.slice aN g.net.length cN,.slice (some ⟨bS,0,none⟩) g.aJ.length g.aJ.length,iv g.time] 29 true);have k1:=(KW.refl c.V.so.wf).push (o:=.cells [.slice aL n cL,.slice (some ⟨bD,0,none⟩) g.down.length g.down.length,.slice aN g.net.length cN,.slice (some ⟨bS,0,none⟩) g.aJ.length g.aJ.length,iv g.time] 29 true);rw[c.hL];refine en hE Tryz.func20 rfl rfl Tryz.ntmps20 rfl Nv (rs:=[.tmp 2]) rfl ?_;simp only[push_cast,seval,hE.z];refine gtm (motive:=wpc E _ _) [1,3,4] λ_ f=>?_;simp only[push_cast,seval,gz]at f;refine cR (motive:=λH=>wpc E _ _ _ H) (λH1=>CE E G h Z n bD bS H1 G' L Y g _ ((H.next,_)::xs)/\KW E H H1) ⟨c1,k1⟩ ?_;clear c1 k1;rintro H1 ⟨c1,k1⟩;have g1:=c1.at 0 rfl;obtain⟨p,hp⟩:∃p:Nat->Bool,p=λi=>g.down.getD i false||(g.P i).st==2:=⟨_,rfl⟩;refine bG (λk tm H'=>∃i,k=n-i/\i<=n/\(aj tm 1=ptr H.next/\aj tm 3=iv (cnt i p)/\aj tm 4=iv i)/\H'=H1) n ?_ ?_
 ·simp only[push_cast,seval,f];exact⟨0,rfl,Nat.zero_le _,rfl,rfl⟩
 ·rintro k tm H' ⟨i,rfl,hi,f2,rfl⟩;by_cases hlt:i<n
  ·have hd1:decide ((i:Int)<(n:Int))=true:=Nu;have hdr:=fN c1.V.so.wf c1.V.gD (i:=i) Nr;obtain⟨bL,cap,a,e1,hac,_,_,hpr⟩:=c1.node (i:=i) hlt rfl;injection e1 with e1 _ e2;subst e1;subst e2;obtain⟨a1,c1',a2,c2,a3,c3,a4,c4,a5,c5,a6,c6,a7,c7,ct,cc,ca,hcs,_⟩:=hpr.e;rw[hcs]at hac;have p5:=aY hac 5 1 Nr;simp only[List.drop_succ_cons,List.drop_zero,List.take_succ_cons,List.take_zero]at p5;have hsu:=gU i p;have hwi:IntKind.i64.wrap ((i:Int)+1)=((i+1:Nat):Int):=NJ;have hcl:=KD i p;have hwc:IntKind.i64.wrap ((cnt i p:Int)+1)=((cnt i p+1:Nat):Int):=NJ;simp only[push_cast,seval,hE.z,f2,g1,hd1];rw[mu rfl Nr Nr,ab];simp only[push_cast,seval,hE.z,↓hdr,Int.toNat_natCast,Nat.zero_add,Nat.mul_one];cases hdn:g.down.getD i false
   ·simp only[push_cast,seval,hE.z,f2,g1];rw[pK rfl Nr Nr,ab];simp only[push_cast,seval,hE.z,↓p5,Int.toNat_natCast,Nat.zero_add];by_cases h2:(g.P i).st=2
    ·have hs2:(((g.P i).st:Int)==2)=true:=Pg;have hpi:p i=true:=by rw[hp];simp[h2]
     rw[hpi,if_pos rfl]at hsu;simp only[push_cast,seval,f2,hs2];refine⟨n-(i+1),Nr,i+1,rfl,Nr,?_,?_⟩
     ·rw[hwc,hsu]
     ·rw[hwi]
    ·have hs2:(((g.P i).st:Int)==2)=false:=NF;have hpi:p i=false:=by rw[hp];show(g.down.getD i false||((g.P i).st==2))=false;rw[hdn];simp[h2]
     rw[hpi,if_neg Nw]at hsu;simp only[push_cast,seval,f2,hs2];refine⟨n-(i+1),Nr,i+1,rfl,Nr,?_,?_⟩
     ·rw[hsu];rfl
     ·rw[hwi]
   ·simp only[push_cast,seval,f2];have hpi:p i=true:=by rw[hp];show(g.down.getD i false||((g.P i).st==2))=true;rw[hdn];rfl
    rw[hpi,if_pos rfl]at hsu;refine⟨n-(i+1),Nr,i+1,rfl,Nr,?_,?_⟩
    ·rw[hwc,hsu]
    ·rw[hwi]
  ·have hd1:decide ((i:Int)<(n:Int))=false:=Nu;simp only[push_cast,seval,hE.z,f2,g1,hd1];have hin:i=n:=Nr;subst hin;exact⟨by rw[hp];rfl,k1⟩
end
section
variable{G:Mem}{h:ag}{L:List Rr}{Y:Nat->Prop}{g:GP}{n bD bS:Nat}{cs:List Value}(V:GV E G h L Y g.net g.down g.aJ bD bS cs g.time)(hL:L.length=n)(hP:∀i a,L[i]? = some a->a.P=g.P i)(hn:3<=n/\n<=7)(hd:g.down.length=n)(hs:g.aJ.length=9)(ht:g.time<=1000)(hb:∀c,g.aJ.getD c 0<=g.time)(hnet:g.net.length<=2000){e:Ev}(hr:(-9223372036854775808<=e.d/\e.d<=9223372036854775807)/\(-9223372036854775808<=e.a/\e.a<=9223372036854775807)/\(-9223372036854775808<=e.b/\e.b<=9223372036854775807))
variable(h1:9<e.d)
include h1
include V hL hP hn hd hs ht hb hnet hr
theorem FK(h2:e.d=13)(hdn:g.down.getD (evA e.a%n) false=false):af E 8 [.agg cs.toArray,.agg #[.int .i64 e.d,.int .i64 e.a,.int .i64 e.b]] h λv h'=>∃G' L' Y' cs',CE E G h (gX L Y bD bS) n bD bS h' G' L' Y' (evG n g e) cs' []/\v=.tuple #[.agg cs'.toArray,.bool true]:=by
 have hW:=V.so.wf;obtain⟨aL,cL,aN,cN,rfl⟩:=V.sl;rw[hL]at V;have C1:=(((CE.start V hL hP).new hW (o:=.cells [.slice aL n cL,.slice (some ⟨bD,0,none⟩) g.down.length g.down.length,.slice aN g.net.length cN,.slice (some ⟨bS,0,none⟩) g.aJ.length g.aJ.length,iv g.time] 29 true)).new hW (o:=.cells [.int .i64 e.d,.int .i64 e.a,.int .i64 e.b] 34 true)).new hW (o:=.cells zCG 29 true);obtain⟨av,hav⟩:∃av,av=evA e.a:=⟨_,rfl⟩;obtain⟨iv0,hi0⟩:∃i,i=av%n:=⟨_,rfl⟩;have hav2:av<=9223372036854775807:=NZ;have hin:iv0<n:=NU;have e1:(av:Int).tmod (n:Int)=(iv0:Int):=by rw[Int.tmod_eq_emod_of_nonneg Nr,<-Int.natCast_emod,<-hi0]
 have hn0:((n:Int)=0)=False:=Nu;obtain⟨tv,htv⟩:∃tv,tv=g.time+1:=⟨_,rfl⟩;have e2:IntKind.i64.wrap ((g.time:Int)+1)=(tv:Int):=NG;rw[hL];refine en hE Tryz.func8 rfl rfl Tryz.ntmps8 rfl Nv (rs:=[.cell 4 29,.tmp 5]) rfl ?_;simp only[push_cast,seval,hE.z,hW.b0,hW.b1];refine gtK [2,3,4,6,7] λ_ f=>?_;simp only[push_cast,seval,gz]at f;refine CE.gen (motive:=λH=>kif E _ _ _ _ _ H) (xs:=[(h.next+1+1,_),(h.next+1,_),(h.next,_)]) C1 λH1 C1=>?_;refine dJ (λtm H=>(aj tm 2=ptr h.next/\aj tm 3=ptr (h.next+1)/\aj tm 4=ptr (h.next+1+1)/\aj tm 6=iv n/\aj tm 7=iv av)/\H=H1) ?_ ?_
 rotate_left
 ·by_cases ha:e.a<0
  ·have hda:decide (e.a<0)=true:=Od;have ev1:IntKind.i64.wrap (0-IntKind.i64.wrap (e.a+1))=(av:Int):=by have x1:IntKind.i64.wrap (e.a+1)=e.a+1:=cx Nr Nr;rw[x1,cx Nr Nr,hav];unfold evA;rw[if_pos ha];omega
   simp only[push_cast,seval,f,hda,ev1]
  ·have hda:decide (e.a<0)=false:=Od;have ev1:e.a=(av:Int):=NR;simp only[push_cast,seval,f,hda];exact congrArg (Value.int .i64) ev1
 rintro tm H ⟨f1,rfl⟩;simp only[push_cast,seval,hE.z,f1,C1.f3,e1,e2,hn0];refine gtK [2,3,4,6,7,8] λ_ f2=>?_;simp only[push_cast,seval,gz,f1]at f2;refine CE.gen (motive:=λH=>kif E _ _ _ _ _ H) (xs:=[(h.next+1+1,_),(h.next+1,_),(h.next,_)]) ((C1.put hW 2 rfl).time (tv:=tv) rfl) λH2 C2=>?_;clear C1;have hdr:=fN C2.V.so.wf C2.V.gD (i:=iv0) N4;rw[<-hav,<-hi0]at hdn;have hd1:decide (e.d<=1)=false:=Nu;have hd9:decide (e.d<=9)=false:=Nu
 have hevG:evG n g e=if g.down.getD iv0 false=true/\e.d≠14 then {g with time:=tv} else if e.d<=12 then GP.act {g with time:=tv} iv0 (nC {g with time:=tv} iv0 e)
  else if e.d=13 then if (n-1)/2<=GP.xO {g with time:=tv} n/\(g.P iv0).st≠2 then {g with time:=tv} else {g with time:=tv,down:=g.down.set iv0 true}
  else if¬g.down.getD iv0 false=true then {g with time:=tv} else GP.act {g with time:=tv,down:=g.down.set iv0 false} iv0 (bH (g.P iv0) tv):=by
  unfold evG;simp only;rw[if_neg Nr,if_neg Nr,<-hav,<-hi0,<-htv]
 rw[hdn]at hdr;have h12:decide (e.d<=12)=false:=Nu;have h13:(e.d==13)=true:=Pg;simp only[push_cast,seval,hE.z,f2,C2.f3,hd1,hd9];rw[mu rfl Nr Nr,ab];simp only[push_cast,seval,hE.z,f2,C2.f3,↓hdr,Int.toNat_natCast,Nat.zero_add,Nat.mul_one,h12,h13];rw[if_neg PK,if_neg Nr,if_pos h2]at hevG;refine Go.Tm.aO [2,3,4,6,8] λ_ f3=>?_;simp only[push_cast,seval,gz,f2]at f3;refine CE.gen (motive:=λH=>af E _ _ H _) (xs:=[(h.next+1+1,_),(h.next+1,_),(h.next,_)]) C2 λH3 C3=>?_;clear C2;refine(JJ hE C3 hW hd hn.2).mono ?_;rintro v H4 ⟨rfl,k4⟩;have C4:=C3.kw hW k4;have hdw:=uq (x:=true) C4.V.gD (i:=iv0) N4;obtain⟨aw,haw⟩:∃aw,aw=GP.xO {g with time:=tv} n:=⟨_,rfl⟩;rw[<-haw]at hevG|-;have ea:IntKind.i64.wrap ((n:Int)-1)=(n:Int)-1:=cx Nr Nr;have eb':((n:Int)-1).tdiv 2=(((n-1)/2:Nat):Int):=by rw[Int.tdiv_eq_ediv_of_nonneg (by omega)];omega
 obtain⟨hf,hhf⟩:∃hf,hf=(n-1)/2:=⟨_,rfl⟩;rw[<-hhf]at hevG eb';have ew:IntKind.i64.wrap (hf:Int)=(hf:Int):=cx Nr Nr;obtain⟨bL,cap,a,e3,hac,_,_,hpr⟩:=C4.node (i:=iv0) hin rfl;injection e3 with e3 _ e4;subst e3;subst e4;obtain⟨a1,c1',a2,c2,a3,c3,a4,c4,a5,c5,a6,c6,a7,c7,ct,cc,ca,hcs,_⟩:=hpr.e;rw[hcs]at hac;have p5:=aY hac 5 1 Nr;simp only[List.drop_succ_cons,List.drop_zero,List.take_succ_cons,List.take_zero]at p5;have hb0:=C4.dB 0 rfl;have hb2:=C4.dB 2 rfl;by_cases ha1:hf<=aw
 ·have hg1:decide ((aw:Int)>=(hf:Int))=true:=Nu;simp only[push_cast,seval,hE.z,f3,C4.f3,ea,eb',ew,hg1];rw[pK rfl Nr Nr,ab];by_cases hst:(g.P iv0).st=2
  ·have hg2:(((g.P iv0).st:Int) != 2)=false:=NV;rw[if_neg (λx=>x.2 hst)]at hevG;simp only[push_cast,seval,hE.z,f3,C4.f3,↓p5,Int.toNat_natCast,Nat.zero_add,hg2];rw[mu rfl Nr Nr,ab];simp only[push_cast,seval,hE.P,f3,C4.f3,hdw,hb2,Int.toNat_natCast,Nat.zero_add,Nat.mul_one];simp only[push_cast,seval,hE.z,f3,C4.f3,hb0];refine⟨G,L,Y,_,?_,rfl⟩;rw[hevG];exact((C4.down hW (g.down.set iv0 true) Nw).put hW 0 rfl).drop 3
  ·have hg2:(((g.P iv0).st:Int) != 2)=true:=Nu;rw[if_pos ⟨ha1,hst⟩]at hevG;simp only[push_cast,seval,hE.z,f3,C4.f3,↓p5,Int.toNat_natCast,Nat.zero_add,hg2];refine⟨G,L,Y,_,?_,rfl⟩;rw[hevG];exact((C4.put hW 0 rfl).drop 3)
 ·have hg1:decide ((aw:Int)>=(hf:Int))=false:=Nu;rw[if_neg (λx=>ha1 x.1)]at hevG;simp only[push_cast,seval,hE.z,f3,C4.f3,ea,eb',ew,hg1];rw[mu rfl Nr Nr,ab];simp only[push_cast,seval,hE.P,f3,C4.f3,hdw,hb2,Int.toNat_natCast,Nat.zero_add,Nat.mul_one];simp only[push_cast,seval,hE.z,f3,C4.f3,hb0];refine⟨G,L,Y,_,?_,rfl⟩;rw[hevG];exact((C4.down hW (g.down.set iv0 true) Nw).put hW 0 rfl).drop 3
end
section
variable{G:Mem}{h:ag}{L:List Rr}{Y:Nat->Prop}{g:GP}{n bD bS:Nat}{cs:List Value}(V:GV E G h L Y g.net g.down g.aJ bD bS cs g.time)(hL:L.length=n)(hP:∀i a,L[i]? = some a->a.P=g.P i)(hn:3<=n/\n<=7)(hd:g.down.length=n)(hs:g.aJ.length=9)(ht:g.time<=1000)(hb:∀c,g.aJ.getD c 0<=g.time)(hnet:g.net.length<=2000){e:Ev}(hr:(-9223372036854775808<=e.d/\e.d<=9223372036854775807)/\(-9223372036854775808<=e.a/\e.a<=9223372036854775807)/\(-9223372036854775808<=e.b/\e.b<=9223372036854775807))
variable(h1:e.d<=1)
include h1
include V hL hP hn hd hs ht hb hnet hr
theorem Im(hact:∀c sn,c=1+(e.b%4).toNat->sn=(ev1 g e).aJ.getD c 0->0<sn->nJ E G h (gX L Y bD bS) n bD bS (ev1 g e) (evA e.a%n) 0 0 (iN (evA e.a%n) c sn) (bX ((ev1 g e).P (evA e.a%n)) (iN (evA e.a%n) c sn))):af E 8 [.agg cs.toArray,.agg #[.int .i64 e.d,.int .i64 e.a,.int .i64 e.b]] h λv h'=>∃G' L' Y' cs',CE E G h (gX L Y bD bS) n bD bS h' G' L' Y' (evG n g e) cs' []/\v=.tuple #[.agg cs'.toArray,.bool true]:=by
 have hW:=V.so.wf;obtain⟨aL,cL,aN,cN,rfl⟩:=V.sl;rw[hL]at V;have C1:=(((CE.start V hL hP).new hW (o:=.cells [.slice aL n cL,.slice (some ⟨bD,0,none⟩) g.down.length g.down.length,.slice aN g.net.length cN,.slice (some ⟨bS,0,none⟩) g.aJ.length g.aJ.length,iv g.time] 29 true)).new hW (o:=.cells [.int .i64 e.d,.int .i64 e.a,.int .i64 e.b] 34 true)).new hW (o:=.cells zCG 29 true);obtain⟨av,hav⟩:∃av,av=evA e.a:=⟨_,rfl⟩;obtain⟨iv0,hi0⟩:∃i,i=av%n:=⟨_,rfl⟩;have hav2:av<=9223372036854775807:=NZ;have hin:iv0<n:=NU;have e1:(av:Int).tmod (n:Int)=(iv0:Int):=by rw[Int.tmod_eq_emod_of_nonneg Nr,<-Int.natCast_emod,<-hi0]
 have hn0:((n:Int)=0)=False:=Nu;obtain⟨tv,htv⟩:∃tv,tv=g.time+1:=⟨_,rfl⟩;have e2:IntKind.i64.wrap ((g.time:Int)+1)=(tv:Int):=NG;rw[hL];refine en hE Tryz.func8 rfl rfl Tryz.ntmps8 rfl Nv (rs:=[.cell 4 29,.tmp 5]) rfl ?_;simp only[push_cast,seval,hE.z,hW.b0,hW.b1];refine gtK [2,3,4,6,7] λ_ f=>?_;simp only[push_cast,seval,gz]at f;refine CE.gen (motive:=λH=>kif E _ _ _ _ _ H) (xs:=[(h.next+1+1,_),(h.next+1,_),(h.next,_)]) C1 λH1 C1=>?_;refine dJ (λtm H=>(aj tm 2=ptr h.next/\aj tm 3=ptr (h.next+1)/\aj tm 4=ptr (h.next+1+1)/\aj tm 6=iv n/\aj tm 7=iv av)/\H=H1) ?_ ?_
 rotate_left
 ·by_cases ha:e.a<0
  ·have hda:decide (e.a<0)=true:=Od;have ev1:IntKind.i64.wrap (0-IntKind.i64.wrap (e.a+1))=(av:Int):=by have x1:IntKind.i64.wrap (e.a+1)=e.a+1:=cx Nr Nr;rw[x1,cx Nr Nr,hav];unfold evA;rw[if_pos ha];omega
   simp only[push_cast,seval,f,hda,ev1]
  ·have hda:decide (e.a<0)=false:=Od;have ev1:e.a=(av:Int):=NR;simp only[push_cast,seval,f,hda];exact congrArg (Value.int .i64) ev1
 rintro tm H ⟨f1,rfl⟩;simp only[push_cast,seval,hE.z,f1,C1.f3,e1,e2,hn0];refine gtK [2,3,4,6,7,8] λ_ f2=>?_;simp only[push_cast,seval,gz,f1]at f2;refine CE.gen (motive:=λH=>kif E _ _ _ _ _ H) (xs:=[(h.next+1+1,_),(h.next+1,_),(h.next,_)]) ((C1.put hW 2 rfl).time (tv:=tv) rfl) λH2 C2=>?_;clear C1;have hdr:=fN C2.V.so.wf C2.V.gD (i:=iv0) N4;rw[<-hav,<-hi0]at hact;have hd1:decide (e.d<=1)=true:=Nu;obtain⟨c1,hc1⟩:∃c1,c1=(e.b%4).toNat:=⟨_,rfl⟩;obtain⟨c,hc⟩:∃c,c=1+c1:=⟨_,rfl⟩;have hc4:c<9/\1<=c/\c<=4:=Nr;have e4:bits .and .i64 e.b 3=(c1:Int):=by rw[Aw];omega
 have e5:IntKind.i64.wrap (1+(c1:Int))=(c:Int):=NG;obtain⟨g1,hg1⟩:∃g1,g1=ev1 g e:=⟨_,rfl⟩;rw[<-hg1]at hact;have hcc:1+(e.b%4).toNat=c:=Nr;have hbc:=hb c;have q1:g1.P=g.P/\g1.net=g.net/\g1.down=g.down/\g1.time=tv/\g1.aJ=(if e.d=0 then g.aJ.set c (g.aJ.getD c 0+1) else g.aJ):=by rw[hg1,<-hcc,htv];exact⟨rfl,rfl,rfl,rfl,rfl⟩
 obtain⟨q1,q2,q3,q4,q5⟩:=q1;have q6:g1.aJ.length=9:=by rw[q5];split<;>simp[hs]
 have q7:g1.aJ.getD c 0<=1001:=by
  rw[q5];split
  ·rw[List.getD_eq_getElem?_getD,List.getElem?_set,if_pos rfl,if_pos Nr];show g.aJ.getD c 0+1<=1001;omega
  ·omega
 have hevG:evG n g e=if g1.down.getD iv0 false=true\/g1.aJ.getD c 0=0 then g1 else g1.act iv0 (bX (g1.P iv0) (iN iv0 c (g1.aJ.getD c 0))):=by unfold evG;simp only;rw[if_pos h1];unfold Ag;simp only;rw[<-hg1,hcc,<-hav,<-hi0]
 have hrd:=fV (L:=g.aJ) (rest:=[]) (i:=c) C2.V.so.wf (by simpa using C2.V.gS) Nr;obtain⟨ns,hns⟩:∃ns,ns=g.aJ.getD c 0+1:=⟨_,rfl⟩;have hwn:IntKind.i64.wrap ((g.aJ.getD c 0:Int)+1)=(ns:Int):=NG;have hwr:=iw (x:=ns) (L:=g.aJ) (rest:=[]) (i:=c) (by simpa using C2.V.gS) Nr;rw[List.append_nil]at hwr;simp only[push_cast,seval,hE.z,f2,C2.f3,hd1,e4,e5];refine gtK [2,3,4,6,7,8,9] λ_ f3=>?_;simp only[push_cast,seval,gz,f2]at f3;refine dJ (λtm H=>(aj tm 2=ptr h.next/\aj tm 3=ptr (h.next+1)/\aj tm 4=ptr (h.next+1+1)/\aj tm 8=iv iv0/\aj tm 9=iv c)/\CE E G h (gX L Y bD bS) n bD bS H G L Y g1 [.slice aL n cL,.slice (some ⟨bD,0,none⟩) g.down.length g.down.length,.slice aN g.net.length cN,.slice (some ⟨bS,0,none⟩) g.aJ.length g.aJ.length,iv tv] [(h.next+1+1,.cells zCG 29 true),(h.next+1,.cells [.int .i64 e.d,.int .i64 e.a,.int .i64 e.b] 34 true),(h.next,.cells [.slice aL n cL,.slice (some ⟨bD,0,none⟩) g.down.length g.down.length,.slice aN g.net.length cN,.slice (some ⟨bS,0,none⟩) g.aJ.length g.aJ.length,iv tv] 29 true)]) ?_ ?_
 rotate_left
 ·by_cases h0:e.d=0
  ·have hda:(e.d==0)=true:=Ox;rw[if_pos h0,<-hns]at q5;simp only[push_cast,seval,hE.z,f3,C2.f3,hda];rw[jQ rfl Nr Nr,ab];simp only[push_cast,seval,hE.z,↓hrd,Int.toNat_natCast,Nat.zero_add,Nat.mul_one,hwn];rw[jQ rfl Nr Nr,ab];simp only[push_cast,seval,hE.P,f3,hwr,Int.toNat_natCast,Nat.zero_add,Nat.mul_one];exact(C2.aJ hW (g.aJ.set c ns) Nw).asx q1 q2 q3 q5 q4
  ·have hda:(e.d==0)=false:=Ox;rw[if_neg h0]at q5;simp only[push_cast,seval,f3,hda];exact C2.asx q1 q2 q3 q5 q4
 clear hrd hwr hdr C2;rintro tm H ⟨f4,C3⟩;have hdr:=fN C3.V.so.wf C3.V.gD (i:=iv0) (by rw[q3];omega);have hrd:=fV (L:=g1.aJ) (rest:=[]) (i:=c) C3.V.so.wf (by simpa using C3.V.gS) Nr;obtain⟨sn,hsn⟩:∃sn,sn=g1.aJ.getD c 0:=⟨_,rfl⟩;rw[<-hsn]at hrd hevG q7;simp only[push_cast,seval,hE.z,f4,C3.f3];rw[mu rfl Nr Nr,ab];simp only[push_cast,seval,hE.z,↓hdr,Int.toNat_natCast,Nat.zero_add,Nat.mul_one];cases hdn:g1.down.getD iv0 false
 ·by_cases hz:sn=0
  ·have hz1:((sn:Int)==0)=true:=by simp[hz]
   rw[if_pos (.inr hz)]at hevG;simp only[push_cast,seval,hE.z,f4,C3.f3];rw[jQ rfl Nr Nr,ab];simp only[push_cast,seval,hE.z,f4,C3.f3,↓hrd,Int.toNat_natCast,Nat.zero_add,Nat.mul_one,hz1];refine⟨G,L,Y,_,?_,rfl⟩;rw[hevG];exact((C3.put hW 0 rfl).drop 3)
  ·have hz1:((sn:Int)==0)=false:=by simp[hz]
   rw[if_neg (by rintro(x|x);exact absurd x (by rw[hdn];simp);exact hz x)]at hevG;simp only[push_cast,seval,hE.z,f4,C3.f3];rw[jQ rfl Nr Nr,ab];simp only[push_cast,seval,hE.z,↓hrd,Int.toNat_natCast,Nat.zero_add,Nat.mul_one,hz1];refine gtA [2,4,8,9] λ_ f5=>?_;simp only[push_cast,seval,gz,f4]at f5;refine aB [(0,9)] Nt Nt Nt ?_;simp only[push_cast,seval,hE.z,f5,C3.f3];rw[jQ rfl Nr Nr,ab];simp only[push_cast,seval,hE.z,↓hrd,Int.toNat_natCast,Nat.zero_add,Nat.mul_one];refine(Hj hE C3.V.so.wf (to:=iv0) (c:=c) (n:=sn) Nr).mono ?_;rintro v5 H5 ⟨k5,ms,rfl,hms⟩;have C5:=C3.kw hW k5;have hm0:=hms G;obtain⟨b1,d1,b2,d2,b3,d3,hmsE,_⟩:=hm0.e;subst hmsE;simp only[push_cast,seval,hE.z];refine((hact c sn hcc.symm hsn Nr).go C5 hm0).mono ?_;rintro v6 H6 ⟨G6,L6,Y6,cs6,C6,rfl⟩;obtain⟨aL6,cL6,aN6,cN6,rfl⟩:=C6.V.sl;simp only[push_cast,seval,hE.z,f5,C3.f3,C5.f3,C6.f3,aV,bp,aU,aW,ba];refine⟨G6,L6,Y6,_,?_,rfl⟩;rw[hevG];exact((C6.put hW 0 rfl).drop 3)
 ·rw[if_pos (.inl hdn)]at hevG;simp only[push_cast,seval,hE.z,f4,C3.f3];refine⟨G,L,Y,_,?_,rfl⟩;rw[hevG];exact((C3.put hW 0 rfl).drop 3)
end
section
variable{G:Mem}{h:ag}{L:List Rr}{Y:Nat->Prop}{g:GP}{n bD bS:Nat}{cs:List Value}(V:GV E G h L Y g.net g.down g.aJ bD bS cs g.time)(hL:L.length=n)(hP:∀i a,L[i]? = some a->a.P=g.P i)(hn:3<=n/\n<=7)(hd:g.down.length=n)(hs:g.aJ.length=9)(ht:g.time<=1000)(hb:∀c,g.aJ.getD c 0<=g.time)(hnet:g.net.length<=2000){e:Ev}(hr:(-9223372036854775808<=e.d/\e.d<=9223372036854775807)/\(-9223372036854775808<=e.a/\e.a<=9223372036854775807)/\(-9223372036854775808<=e.b/\e.b<=9223372036854775807))
variable(h1:1<e.d)(h9:e.d<=9)
include h1 h9
include V hL hP hn hd hs ht hb hnet hr
theorem FJ(h2:g.net=[]):af E 8 [.agg cs.toArray,.agg #[.int .i64 e.d,.int .i64 e.a,.int .i64 e.b]] h λv h'=>∃G' L' Y' cs',CE E G h (gX L Y bD bS) n bD bS h' G' L' Y' (evG n g e) cs' []/\v=.tuple #[.agg cs'.toArray,.bool true]:=by
 have hW:=V.so.wf;obtain⟨aL,cL,aN,cN,rfl⟩:=V.sl;rw[hL]at V;have C1:=(((CE.start V hL hP).new hW (o:=.cells [.slice aL n cL,.slice (some ⟨bD,0,none⟩) g.down.length g.down.length,.slice aN g.net.length cN,.slice (some ⟨bS,0,none⟩) g.aJ.length g.aJ.length,iv g.time] 29 true)).new hW (o:=.cells [.int .i64 e.d,.int .i64 e.a,.int .i64 e.b] 34 true)).new hW (o:=.cells zCG 29 true);obtain⟨av,hav⟩:∃av,av=evA e.a:=⟨_,rfl⟩;obtain⟨iv0,hi0⟩:∃i,i=av%n:=⟨_,rfl⟩;have hav2:av<=9223372036854775807:=NZ;have hin:iv0<n:=NU;have e1:(av:Int).tmod (n:Int)=(iv0:Int):=by rw[Int.tmod_eq_emod_of_nonneg Nr,<-Int.natCast_emod,<-hi0]
 have hn0:((n:Int)=0)=False:=Nu;obtain⟨tv,htv⟩:∃tv,tv=g.time+1:=⟨_,rfl⟩;have e2:IntKind.i64.wrap ((g.time:Int)+1)=(tv:Int):=NG;rw[hL];refine en hE Tryz.func8 rfl rfl Tryz.ntmps8 rfl Nv (rs:=[.cell 4 29,.tmp 5]) rfl ?_;simp only[push_cast,seval,hE.z,hW.b0,hW.b1];refine gtK [2,3,4,6,7] λ_ f=>?_;simp only[push_cast,seval,gz]at f;refine CE.gen (motive:=λH=>kif E _ _ _ _ _ H) (xs:=[(h.next+1+1,_),(h.next+1,_),(h.next,_)]) C1 λH1 C1=>?_;refine dJ (λtm H=>(aj tm 2=ptr h.next/\aj tm 3=ptr (h.next+1)/\aj tm 4=ptr (h.next+1+1)/\aj tm 6=iv n/\aj tm 7=iv av)/\H=H1) ?_ ?_
 rotate_left
 ·by_cases ha:e.a<0
  ·have hda:decide (e.a<0)=true:=Od;have ev1:IntKind.i64.wrap (0-IntKind.i64.wrap (e.a+1))=(av:Int):=by have x1:IntKind.i64.wrap (e.a+1)=e.a+1:=cx Nr Nr;rw[x1,cx Nr Nr,hav];unfold evA;rw[if_pos ha];omega
   simp only[push_cast,seval,f,hda,ev1]
  ·have hda:decide (e.a<0)=false:=Od;have ev1:e.a=(av:Int):=NR;simp only[push_cast,seval,f,hda];exact congrArg (Value.int .i64) ev1
 rintro tm H ⟨f1,rfl⟩;simp only[push_cast,seval,hE.z,f1,C1.f3,e1,e2,hn0];refine gtK [2,3,4,6,7,8] λ_ f2=>?_;simp only[push_cast,seval,gz,f1]at f2;refine CE.gen (motive:=λH=>kif E _ _ _ _ _ H) (xs:=[(h.next+1+1,_),(h.next+1,_),(h.next,_)]) ((C1.put hW 2 rfl).time (tv:=tv) rfl) λH2 C2=>?_;clear C1;have hd1:decide (e.d<=1)=false:=Nu;have hd9:decide (e.d<=9)=true:=Nu;have hz:((g.net.length:Int)==0)=true:=by rw[h2];rfl
 have hevG:evG n g e={g with time:=tv}:=by unfold evG;simp only;rw[if_neg Nr,if_pos h9];unfold ud;simp only;rw[if_pos h2,<-htv]
 simp only[push_cast,seval,hE.z,f2,C2.f3,hd1,hd9,hz];refine⟨G,L,Y,_,?_,rfl⟩;rw[hevG];exact((C2.put hW 0 rfl).drop 3)
theorem Ip(h2:g.net≠[])(h29:e.d=9):af E 8 [.agg cs.toArray,.agg #[.int .i64 e.d,.int .i64 e.a,.int .i64 e.b]] h λv h'=>∃G' L' Y' cs',CE E G h (gX L Y bD bS) n bD bS h' G' L' Y' (evG n g e) cs' []/\v=.tuple #[.agg cs'.toArray,.bool true]:=by
 have hW:=V.so.wf;obtain⟨aL,cL,aN,cN,rfl⟩:=V.sl;rw[hL]at V;have C1:=(((CE.start V hL hP).new hW (o:=.cells [.slice aL n cL,.slice (some ⟨bD,0,none⟩) g.down.length g.down.length,.slice aN g.net.length cN,.slice (some ⟨bS,0,none⟩) g.aJ.length g.aJ.length,iv g.time] 29 true)).new hW (o:=.cells [.int .i64 e.d,.int .i64 e.a,.int .i64 e.b] 34 true)).new hW (o:=.cells zCG 29 true);obtain⟨av,hav⟩:∃av,av=evA e.a:=⟨_,rfl⟩;obtain⟨iv0,hi0⟩:∃i,i=av%n:=⟨_,rfl⟩;have hav2:av<=9223372036854775807:=NZ;have hin:iv0<n:=NU;have e1:(av:Int).tmod (n:Int)=(iv0:Int):=by rw[Int.tmod_eq_emod_of_nonneg Nr,<-Int.natCast_emod,<-hi0]
 have hn0:((n:Int)=0)=False:=Nu;obtain⟨tv,htv⟩:∃tv,tv=g.time+1:=⟨_,rfl⟩;have e2:IntKind.i64.wrap ((g.time:Int)+1)=(tv:Int):=NG;rw[hL];refine en hE Tryz.func8 rfl rfl Tryz.ntmps8 rfl Nv (rs:=[.cell 4 29,.tmp 5]) rfl ?_;simp only[push_cast,seval,hE.z,hW.b0,hW.b1];refine gtK [2,3,4,6,7] λ_ f=>?_;simp only[push_cast,seval,gz]at f;refine CE.gen (motive:=λH=>kif E _ _ _ _ _ H) (xs:=[(h.next+1+1,_),(h.next+1,_),(h.next,_)]) C1 λH1 C1=>?_;refine dJ (λtm H=>(aj tm 2=ptr h.next/\aj tm 3=ptr (h.next+1)/\aj tm 4=ptr (h.next+1+1)/\aj tm 6=iv n/\aj tm 7=iv av)/\H=H1) ?_ ?_
 rotate_left
 ·by_cases ha:e.a<0
  ·have hda:decide (e.a<0)=true:=Od;have ev1:IntKind.i64.wrap (0-IntKind.i64.wrap (e.a+1))=(av:Int):=by have x1:IntKind.i64.wrap (e.a+1)=e.a+1:=cx Nr Nr;rw[x1,cx Nr Nr,hav];unfold evA;rw[if_pos ha];omega
   simp only[push_cast,seval,f,hda,ev1]
  ·have hda:decide (e.a<0)=false:=Od;have ev1:e.a=(av:Int):=NR;simp only[push_cast,seval,f,hda];exact congrArg (Value.int .i64) ev1
 rintro tm H ⟨f1,rfl⟩;simp only[push_cast,seval,hE.z,f1,C1.f3,e1,e2,hn0];refine gtK [2,3,4,6,7,8] λ_ f2=>?_;simp only[push_cast,seval,gz,f1]at f2;refine CE.gen (motive:=λH=>kif E _ _ _ _ _ H) (xs:=[(h.next+1+1,_),(h.next+1,_),(h.next,_)]) ((C1.put hW 2 rfl).time (tv:=tv) rfl) λH2 C2=>?_;clear C1;have hd1:decide (e.d<=1)=false:=Nu;have hd9:decide (e.d<=9)=true:=Nu;have hl0:0<g.net.length:=by
  cases hq:g.net with
  |nil=>exact absurd hq h2
  |cons a l=>simp
 have hz:((g.net.length:Int)==0)=false:=Nu;have hz':((g.net.length:Int)=0)=False:=Nu;obtain⟨kk,hkk⟩:∃kk,kk=av%g.net.length:=⟨_,rfl⟩;have hkn:kk<g.net.length:=by rw[hkk];exact Nat.mod_lt _ hl0
 have e3:(av:Int).tmod (g.net.length:Int)=(kk:Int):=by rw[Int.tmod_eq_emod_of_nonneg Nr,<-Int.natCast_emod,<-hkk]
 obtain⟨m,hmd⟩:∃m,m=g.net.getD kk {}:=⟨_,rfl⟩;have hmg:g.net[kk]? = some m:=by rw[hmd,List.getD_eq_getElem?_getD,List.getElem?_eq_getElem hkn];rfl
 obtain⟨co,oq,rq⟩:=C2.wait rfl;obtain⟨G1,z1,s1,fr1⟩:=oq.still C2.V.so.wf C2.V.so.frz hl0;obtain⟨⟨bN,oN,sN⟩,dN,eN,hsp,hac⟩:=z1.1.elem fr1 hkn;injection eN with eN _ eN';subst eN;subst eN';simp only at hsp;subst hsp;have hdN:g.net.length<=cN:=by obtain⟨_,_,ex,hle⟩:=oq.fh;injection ex with _ _ ex;omega
 have hm:=rq.at kk m hmg;obtain⟨b1,d1,b2,d2,b3,d3,hmE,_⟩:=hm.e;rw[hmE]at hm hac;have q0:=aY hac 0 17 Nr;simp only[List.take_succ_cons,List.take_zero,List.drop_zero,Nat.add_zero]at q0;have C3:=C2.new hW (o:=.cells (mCS m b1 d1 b2 d2 b3 d3) 66 true);have kQ:=(KW.refl C2.V.so.wf).push (o:=.cells (mCS m b1 d1 b2 d2 b3 d3) 66 true);simp only[push_cast,seval,hE.z,f2,C2.f3,hd1,hd9,hz];simp only[push_cast,seval,hE.z,f2,C2.f3,hz',e3];rw[jw rfl Nr Nr,ab];simp only[push_cast,seval,hE.z,f2,C2.f3,↓q0,Int.toNat_natCast];have h99:(e.d==9)=true:=by simp[h29]
 have hevG:evG n g e={g with time:=tv,net:=g.net++[m]}:=by unfold evG;simp only;rw[if_neg Nr,if_pos h9];unfold ud;simp only;rw[if_neg h2,if_pos h29,<-hav,<-hkk,<-hmd,<-htv]
 simp only[push_cast,seval,h99];refine gtA [2,4,11] λ_ f3=>?_;simp only[push_cast,seval,gz,f2]at f3;refine CE.gen (motive:=λH=>aF E _ _ _ H) (xs:=[(H2.next,_),(h.next+1+1,_),(h.next+1,_),(h.next,_)]) C3 λH3 C3=>?_;clear C2 q0 hac fr1 kQ;obtain⟨co3,oq3,rq3⟩:=C3.wait rfl;refine aB [(1,10),(3,10),(6,10)] Nt Nt Nt ?_;simp only[push_cast,seval,hE.z,f3,C3.f4];rw[JK (z:=17) Tryz.underlying26 DG rfl hl0 hdN,ab];simp only[push_cast,seval,hE.z,f3,C3.f4];rw[lf rfl,aR];simp only[push_cast,seval];refine Jt (mz hE.P) C3.V.so.wf oq3 hl0 ?_ ?_ Nr Nr λv' H4 o4 k4=>?_
 ·rfl
 ·exact hm.nj
 obtain⟨va,vc,rfl,_⟩:=o4.fh;have C4:=C3.net hW rfl k4 (net':=g.net++[m]) (by rw[List.length_append];exact o4) (rq3.app (bu.one hm));simp only[push_cast,seval,hE.z,f3,C3.f4,C4.f4,aU];rw[hevG];exact⟨G,L,_,_,((C4.put hW 3 rfl).put hW 1 rfl).drop 4,rfl⟩
theorem Iq(htoN:∀m,m∈g.net->m.to<n)(h2:g.net≠[])(h29:e.d≠9)(hact:∀m net',m∈g.net->g.net.take (evA e.a%g.net.length)++g.net.drop (evA e.a%g.net.length+1)=net'->nJ E G h (gX L Y bD bS) n bD bS {g with time:=g.time+1,net:=net'} m.to 0 0 m (bX (g.P m.to) m)):af E 8 [.agg cs.toArray,.agg #[.int .i64 e.d,.int .i64 e.a,.int .i64 e.b]] h λv h'=>∃G' L' Y' cs',CE E G h (gX L Y bD bS) n bD bS h' G' L' Y' (evG n g e) cs' []/\v=.tuple #[.agg cs'.toArray,.bool true]:=by
 have hW:=V.so.wf;obtain⟨aL,cL,aN,cN,rfl⟩:=V.sl;rw[hL]at V;have C1:=(((CE.start V hL hP).new hW (o:=.cells [.slice aL n cL,.slice (some ⟨bD,0,none⟩) g.down.length g.down.length,.slice aN g.net.length cN,.slice (some ⟨bS,0,none⟩) g.aJ.length g.aJ.length,iv g.time] 29 true)).new hW (o:=.cells [.int .i64 e.d,.int .i64 e.a,.int .i64 e.b] 34 true)).new hW (o:=.cells zCG 29 true);obtain⟨av,hav⟩:∃av,av=evA e.a:=⟨_,rfl⟩;obtain⟨iv0,hi0⟩:∃i,i=av%n:=⟨_,rfl⟩;have hav2:av<=9223372036854775807:=NZ;have hin:iv0<n:=NU;have e1:(av:Int).tmod (n:Int)=(iv0:Int):=by rw[Int.tmod_eq_emod_of_nonneg Nr,<-Int.natCast_emod,<-hi0]
 have hn0:((n:Int)=0)=False:=Nu;obtain⟨tv,htv⟩:∃tv,tv=g.time+1:=⟨_,rfl⟩;have e2:IntKind.i64.wrap ((g.time:Int)+1)=(tv:Int):=NG;rw[hL];refine en hE Tryz.func8 rfl rfl Tryz.ntmps8 rfl Nv (rs:=[.cell 4 29,.tmp 5]) rfl ?_;simp only[push_cast,seval,hE.z,hW.b0,hW.b1];refine gtK [2,3,4,6,7] λ_ f=>?_;simp only[push_cast,seval,gz]at f;refine CE.gen (motive:=λH=>kif E _ _ _ _ _ H) (xs:=[(h.next+1+1,_),(h.next+1,_),(h.next,_)]) C1 λH1 C1=>?_;refine dJ (λtm H=>(aj tm 2=ptr h.next/\aj tm 3=ptr (h.next+1)/\aj tm 4=ptr (h.next+1+1)/\aj tm 6=iv n/\aj tm 7=iv av)/\H=H1) ?_ ?_
 rotate_left
 ·by_cases ha:e.a<0
  ·have hda:decide (e.a<0)=true:=Od;have ev1:IntKind.i64.wrap (0-IntKind.i64.wrap (e.a+1))=(av:Int):=by have x1:IntKind.i64.wrap (e.a+1)=e.a+1:=cx Nr Nr;rw[x1,cx Nr Nr,hav];unfold evA;rw[if_pos ha];omega
   simp only[push_cast,seval,f,hda,ev1]
  ·have hda:decide (e.a<0)=false:=Od;have ev1:e.a=(av:Int):=NR;simp only[push_cast,seval,f,hda];exact congrArg (Value.int .i64) ev1
 rintro tm H ⟨f1,rfl⟩;simp only[push_cast,seval,hE.z,f1,C1.f3,e1,e2,hn0];refine gtK [2,3,4,6,7,8] λ_ f2=>?_;simp only[push_cast,seval,gz,f1]at f2;refine CE.gen (motive:=λH=>kif E _ _ _ _ _ H) (xs:=[(h.next+1+1,_),(h.next+1,_),(h.next,_)]) ((C1.put hW 2 rfl).time (tv:=tv) rfl) λH2 C2=>?_;clear C1;have hd1:decide (e.d<=1)=false:=Nu;have hd9:decide (e.d<=9)=true:=Nu;have hl0:0<g.net.length:=by
  cases hq:g.net with
  |nil=>exact absurd hq h2
  |cons a l=>simp
 have hz:((g.net.length:Int)==0)=false:=Nu;have hz':((g.net.length:Int)=0)=False:=Nu;obtain⟨kk,hkk⟩:∃kk,kk=av%g.net.length:=⟨_,rfl⟩;have hkn:kk<g.net.length:=by rw[hkk];exact Nat.mod_lt _ hl0
 have e3:(av:Int).tmod (g.net.length:Int)=(kk:Int):=by rw[Int.tmod_eq_emod_of_nonneg Nr,<-Int.natCast_emod,<-hkk]
 obtain⟨m,hmd⟩:∃m,m=g.net.getD kk {}:=⟨_,rfl⟩;have hmg:g.net[kk]? = some m:=by rw[hmd,List.getD_eq_getElem?_getD,List.getElem?_eq_getElem hkn];rfl
 have hmem:m∈g.net:=List.mem_of_getElem? hmg;obtain⟨co,oq,rq⟩:=C2.wait rfl;obtain⟨G1,z1,s1,fr1⟩:=oq.still C2.V.so.wf C2.V.so.frz hl0;obtain⟨⟨bN,oN,sN⟩,dN,eN,hsp,hac⟩:=z1.1.elem fr1 hkn;injection eN with eN _ eN';subst eN;subst eN';simp only at hsp;subst hsp;have hdN:g.net.length<=cN:=by obtain⟨_,_,ex,hle⟩:=oq.fh;injection ex with _ _ ex;omega
 have hm:=rq.at kk m hmg;obtain⟨b1,d1,b2,d2,b3,d3,hmE,_⟩:=hm.e;rw[hmE]at hm hac;have q0:=aY hac 0 17 Nr;simp only[List.take_succ_cons,List.take_zero,List.drop_zero,Nat.add_zero]at q0;have C3:=C2.new hW (o:=.cells (mCS m b1 d1 b2 d2 b3 d3) 66 true);have kQ:=(KW.refl C2.V.so.wf).push (o:=.cells (mCS m b1 d1 b2 d2 b3 d3) 66 true);simp only[push_cast,seval,hE.z,f2,C2.f3,hd1,hd9,hz];simp only[push_cast,seval,hE.z,f2,C2.f3,hz',e3];rw[jw rfl Nr Nr,ab];simp only[push_cast,seval,hE.z,f2,C2.f3,↓q0,Int.toNat_natCast];have h99:(e.d==9)=false:=Nu;obtain⟨net',hnet'⟩:∃net',net'=g.net.take kk++g.net.drop (kk+1):=⟨_,rfl⟩;have hnl:net'.length=kk+(g.net.length-(kk+1)):=by rw[hnet',List.length_append,List.length_take,List.length_drop];omega
 have hevG:evG n g e=if e.d=8\/g.down.getD m.to false=true then {g with time:=tv,net:=net'} else GP.act {g with time:=tv,net:=net'} m.to (bX (g.P m.to) m):=by unfold evG;simp only;rw[if_neg Nr,if_pos h9];unfold ud;simp only;rw[if_neg h2,if_neg h29,<-hav,<-hkk,<-hmd,<-htv,<-hnet']
 rw[<-hav,<-hkk,<-htv]at hact;have hto:=htoN m hmem;obtain⟨k1,hk1⟩:∃k1,k1=kk+1:=⟨_,rfl⟩;have ek:IntKind.i64.wrap ((kk:Int)+1)=(k1:Int):=NG;simp only[push_cast,seval,hE.z,f2,C2.f3,h99];refine gtm (motive:=bY _ _ _) [2,3,4,10,11,112] λ_ f3=>?_;simp only[push_cast,seval,gz,f2]at f3;refine CE.gen (motive:=λH=>bY _ _ _ _ H) (xs:=[(H2.next,_),(h.next+1+1,_),(h.next+1,_),(h.next,_)]) C3 λH3 C3=>?_;clear C2 q0 hac fr1 kQ;obtain⟨co3,oq3,rq3⟩:=C3.wait rfl;obtain⟨G3,z3,s3,fr3⟩:=oq3.still C3.V.so.wf C3.V.so.frz hl0;have hcl:co3.length=g.net.length*17:=rq3.len;have h1c:=rq3.nj;obtain⟨a4,c4,e5,z5⟩:=z3.upto (P:=Tryz.prog) Tryz.underlying26 DG (k:=kk) (by show kk<=g.net.length;omega);obtain⟨a6,c6,e7,z7⟩:=z3.from (P:=Tryz.prog) Tryz.underlying26 DG hcl (k:=k1) (by show k1<=g.net.length;omega);rw[e5,ab];simp only[push_cast,seval,f3];refine ej (mz hE.P) C3.V.so.wf fr3 (lo:=H3.next) (Nat.le_refl _) (Own.nil _ _ _ _) z5 ?_ ?_ ?_ ?_ λv4 H4 ap4=>?_
 ·rw[List.length_take,hcl];omega
 ·rw[List.all_eq_true]at h1c|-;exact λx hx=>h1c x (List.mem_of_mem_take hx)
 ·omega
 ·omega
 rw[Nat.zero_add,List.nil_append]at ap4;have k4:=(KW.refl C3.V.so.wf).app C3.V.so.wf (Own.nil _ _ _ _) ap4;obtain⟨va,vc,rfl⟩:=ap4.sl;have C4:=C3.kw hW k4;simp only[push_cast,seval,hE.z,f3,C4.f4,ek];rw[e7,ab];simp only[push_cast,seval];refine ej (mz hE.P) C4.V.so.wf (fr3.aK k4.k) (lo:=H3.next) k4.k.next ap4.own z7 ?_ ?_ ?_ ?_ λv5 H5 ap5=>?_
 ·rw[List.length_drop,hcl,<-Nat.sub_mul]
 ·rw[List.all_eq_true]at h1c|-;exact λx hx=>h1c x (List.mem_of_mem_drop hx)
 ·simp only;omega
 ·simp only;omega
 have k5:=k4.app C3.V.so.wf ap4.own ap5;obtain⟨vb,vd,rfl⟩:=ap5.sl;have C5:=C3.net hW rfl k5 (net':=net') (by rw[hnl,<-hk1];exact ap5.own) (by rw[hnet',<-hk1];exact(rq3.take kk).app (rq3.drop k1));simp only[push_cast,seval,hE.z,f3,C5.f4];have C6:=C5.put hW 3 (o':=.cells [.slice aL n cL,.slice (some ⟨bD,0,none⟩) g.down.length g.down.length,.slice vb (kk+(g.net.length-k1)) vd,.slice (some ⟨bS,0,none⟩) g.aJ.length g.aJ.length,iv tv] 29 true) rfl;by_cases h8:e.d=8
 ·have hd8:(e.d==8)=true:=by simp[h8]
  rw[if_pos (.inl h8)]at hevG;simp only[push_cast,seval,hE.z,f3,C6.f4,hd8];rw[hevG];exact⟨G,L,_,_,(C6.put hW 1 rfl).drop 4,rfl⟩
 have hd8:(e.d==8)=false:=by simp[h8]
 have hdr6:=fN C6.V.so.wf C6.V.gD (i:=m.to) (by show m.to<g.down.length;omega);simp only[push_cast,seval,hE.z,f3,C6.f4,hd8];rw[mu rfl Nr Nr,ab];simp only[push_cast,seval,hE.z,↓hdr6,Int.toNat_natCast,Nat.zero_add,Nat.mul_one];cases hdn:g.down.getD m.to false
 ·rw[if_neg (by rintro(x|x);exact h8 x;exact absurd x (by rw[hdn];simp))]at hevG;simp only[push_cast,seval,hE.z,f3,C6.f4];refine Go.Tm.aO [2,3,4,11] λ_ f4=>?_;simp only[push_cast,seval,gz,f3]at f4;refine CE.gen (motive:=λH=>af E _ _ H _) (xs:=[(H2.next,_),(h.next+1+1,_),(h.next+1,_),(h.next,_)]) C6 λH7 C7=>?_;refine((hact m net' hmem hnet'.symm).go C7 hm).mono ?_;rintro v8 H8 ⟨G8,L8,Y8,cs8,C8,rfl⟩;obtain⟨aL8,cL8,aN8,cN8,rfl⟩:=C8.V.sl;simp only[push_cast,seval,hE.z,f4,C8.f4];rw[hevG];exact⟨G8,L8,Y8,_,(C8.put hW 1 rfl).drop 4,rfl⟩
 ·rw[if_pos (.inr hdn)]at hevG;simp only[push_cast,seval,hE.z,f3,C6.f4];rw[hevG];exact⟨G,L,_,_,(C6.put hW 1 rfl).drop 4,rfl⟩
end
end Go.Proofs.YthbjaiilnkakcaaGreatDoor
namespace Go.Tm
open Vr
structure PY(E:Env)(G:Mem)(h:ag)(X:Nat->Prop)(G':Mem)(H:ag)(X':Nat->Prop)(B:List (Nat×bz)):Prop where
 p:PX E G h X G' H X'
 bx:BX G' H X' B
 lo:∀b o,(b,o)∈B->h.next<=b
section
variable{E:Env}{G G' G2:Mem}{h H H2:ag}{X X' X2:Nat->Prop}{B:List (Nat×bz)}
theorem PY.start(hS:SO E G h X):PY E G h X G h X []:=⟨PX.refl hS,BX.nil,λb o h=>N7⟩
theorem PY.call(c:PY E G h X G' H X' B)(hW:WF E h)(y:PX E G' H X' G2 H2 X2):PY E G h X G2 H2 X2 B:=by refine⟨c.p.trans hW y,⟨λb o hb=>y.box (c.bx.out b o hb).1 (c.bx.get b o hb),λb o hb=>?_,c.bx.nd⟩,c.lo⟩;have hl:=(c.p.so.wf.live _ _ (c.bx.get b o hb)).2;exact⟨y.nx (c.bx.out b o hb).1 hl,y.nn hl (c.bx.out b o hb).2⟩
theorem PY.ext(c:PY E G h X G' H X' B)(hW:WF E h)(x:Ext E G' H G2 H2):PY E G h X G2 H2 X' B:=c.call hW (PX.ext c.p.so x)
theorem PY.kw(c:PY E G h X G' H X' B)(hW:WF E h)(k:KW E H H2):PY E G h X G' H2 X' B:=c.call hW (PX.kw c.p.so k)
theorem PY.new(c:PY E G h X G' H X' B)(hW:WF E h){o:bz}:PY E G h X G' (H.push o) X' ((H.next,o)::B):=by
 have d:=c.kw hW ((KW.refl c.p.so.wf).push (o:=o));refine⟨d.p,c.bx.new c.p.so.wf (λx=>?_) (c.p.so.eH (Nat.le_refl _)),λb p hb=>?_⟩
 ·have:=c.p.so.lt _ x;omega
 ·rcases List.mem_cons.1 hb with hb|hb
  ·injection hb with hb _;subst hb;exact c.p.kx.next
  ·exact c.lo b p hb
theorem PY.put(c:PY E G h X G' H X' B)(hW:WF E h)(i:Nat){b:Nat}{o o':bz}(hi:B[i]? = some (b,o)):PY E G h X G' (H.put b o') X' (B.set i (b,o')):=by
 have hm:=List.mem_of_getElem? hi;refine⟨c.p.fresh hW (c.lo b o hm) (c.bx.out b o hm).2 (c.bx.get b o hm),c.bx.put i hi,λd p hd=>?_⟩;rcases List.mem_or_eq_of_mem_set hd with hd|hd
 ·exact c.lo d p hd
 ·injection hd with hd _;subst hd;exact c.lo d o hm
theorem PY.own(c:PY E G h X G' H X' B)(hW:WF E h){r:Nat}{o o':bz}(hx:X' r)(hr:H.get r=some o):PY E G h X G' (H.put r o') X' B:=c.call hW (PX.put c.p.so hx hr)
theorem PY.at(c:PY E G h X G' H X' B)(i:Nat){b:Nat}{o:bz}(hi:B[i]? = some (b,o)):B1 E H b o:=by have g:=c.bx.get b o (List.mem_of_getElem? hi);exact⟨g,c.p.so.wf.nlt g,c.p.so.wf.ne g,c.p.so.wf.ne' g⟩
theorem PY.b1(c:PY E G h X G' H X' B){r:Nat}{o:bz}(g:H.get r=some o):B1 E H r o:=⟨g,c.p.so.wf.nlt g,c.p.so.wf.ne g,c.p.so.wf.ne' g⟩
theorem PY.lt(c:PY E G h X G' H X' B)(i:Nat){b:Nat}{o:bz}(hi:B[i]? = some (b,o)):b<H.next:=(c.p.so.wf.live _ _ (c.bx.get b o (List.mem_of_getElem? hi))).2
theorem PY.b0(c:PY E G h X G' H X' B):B0 E H:=⟨c.p.so.wf.b0,c.p.so.wf.b1,c.p.so.wf.b2,c.p.so.wf.b3⟩
theorem PY.d2(c:PY E G h X G' H X' B)(i j:Nat){a b:Nat}{o p:bz}(hi:B[i]? = some (a,o))(hj:B[j]? = some (b,p))(hij:i≠j):D2 a b:=by
 have key:a≠b:=λe=>by
  subst e;have h1:(B.map Prod.fst)[i]? = some a:=by rw[List.getElem?_map,hi];rfl
  have h2:(B.map Prod.fst)[j]? = some a:=by rw[List.getElem?_map,hj];rfl
  obtain⟨l1,e1⟩:=List.getElem?_eq_some_iff.1 h1;obtain⟨l2,e2⟩:=List.getElem?_eq_some_iff.1 h2;have hp:=List.pairwise_iff_getElem.1 c.bx.nd;rcases Nat.lt_trichotomy i j with h3|h3|h3
  ·exact hp i j l1 l2 h3 (e1.trans e2.symm)
  ·exact hij h3
  ·exact hp j i l2 l1 h3 (e2.trans e1.symm)
 exact⟨eq_false key,eq_false λe=>key e.symm⟩
theorem PY.dr(c:PY E G h X G' H X' B)(i:Nat){b r:Nat}{o:bz}(hi:B[i]? = some (b,o))(hx:X' r):D2 b r:=by have h1:b≠r:=λe=>(c.bx.out b o (List.mem_of_getElem? hi)).1 PU;exact⟨eq_false h1,eq_false λe=>h1 e.symm⟩
variable{a b d r:Nat}{o p q w:bz}
theorem PY.r0(c:PY E G h X G' H X' [])(g:H.get r=some w)(hx:X' r):B0 E H/\B1 E H r w:=⟨c.b0,c.b1 g⟩
theorem PY.r1(c:PY E G h X G' H X' [(a,o)])(g:H.get r=some w)(hx:X' r):B0 E H/\B1 E H r w/\B1 E H a o/\D2 a r:=⟨c.b0,c.b1 g,c.at 0 rfl,c.dr 0 rfl hx⟩
theorem PY.r2(c:PY E G h X G' H X' [(a,o),(b,p)])(g:H.get r=some w)(hx:X' r):B0 E H/\B1 E H r w/\B1 E H a o/\B1 E H b p/\D2 a b/\D2 a r/\D2 b r:=⟨c.b0,c.b1 g,c.at 0 rfl,c.at 1 rfl,c.d2 0 1 rfl rfl Nz,c.dr 0 rfl hx,c.dr 1 rfl hx⟩
theorem PY.r3(c:PY E G h X G' H X' [(a,o),(b,p),(d,q)])(g:H.get r=some w)(hx:X' r):B0 E H/\B1 E H r w/\B1 E H a o/\B1 E H b p/\B1 E H d q/\D2 a b/\D2 a d/\D2 b d/\D2 a r/\D2 b r/\D2 d r :=
 ⟨c.b0,c.b1 g,c.at 0 rfl,c.at 1 rfl,c.at 2 rfl,c.d2 0 1 rfl rfl Nz,c.d2 0 2 rfl rfl Nz,c.d2 1 2 rfl rfl Nz,c.dr 0 rfl hx,c.dr 1 rfl hx,c.dr 2 rfl hx⟩
theorem QR'.xr{P:PR}{out:List Mg}{t:Nat}{D:QD}(q:QR' E G' H X' P out r t D):X' r:=q.hx r Nw
theorem QR.dd{P:PR}{out:List Mg}{t:Nat}(q:QR E G' H X' P out r t):∃D:QD,H.get r=some (.cells (qC P t D.c D.vl D.vt D.vv D.vo) 78 true)/\X' r:=by obtain⟨D,q⟩:=q;exact⟨D,q.hr,q.xr⟩
theorem PY.gen{P:PR}{out:List Mg}{t:Nat}{motive:ag->Prop}(c:PY E G h X G' H X' B)(q:QR E G' H X' P out r t)(K:∀H,PY E G h X G' H X' B->QR E G' H X' P out r t->motive H):motive H:=K H c q
theorem PY.MS{motive:ag->Prop}(c:PY E G h X G' H X' B)(K:∀H,PY E G h X G' H X' B->motive H):motive H:=K H c
theorem PY.take{b:Nat}{o:bz}(c:PY E G h X G' H X' ((b,o)::B))(hW:WF E h):PY E G h X G' H (λx=>X' x\/x=b) B:=by
 have hb:=c.bx.get b o Nw;have hG:=(c.bx.out b o Nw).2;have hl:=(c.p.so.wf.live _ _ hb).2;have hnd:=c.bx.nd;rw[List.map_cons,List.nodup_cons]at hnd;refine⟨⟨c.p.sub,c.p.new,c.p.kx,λx hx=>?_,⟨c.p.so.wf,c.p.so.frz,λx d hd hx=>?_,λx hx=>?_⟩⟩,⟨λd p hd=>c.bx.get d p (List.mem_cons_of_mem _ hd),λd p hd=>⟨λhx=>?_,(c.bx.out d p (List.mem_cons_of_mem _ hd)).2⟩,hnd.2⟩,λd p hd=>c.lo d p (List.mem_cons_of_mem _ hd)⟩
 ·rcases hx with hx|hx
  ·exact c.p.xs x hx
  ·right;rw[hx];exact c.lo b o Nw
 ·rcases hx with hx|hx
  ·exact c.p.so.dis x d hd hx
  ·rw[hx,hG]at hd;cases hd
 ·rcases hx with hx|hx
  ·exact c.p.so.lt x hx
  ·rw[hx];exact hl
 ·rcases hx with hx|hx
  ·exact(c.bx.out d p (List.mem_cons_of_mem _ hd)).1 hx
  ·exact hnd.1 (List.mem_map.2 ⟨(d,p),hd,hx⟩)
theorem PY.qk{P:PR}{out:List Mg}{t:Nat}{o:bz}(c:PY E G h X G' H X' B)(q:QR E G' H X' P out r t):QR E G' (H.push o) X' P out r t:=q.ext (((KW.refl c.p.so.wf).push).ext c.p.so.frz)
theorem PY.qp{P:PR}{out:List Mg}{t:Nat}{o o':bz}(c:PY E G h X G' H X' B)(q:QR E G' H X' P out r t)(i:Nat){b:Nat}(hi:B[i]? = some (b,o)):QR E G' (H.put b o') X' P out r t:=by refine q.mh (Sub.refl _) λd p hd hg=>?_;rw[ai,if_neg (λe=>(c.bx.out b o (List.mem_of_getElem? hi)).1 (by rw[e];exact hd))];exact hg
end
end Go.Tm
namespace Vr
theorem uz{P:PR}{m a:Mg}(h:a∈P.allM m):a.log=m.log/\a.img=m.img:=by unfold PR.allM at h;unfold qZ at h;obtain⟨i,-,rfl⟩:=List.mem_map.1 h;exact⟨rfl,rfl⟩
theorem ke(P:PR)(m:Mg):(P.allM m).length<=P.n:=by unfold PR.allM;exact iQ P m P.n
end Vr
namespace Go.Proofs.YthbjaiilnkakcaaGreatDoor
open Go.Tm Vr
variable{m:Mg}{ms:List Value}
variable{E:Env}(hE:EOk E)
include hE
section
variable{G:Mem}{h:ag}{X:Nat->Prop}(hS:SO E G h X){P:PR}{out:List Mg}{r t:Nat}(hQ:QR E G h X P out r t)
include hS hQ
theorem AW(ho0:out=[])(z:P.Ok):af E 46 [ptr r] h λv h'=>∃G' X' co,PX E G h X G' h' X'/\QR E G' h' X' (bw P).1 [] r t/\Fz E G' 17 (bw P).2.length co v/\bu E G' (bw P).2 co:=by
 subst ho0;have zn:=z.n;have zv:=z.vw;have hW:=hS.wf;obtain⟨D,hr,hx⟩:=hQ.dd;have b0:=(PY.start hS).r0 hr hx
 have fin:∀{Q:PR} {l:List Mg} {H:ag} {G1:Mem} {X1:Nat->Prop},PX E G h X G1 H X1->QR E G1 H X1 Q l r t->l.length<=100->(∀m,m∈l->m.log=[]/\m.img=[])->af E 26 [ptr r] H λv h'=>∃G' co,PX E G h X G' h' X1/\QR E G' h' X1 Q [] r t/\Fz E G' 17 l.length co v/\bu E G' l co:=λp q hl hm=>by
  refine(jh hE p.so q Nr λm hmm=>by rw[(hm m hmm).1,(hm m hmm).2];simp).mono ?_;rintro v h8 ⟨G8,co8,p8,q8,z8,r8⟩;exact⟨G8,co8,p.trans hS.wf p8,q8,z8,r8⟩
 refine en hE Tryz.func46 rfl rfl Tryz.ntmps46 rfl Nv (rs:=[.tmp 2]) rfl ?_;by_cases h2:P.st=2
 ·have g1:((P.st:Int)==2)=true:=Pg;have hT:bw P=(P,P.allM {k:=8,nc:=P.nc}):=by unfold bw;rw[if_pos h2]
  rw[hT];simp only[push_cast,seval,hE.z,b0,g1];refine(mJ hE hS hQ Nr Nw (m:={k:=8,nc:=P.nc}) ⟨_,_,_,rfl,Fz.nil,Fz.nil,Fz.nil⟩).mono ?_;rintro v ha ⟨rfl,X6,p6,q6⟩;simp only[push_cast,seval];refine(fin p6 q6 (by have:=ke P {k:=8,nc:=P.nc};simp;omega) λm hm=>uz (by simpa using hm)).mono ?_;rintro v h8 ⟨G8,co8,p8,q8,z8,r8⟩;simp only[push_cast,seval];exact⟨G8,X6,co8,p8,q8,z8,r8⟩
 ·have g1:((P.st:Int)==2)=false:=NF;simp only[push_cast,seval,hE.z,b0,g1];refine(gP hE hS hQ ⟨Nr,Nr⟩ Nr).mono ?_;rintro w h3 ⟨rfl,rfl⟩;by_cases hl:P.st=0/\P.bF=true
  ·have g2:(P.st==0&&P.bF)=true:=PC;have hT:bw P=(P,[]):=by unfold bw;rw[if_neg h2,if_pos ⟨hl.1,hl.2⟩]
   rw[hT];simp only[push_cast,seval,g2];refine(fin (PX.refl hS) hQ Nw Nw).mono ?_;rintro v h8 ⟨G8,co8,p8,q8,z8,r8⟩;simp only[push_cast,seval];exact⟨G8,X,co8,p8,q8,z8,r8⟩
  ·have g2:(P.st==0&&P.bF)=false:=by
    cases hh:(P.st==0&&P.bF)
    ·rfl
    ·exact absurd (by simpa using hh) hl
   have hT:bw P=bO P (P.vw+1):=by unfold bw;rw[if_neg h2,if_neg (by simpa using hl)]
   rw[hT];have hw:(Value.int .i64 (IntKind.i64.wrap ((P.vw:Int)+1)))=iv (P.vw+1):=bk Nr;simp only[push_cast,seval,hE.z,b0,g2,hw];refine(qQ hE hS hQ z.toSz Nw (P.vw+1)).mono ?_;rintro v ha ⟨rfl,X6,p6,q6⟩;simp only[push_cast,seval];have hsl:(bO P (P.vw+1)).2.length<=P.n:=ke _ _;refine(fin p6 q6 Nu λm hm=>uz (m:={k:=5,vw:=P.vw+1}) (P:=(bO P (P.vw+1)).1) (by rw[List.nil_append]at hm;exact hm)).mono ?_;rintro v h8 ⟨G8,co8,p8,q8,z8,r8⟩;simp only[push_cast,seval];exact⟨G8,X6,co8,p8,q8,z8,r8⟩
theorem zf(z:P.Ok)(ho:out.length<=100)(hm:MgR E G m ms):af E 41 [ptr r,.agg ms.toArray] h λv h'=>v=.tuple #[]/\∃G' X',PX E G h X G' h' X'/\QR E G' h' X' P (out++cJ P m) r t:=by
 have zn:=z.n;have zv:=z.vw;have hW:=hS.wf;obtain⟨b1,d1,b2,d2,b3,d3,rfl,m1,m2,m3⟩:=hm.e;have Y1:=(PY.start hS).new hS.wf (o:=.cells (mCS m b1 d1 b2 d2 b3 d3) 66 true);have q1:=(PY.start hS).qk hQ (o:=.cells (mCS m b1 d1 b2 d2 b3 d3) 66 true);obtain⟨D,hr,hx⟩:=q1.dd;have f1:=Y1.r1 hr hx;refine en hE Tryz.func41 rfl rfl Tryz.ntmps41 rfl Nv (rs:=[]) rfl ?_;by_cases h0:P.st=0
 case neg =>
  have g1:((P.st:Int) != 0)=true:=Nu;have hR:cJ P m=[]:=by unfold cJ;rw[if_pos h0]
  rw[hR];simp only[push_cast,seval,hE.z,f1,g1];exact⟨G,X,Y1.p,Om⟩
 have g1:((P.st:Int) != 0)=false:=Ox;simp only[push_cast,seval,hE.z,f1,g1];have hR:cJ P m=[P.toM (if P.bF then P.bM {k:=9,vw:=P.vw,nc:=m.nc} else {k:=9,vw:=P.vw,nc:=m.nc}) m.fr]:=by unfold cJ;rw[if_neg (by simp[h0])]
 rw[hR];have hma:∀G',MgR E G' {k:=9,vw:=P.vw,nc:=m.nc} (mgC {k:=9,vw:=P.vw,nc:=m.nc} (.slice none 0 0) (.slice none 0 0) (.slice none 0 0)):=λG'=>⟨_,_,_,rfl,Fz.nil,Fz.nil,Fz.nil⟩;refine gtA [0,3] λ_ f=>?_;simp only[push_cast,seval,gz]at f;refine PY.gen (motive:=λH=>aF E _ _ _ H) Y1 q1 λH1 Y1 q1=>?_;obtain⟨D1,hr1,hx1⟩:=q1.dd;have f1:=Y1.r1 hr1 hx1;refine aB [(3,7),(5,7)] Nt Nt Nt ?_;simp only[push_cast,seval,hE.z,f,f1];refine Go.Tm.aO [0,3,4,5] λ_ f2=>?_;simp only[push_cast,seval,gz,f]at f2;refine PY.gen (B:=[(H1.next,.cells (mgC {k:=9,vw:=P.vw,nc:=m.nc} (.slice none 0 0) (.slice none 0 0) (.slice none 0 0)) 66 true),(h.next,_)]) (motive:=λH=>af E _ _ H _) (Y1.new hW) (Y1.qk q1) λH2 Y2 q2=>?_;refine(gP hE Y2.p.so q2 ⟨Nr,Nr⟩ Nr).mono ?_;rintro w H3 ⟨rfl,rfl⟩;obtain⟨D2,hr2,hx2⟩:=q2.dd;have b2:=Y2.r2 hr2 hx2
 cases hp:P.bF with
 | true =>
   have g2:(P.st==0&&true)=true:=Ox;simp only[push_cast,seval,hE.z,f2,b2,g2];refine Go.Tm.aO [0,3,4] λ_ f3=>?_;simp only[push_cast,seval,gz,f2]at f3
   refine(mO hE Y2.p.so q2 z.toSz (λe he=>by
    have:=z.es e he
    exact⟨Og,N3,N8⟩) (hma G)).mono ?_
   rintro w H4 ⟨G4,mc,rfl,rB,x4⟩;have Y4:=Y2.ext hW x4;have q4:=q2.ext x4;obtain⟨D4,hr4,hx4⟩:=q4.dd;have rB0:=rB;generalize hWd:P.bM {k:=9,vw:=P.vw,nc:=m.nc}=W at rB0 rB;obtain⟨e1,u1,e2,u2,e3,u3,hmB,_⟩:=rB.e;subst hmB;simp only[push_cast,seval,hE.z,f3,Y4.r2 hr4 hx4];have Y5:=Y4.put hW 0 rfl (o':=.cells (mCS W e1 u1 e2 u2 e3 u3) 66 true);have q5:=Y4.qp q4 (o':=.cells (mCS W e1 u1 e2 u2 e3 u3) 66 true) 0 rfl;obtain⟨D5,hr5,hx5⟩:=q5.dd;refine(gd hE Y5.p.so q5 Nr rB0 m.fr).mono ?_;rintro w H6 ⟨rfl,X6,p6,q6⟩
   try simp only[push_cast,seval]
   exact⟨G4,X6,(Y5.call hW p6).p,q6⟩
 |false =>have g2:(P.st==0&&false)=false:=Nw;simp only[push_cast,seval,hE.z,f2,b2,g2];refine(gd hE Y2.p.so q2 Nr (hma G) m.fr).mono ?_;rintro w H6 ⟨rfl,X6,p6,q6⟩;simp only[push_cast,seval];exact⟨G,X6,(Y2.call hW p6).p,q6⟩
theorem zY(z:P.Ok)(ho:out.length<=100)(hm:MgR E G m ms)(k:m.Ok):af E 43 [ptr r,.agg ms.toArray] h λv h'=>v=.tuple #[]/\∃G' X',PX E G h X G' h' X'/\QR E G' h' X' P (out++bP P m) r t:=by
 have zo:=z.op4;have hPl:P.op=P.bs+P.log.length:=rfl;have kn:=k.n;have hW:=hS.wf;obtain⟨b1,d1,b2,d2,b3,d3,rfl,m1,m2,m3⟩:=hm.e;have Y1:=(PY.start hS).new hS.wf (o:=.cells (mCS m b1 d1 b2 d2 b3 d3) 66 true);have q1:=(PY.start hS).qk hQ (o:=.cells (mCS m b1 d1 b2 d2 b3 d3) 66 true);obtain⟨D,hr,hx⟩:=q1.dd;have f1:=Y1.r1 hr hx;refine en hE Tryz.func43 rfl rfl Tryz.ntmps43 rfl Nv (rs:=[]) rfl ?_;simp only[push_cast,seval];refine gtA [0,3] λ_ f=>?_;simp only[push_cast,seval,gz]at f;refine PY.gen (motive:=λH=>aF E _ _ _ H) Y1 q1 λH1 Y1 q1=>?_;obtain⟨D1,hr1,hx1⟩:=q1.dd;have f1:=Y1.r1 hr1 hx1;refine ax Nt ?_;by_cases h0:P.st=0
 case neg =>
  have g1:((P.st:Int) != 0)=true:=Nu;have hR:bP P m=[]:=by unfold bP;rw[if_pos (.inl h0)]
  rw[hR];simp only[push_cast,seval,hE.z,f,f1,g1];exact⟨G,X,Y1.p,Om⟩
 have g1:((P.st:Int) != 0)=false:=Ox;by_cases hv:m.vw=P.vw
 case neg =>
  have g2:((m.vw:Int) != (P.vw:Int))=true:=Nu;have hR:bP P m=[]:=by unfold bP;rw[if_pos (.inr (.inl hv))]
  rw[hR];simp only[push_cast,seval,hE.z,f,f1,g1,g2];exact⟨G,X,Y1.p,Om⟩
 have g2:((m.vw:Int) != (P.vw:Int))=false:=PG;by_cases hop:P.op<m.op
 case pos =>
  have g3:decide ((P.op:Int)<(m.op:Int))=true:=Nu;have hR:bP P m=[]:=by unfold bP;rw[if_pos (.inr (.inr hop))]
  rw[hR];simp only[push_cast,seval,hE.z,f,f1,g1,g2,g3];exact⟨G,X,Y1.p,Om⟩
 have g3:decide ((P.op:Int)<(m.op:Int))=false:=Nu;have hR:bP P m=[P.toM (if m.op<P.bs then P.bM {k:=11,vw:=P.vw,op:=P.op,cm:=P.cm,bs:=m.op} else {k:=11,vw:=P.vw,op:=P.op,cm:=P.cm,bs:=m.op,log:=dv P m.op}) m.fr]:=by unfold bP;rw[if_neg (by rintro(hh|hh|hh);exact hh h0;exact hh hv;exact hop hh)]
 rw[hR];simp only[push_cast,seval,hE.z,f,f1,g1,g2,g3];have hma:∀G',MgR E G' {k:=11,vw:=P.vw} (mgC {k:=11,vw:=P.vw} (.slice none 0 0) (.slice none 0 0) (.slice none 0 0)):=λG'=>⟨_,_,_,rfl,Fz.nil,Fz.nil,Fz.nil⟩;refine gtA [0,3,4] λ_ f2=>?_;simp only[push_cast,seval,gz,f]at f2;refine PY.gen (B:=[(H1.next,.cells (mgC {k:=11,vw:=P.vw} (.slice none 0 0) (.slice none 0 0) (.slice none 0 0)) 66 true),(h.next,_)]) (motive:=λH=>aF E _ _ _ H) (Y1.new hW) (Y1.qk q1) λH2 Y2 q2=>?_;obtain⟨D2,hr2,hx2⟩:=q2.dd;have b2':=Y2.r2 hr2 hx2;refine ax Nt ?_;by_cases hlt:m.op<P.bs
 ·have g4:decide ((m.op:Int)<(P.bs:Int))=true:=Nu;simp only[push_cast,seval,hE.z,f2,b2',g4];refine Go.Tm.aO [0,3,4] λ_ f3=>?_;simp only[push_cast,seval,gz,f2]at f3
  refine(mO hE Y2.p.so q2 z.toSz (λe he=>by
   have:=z.es e he
   exact⟨Og,N3,N8⟩) (hma G)).mono ?_
  rintro w H4 ⟨G4,mc,rfl,rB,x4⟩;have Y4:=Y2.ext hW x4;have q4:=q2.ext x4;obtain⟨D4,hr4,hx4⟩:=q4.dd;have rB0:=rB;have hWe:P.bM {k:=11,vw:=P.vw,op:=P.op,cm:=P.cm,bs:=m.op}=P.bM {k:=11,vw:=P.vw}:=by unfold PR.bM;split<;>rfl
  rw[if_pos hlt,hWe];generalize hWd:P.bM {k:=11,vw:=P.vw}=W at rB0 rB|-;obtain⟨e1,u1,e2,u2,e3,u3,hmB,_⟩:=rB.e;subst hmB;simp only[push_cast,seval,hE.z,f3,Y4.r2 hr4 hx4];have Y5:=Y4.put hW 0 rfl (o':=.cells (mCS W e1 u1 e2 u2 e3 u3) 66 true);have q5:=Y4.qp q4 (o':=.cells (mCS W e1 u1 e2 u2 e3 u3) 66 true) 0 rfl;obtain⟨D5,hr5,hx5⟩:=q5.dd;refine(gd hE Y5.p.so q5 Nr rB0 m.fr).mono ?_;rintro w H6 ⟨rfl,X6,p6,q6⟩
  try simp only[push_cast,seval]
  exact⟨G4,X6,(Y5.call hW p6).p,q6⟩
 ·have g4:decide ((m.op:Int)<(P.bs:Int))=false:=Nu;simp only[push_cast,seval,hE.z,f2,b2',g4];have q2':=q2;obtain⟨⟨dc,vl,vt,vv,vo⟩,q⟩:=q2';have hr3:=q.hr;have b3:=Y2.r2 hr3 q.xr;obtain⟨G1,hs1,hsub1,hf1,hn1⟩:=q.hl.Gd Y2.p.so.wf Y2.p.so.frz;have hz1:Fz E G1 3 P.log.length (cq P.log) vl:=q.hl.fz Y2.p.so.wf hs1;obtain⟨ya,yc,hy,hys⟩:=hz1.from (P:=Tryz.prog) (t:=37) Tryz.underlying37 ly (cB _) (k:=m.op-P.bs) Nr;rw[eC,<-List.length_drop]at hys;have hw:(Value.int .i64 (IntKind.i64.wrap ((m.op:Int)-(P.bs:Int))))=.int .i64 ((m.op-P.bs:Nat):Int):=iu Nr Nr;refine gtA [0,3,4] λ_ f3=>?_;simp only[push_cast,seval,gz,f2]at f3;refine aB [(3,22),(7,22),(7,24),(9,22),(9,24),(9,26)] Nt Nt Nt ?_;simp only[push_cast,seval,hE.z,f3,b3];rw[hw,hy,ab];simp only[push_cast,seval];rw[<-List.length_drop];refine(mW hE Y2.p.so.wf hf1 hys (de _) (cB _) Oi).mono ?_;rintro w H4 ⟨ow,k4⟩;obtain⟨wa,wc,rfl,_⟩:=ow.fh;have Y4:=Y2.kw hW k4;have q4:=q.aK (Sub.refl _) k4.k;have b4:=Y4.r2 q4.hr q4.xr;simp only[push_cast,seval,hE.z,f3,b3,b4,aV];obtain⟨G5,z5,x5⟩:=Own.frz Y2.p.so.wf Y2.p.so.frz k4 ow;have Y5:=Y2.ext hW x5;have q5:=q2.ext x5;obtain⟨W,hWd⟩:∃W:Mg,W={k:=11,vw:=P.vw,op:=P.op,cm:=P.cm,bs:=m.op,log:=dv P m.op}:=⟨_,rfl⟩;have rW:MgR E G5 W (mgC W (.slice wa (P.log.drop (m.op-P.bs)).length wc) (.slice none 0 0) (.slice none 0 0)):=by rw[hWd];exact⟨_,_,_,rfl,z5,Fz.nil,Fz.nil⟩
  have Y6:=Y5.put hW 0 rfl (o':=.cells (mgC W (.slice wa (P.log.drop (m.op-P.bs)).length wc) (.slice none 0 0) (.slice none 0 0)) 66 true);have q6:=Y5.qp q5 (o':=.cells (mgC W (.slice wa (P.log.drop (m.op-P.bs)).length wc) (.slice none 0 0) (.slice none 0 0)) 66 true) 0 rfl;have hs:=gd hE Y6.p.so q6 Nr rW m.fr;rw[if_neg hlt,<-hWd];rw[hWd]at hs;refine hs.mono ?_;rintro w H6 ⟨rfl,X6,p6,q6⟩
  try simp only[push_cast,seval]
  rw[hWd];refine⟨G5,X6,?_,q6⟩;have:=Y6.p;rw[hWd]at this;exact this.trans hW p6
end
end Go.Proofs.YthbjaiilnkakcaaGreatDoor
namespace Go.Tm
open Vr
theorem RW.lg{E:Env}{G:Mem}{h h1:ag}{X:Nat->Prop}{M M':PM}{out:List Mg}{r t:Nat}{D:QD}{vl':Value}(hS:SO E G h X)(q:RW E G h X M out r t D)(k:KW E h h1)(o:Own h1 60 3 h.next M'.log.length (cq M'.log) vl')
 (hs:M'.sv=M.sv) (ht:M'.told=M.told) (hv:M'.vs=M.vs) (hc:M'.aH=M.aH) :
 ∃X',PX E G h X G (h1.put r (.cells (rwC M' t D.c vl' D.vt D.vv D.vo) 78 true)) X'/\RW E G (h1.put r (.cells (rwC M' t D.c vl' D.vt D.vv D.vo) 78 true)) X' M' out r t {D with vl:=vl'}:=by
 obtain⟨ss,t1,t2⟩:=q.ht;obtain⟨co,o1,o2⟩:=q.ho;obtain⟨es,ck,c1,c2⟩:=q.hc;have hr:=q.hr;have hXr:X r:=q.hx r Nw
 have key:∀b o,b≠r->h.get b=some o->(h1.put r (.cells (rwC M' t D.c vl' D.vt D.vv D.vo) 78 true)).get b=some o:=λb o hb hg=>by
  rw[ai,if_neg (λe=>hb e.symm)];exact k.k.get _ _ hg
 have tne:t≠r:=λe=>N1;have cne:D.c≠r:=λe=>OQ;have hl:=o.lt k.w;have hrn:=(hS.wf.live _ _ hr).2;refine⟨_,PX.pO hS k hr hXr,⟨ND,⟨ss,key _ _ tne t1,by rw[hs];exact t2⟩,?_,by rw[ht];exact RW.own hr key (by decide) q.htl,by rw[hv];exact RW.own hr key (by decide) q.hv,⟨co,RW.own hr key Nz o1,o2⟩,⟨es,ck,key _ _ cne c1,by rw[hc];exact c2⟩,?_⟩⟩
 ·refine(o.low (Nat.zero_le _)).at λb p hb hg=>?_;rw[ai,if_neg (λe=>by have:=hl b hb;omega)];exact hg
 ·intro b hb;simp only[List.mem_cons,List.mem_append]at hb|-;have hxq:=q.hx;rcases hb with hb|hb|hb|((hb|hb)|hb)|hb
  ·left;exact hxq b NN
  ·left;exact hxq b NN
  ·left;exact hxq b NN
  ·right;exact hl b hb
  ·left;exact hxq b NN
  ·left;exact hxq b NN
  ·left;exact hxq b NN
end Go.Tm
namespace Go.Proofs.YthbjaiilnkakcaaGreatDoor
open Go.Tm Vr
variable{E:Env}(hE:EOk E)
include hE
section
variable{G:Mem}{h:ag}{X:Nat->Prop}(hS:SO E G h X){P:PR}{out:List Mg}{r t:Nat}(hQ:QR E G h X P out r t)
include hS hQ
theorem yx(z:P.Ok)(aK:Nat)(hk:aK<=1000):af E 50 [ptr r,iv aK] h λv h'=>v=iv (max P.bs (P.cm-aK)-P.bs)/\∃X',PX E G h X G h' X'/\QR E G h' X' (eO P aK) out r t:=by
 have zo:=z.op4;have zb:=z.bs;have zc:=z.cm;have hPl:P.op=P.bs+P.log.length:=rfl;have hW:=hS.wf;obtain⟨⟨dc,vl,vt,vv,vo⟩,q⟩:=hQ;have b0:=(PY.start hS).r0 q.hr q.xr;obtain⟨b,hb⟩:∃b,b=max P.bs (P.cm-aK):=⟨_,rfl⟩;have hbb:P.bs<=b/\b<=P.op:=by rw[hb];exact⟨Nat.le_max_left _ _,by omega⟩
 have hm1:max (0:Int) (aK:Int)=(aK:Int):=Nr;have hw1:IntKind.i64.wrap ((P.cm:Int)-(aK:Int))=(P.cm:Int)-(aK:Int):=cx Nr Nr;have hm2:max (P.bs:Int) ((P.cm:Int)-(aK:Int))=(b:Int):=Nr;have hw2:(Value.int .i64 (IntKind.i64.wrap ((b:Int)-(P.bs:Int))))=iv (b-P.bs):=iu Nr Nr;refine en hE Tryz.func50 rfl rfl Tryz.ntmps50 rfl Nv (rs:=[.tmp 4]) rfl ?_;simp only[push_cast,seval];refine ax Nt ?_;simp only[push_cast,seval,hE.z,b0,hm1,hw1,hm2,hw2];obtain⟨G1,hs1,hsub1,hf1,hn1⟩:=q.hl.Gd hW hS.frz;have hz1:Fz E G1 3 P.log.length (cq P.log) vl:=q.hl.fz hW hs1;obtain⟨ya,yc,hy,hys⟩:=hz1.from (P:=Tryz.prog) (t:=37) Tryz.underlying37 ly (cB _) (k:=b-P.bs) Nr;rw[eC,<-List.length_drop]at hys;rw[hy,ab];simp only[push_cast,seval];rw[<-List.length_drop];refine(mW hE hW hf1 hys (de _) (cB _) Oi).mono ?_;rintro w H4 ⟨ow,k4⟩;obtain⟨wa,wc,rfl,_⟩:=ow.fh;have hr4:=k4.k.get _ _ q.hr;simp only[push_cast,seval,hE.z,hr4];obtain⟨X5,p5,q5⟩:=RW.lg (M':={P.pm with log:=P.log.drop (b-P.bs),bs:=b}) hS q.raw k4 ow rfl rfl rfl rfl;refine⟨by rw[hb],X5,p5,⟨dc,.slice wa (P.log.drop (b-P.bs)).length wc,vt,vv,vo⟩,q5.qr ?_⟩;have hT:eO P aK={P with log:=P.log.drop (b-P.bs),bs:=b}:=by rw[hb];rfl
 have hop:PR.op {P with log:=P.log.drop (b-P.bs),bs:=b}=P.op:=by show b+(P.log.drop (b-P.bs)).length=P.op;rw[List.length_drop];omega
 rw[hT];unfold PR.pm;rw[hop];rfl
end
section
variable{G:Mem}{h:ag}{X:Nat->Prop}(hS:SO E G h X)
include hS
theorem Bk{me n vw nc t:Nat}{ss:List Value}(hn:n=3\/n=5\/n=7)(hme:me<n)(hv:vw<=1000000/\nc<=1000000)(ht:h.get t=some (.cells ss 45 true))(hs:SvR E G ⟨[],[]⟩ ss)(hXt:X t) :
 af E 52 [iv me,iv n,iv vw,iv nc,.iface 47 (ptr t)] h λv h'=>∃r v2 G' X' co,v=.tuple #[ptr r,v2,iv 0]/\PX E G h X G' h' X'/\QR E G' h' X' {PR.new me n with vw:=vw,st:=2,nc:=nc} [] r t/\Fz E G' 17 (PR.allM {PR.new me n with vw:=vw,st:=2,nc:=nc} {k:=8,nc:=nc}).length co v2/\bu E G' (PR.allM {PR.new me n with vw:=vw,st:=2,nc:=nc} {k:=8,nc:=nc}) co:=by
 have g1:decide ((vw:Int)<0)=false:=Nw;have g2:decide ((nc:Int)<0)=false:=Nw;have hW:=hS.wf;refine en hE Tryz.func52 rfl rfl Tryz.ntmps52 rfl Nv (rs:=[.tmp 10,.tmp 11,.tmp 12]) rfl ?_;simp only[push_cast,seval];refine(HG hE hS hn hme).mono ?_;intro v h5 hvh;rw[hvh.1,hvh.2];clear hvh;simp only[push_cast,seval,g1,g2];refine(Hx hE hS hn hme ht hs hXt).mono ?_;rintro v h2 ⟨r,X2,rfl,p2,q2⟩;obtain⟨D,q⟩:=q2;have b0:=(PY.start p2.so).r0 q.hr q.xr;simp only[push_cast,seval,hE.z,b0];have zn:3<=n/\n<=7:=Nr;have p3:PX E G h X G (h2.put r (.cells (rwC {(PR.new me n).pm with vw:=vw,st:=2,nc:=nc} t D.c D.vl D.vt D.vv D.vo) 78 true)) X2:=p2.trans hW (PX.put p2.so q.xr q.hr);have q3:=q.raw.hdr (h':=h2.put r (.cells (rwC {(PR.new me n).pm with vw:=vw,st:=2,nc:=nc} t D.c D.vl D.vt D.vv D.vo) 78 true)) (M':={(PR.new me n).pm with vw:=vw,st:=2,nc:=nc}) (X':=X2) ND (λc o hc hg=>by rw[ai,if_neg (λe=>hc e.symm)];exact hg) rfl rfl rfl rfl rfl (λc hc=>hc);obtain⟨P',hP'⟩:∃P':PR,P'={PR.new me n with vw:=vw,st:=2,nc:=nc}:=⟨_,rfl⟩;have q4:QR E G (h2.put r (.cells (rwC {(PR.new me n).pm with vw:=vw,st:=2,nc:=nc} t D.c D.vl D.vt D.vv D.vo) 78 true)) X2 P' [] r t:=by
  refine⟨D,RW.qr (M:={(PR.new me n).pm with vw:=vw,st:=2,nc:=nc,aH:=List.replicate n {}}) ?_ (by rw[hP'];rfl)⟩;obtain⟨es,ck,c1,c2⟩:=q3.hc
  exact⟨q3.hr,q3.ht,q3.hl,q3.htl,q3.hv,q3.ho,⟨es,ck,c1,c2.same λi m hk=>⟨λhx=>by simp[PR.pm,PR.new,PR.pC]at hx,λhx=>by
   have hm:=List.eq_of_mem_replicate (List.mem_of_getElem? hx);rw[hm]at hk
   exact absurd rfl hk⟩⟩,q3.hx⟩
 have hn':P'.n=n:=by rw[hP'];rfl
 refine(mJ hE p3.so q4 Nr Nw (m:={k:=8,nc:=nc}) ⟨_,_,_,rfl,Fz.nil,Fz.nil,Fz.nil⟩).mono ?_;rintro v h6 ⟨rfl,X6,p6,q6⟩;simp only[push_cast,seval];have p36:=p3.trans hW p6;refine(jh hE p36.so q6 (by have:=ke P' {k:=8,nc:=nc};simp;omega) λm hm=>by have:=uz (by simpa using hm);rw[this.1,this.2];simp).mono ?_
 rintro v h8 ⟨G8,co8,p8,q8,z8,r8⟩;simp only[push_cast,seval];rw[<-hP'];rw[List.nil_append]at z8 r8;exact⟨r,v,G8,X6,co8,rfl,p36.trans hW p8,q8,z8,r8⟩
end
end Go.Proofs.YthbjaiilnkakcaaGreatDoor
namespace Go.Tm
theorem JL{b:Nat}(h:b<256):bits .and .u8 (b:Int) 127=((b%128:Nat):Int) :=
 (by decide +kernel:∀b:Fin 256,bits .and .u8 (b.val:Int) 127=((b.val%128:Nat):Int)) ⟨b,h⟩
theorem Hs{x y:Nat}(hx:x<128):x ||| (y*128)=y*128+x:=by have:=Nat.shiftLeft_add_eq_or_of_lt (b:=x) (i:=7) hx y;rw[Nat.shiftLeft_eq]at this;rw[Nat.or_comm];exact this.symm
end Go.Tm
namespace Go.Proofs.YthbjaiilnkakcaaGreatDoor
open Go.Tm Vr
variable{E:Env}(hE:EOk E)
include hE
section
variable{G:Mem}{h:ag}(hW:WF E h)(hG:Frz E G h)
include hW hG
theorem nY{L:List UInt8}{v:Value}(hv:Fz E G 1 L.length (cM L) v){at_ n:Nat}{rest:List UInt8}(hd:L.drop at_=cK n++rest)(hn:n<16384)(hl:L.length<=1000000000) :
 af E 122 [v,iv at_] h λr h'=>r=.tuple #[.int .u64 n,iv (at_+(cK n).length),iv 0]/\h'=h:=by
 obtain⟨a,c,rfl,hc1,hc2⟩:=hv.slice;refine en hE Tryz.func122 rfl rfl Tryz.ntmps122 rfl Nv (rs:=[.tmp 4,.tmp 5,.tmp 6]) rfl ?_;simp only[push_cast,seval,hE.z];refine bG (λm tm h'=>∃(k:Nat) (u:Nat),m=2-k/\aj tm 0=.slice a L.length c/\aj tm 1=iv at_/\aj tm 8=iv k/\aj tm 7=.int .u64 u/\h'=h/\((k=0/\u=0)\/(k=1/\128<=n/\u=n%128))) 2 ?_ ?_
 ·simp only[push_cast,seval];exact⟨0,0,rfl,rfl,rfl,.inl ⟨rfl,rfl⟩⟩
 ·rintro m tm h' ⟨k,u,rfl,f0,f1,f8,f7,rfl,hk⟩;have hk10:k<10:=Nr;have hb1:decide ((k:Int)<10)=true:=Nu;have hy:∃y:Nat,y<256/\L[at_+k]? = some y.toUInt8/\((n<128/\k=0/\y=n)\/(128<=n/\k=0/\y=n%128+128)\/(128<=n/\k=1/\y=n/128)):=by
   have hget:∀j,(L.drop at_)[j]? = L[at_+j]? := λj=>by rw[List.getElem?_drop]
   rw[<-hget,hd];by_cases h128:n<128
   ·have hk0:k=0:=Nr;subst hk0;refine⟨n,Nr,?_,.inl ⟨h128,rfl,rfl⟩⟩;rw[er h128];rfl
   ·rw[fH h128,er (n:=n/128) Nr];rcases hk with⟨rfl,_⟩|⟨rfl,_,_⟩
    ·exact⟨n%128+128,Nr,rfl,.inr (.inl ⟨Nr,rfl,rfl⟩)⟩
    ·exact⟨n/128,Nr,rfl,.inr (.inr ⟨Nr,rfl,rfl⟩)⟩
  obtain⟨y,hy256,hyL,hyc⟩:=hy;have hlt:at_+k<L.length:=(List.getElem?_eq_some_iff.1 hyL).1;have hyt:y.toUInt8.toNat=y:=by simp[Nat.toUInt8];omega
  obtain⟨p,hp⟩:∃p,p=at_+k:=⟨_,rfl⟩;have w1:IntKind.i64.wrap ((at_:Int)+(k:Int))=(p:Int):=NG;rw[<-hp]at hyL hlt;have hb2:decide ((p:Int)>=(L.length:Int))=false:=Nu;obtain⟨lb,lc,e1',hsp,hac⟩:=hv.1.elem hG hlt;injection e1' with e1' _ e3';subst e1';subst e3';have hby:((cM L).drop (p*1)).take 1=[.int .u8 (y:Int)]:=by
   have h1:(cM L)[p]? = some (.int .u8 (y:Int)):=by unfold cM;rw[List.getElem?_map,hyL,Option.map_some,hyt]
   obtain⟨h2,h3⟩:=List.getElem?_eq_some_iff.1 h1;rw[Nat.mul_one,List.drop_eq_getElem_cons h2,h3];rfl
  rw[hby,Nat.mul_one]at hac;simp only[push_cast,seval,hE.z,f0,f1,f8,hb1,w1,hb2];rw[Mi hsp Nr Nr,ab];have hb3:((k:Int)==9)=false:=Nu;have ha127:=JL hy256;obtain⟨x,hx⟩:∃x,x=y%128:=⟨_,rfl⟩;rw[<-hx]at ha127;have hx128:x<128:=Nr;have w2:IntKind.u64.wrap (x:Int)=(x:Int):=oU Nr Nr;obtain⟨s7,hs7⟩:∃s,s=7*k:=⟨_,rfl⟩;have w3:IntKind.i64.wrap (7*(k:Int))=(s7:Int):=NG;have w4:IntKind.u64.wrap (s7:Int)=(s7:Int):=oU Nr Nr;have w5:((s7:Int)<0)=False:=Nw;obtain⟨w,hw⟩:∃w,w=x*2^s7:=⟨_,rfl⟩;have hwb:w<=16384:=by
   rcases(show k=0\/k=1 by omega) with hk|hk
   ·subst hk;rw[hw,hs7];simp;omega
   ·subst hk;rw[hw,hs7];simp;omega
  have w6:IntKind.u64.wrap ((x:Int)*2^min s7 IntKind.u64.bits)=(w:Int):=by
   have e1:min s7 IntKind.u64.bits=s7:=by show min s7 64=s7;omega
   rw[e1,hw];have e2:(x:Int)*2^s7=((x*2^s7:Nat):Int):=by rw[Int.natCast_mul,Int.natCast_pow];rfl
   rw[e2,<-hw];exact oU Nr Nr
  obtain⟨o,ho⟩:∃o,o=u ||| w:=⟨_,rfl⟩;have hu:u<128:=Nr;have w7:bits .or .u64 (u:Int) (w:Int)=(o:Int):=by rw[ho];exact bits_or_u64_nat u w (by omega) (by omega)
  simp only[push_cast,seval,hE.z,f8,f7,↓hac,Int.toNat_natCast,hb3,ha127,w2,w3,w4,w5,w6,w7];by_cases hy1:y<128
  ·have hb5:decide ((y:Int)<128)=true:=Nu;have hfin:o=n/\p+1=at_+(cK n).length:=by
    rcases hyc with⟨h1,rfl,rfl⟩|⟨h1,rfl,rfl⟩|⟨h1,rfl,rfl⟩
    ·have hu0:u=0:=Nr;subst hu0;refine⟨?_,by rw[er h1,hp];rfl⟩;rw[ho,Nat.zero_or,hw,hs7,hx];simp;omega
    ·omega
    ·have hu0:u=n%128:=Nr;refine⟨?_,?_⟩
     ·rw[ho,hw,hs7,show 2^(7*1)=128 from rfl,hu0,Hs Nr];omega
     ·rw[fH Nr,er (n:=n/128) Nr,hp];rfl
   obtain⟨e1,e2⟩:=hfin;subst e1;have w8:IntKind.i64.wrap ((p:Int)+1)=((at_+(cK o).length:Nat):Int):=by rw[<-e2,cx (by omega) (by omega)];rfl
   obtain⟨q,hq⟩:∃q,q=at_+(cK o).length:=⟨_,rfl⟩;rw[<-hq]at w8|-
   have hk0:y=0->decide ((k:Int)>0)=false:=λh=>by
    have:k=0:=Nr;simp[this]
   simp only[push_cast,seval,hb5];refine uR (λhb=>?_) (λhb=>?_)
   ·have hy0:y=0:=OY;have hk1:=hk0 hy0;simp only[push_cast,seval,f1,f8,hb,hk1,w1,w8];rfl
   ·simp only[push_cast,seval,f1,f8,hb,w1,w8];rfl
  ·have hb5:decide ((y:Int)<128)=false:=Nu;simp only[push_cast,seval,f0,f1,f8,hb5];have hk0:k=0:=Nr;subst hk0;have hu0:u=0:=Nr;subst hu0;refine⟨1,Nr,1,o,Nr,rfl,rfl,.inr ⟨rfl,Nr,?_⟩⟩;rw[ho,Nat.zero_or,hw,hs7,hx];simp;omega
end
end Go.Proofs.YthbjaiilnkakcaaGreatDoor
