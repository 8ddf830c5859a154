/- Part 15. -/
import Derived.Test.YthbjaiilnkakcaaGreatDoorT14
set_option linter.all false
set_option maxRecDepth 10000
set_option maxHeartbeats 8000000
namespace Go.Tm
theorem Sl.fz{E:Env}{G:Mem}{z n:Nat}{cs:List Value}{v:Value}(H:Sl E G z n cs v)(h0:0<n):Fz E G z n cs v:=by
 refine⟨H,λa k c e=>?_⟩;obtain⟨a',c',e1,_,_,_,h⟩:=H;rw[e]at e1;injection e1 with e1 e2 _;rcases h with⟨h,_⟩|⟨b,h1,h2⟩
 ·omega
 ·rw[<-e1]at h1;injection h1 with h1;subst h1;exact⟨(tY h2).2,λhk=>Nr⟩
end Go.Tm
namespace Go.Proofs.YthbjaiilnkakcaaGreatDoor
open Go.Tm Vr
variable{b:Nat}
theorem ia3{c:Nat}(hc:c<3):cA Tryz.prog 175 (.pointer (some ⟨b,0,none⟩)) (.int .i64 (c:Int))=some (.pointer (some ⟨b,c,none⟩)):=by have h:(Tryz.prog).underlying 175=some (.array 3 159):=Tryz.underlying175;simp only[cA,h,K6,fQ];rw[if_pos Nr];simp
theorem Mk:cA Tryz.prog 175 (.pointer (some ⟨b,0,none⟩)) (.int .i64 0)=some (.pointer (some ⟨b,0,none⟩)):=ia3 (c:=0) Nr
theorem Mj:cA Tryz.prog 175 (.pointer (some ⟨b,0,none⟩)) (.int .i64 1)=some (.pointer (some ⟨b,1,none⟩)):=ia3 (c:=1) Nr
theorem Ia:cA Tryz.prog 175 (.pointer (some ⟨b,0,none⟩)) (.int .i64 2)=some (.pointer (some ⟨b,2,none⟩)):=ia3 (c:=2) Nr
variable{E:Env}(hE:EOk E)
include hE
section
variable{G:Mem}{h:ag}(hW:WF E h)(hG:Frz E G h)
include hW hG
theorem zD{l:List Ent}(hl:l.length<=10000)(he:∀e,e∈l->e.c<16384/\e.n<16384/\1<=e.t.size/\e.t.size<16384){L:List UInt8}(hL:L=1::l.flatMap fq){v:Value}(hv:Fz E G 1 L.length (cM L) v)(hb:L.length<=1000000000) :
 af E 106 [.bool false,v] h λw h'=>∃G' sc,w=.tuple #[.agg sc.toArray,.bool true]/\SvR E G' (bj l) sc/\Ext E G h G' h':=by
 obtain⟨a,c,rfl,hc1,hc2⟩:=hv.slice;have hLp:0<L.length:=by rw[hL];simp
 have hb0:((L.length:Int)==0)=false:=NF;refine en hE Tryz.func106 rfl rfl Tryz.ntmps106 rfl Nv (rs:=[.cell 4 43,.tmp 5]) rfl ?_;simp only[push_cast,seval,hE.z,hb0];refine gtm (motive:=bY _ _ _) [1,4,6,18] λ_ f=>?_;simp only[push_cast,seval,gz]at f;refine MX.gen (motive:=λH=>bY _ _ _ _ H) (B:=[(h.next+1,.cells zCS 43 true),(h.next,_)]) (((MX.start hW hG).new.new).put hW 0 rfl) λH0 mx0=>?_;obtain⟨lb,lc,e1,hsp,hac⟩:=hv.1.elem mx0.x.frz hLp;injection e1 with e1 _ e3;subst e1;subst e3;have hby:((cM L).drop (0*1)).take 1=[.int .u8 1]:=by rw[hL];rfl
 rw[hby]at hac;simp only[Nat.zero_mul,Nat.add_zero]at hac;rw[Mi (n:=0) (len:=L.length) hsp (Int.le_refl 0) (Int.ofNat_lt.2 hLp),ab];simp only[push_cast,seval,hE.z,f,Int.toNat_zero,Nat.zero_mul,Nat.add_zero,↓hac];refine bG (λm tm H=>∃(i at_:Nat) (G':Mem) (sc:List Value),m=l.length-i/\i<=l.length/\(aj tm 1=.slice (some lb) L.length c/\aj tm 4=ptr h.next/\aj tm 6=ptr (h.next+1)/\aj tm 7=iv at_)/\L.drop at_=(l.drop i).flatMap fq/\at_<=L.length/\SvR E G' (bj (l.take i)) sc/\MX E G h G' H [(h.next+1,.cells sc 43 true),(h.next,.cells zCS 43 true)]) l.length ?_ ?_
 ·refine⟨0,1,G,_,rfl,Nat.zero_le _,?_,by rw[hL];rfl,hLp,⟨_,_,_,rfl,Fz.nil,Fz.nil,rfl⟩,mx0⟩;simp only[push_cast,seval,f];rfl
 ·clear mx0;rintro m tm H ⟨i,at_,G1,sc,rfl,hi,f,hd,hle,hs,c1⟩;have b1:=c1.f2;obtain⟨s1,d1,s2,d2,ct,rfl,z1,z2,z3⟩:=hs.e;simp only[push_cast,seval,hE.z,f];by_cases hlt:at_<L.length
  ·have hb1:decide ((at_:Int)<(L.length:Int))=true:=Nu;have hil:i<l.length:=by apply Classical.byContradiction;intro hn;rw[List.drop_eq_nil_iff.2 (show l.length<=i by omega)]at hd;have:=congrArg List.length hd;simp at this;omega
   have hdi:=List.drop_eq_getElem_cons hil;have htk:=List.take_succ_eq_append_getElem hil;have hse:=he _ (List.getElem_mem hil);generalize l[i]=e at *;rw[hdi,List.flatMap_cons]at hd;obtain⟨r,hr⟩:∃r,r=(l.drop (i+1)).flatMap fq:=⟨_,rfl⟩;rw[<-hr]at hd;unfold fq at hd;simp only[List.append_assoc]at hd;obtain⟨A1,hA1⟩:∃A1,A1=at_+(cK e.c).length:=⟨_,rfl⟩;obtain⟨A2,hA2⟩:∃A2,A2=A1+(cK e.n).length:=⟨_,rfl⟩;obtain⟨A3,hA3⟩:∃A3,A3=A2+(cK e.t.size).length:=⟨_,rfl⟩;have hd1:L.drop A1=cK e.n++(cK e.t.size++(e.t.data.toList++r)):=by rw[hA1,<-List.drop_drop,hd,List.drop_left]
   have hd2:L.drop A2=cK e.t.size++(e.t.data.toList++r):=by rw[hA2,<-List.drop_drop,hd1,List.drop_left]
   have hd3:L.drop A3=e.t.data.toList++r:=by rw[hA3,<-List.drop_drop,hd2,List.drop_left]
   have hts:e.t.data.toList.length=e.t.size:=PD;have hl3:A3+e.t.size<=L.length:=by have:=congrArg List.length hd3;rw[List.length_drop,List.length_append,hts]at this;omega
   simp only[push_cast,seval,hE.z,hb1];have c2:=c1.new (o:=.cells [.int .u64 0,.int .u64 0,.int .u64 0] 175 true);have g1:decide ((4294967295:Int)<(e.c:Int))=false:=Nu;have g2:decide ((4294967295:Int)<(e.n:Int))=false:=Nu;have g3:decide ((4294967295:Int)<(e.t.size:Int))=false:=Nu
   refine bG (λm tm H2=>∃(k p:Nat) (ar:List Value),m=3-k/\((k=0/\p=at_/\ar=[.int .u64 0,.int .u64 0,.int .u64 0])\/(k=1/\p=A1/\ar=[.int .u64 e.c,.int .u64 0,.int .u64 0])\/(k=2/\p=A2/\ar=[.int .u64 e.c,.int .u64 e.n,.int .u64 0])\/(k=3/\p=A3/\ar=[.int .u64 e.c,.int .u64 e.n,.int .u64 e.t.size])) /\
    (aj tm 1=.slice (some lb) L.length c/\aj tm 4=ptr h.next/\aj tm 6=ptr (h.next+1)/\aj tm 7=iv p/\aj tm 8=ptr H.next/\aj tm 9=iv k) /\
    MX E G h G1 H2 [(H.next,.cells ar 175 true),(h.next+1,.cells [.bool false,.slice s1 (bj (l.take i)).l.length d1,.slice none 0 0,.slice s2 (bj (l.take i)).tab.length d2] 43 true),(h.next,.cells zCS 43 true)]) 3 ?_ ?_
   ·refine⟨0,at_,_,rfl,.inl ⟨rfl,rfl,rfl⟩,?_,c2⟩;simp only[push_cast,seval,f];rfl
   ·clear c2;rintro m tm2 H2 ⟨k,p,ar,rfl,hk,f2,c2⟩;have b2:=c2.f3;rcases hk with⟨rfl,rfl,rfl⟩|⟨rfl,rfl,rfl⟩|⟨rfl,rfl,rfl⟩|⟨rfl,rfl,rfl⟩
    ·simp only[push_cast,seval,hE.z,f2];refine(nY hE c2.x.wf c2.x.frz (hv.sub c2.x.sub) hd Nr hb).mono ?_;rintro w H3 ⟨rfl,rfl⟩;simp only[push_cast,seval,hE.z,f2,g1];rw[ia3 (c:=0) Nr,ab];simp only[push_cast,seval,hE.z,f2,b2];exact⟨2,Nr,1,A1,_,rfl,.inr (.inl ⟨rfl,rfl,rfl⟩),⟨by rw[hA1],rfl⟩,c2.put hW 0 rfl⟩
    ·simp only[push_cast,seval,hE.z,f2];refine(nY hE c2.x.wf c2.x.frz (hv.sub c2.x.sub) hd1 Nr hb).mono ?_;rintro w H3 ⟨rfl,rfl⟩;simp only[push_cast,seval,hE.z,f2,g2];rw[ia3 (c:=1) Nr,ab];simp only[push_cast,seval,hE.z,f2,b2];exact⟨1,Nr,2,A2,_,rfl,.inr (.inr (.inl ⟨rfl,rfl,rfl⟩)),⟨by rw[hA2],rfl⟩,c2.put hW 0 rfl⟩
    ·simp only[push_cast,seval,hE.z,f2];refine(nY hE c2.x.wf c2.x.frz (hv.sub c2.x.sub) hd2 Nr hb).mono ?_;rintro w H3 ⟨rfl,rfl⟩;simp only[push_cast,seval,hE.z,f2,g3];rw[ia3 (c:=2) Nr,ab];simp only[push_cast,seval,hE.z,f2,b2];exact⟨0,Nr,3,A3,_,rfl,.inr (.inr (.inr ⟨rfl,rfl,rfl⟩)),⟨by rw[hA3],rfl⟩,c2.put hW 0 rfl⟩
    ·obtain⟨A4,hA4⟩:∃A4,A4=p+e.t.size:=⟨_,rfl⟩;have w1:IntKind.u64.wrap (IntKind.i64.wrap ((L.length:Int)-(p:Int)))=((L.length-p:Nat):Int):=by rw[cx (by omega) (by omega),oU (by omega) (by omega)];omega
     have g4:decide (((L.length-p:Nat):Int)<(e.t.size:Int))=false:=Nu;have w2:IntKind.i64.wrap (e.t.size:Int)=(e.t.size:Int):=cx Nr Nr;have w3:IntKind.i64.wrap ((p:Int)+(e.t.size:Int))=(A4:Int):=by rw[cx (by omega) (by omega),hA4];rfl
     simp only[push_cast,seval,hE.z,f2];simp only[push_cast,seval,hE.z,b2,w1,g4,Ia,ab];refine gtA [1,4,6,7,8] λ_ f3=>?_;simp only[push_cast,seval,gz,f2]at f3;have v1:IntKind.u32.wrap (e.c:Int)=(e.c:Int):=Cp Nr Nr;have v2:IntKind.u32.wrap (e.n:Int)=(e.n:Int):=Cp Nr Nr;have v3:IntKind.i32.wrap (e.c:Int)=(e.c:Int):=Go.IntWalk.i32_in _ ⟨Nr,Nr⟩;have v4:IntKind.i32.wrap (e.n:Int)=(e.n:Int):=Go.IntWalk.i32_in _ ⟨Nr,Nr⟩;have v5:IntKind.i64.wrap (e.c:Int)=(e.c:Int):=cx Nr Nr;have v6:IntKind.i64.wrap (e.n:Int)=(e.n:Int):=cx Nr Nr;refine ax Nt ?_;simp only[push_cast,seval,hE.z,f3,b2,Mk,Mj,Ia,ab,v1,v2,v3,v4,v5,v6,w2,w3];obtain⟨y,hy1,hy2⟩:=(hv.sub c2.x.sub).cut (P:=Tryz.prog) (t:=58) (lo:=some (iv p)) (hi:=some (.int .i64 (A4:Int))) (l:=p) (h:=A4) Tryz.underlying58 sz5 (λc _=>by unfold lk;simp only;rw[if_pos Nr];simp) (by unfold lk;simp only;rw[if_pos (by omega)];simp) Nr Nr;obtain⟨ya,yc,rfl,_⟩:=hy2.slice;have hcut:((cM L).drop (p*1)).take ((A4-p)*1)=cM e.t.data.toList:=by rw[Nat.mul_one,Nat.mul_one,hA4,Nat.add_sub_cancel_left];unfold cM;rw[<-List.map_drop,<-List.map_take,hd3,<-hts,List.take_left]
     have hz:A4-p=e.t.data.toList.length:=by rw[hts];omega
     rw[hcut]at hy2;rw[hz]at hy1 hy2;have fy:=hy2.fz (by rw[hts];omega);have het:(⟨e.t.data.toList.toArray⟩:ByteArray)=e.t:=rfl;rw[hy1,ab];simp only[push_cast,seval,hE.z];rw[uf hE c2.x.frz fy Pw,het,ab];simp only[push_cast,seval,hE.z];have zz:=pQ (l.take i);have hlt2:(l.take i).length<=i:=OM;have hs2:SvR E G1 (bj (l.take i)) [.bool false,.slice s1 (bj (l.take i)).l.length d1,.slice none 0 0,.slice s2 (bj (l.take i)).tab.length d2]:=⟨_,_,_,rfl,z1,z2,z3⟩;refine(qV hE c2.x.wf c2.x.frz hs2 (e:=e) ⟨Nr,Nr⟩ Nr Nr (λx hx=>tM zz.2.2 hx)).mono ?_;rintro w H3 ⟨G3,sc3,rc3,x3,hs3,⟨_,_,rfl,_⟩,rfl⟩;obtain⟨_,_,_,_,_,rfl,_⟩:=hs3.e;have c3:=c2.call x3;simp only[push_cast,seval,hE.z,f3,c3.f3,Ia,ab,w2,w3];exact⟨l.length-(i+1),Nr,i+1,A4,G3,_,rfl,Nr,rfl,by rw[hA4,<-List.drop_drop,hd3,<-hts,List.drop_left,hr],Nr,by rw[htk,fA];exact hs3,(c3.put hW 1 rfl).drop 1⟩
  ·have hb1:decide ((at_:Int)<(L.length:Int))=false:=Nu;have hil:i=l.length:=by apply Classical.byContradiction;intro hn;rw[List.drop_eq_nil_iff.2 (show L.length<=at_ by omega),List.drop_eq_getElem_cons (show i<l.length by omega),List.flatMap_cons]at hd;have:=tB l[i];have hd2:=List.append_eq_nil_iff.1 hd.symm;exact this hd2.1
   subst hil;simp only[push_cast,seval,hE.z,f,hb1,b1];refine⟨G1,_,rfl,?_,(c1.put hW 1 rfl).x⟩;rw[List.take_length]at z1 z2 z3|-;exact⟨_,_,_,rfl,z1,z2,z3⟩
end
end Go.Proofs.YthbjaiilnkakcaaGreatDoor
namespace Go.Proofs.YthbjaiilnkakcaaGreatDoor
open Go.Tm Vr
variable{i:Nat}{m:Mg}{ms:List Value}{v:Value}{l:List Bool}
theorem dj3{x y w:List Value}{j l lo:Nat}:Dj lo 60 [(i,.cells x 49 true),(j,.cells y 66 true),(l,.cells w 49 true)]:=((Dj.nil.tag Nz).tag Nz).tag Nz
variable{E:Env}(hE:EOk E)
include hE
section
variable{G:Mem}{h:ag}(hW:WF E h)(hG:Frz E G h){P:PR}{cs:List Value}(hP:PRR E G P cs)
include hW hG hP
theorem mj(hm:MgR E G m ms)(hlt:m.op<P.cm):af E 96 [.agg cs.toArray,.agg ms.toArray] h λv h'=>v=.tuple #[.agg cs.toArray,.bool false]/\KW E h h':=by obtain⟨a1,c1,a2,c2,a3,c3,a4,c4,a5,c5,a6,c6,a7,c7,ct,cc,ca,rfl,_⟩:=hP.e;obtain⟨b1,d1,b2,d2,b3,d3,rfl,m1,m2,m3⟩:=hm.e;have hb1:decide ((m.op:Int)<(P.cm:Int))=true:=Nu;refine en hE Tryz.func96 rfl rfl Tryz.ntmps96 rfl Nv (rs:=[.cell 4 49,.tmp 5]) rfl ?_;simp only[push_cast,seval,hE.z,hW.b0,hW.b1,hW.b2,hb1];exact(by repeat (first|assumption|exact KW.refl hW|apply KW.push|refine KW.put ?_ NB NB hW))
theorem kV(z:P.Ok)(hm:MgR E G m ms)(h3:m.log.length=m.op-m.bs)(k:m.Ok)(hco:P.cm<=m.op)(hi:P.cm<m.bs->m.bs<=m.cm/\m.cm<=m.op/\jC m) :
 af E 96 [.agg cs.toArray,.agg ms.toArray] h λv h'=>∃G' rc',v=.tuple #[.agg rc'.toArray,.bool true]/\PRR E G' (au P m) rc'/\Ext E G h G' h':=by
 obtain⟨a1,c1,a2,c2,a3,c3,a4,c4,a5,c5,a6,c6,a7,c7,ct,cc,ca,rfl,q1,⟨q2,q3,q4⟩,q5,q6,q7,q8⟩:=hP.e;obtain⟨b1,d1,b2,d2,b3,d3,rfl,m1,m2,m3⟩:=hm.e;have hb1:decide ((m.op:Int)<(P.cm:Int))=false:=Nu;have zb:=z.bs;have zc:=z.cm;have ko:=k.n.2.1;have kl:=k.lg;have ki:=k.im;have hpl:P.log.length=P.op-P.bs:=NH;have hn:=Nat.le_refl h.next;by_cases hb:P.cm<m.bs
 ·have hb2:decide ((P.cm:Int)<(m.bs:Int))=true:=Nu;obtain⟨h1,h2,hi⟩:=hi hb;obtain⟨L,e1,e2,e3,e4,e5,e6,e7⟩:=hi.un;refine en hE Tryz.func96 rfl rfl Tryz.ntmps96 rfl Nv (rs:=[.cell 4 49,.tmp 5]) rfl ?_;simp only[push_cast,seval,hE.z,hW.b0,hW.b1,hb1,hb2];refine Go.Tm.aO [2,3,4,6] λ_ f=>?_;simp only[push_cast,seval,gz]at f;refine MX.gen (motive:=λH=>af E _ _ H _) (B:=[(h.next+1+1,_),(h.next+1,_),(h.next,_)]) ((MX.start hW hG).new.new.new) λH1 c1=>?_
  refine(zD hE c1.x.wf c1.x.frz (l:=(bj L).l) (by have:=k.n.2.2.1;omega) (λe he=>by
   have:=e7 e he
   exact⟨Og,N3,N8,N8⟩) e1 m2 Nr).mono ?_
  rintro w H2 ⟨G2,sc,rfl,hs,x2⟩;obtain⟨s1,u1,s2,u2,st,rfl,z1,z2,z3⟩:=hs.e;have c2:=c1.call x2;simp only[push_cast,seval,hE.z,f,c2.f3];refine gtm (motive:=kwv _ _ _) [2,4] λ_ f2=>?_;simp only[push_cast,seval,gz,f]at f2;refine MX.gen (motive:=λH=>kwv (cI E H _ _ _ _) _ _ _ H) (B:=[(h.next+1+1,_),(h.next+1,_),(h.next,_)]) ((c2.new.put hW 3 rfl).drop 1) λH3 c3=>?_;refine ej (jS hE.P) c3.x.wf c3.x.frz (lo:=h.next) c3.x.aK.next (Own.nil _ _ _ _) (m1.1.sub c3.x.sub) (cB _) (de _) Nr Nr λv' H4 ap=>?_;obtain⟨va,vc,rfl⟩:=ap.sl;rw[Nat.zero_add,List.nil_append]at ap;obtain⟨c4,o4⟩:=c3.app hW OL.nil dj3 hn ap;obtain⟨G5,z5,c5,s5,_⟩:=c4.still hW o4 dj3 hn;rw[Nat.zero_add];simp only[push_cast,seval,hE.z,f2,c5.f3];refine⟨G5,_,rfl,?_,((c5.put hW 2 rfl).put hW 0 rfl).x⟩;have ei:au P m={P with sv:=bj L,cm:=m.cm,bs:=m.bs,log:=m.log}:=by unfold au;rw[if_pos hb,e2]
  have s05:=c5.x.sub;rw[e3]at z1 z2 z3|-;rw[ei];exact PRR.of (P:={P with sv:=bj L,cm:=m.cm,bs:=m.bs,log:=m.log}) z5 (z1.sub s5) (z2.sub s5) (z3.sub s5) (q5.sub s05) (q6.sub s05) ⟨q7.1.sub s05,q7.2.sub s05⟩ ⟨q8.1.sub s05,q8.2.sub s05⟩
 ·have hb2:decide ((P.cm:Int)<(m.bs:Int))=false:=Nu;by_cases hb3:P.bs<=m.bs
  ·have hb4:decide ((P.bs:Int)<=(m.bs:Int))=true:=Nu;have hw:(Value.int .i64 (IntKind.i64.wrap ((m.bs:Int)-(P.bs:Int))))=.int .i64 ((m.bs-P.bs:Nat):Int):=iu Nr hb3;refine en hE Tryz.func96 rfl rfl Tryz.ntmps96 rfl Nv (rs:=[.cell 4 49,.tmp 5]) rfl ?_;simp only[push_cast,seval,hE.z,hW.b0,hW.b1,hb1,hb2,hb4];refine gtm (motive:=bY _ _ _) [2,3,4,51] λ_ f=>?_;simp only[push_cast,seval,gz]at f;rw[hw];refine MX.gen (motive:=λH=>bY _ _ _ _ H) (B:=[(h.next+1+1,_),(h.next+1,_),(h.next,_)]) ((MX.start hW hG).new.new.new) λH1 c1=>?_;obtain⟨ua,uc,hu1,hu2⟩:=(q1.sub c1.x.sub).upto (P:=Tryz.prog) (t:=37) Tryz.underlying37 ly (k:=m.bs-P.bs) Nr;rw[hu1,ab];simp only[push_cast,seval,f];rw[jy]at hu2;refine ej (jS hE.P) c1.x.wf c1.x.frz (lo:=h.next) c1.x.aK.next (Own.nil _ _ _ _) hu2 (by rw[cB,List.length_take];omega) (de _) Nr Nr λv' H2 ap=>?_;obtain⟨va,vc,rfl⟩:=ap.sl;rw[Nat.zero_add,List.nil_append]at ap;obtain⟨c2,o2⟩:=c1.app hW OL.nil dj3 hn ap;simp only[push_cast,seval,hE.z,f,c2.f3];refine ej (jS hE.P) c2.x.wf c2.x.frz (lo:=h.next) c2.x.aK.next o2.own (m1.1.sub c2.x.sub) (cB _) (de _) Nr Nr λv' H3 ap=>?_;obtain⟨wa,wc,rfl⟩:=ap.sl;obtain⟨c3,o3⟩:=c2.app hW o2 dj3 hn ap;obtain⟨G4,z4,c4,s4,_⟩:=c3.still hW o3 dj3 hn;simp only[push_cast,seval,hE.z,f,c4.f3];refine⟨G4,_,rfl,?_,((c4.put hW 2 rfl).put hW 0 rfl).x⟩;have ei:au P m={P with log:=P.log.take (m.bs-P.bs)++m.log}:=by unfold au;rw[if_neg hb,if_pos hb3]
   have el:(P.log.take (m.bs-P.bs)++m.log).length=m.bs-P.bs+m.log.length:=by rw[List.length_append,List.length_take];omega
   rw[<-fk,<-el]at z4;rw[ei,<-el];have s04:=c4.x.sub;exact PRR.of (P:={P with log:=P.log.take (m.bs-P.bs)++m.log}) z4 (q2.sub s04) (q3.sub s04) (q4.sub s04) (q5.sub s04) (q6.sub s04) ⟨q7.1.sub s04,q7.2.sub s04⟩ ⟨q8.1.sub s04,q8.2.sub s04⟩
  ·have hb4:decide ((P.bs:Int)<=(m.bs:Int))=false:=Nu;have hw:(Value.int .i64 (IntKind.i64.wrap ((P.bs:Int)-(m.bs:Int))))=.int .i64 ((P.bs-m.bs:Nat):Int):=iu Nr Nr;refine en hE Tryz.func96 rfl rfl Tryz.ntmps96 rfl Nv (rs:=[.cell 4 49,.tmp 5]) rfl ?_;simp only[push_cast,seval,hE.z,hW.b0,hW.b1,hb1,hb2,hb4];refine gtm (motive:=bY _ _ _) [2,3,4,66] λ_ f=>?_;simp only[push_cast,seval,gz]at f;rw[hw];refine MX.gen (motive:=λH=>bY _ _ _ _ H) (B:=[(h.next+1+1,_),(h.next+1,_),(h.next,_)]) ((MX.start hW hG).new.new.new) λH1 c1=>?_;obtain⟨ua,uc,hu1,hu2⟩:=(m1.sub c1.x.sub).from (P:=Tryz.prog) (t:=37) Tryz.underlying37 ly (cB _) (k:=P.bs-m.bs) Nr;rw[hu1,ab];simp only[push_cast,seval,f];rw[eC]at hu2;refine ej (jS hE.P) c1.x.wf c1.x.frz (lo:=h.next) c1.x.aK.next (Own.nil _ _ _ _) hu2 (by rw[cB,List.length_drop]) (de _) Nr Nr λv' H2 ap=>?_;obtain⟨va,vc,rfl⟩:=ap.sl;rw[Nat.zero_add,List.nil_append]at ap;obtain⟨c2,o2⟩:=c1.app hW OL.nil dj3 hn ap;obtain⟨G4,z4,c4,s4,_⟩:=c2.still hW o2 dj3 hn;rw[Nat.zero_add];simp only[push_cast,seval,hE.z,f,c4.f3];refine⟨G4,_,rfl,?_,((c4.put hW 2 rfl).put hW 0 rfl).x⟩;have ei:au P m={P with log:=m.log.drop (P.bs-m.bs)}:=by unfold au;rw[if_neg hb,if_neg hb3]
   have el:(m.log.drop (P.bs-m.bs)).length=m.log.length-(P.bs-m.bs):=by rw[List.length_drop]
   rw[<-el]at z4;rw[ei,<-el];have s04:=c4.x.sub;exact PRR.of (P:={P with log:=m.log.drop (P.bs-m.bs)}) z4 (q2.sub s04) (q3.sub s04) (q4.sub s04) (q5.sub s04) (q6.sub s04) ⟨q7.1.sub s04,q7.2.sub s04⟩ ⟨q8.1.sub s04,q8.2.sub s04⟩
theorem mq(z:P.Ok)(hm:MgR E G m ms)(hmd:fU m=true)(k:m.Ok)(hco:P.cm<=m.op)(hi:P.cm<m.bs->jC m) :
 af E 96 [.agg cs.toArray,.agg ms.toArray] h λv h'=>∃G' rc',v=.tuple #[.agg rc'.toArray,.bool true]/\PRR E G' (au P m) rc'/\Ext E G h G' h' :=
 kV hE hW hG hP z hm (js hmd).2.2 k hco λh=>⟨(js hmd).1,(js hmd).2.1,hi h⟩
end
section
variable{G:Mem}{h:ag}{X:Nat->Prop}(hS:SO E G h X)
include hS
theorem AR{S:Sv}{ss:List Value}{t:Nat}(ht:h.get t=some (.cells ss 45 true))(hs:SvR E G S ss)(hX:X t){l:List Ent}(hl:l.length<=10000)(he:∀e,e∈l->e.c<16384/\e.n<16384/\1<=e.t.size/\e.t.size<16384){L:List UInt8}(hL:L=1::l.flatMap fq)(hv:Fz E G 1 L.length (cM L) v)(hb:L.length<=1000000000) :
 af E 275 [ptr t,v] h λw h'=>w=iv 0/\∃G' sc,PX E G h X G' h' X/\SvR E G' (bj l) sc/\h'.get t=some (.cells sc 45 true)/\∀b o,b≠t->h.get b=some o->h'.get b=some o:=by
 have hW:=hS.wf;obtain⟨a1,c1,a2,c2,ct,rfl,_⟩:=hs.e;refine en hE Tryz.func275 rfl rfl Tryz.ntmps275 rfl Nv (rs:=[.tmp 4]) rfl ?_;simp only[push_cast,seval];refine(zD hE hW hS.frz hl he hL hv hb).mono ?_;rintro w H1 ⟨G1,sc,rfl,hsc,x1⟩;have hsc0:=hsc;obtain⟨a4,c4,a5,c5,ct2,rfl,_⟩:=hsc.e;have Y1:=(PY.start hS).ext hW x1;have ht1:=x1.aK.get _ _ ht;have b1:=Y1.r0 ht1 hX;have n1:(H1.next=t)=False:=by have:=(x1.wf.live _ _ ht1).2;simp;omega
 simp only[push_cast,seval,hE.z,b1];have Y2:=Y1.new hW (o:=.cells [.bool false,.slice a4 (bj l).l.length c4,.slice none 0 0,.slice a5 (bj l).tab.length c5] 43 true);have ht2:(H1.push (.cells [.bool false,.slice a4 (bj l).l.length c4,.slice none 0 0,.slice a5 (bj l).tab.length c5] 43 true)).get t=H1.get t:=by rw[ah,if_neg (by simpa using n1)]
 rw[ht1]at ht2;refine⟨rfl,G1,_,(Y2.own hW hX ht2).p,hsc0,rfl,λb o hb hg=>?_⟩;have hg1:=x1.aK.get _ _ hg;have:=(x1.wf.live _ _ hg1).2;rw[if_neg (λe=>hb e.symm),if_neg Nr];exact hg1
end
section
variable{G:Mem}{h:ag}{X:Nat->Prop}(hS:SO E G h X){P:PR}{out:List Mg}{r t:Nat}(hQ:QR E G h X P out r t)
include hS hQ
theorem og(hm:MgR E G m ms)(hlt:m.op<P.cm):af E 81 [ptr r,.agg ms.toArray] h λv h'=>v=.bool false/\PX E G h X G h' X/\QR E G h' X P out r t:=by obtain⟨b1,d1,b2,d2,b3,d3,rfl,m1,m2,m3⟩:=hm.e;have Y1:=(PY.start hS).new hS.wf (o:=.cells (mCS m b1 d1 b2 d2 b3 d3) 66 true);have q1:=(PY.start hS).qk hQ (o:=.cells (mCS m b1 d1 b2 d2 b3 d3) 66 true);obtain⟨D,hr,hx⟩:=q1.dd;have f1:=Y1.r1 hr hx;have g1:decide ((m.op:Int)<(P.cm:Int))=true:=Nu;refine en hE Tryz.func81 rfl rfl Tryz.ntmps81 rfl Nv (rs:=[.tmp 4]) rfl ?_;simp only[push_cast,seval];refine gtA [0,3] λ_ f=>?_;simp only[push_cast,seval,gz]at f;refine PY.gen (motive:=λH=>aF E _ _ _ H) Y1 q1 λH1 Y1 q1=>?_;obtain⟨D1,hr1,hx1⟩:=q1.dd;have f1:=Y1.r1 hr1 hx1;refine ax Nt ?_;simp only[push_cast,seval,hE.z,f,f1,g1];exact⟨Y1.p,q1⟩
theorem jv(z:P.Ok)(hm:MgR E G m ms)(h3:m.log.length=m.op-m.bs)(k:m.Ok)(hbo:m.bs<=m.op)(hco:P.cm<=m.op)(hi:P.cm<m.bs->m.bs<=m.cm/\m.cm<=m.op/\jC m) :
 af E 81 [ptr r,.agg ms.toArray] h λv h'=>v=.bool true/\∃G' X',PX E G h X G' h' X'/\QR E G' h' X' (au P m) out r t:=by
 have hW:=hS.wf;have zb:=z.bs;have zc:=z.cm;have zo:=z.op4;have ko:=k.n;have kl:=k.lg;have ki:=k.im;have hPl:P.op=P.bs+P.log.length:=rfl;have hm0:=hm;obtain⟨b1,d1,b2,d2,b3,d3,rfl,m1,m2,m3⟩:=hm.e;have Y1:=(PY.start hS).new hS.wf (o:=.cells (mCS m b1 d1 b2 d2 b3 d3) 66 true);have q1:=(PY.start hS).qk hQ (o:=.cells (mCS m b1 d1 b2 d2 b3 d3) 66 true);have g1:decide ((m.op:Int)<(P.cm:Int))=false:=Nu;refine en hE Tryz.func81 rfl rfl Tryz.ntmps81 rfl Nv (rs:=[.tmp 4]) rfl ?_;simp only[push_cast,seval];refine gtA [0,3] λ_ f=>?_;simp only[push_cast,seval,gz]at f;refine PY.gen (motive:=λH=>aF E _ _ _ H) Y1 q1 λH1 Y1 q1=>?_;obtain⟨D1,hr1,hx1⟩:=q1.dd;have f1:=Y1.r1 hr1 hx1;refine ax Nt ?_;simp only[push_cast,seval,hE.z,f,f1,g1];refine ax Nt ?_;by_cases hb:P.cm<m.bs
 ·have g2:decide ((P.cm:Int)<(m.bs:Int))=true:=Nu;obtain⟨h1,h2,hi⟩:=hi hb;obtain⟨L,e1,e2,e3,e4,e5,e6,e7⟩:=hi.un;simp only[push_cast,seval,hE.z,f,f1,g2];refine gtA [0,3] λ_ f2=>?_;simp only[push_cast,seval,gz,f]at f2;refine ax Nt ?_;simp only[push_cast,seval,hE.z,f2,f1];rw[kR (II hE)];obtain⟨D1,q1⟩:=q1;obtain⟨ss,t1,t2⟩:=q1.ht
  refine(AR hE Y1.p.so t1 t2 (q1.hx t Nw) (l:=(bj L).l) Nr (λe he=>by
   have:=e7 e he
   exact⟨Og,N3,N8,N8⟩) e1 (m2.sub Y1.p.sub) Nr).mono ?_
  rintro w H2 ⟨rfl,G2,sc,p2,s2,gt2,kk2⟩;rw[e3]at s2;have q3:=q1.toy p2.sub gt2 s2 kk2 (λ_ hx=>hx);have Y3:=Y1.call hW p2;have b3:=Y3.r1 q3.hr q3.xr;simp only[push_cast,seval];refine gtA [0,3] λ_ f3=>?_;simp only[push_cast,seval,gz,f2]at f3;refine aB [(4,9),(6,9),(6,12)] Nt Nt Nt ?_;simp only[push_cast,seval,hE.z,f3,b3];refine(mW hE Y3.p.so.wf Y3.p.so.frz (m1.1.sub Y3.p.sub) (de _) (cB _) Nr).mono ?_;rintro w H4 ⟨ow,k4⟩;obtain⟨wa,wc,rfl,_⟩:=ow.fh;have Y4:=Y3.kw hW k4;have hr4:=k4.k.get _ _ q3.hr;have b4:=Y4.r1 hr4 q3.xr;simp only[push_cast,seval,hE.z,f3,b3,b4,aV];obtain⟨X5,p5,q5⟩:=RW.lg (M':={P.pm with sv:=bj L,cm:=m.cm,bs:=m.bs,log:=m.log,op:=m.op}) Y3.p.so q3.raw k4 ow rfl rfl rfl rfl;refine⟨G2,X5,Y3.p.trans hW p5,_,q5.qr ?_⟩;unfold au;rw[if_pos hb,e2];have hop:PR.op {P with sv:=bj L,cm:=m.cm,bs:=m.bs,log:=m.log}=m.op:=by show m.bs+m.log.length=m.op;omega
  unfold PR.pm;rw[hop];rfl
 ·have g2:decide ((P.cm:Int)<(m.bs:Int))=false:=Nu;simp only[push_cast,seval,hE.z,f,f1,g2];refine gtA [0,3] λ_ f2=>?_;simp only[push_cast,seval,gz,f]at f2;refine ax Nt ?_;have hkk:(m.bs<=P.bs/\(m.bs-P.bs:Int)<=0)\/(P.bs<=m.bs):=Nr;obtain⟨kp,hkp⟩:∃kp,kp=m.bs-P.bs:=⟨_,rfl⟩;have hw1:IntKind.i64.wrap ((m.bs:Int)-(P.bs:Int))=(m.bs:Int)-(P.bs:Int):=cx Nr Nr;have hmm:max (0:Int) (min ((m.bs:Int)-(P.bs:Int)) (P.log.length:Int))=(kp:Int):=Nr;obtain⟨⟨dc,vl,vt,vv,vo⟩,q⟩:=q1;obtain⟨va,vc,hvl,_⟩:=q.hl.fh;simp only at hvl;subst hvl;have f1:=Y1.r1 q.hr q.xr;simp only[push_cast,seval,hE.z,f2,f1,hw1,hmm];refine gtA [0,3,5] λ_ f3=>?_;simp only[push_cast,seval,gz,f2]at f3;refine ax Nt ?_;obtain⟨dp,hdp⟩:∃dp,dp=P.bs-m.bs:=⟨_,rfl⟩;have hw2:IntKind.i64.wrap ((P.bs:Int)-(m.bs:Int))=(P.bs:Int)-(m.bs:Int):=cx Nr Nr;have hmn:min (m.log.length:Int) (max (0:Int) ((P.bs:Int)-(m.bs:Int)))=(dp:Int):=Nr;simp only[push_cast,seval,hE.z,f3,f1,hw2,hmn];obtain⟨ya,yc,hy,hys⟩:=(m1.sub Y1.p.sub).from (P:=Tryz.prog) (t:=37) Tryz.underlying37 ly (cB _) (k:=dp) Nr;rw[eC,<-List.length_drop]at hys;rw[hy,ab];obtain⟨G1,hs1,hsub1,hf1,hn1⟩:=q.hl.Gd Y1.p.so.wf Y1.p.so.frz;have hz1:Fz E G1 3 P.log.length (cq P.log) (.slice va P.log.length vc):=q.hl.fz Y1.p.so.wf hs1;obtain⟨ua,uc,hu,hus⟩:=hz1.upto (P:=Tryz.prog) (t:=37) Tryz.underlying37 ly (k:=kp) Nr;rw[jy]at hus;simp only[push_cast,seval,hE.z,f3,f1];rw[hu,ab];simp only[push_cast,seval];have hdl:(m.log.drop dp).length<=10000:=Oi;have htl:(P.log.take kp).length=kp:=Oj;refine(mW hE Y1.p.so.wf hf1 hus (de _) (by rw[cB,htl]) Nr).mono ?_;rintro w H4 ⟨ow,k4⟩;have ow:Own H4 60 3 H1.next kp (cq (P.log.take kp)) w:=ow;have hkb:kp<=10000:=Nr;have Y4:=Y1.kw hW k4;have b4:=Y4.r1 (k4.k.get _ _ q.hr) q.xr;simp only[push_cast,seval];rw[<-List.length_drop];refine ej (jS hE.P) k4.w Y4.p.so.frz (lo:=H1.next) (n:=kp) (m:=(m.log.drop dp).length) k4.k.next ow hys (cB _) (de _) Nr Nr λv' H5 ap=>?_;obtain⟨wa,wc,rfl⟩:=ap.sl;have k5:=KW.app k4 Y1.p.so.wf ow ap;have hr5:=k5.k.get _ _ q.hr;have b5:=(Y1.kw hW k5).r1 hr5 q.xr;simp only[push_cast,seval,hE.z,f3,b5];obtain⟨l,hl⟩:∃l,l=P.log.take kp++m.log.drop dp:=⟨_,rfl⟩;have hll:kp+(m.log.drop dp).length=l.length:=by rw[hl,List.length_append,htl]
  have o5:Own H5 60 3 H1.next l.length (cq l) (.slice wa (kp+(m.log.drop dp).length) wc):=by have:=ap.own;rw[<-fk,<-hl]at this;rw[<-hll];exact this
  obtain⟨X5,p5,q5⟩:=RW.lg (M':={P.pm with log:=l,op:=m.op}) Y1.p.so q.raw k5 o5 rfl rfl rfl rfl;refine⟨G,X5,Y1.p.trans hW p5,_,q5.qr ?_⟩;have hI:au P m={P with log:=l}:=by
   unfold au;rw[if_neg hb];by_cases hbb:P.bs<=m.bs
   ·rw[if_pos hbb,hl,hkp,show dp=0 by omega,List.drop_zero]
   ·rw[if_neg hbb,hl,hdp,show kp=0 by omega,List.take_zero,List.nil_append]
  rw[hI];have hop:PR.op {P with log:=l}=m.op:=by show P.bs+l.length=m.op;rw[<-hll,List.length_drop];omega
  unfold PR.pm;rw[hop];rfl
end
section
variable{G:Mem}{h:ag}(hW:WF E h)(hG:Frz E G h){P:PR}{cs:List Value}(hP:PRR E G P cs)
include hW hG hP
theorem pd(hn:P.n<=7)(v s:Nat):af E 91 [.agg cs.toArray,iv v,iv s] h λw h'=>∃G' mc,w=.agg mc.toArray/\PRR E G' (bK P v s) mc/\Ext E G h G' h':=by
 have hP0:=hP;obtain⟨a1,c1,a2,c2,a3,c3,a4,c4,a5,c5,a6,c6,a7,c7,ct,cc,ca,rfl,q1,⟨q2,q3,q4⟩,q5,q6,q7,q8⟩:=hP.e;have p1:(h.next=h.next+1)=False:=Nw;have p2:(h.next+1=h.next)=False:=Nw
 have fin:∀(H:ag) (w:Nat),KW E h H->H.get (h.next+1+1)=some (.cells (bR P.n [.int .i64 0]) 3 true)->∃G' mc,(Value.agg #[iv P.me,iv P.n,iv v,iv s,iv w,iv P.bs,iv P.cm,iv P.nc,.slice a1 P.log.length c1,.bool false,.slice a2 P.sv.l.length c2,.slice none 0 0,.slice a3 P.sv.tab.length c3,.slice (some ⟨h.next+1+1,0,none⟩) P.n P.n,.slice a5 P.aG.length c5,.bool P.aJ,.slice a6 P.aH.length c6,.slice a7 P.ans.length c7])=.agg mc.toArray /\
  PRR E G' {P with told:=List.replicate P.n 0,vw:=v,st:=s,nm:=w} mc/\Ext E G h G' H:=by
  intro H w k g;have o:=Own.whole (lo:=h.next) (n:=P.n) (z:=1) g (by rw[gx];simp[bT]) Nr Nr;obtain⟨G1,z1,x1⟩:=Own.frz hW hG k o;rw[gx]at z1;refine⟨G1,_,rfl,?_,x1⟩;exact PRR.of (P:={P with told:=List.replicate P.n 0,vw:=v,st:=s,nm:=w}) (q1.sub x1.sub) (q2.sub x1.sub) (q3.sub x1.sub) (q4.sub x1.sub) (by simpa using z1) (q6.sub x1.sub) ⟨q7.1.sub x1.sub,q7.2.sub x1.sub⟩ ⟨q8.1.sub x1.sub,q8.2.sub x1.sub⟩
 by_cases hv:v=P.vw
 ·have hb1:((v:Int) != (P.vw:Int))=false:=PG;by_cases h0:s=0
  ·have hb2:((s:Int)==0)=true:=Ox;refine en hE Tryz.func91 rfl rfl Tryz.ntmps91 rfl Nv (rs:=[.cell 6 49]) rfl ?_;simp only[push_cast,seval,hE.z,hW.b0,hW.b1,hb1,hb2,p1,p2];refine⟨G,_,rfl,?_,KW.ext ?_ hG⟩
   ·unfold bK;rw[if_pos hv,if_pos h0];exact PRR.of q1 q2 q3 q4 q5 q6 q7 q8
   ·exact(by repeat (first|assumption|exact KW.refl hW|apply KW.push|refine KW.put ?_ NB NB hW))
  ·have hb2:((s:Int)==0)=false:=Ox;refine en hE Tryz.func91 rfl rfl Tryz.ntmps91 rfl Nv (rs:=[.cell 6 49]) rfl ?_;simp only[push_cast,seval,hE.z,hW.b0,hW.b1,hb1,hb2,p1,p2];refine⟨G,_,rfl,?_,KW.ext ?_ hG⟩
   ·unfold bK;rw[if_pos hv,if_neg h0];exact PRR.of q1 q2 q3 q4 q5 q6 q7 q8
   ·exact(by repeat (first|assumption|exact KW.refl hW|apply KW.push|refine KW.put ?_ NB NB hW))
 ·have hb1:((v:Int) != (P.vw:Int))=true:=Nu;refine en hE Tryz.func91 rfl rfl Tryz.ntmps91 rfl Nv (rs:=[.cell 6 49]) rfl ?_;simp only[push_cast,seval,hE.z,hW.b0,hb1,p2];rw[xh Nr Nr Nr Nr,aR];by_cases h0:s=0
  ·have hb2:((s:Int)==0)=true:=Ox;have p3:(h.next+2=h.next)=False:=Nw;have p4:(h.next+2=h.next+1)=False:=Nw;have p5:(h.next+1+1=h.next)=False:=Nu;simp only[push_cast,seval,hE.z,hW.b0,hW.b1,hb2,p1,p2,p3,p4];have e:bK P v s={P with told:=List.replicate P.n 0,vw:=v,st:=s,nm:=v}:=by unfold bK;rw[if_neg hv,if_pos h0]
   rw[e];exact fin _ _ ((by repeat (first|assumption|exact KW.refl hW|apply KW.push|refine KW.put ?_ NB NB hW))) (by simp[ai,ah];omega)
  ·have hb2:((s:Int)==0)=false:=Ox;have p5:(h.next+1+1=h.next)=False:=Nu;simp only[push_cast,seval,hE.z,hW.b0,hW.b1,hb2,p1,p2,p5];have e:bK P v s={P with told:=List.replicate P.n 0,vw:=v,st:=s,nm:=P.nm}:=by unfold bK;rw[if_neg hv,if_neg h0]
   rw[e];exact fin _ _ ((by repeat (first|assumption|exact KW.refl hW|apply KW.push|refine KW.put ?_ NB NB hW))) (by simp[ai,ah];omega)
theorem qt(z:P.Sz)(v:Nat):af E 55 [.agg cs.toArray,iv v] h λw h'=>∃G' mc co v2,w=.tuple #[.agg mc.toArray,v2]/\PRR E G' (bO P v).1 mc/\Own h' 66 17 h.next (bO P v).2.length co v2/\bu E G' (bO P v).2 co/\(∀b,b∈slB v2->G' b=none)/\Ext E G h G' h':=by
 have hP0:=hP;obtain⟨a1,c1,a2,c2,a3,c3,a4,c4,a5,c5,a6,c6,a7,c7,ct,cc,ca,rfl,q1,⟨q2,q3,q4⟩,q5,q6,q7,q8⟩:=hP.e;have zn:=z.n;have p2:(h.next+1=h.next)=False:=Nw;refine en hE Tryz.func55 rfl rfl Tryz.ntmps55 rfl Nv (rs:=[.cell 4 49,.tmp 5]) rfl ?_;simp only[push_cast,seval,hE.z,hW.b0,p2];have kA:=((KW.refl hW).push (o:=.cells (rCS P a1 c1 a2 c2 a3 c3 a4 c4 a5 c5 a6 c6 a7 c7) 49 true)).push (o:=.cells zCR 49 true);refine(pd hE kA.w (hG.aK kA.k) hP0 Nr v 1).mono ?_;rintro w h3 ⟨G3,mc,rfl,r3,x3⟩;obtain⟨Q,hQ⟩:∃Q,Q=bK P v 1:=⟨_,rfl⟩;rw[<-hQ]at r3;have r30:=r3;obtain⟨e1,f1,e2,f2,e3,f3,e4,f4,e5,f5,e6,f6,e7,f7,ft,fc,fa,rfl,s1,⟨s2,s3,s4⟩,s5,s6,s7,s8⟩:=r3.e;have gR:=x3.aK.get h.next _ (show _=some (.cells (rCS P a1 c1 a2 c2 a3 c3 a4 c4 a5 c5 a6 c6 a7 c7) 49 true) by rw[ah,if_neg Nw,ah,if_pos rfl]);have gZ:=x3.aK.get (h.next+1) _ (show _=some (.cells zCR 49 true) by rw[ah,if_pos Nw]);have nR:=x3.wf.nlt gR;have y0:=x3.wf.ne gR;have vn:Q.n=P.n:=by rw[hQ];rfl
 simp only[vn];simp only[push_cast,seval,hE.z,gR,nR];rw[Bt Nr Nr Nr Nr,aR];simp only[push_cast,seval,hE.z,nR,y0];rw[Ff Nr Nr Nr Nr,aR];have p3:(h3.next+1=h.next)=False:=by have:=(x3.wf.live _ _ gR).2;simp;omega
 simp only[push_cast,seval,hE.z,p3];have lR:=(x3.wf.live _ _ gR).2;have lZ:=(x3.wf.live _ _ gZ).2
 refine cR (motive:=λH=>aF E _ _ _ H) (λH=>KW E h H/\Ext E G h G3 h3/\(∀b o,b≠h.next->h3.get b=some o->H.get b=some o)/\H.next=h3.next+2/\H.get h.next=some (.cells [iv Q.me,iv P.n,iv Q.vw,iv Q.st,iv Q.nm,iv Q.bs,iv Q.cm,iv Q.nc,.slice e1 Q.log.length f1,.bool false,.slice e2 Q.sv.l.length f2,.slice none 0 0,.slice e3 Q.sv.tab.length f3,.slice e4 Q.told.length f4,.slice (some ⟨h3.next,0,none⟩) P.n P.n,.bool false,.slice (some ⟨h3.next+1,0,none⟩) P.n P.n,.slice e7 Q.ans.length f7] 49 true) /\
  H.get h3.next=some (.cells (bR P.n [.bool false]) 4 true)/\H.get (h3.next+1)=some (.cells (bR P.n [.int .i64 0,.int .i64 0,.int .i64 0,.int .i64 0,.int .i64 0,.int .i64 0,.int .i64 0,.int .i64 0,.int .i64 0,.slice none 0 0,.slice none 0 0,.int .i64 0,.int .i64 0,.string ByteArray.empty,.int .i64 0,.int .i64 0,.slice none 0 0]) 66 true)) ?_ ?_
 ·have xA:=(KW.ext kA hG).andthen x3;have kk:KW E h h3:=⟨xA.aK,x3.wf⟩;refine⟨?_,xA,λb o hb hg=>?_,Nw,ND,?_,?_⟩
  ·exact(((kk.put (Nat.le_refl _) lR hW).push.put (Nat.le_refl _) Nu hW).push.put (Nat.le_refl _) Nu hW)
  ·have:=(x3.wf.live _ _ hg).2;simp only[ai,ah,dI,bU];rw[if_neg (λe=>hb e.symm),if_neg Nr,if_neg (λe=>hb e.symm),if_neg Nr,if_neg (λe=>hb e.symm)];exact hg
  ·rw[ai,if_neg Nr,ah,if_neg Nw,ai,if_neg Nr,ah,if_pos Nw]
  ·rw[ai,if_neg Nr,ah,if_pos Nw]
 ·rintro H ⟨kH,xA,keyH,hnx,gR',gV',gC'⟩;have oV:=Own.whole (lo:=h3.next) (n:=P.n) (z:=1) gV' (by rw[iD];simp[cF]) (Nat.le_refl _) Nr;have oC:=Own.whole (lo:=h3.next+1) (n:=P.n) (z:=17) gC' (by rw[(mZ E G P.n).len];simp) (Nat.le_refl _) Nr
  have hG3H:Frz E G3 H:=λb c hb=>by
   obtain⟨e,fx,hg⟩:=x3.frz b c hb;refine⟨e,fx,keyH b _ (λe1=>?_) hg⟩;subst e1;rcases x3.new _ _ hb with h9|h9
   ·obtain⟨e',fx',hg'⟩:=hG _ _ h9;have:=(hW.live _ _ hg').2;omega
   ·rw[bU,bU]at h9;omega
  have gn:∀b,h3.next<=b->G3 b=none:=λb hb=>by
   cases hg:G3 b with
   |none=>rfl
   |some c =>obtain⟨e,fx,hh⟩:=x3.frz b c hg;have:=(x3.wf.live _ _ hh).2;omega
  obtain⟨G4,t1,u1,fr1,v1⟩:=Own.add kH.w hG3H oV (λb hb=>gn b (by simp[slB]at hb;omega))
  obtain⟨G5,t2,u2,fr2,v2⟩:=Own.add kH.w fr1 oC (λb hb=>by
   simp[slB]at hb
   cases hg:G4 b with
   |none=>rfl
   | some c =>
     rcases v1 b c hg with h9|⟨h9,_⟩
     ·rw[gn b Nr]at h9;cases h9
     ·simp[slB]at h9;omega)
  have xF:Ext E G h G5 H:=⟨(xA.sub.trans u1).trans u2,fr2,λb c hg=>by
   rcases v2 b c hg with h9|⟨h9,h8⟩
   ·rcases v1 b c h9 with h9|⟨h9,h8⟩
    ·exact xA.new b c h9
    ·right;omega
   ·right;omega,kH.k,kH.w⟩
  have s35:Sub G3 G5:=u1.trans u2;have zV:=(oV.fz kH.w t1).sub u2;have zC:=oC.fz kH.w t2;rw[iD]at zV;have hQP:(bO P v).1={Q with aG:=List.replicate P.n false,aJ:=false,aH:=List.replicate P.n {}}:=by rw[hQ];rfl
  have rF:PRR E G5 (bO P v).1 [iv Q.me,iv P.n,iv Q.vw,iv Q.st,iv Q.nm,iv Q.bs,iv Q.cm,iv Q.nc,.slice e1 Q.log.length f1,.bool false,.slice e2 Q.sv.l.length f2,.slice none 0 0,.slice e3 Q.sv.tab.length f3,.slice e4 Q.told.length f4,.slice (some ⟨h3.next,0,none⟩) P.n P.n,.bool false,.slice (some ⟨h3.next+1,0,none⟩) P.n P.n,.slice e7 Q.ans.length f7]:=by rw[hQP,<-vn];rw[<-vn]at zV zC;exact PRR.of (P:={Q with aG:=List.replicate Q.n false,aJ:=false,aH:=List.replicate Q.n {}}) (s1.sub s35) (s2.sub s35) (s3.sub s35) (s4.sub s35) (s5.sub s35) (by simpa using zV) ⟨by simpa using zC,mZ E G5 Q.n⟩ ⟨s8.1.sub s35,s8.2.sub s35⟩
  have nR':=kH.w.nlt gR';have gZ':=keyH _ _ Nr gZ;have nZ':=kH.w.nlt gZ';refine gtA [1,2,4,5] λt hf=>?_;simp only[push_cast,seval,gz]at hf;obtain⟨g1,g2,g4,g5⟩:=hf;refine aB [(0,4)] Nt Nt Nt ?_;simp only[push_cast,seval,hE.z,g1,g2,gR',nR'];have hP1:(bO P v).1.n<=1000:=by rw[hQP];show Q.n<=1000;omega
  refine(jM hE kH.w rF fr2 hP1 (m:={k:=5,vw:=v}) ⟨_,_,_,rfl,Fz.nil,Fz.nil,Fz.nil⟩).mono ?_;rintro w h6 ⟨co,o6,m6,k6⟩;have gZ6:=k6.k.get _ _ gZ';have gR6:=k6.k.get _ _ gR';simp only[push_cast,seval,hE.z,g2,g4,gR',nR',nZ',gZ6,gR6];have hlo6:=o6.lt k6.w;have hZn:G5 (h.next+1)=none:=by
   cases hg:G5 (h.next+1) with
   |none=>rfl
   | some c =>
     rcases v2 _ c hg with h9|⟨_,h8⟩
     ·rcases v1 _ c h9 with h9|⟨_,h8⟩
      ·rcases x3.new _ c h9 with h9|h9
       ·obtain⟨e,fx,hh⟩:=hG _ c h9;have:=(hW.live _ _ hh).2;omega
       ·rw[bU,bU]at h9;omega
      ·omega
     ·omega
  have l6:=(k6.w.live _ _ gZ6).2;have kE:=(kH.trans k6).put (b:=h.next+1) (o:=.cells [iv Q.me,iv P.n,iv Q.vw,iv Q.st,iv Q.nm,iv Q.bs,iv Q.cm,iv Q.nc,.slice e1 Q.log.length f1,.bool false,.slice e2 Q.sv.l.length f2,.slice none 0 0,.slice e3 Q.sv.tab.length f3,.slice e4 Q.told.length f4,.slice (some ⟨h3.next,0,none⟩) P.n P.n,.bool false,.slice (some ⟨h3.next+1,0,none⟩) P.n P.n,.slice e7 Q.ans.length f7] 49 true) (Nat.le_succ _) l6 hW;have hout:(bO P v).2=(bO P v).1.allM {k:=5,vw:=v}:=rfl;refine⟨G5,_,co,w,rfl,rF,?_,by rw[hout];exact m6,λb hb=>?_,xF.sub,?_,xF.new,kE.k,kE.w⟩
  ·rw[hout]
   exact(o6.low (show h.next<=H.next by omega)).at λb o hb hg=>by
    have:=hlo6 b hb;rw[ai,if_neg Nr];exact hg
  ·have:=hlo6 b hb
   cases hg:G5 b with
   |none=>rfl
   |some c =>obtain⟨e,fx,hh⟩:=fr2 _ c hg;have:=(kH.w.live _ _ hh).2;omega
  ·intro b c hb;obtain⟨e,fx,hh⟩:=(fr2.aK k6.k) b c hb;exact⟨e,fx,OO⟩
end
section
variable{G:Mem}{h:ag}(hW:WF E h)(hG:Frz E G h)
include hW hG
omit hE hW hG in
theorem AP(hi:i<l.length):dy (l.take (i+1))=dy (l.take i)+if l[i] then 1 else 0:=by unfold dy;rw[List.take_succ_eq_append_getElem hi,List.filter_append,List.length_append];cases l[i]<;>rfl
theorem Bq(hv:Fz E G 1 l.length (cF l) v)(hl:l.length<=1000):af E 107 [v] h λr h'=>r=iv (dy l)/\h'=h:=by
 obtain⟨a,c,rfl,hc1,hc2⟩:=hv.slice;refine en hE Tryz.func107 rfl rfl Tryz.ntmps107 rfl Nv (rs:=[.tmp 2]) rfl ?_;simp only[push_cast,seval,hE.z];refine bG (λm tm h'=>∃i:Nat,m=l.length-i/\i<=l.length/\aj tm 0=.slice a l.length c/\aj tm 4=iv i/\aj tm 3=iv (dy (l.take i))/\h'=h) l.length ?_ ?_
 ·simp only[push_cast,seval];exact⟨0,Nr,Nr,rfl,rfl⟩
 ·rintro m tm h' ⟨i,rfl,hi,f0,f4,f3,rfl⟩;have hvb:dy (l.take i)<=i:=OJ;obtain⟨w,hw⟩:∃w,w=dy (l.take i):=⟨_,rfl⟩;rw[<-hw]at f3 hvb;simp only[push_cast,seval,hE.z,f0,f4];refine eT (λhb=>?_) (λhb=>?_)
  ·have hlt:i<l.length:=OY;obtain⟨lb,lc,e1',hsp,hac⟩:=hv.1.elem hG hlt;injection e1' with e1' _ e3';subst e1';subst e3';have hby:((cF l).drop (i*1)).take 1=[.bool l[i]]:=by
    have h2:i<(cF l).length:=by simp[cF,hlt]
    rw[Nat.mul_one,List.drop_eq_getElem_cons h2];simp[cF]
   rw[hby,Nat.mul_one]at hac;have hvs:=AP hlt;rw[<-hw]at hvs;simp only[push_cast,seval,hE.z,f0,f4];rw[mu hsp Nr Nr,ab];simp only[push_cast,seval,hE.z,↓hac,Int.toNat_natCast]
   cases hbit:l[i] with
   |true =>rw[hbit]at hvs;simp only[push_cast,seval,f0,f4,f3];exact⟨l.length-(i+1),Nr,i+1,rfl,Nr,NJ,by rw[hvs,cx (by omega) (by omega)];rfl⟩
   |false =>rw[hbit]at hvs;simp only[push_cast,seval,f0,f4,f3];exact⟨l.length-(i+1),Nr,i+1,rfl,Nr,NJ,by rw[hvs];rfl⟩
  ·have hge:i=l.length:=by have:¬i<l.length:=(by simpa using hb);omega
   subst hge;rw[List.take_length]at hw;simp only[push_cast,seval,f3];rw[hw]
end
end Go.Proofs.YthbjaiilnkakcaaGreatDoor
namespace Go.Tm
open Vr
theorem bu.set{E:Env}{G:Mem}:∀{l:List Mg} {c:List Value} {i:Nat} {m:Mg} {ms:List Value},bu E G l c->MgR E G m ms->i<l.length->bu E G (l.set i m) (c.take (i*17)++ms++c.drop ((i+1)*17))
 | v::l,c,0,m,ms,h,hm,_=>by
   obtain⟨c1,c2,rfl,h1,h2⟩:=h;simp only[List.set_cons_zero,Nat.zero_mul,List.take_zero,List.nil_append,Nat.zero_add,Nat.one_mul];rw[show(17:Nat)=c1.length from h1.len.symm,List.drop_left];exact⟨ms,c2,rfl,hm,h2⟩
 | v::l,c,i+1,m,ms,h,hm,hi=>by
   obtain⟨c1,c2,rfl,h1,h2⟩:=h;have:=bu.set h2 hm (i:=i) Pn;rw[List.set_cons_succ,show(i+1)*17=c1.length+i*17 by rw[h1.len];omega,List.take_length_add_append,show(i+1+1)*17=c1.length+(i+1)*17 by rw[h1.len];omega,List.drop_length_add_append];exact⟨c1,_,Nw,h1,this⟩
theorem PRR.sc{E:Env}{G:Mem}{H:ag}{P:PR}{cs:List Value}(hW:WF E H)(hG:Frz E G H)(hP:PRR E G P cs):Go.Tm.sc H.next (.agg cs.toArray)=true:=by obtain⟨a1,c1,a2,c2,a3,c3,a4,c4,a5,c5,a6,c6,a7,c7,ct,cc,ca,rfl,q1,⟨q2,q3,q4⟩,q5,q6,q7,q8⟩:=hP.e;rw[<-ij];unfold scQ iK;have s1:=q1.1.sc hW hG;have s2:=q2.1.sc hW hG;have s3:=q3.1.sc hW hG;have s4:=q5.1.sc hW hG;have s5:=q6.1.sc hW hG;have s6:=q7.1.1.sc hW hG;have s7:=q8.1.1.sc hW hG;rw[<-ij]at s1 s2 s3 s4 s5 s6 s7;simp only[iJ,List.forall_mem_cons,List.not_mem_nil,false_implies,implies_true,and_true];exact⟨rfl,rfl,rfl,rfl,rfl,rfl,rfl,rfl,s1,rfl,s2,rfl,s3,s4,s5,rfl,s6,s7⟩
theorem MgR.sc{E:Env}{G:Mem}{H:ag}{m:Mg}{cs:List Value}(hW:WF E H)(hG:Frz E G H)(hm:MgR E G m cs):Go.Tm.sc H.next (.agg cs.toArray)=true:=by obtain⟨b1,d1,b2,d2,b3,d3,rfl,m1,m2,m3⟩:=hm.e;rw[<-ij];unfold scQ iK;have s1:=m1.1.sc hW hG;have s2:=m2.1.sc hW hG;have s3:=m3.1.sc hW hG;rw[<-ij]at s1 s2 s3;simp only[iJ,List.forall_mem_cons,List.not_mem_nil,false_implies,implies_true,and_true];exact⟨rfl,rfl,rfl,rfl,rfl,rfl,rfl,rfl,rfl,s1,s2,rfl,rfl,rfl,rfl,rfl,s3⟩
def bIx:Option (Nat×Mg)->Value|none=>.int .i64 (-1)|some b=>.int .i64 (b.1:Int)
end Go.Tm
namespace Vr
def cO(P:PR)(m:Mg):List Mg:=if (P.aH.getD m.fr {}).k=0 then P.aH.set m.fr m else P.aH
end Vr
namespace Go.Proofs.YthbjaiilnkakcaaGreatDoor
open Go.Tm Vr
theorem djM{x y w:List Value}{n lo:Nat}(h:n+3<=lo):Dj lo 66 [(n+1+1,.cells x 49 true),(n+1,.cells y 66 true),(n,.cells w 49 true)]:=((Dj.nil.low Nr).low Nr).low Nr
variable{E:Env}(hE:EOk E)
include hE
section
variable{G:Mem}{h:ag}(hW:WF E h)(hG:Frz E G h){P:PR}{cs:List Value}(hP:PRR E G P cs)
include hW hG hP
theorem Aq(z:P.Ok){m:Mg}{ms:List Value}(hm:MgR E G m ms)(hfr:m.fr<P.n)(hcb:∀x,x∈cO P m->x.cm<=10000)
 (hb:¬((bI (cO P m)).length<=P.F\/((cO P m).getD P.me {}).k=0)->∀b,dV (bI (cO P m))=some b->b.1≠P.me->fU b.2=true/\b.2.Ok/\P.cm<=b.2.op/\(P.cm<b.2.bs->jC b.2)) :
 af E 98 [.agg cs.toArray,.agg ms.toArray] h λv h'=>∃G' rc' co v2,v=.tuple #[.agg rc'.toArray,v2]/\PRR E G' (dD P m).1 rc'/\Fz E G' 17 (dD P m).2.length co v2/\bu E G' (dD P m).2 co/\Ext E G h G' h':=by
 have hP0:=hP;obtain⟨a1,c1,a2,c2,a3,c3,a4,c4,a5,c5,a6,c6,a7,c7,ct,cc,ca,rfl,q1,⟨q2,q3,q4⟩,q5,q6,q7,q8⟩:=hP.e;obtain⟨b1,d1,b2,d2,b3,d3,rfl,m1,m2,m3⟩:=hm.e;have hm0:MgR E G m (mCS m b1 d1 b2 d2 b3 d3):=⟨_,_,_,rfl,m1,m2,m3⟩;have zn:=z.n;have zcl:=z.aH;have hn1:h.next<=h.next+3:=Nr;refine en hE Tryz.func98 rfl rfl Tryz.ntmps98 rfl Nv (rs:=[.cell 4 49,.tmp 5]) rfl ?_;simp only[push_cast,seval,hE.z,hW.b0];refine gtm (motive:=kwv _ _ _) [2,3,4] λ_ f=>?_;simp only[push_cast,seval,gz]at f;refine MX.gen (motive:=λH=>kwv (cI E H _ _ _ _) _ _ _ H) (B:=[(h.next+1+1,_),(h.next+1,_),(h.next,_)]) ((MX.start hW hG).new.new.new) λH1 X1=>?_;have l1:=X1.lt 0 rfl;refine ej (mz hE.P) X1.x.wf X1.x.frz (lo:=h.next+3) l1 (Own.nil _ _ _ _) (q7.1.1.sub X1.x.sub) q7.2.len q7.2.nj Nr Nr λv' H2 ap=>?_;obtain⟨va,vc,rfl⟩:=ap.sl;rw[Nat.zero_add,List.nil_append]at ap;obtain⟨X2,o2⟩:=X1.app hW OL.nil (djM (Nat.le_refl _)) hn1 ap;rw[Nat.zero_add];simp only[push_cast,seval,hE.z,f,X2.f3];refine gtm (motive:=bY _ _ _) [2,3,4,27] λ_ f1=>?_;simp only[push_cast,seval,gz,f]at f1;refine MX.uW (motive:=λH=>bY _ _ _ _ H) (B:=[(h.next+1+1,_),(h.next+1,_),(h.next,_)]) (X2.put hW 2 rfl) (o2.put (X2.at 2 rfl).1 (.inl Nr)) λH3 X3 o3=>?_;have hfl:m.fr<P.aH.length:=Nr;obtain⟨vb,vd,e1,hac⟩:=o3.own.elem X3.x.wf hfl;injection e1 with e1 _ e3;subst e1;subst e3;have qm:=(q7.2.sub X3.x.sub).at m.fr _ (List.getElem?_eq_getElem hfl);have hgd:P.aH.getD m.fr {}=P.aH[m.fr]:=by rw[List.getD_eq_getElem?_getD,List.getElem?_eq_getElem hfl];rfl
 obtain⟨_,_,_,_,_,_,hms0,_⟩:=qm.e;rw[hms0]at hac;have p0:=aY hac 0 1 Nr;simp only[Nat.add_zero,List.drop_zero,List.take_succ_cons,List.take_zero]at p0;rw[jw rfl Nr Nr,ab];simp only[push_cast,seval,hE.z,Nat.zero_add,Int.toNat_natCast,↓p0]
 refine dJ (λtm H=>((aj tm 2=ptr h.next/\aj tm 3=ptr (h.next+1)/\aj tm 4=ptr (h.next+1+1))/\∃G4 co4,MX E G h G4 H [(h.next+1+1,.cells zCR 49 true),(h.next+1,.cells (mCS m b1 d1 b2 d2 b3 d3) 66 true),(h.next,.cells (rCS P a1 c1 a2 c2 a3 c3 a4 c4 a5 c5 (some ⟨vb,0,none⟩) vc a7 c7) 49 true)] /\
  Fz E G4 17 P.aH.length co4 (.slice (some ⟨vb,0,none⟩) P.aH.length vc)/\bu E G4 (cO P m) co4)) ?_ ?_
 ·rintro tm H ⟨f2,G4,co4,X4,z4,r4⟩;obtain⟨L,hL⟩:∃L,L=cO P m:=⟨_,rfl⟩;have hLn:L.length=P.n:=by rw[hL];unfold cO;split<;>simp[zcl]
  rw[<-hL]at r4 hb hcb;have zLn:P.aH.length=L.length:=Nr;unfold rCS at X4;rw[zLn]at z4 X4;obtain⟨Bz,hBz⟩:∃B,B=[(h.next+1+1,bz.cells zCR 49 true),(h.next+1,.cells (mCS m b1 d1 b2 d2 b3 d3) 66 true),(h.next,.cells (rC P (.slice a1 P.log.length c1) (.slice a2 P.sv.l.length c2) (.slice a3 P.sv.tab.length c3) (.slice a4 P.told.length c4) (.slice a5 P.aG.length c5) (.slice (some ⟨vb,0,none⟩) L.length vc) (.slice a7 P.ans.length c7)) 49 true)]:=⟨_,rfl⟩;rw[<-hBz]at X4;simp only[push_cast,seval,hE.z];refine oW ?_;simp only[push_cast,seval,hE.z];refine bG (λk tm H=>∃i,k=P.n-i/\i<=P.n/\(aj tm 2=ptr h.next/\aj tm 3=ptr (h.next+1)/\aj tm 4=ptr (h.next+1+1)/\aj tm 7=iv (bI (L.take i)).length/\aj tm 8=bIx (dV (bI (L.take i)))/\aj tm 9=iv i)/\MX E G h G4 H Bz) P.n ?_ ?_
  ·refine⟨0,Nr,Nr,?_,X4⟩;simp only[push_cast,seval,f2];exact⟨rfl,rfl,rfl⟩
  ·clear X4;rintro k tm H ⟨i,rfl,hi,f3,X4⟩;rw[hBz]at X4;have b4:=X4.f3;simp only[push_cast,seval,hE.z,f3,b4];by_cases hlt:i<P.n
   ·have hlt1:decide ((i:Int)<(P.n:Int))=true:=Nu;have hiL:i<L.length:=Nr;have hgi:L[i]? = some L[i]:=List.getElem?_eq_getElem hiL;have qi:=r4.at i _ hgi;have htk:=ld hgi;obtain⟨vb',vd',e1,_,hac⟩:=z4.1.elem X4.x.frz hiL;injection e1 with e1 _ _;injection e1 with e1;subst e1;generalize L[i]=c at *;obtain⟨u1,x1,u2,x2,u3,x3,hcc,_⟩:=qi.e;rw[hcc]at hac;simp only[Nat.zero_add]at hac;simp only[push_cast,seval,hE.z,f3,b4,hlt1];rw[jw rfl Nr Nr,ab];simp only[push_cast,seval,hE.z,b4,Nat.zero_add,Int.toNat_natCast,↓hac];by_cases hk0:c.k=0
    ·have hkb:((c.k:Int)==0)=true:=by simp[hk0]
     rw[if_pos hk0,List.append_nil]at htk;simp only[push_cast,seval,f3,hkb];refine⟨P.n-(i+1),Nr,i+1,rfl,Nr,?_,by rw[hBz];exact X4.new.drop 1⟩;rw[htk];exact⟨rfl,rfl,bk Nr⟩
    ·have hkb:((c.k:Int)==0)=false:=NF;rw[if_neg hk0]at htk;have hlen:=pX (L.take i);have hbs:=sg (bI (L.take i)) (i,c);have hlt3:(L.take i).length<=i:=OM;have hw:(Value.int .i64 (IntKind.i64.wrap (((bI (L.take i)).length:Int)+1)))=iv (bI (L.take (i+1))).length:=by rw[htk,List.length_append];exact bk Nr
     simp only[push_cast,seval,f3,hkb,hw];refine gtA [2,3,4,7,8,9,10] λ_ f4=>?_;simp only[push_cast,seval,gz,f3]at f4;refine MX.gen (motive:=λH=>aF E _ _ _ H) (B:=[(H.next,_),(h.next+1+1,_),(h.next+1,_),(h.next,_)]) X4.new λH5 X5=>?_;have b5:=X5.f4;refine ax Nt ?_
     cases hbo:dV (bI (L.take i)) with
     |none =>rw[hbo]at hbs f4;simp only[bIx]at f4;simp only[push_cast,seval,f4,cH];exact⟨P.n-(i+1),Nr,i+1,rfl,Nr,⟨rfl,PF,bk Nr⟩,OX⟩
     | some b =>
       rw[hbo]at hbs f4;simp only[bIx]at f4;obtain⟨hb1,hb2⟩:=jA (iB hbo);have hbi:b.1<i:=by have:=(List.getElem?_eq_some_iff.1 hb1).1;omega
       rw[List.getElem?_take_of_lt hbi]at hb1;have qb:=r4.at b.1 _ hb1;obtain⟨vb',vd',e1,_,hab⟩:=z4.1.elem X5.x.frz (i:=b.1) Nr;injection e1 with e1 _ _;injection e1 with e1;subst e1;obtain⟨_,_,_,_,_,_,hcb,_⟩:=qb.e;rw[hcb]at hab;simp only[Nat.zero_add]at hab;have p7:=aY hab 7 1 Nr;have p4:=aY hab 4 1 Nr;simp only[List.drop_succ_cons,List.drop_zero,List.take_succ_cons,List.take_zero]at p7 p4;have g0:decide ((b.1:Int)<0)=false:=Nw;simp only[push_cast,seval,hE.z,f4,b5,g0];rw[jw rfl Nr Nr,ab];by_cases h1:b.2.nm<c.nm
       ·have g1:decide ((b.2.nm:Int)<(c.nm:Int))=true:=Nu;have hbt:better c b.2=true:=by unfold better;simp[h1]
        simp only[hbt,if_true]at hbs;simp only[push_cast,seval,hE.z,f4,Nat.zero_add,Int.toNat_natCast,↓p7,g1,cH];exact⟨P.n-(i+1),Nr,i+1,rfl,Nr,⟨rfl,PF,bk Nr⟩,OX⟩
       ·have g1:decide ((b.2.nm:Int)<(c.nm:Int))=false:=Nu;simp only[push_cast,seval,hE.z,f4,b5,Nat.zero_add,Int.toNat_natCast,↓p7,g1];rw[jw rfl Nr Nr,ab];by_cases h2:c.nm=b.2.nm
        ·have g2:((c.nm:Int)==(b.2.nm:Int))=true:=Pg;simp only[push_cast,seval,hE.z,f4,b5,Nat.zero_add,Int.toNat_natCast,↓p7,g2];rw[jw rfl Nr Nr,ab];by_cases h3:b.2.op<c.op
         ·have g3:decide ((b.2.op:Int)<(c.op:Int))=true:=Nu;have hbt:better c b.2=true:=by unfold better;simp[h2,h3]
          simp only[hbt,if_true]at hbs;simp only[push_cast,seval,hE.z,f4,Nat.zero_add,Int.toNat_natCast,↓p4,g3];exact⟨P.n-(i+1),Nr,i+1,rfl,Nr,⟨rfl,PF,bk Nr⟩,OX⟩
         ·have g3:decide ((b.2.op:Int)<(c.op:Int))=false:=Nu;have hbt:better c b.2=false:=by unfold better;simp[h1,h3]
          simp only[hbt,Bool.false_eq_true,if_false]at hbs;simp only[push_cast,seval,hE.z,f4,Nat.zero_add,Int.toNat_natCast,↓p4,g3];exact⟨P.n-(i+1),Nr,i+1,rfl,Nr,⟨rfl,PF,bk Nr⟩,OX⟩
        ·have g2:((c.nm:Int)==(b.2.nm:Int))=false:=NF;have hbt:better c b.2=false:=by unfold better;simp[h1,h2]
         simp only[hbt,Bool.false_eq_true,if_false]at hbs;simp only[push_cast,seval,hE.z,f4,Nat.zero_add,Int.toNat_natCast,↓p7,g2];exact⟨P.n-(i+1),Nr,i+1,rfl,Nr,⟨rfl,PF,bk Nr⟩,OX⟩
   ·have hlt1:decide ((i:Int)<(P.n:Int))=false:=Nu;have he:i=P.n:=Nr;subst he;simp only[push_cast,seval,hE.z,f3,b4,hlt1];have hLf:L.take P.n=L:=List.take_of_length_le Nr;rw[hLf]at f3;obtain⟨Q,hQ⟩:∃Q:PR,Q={P with aH:=L}:=⟨_,rfl⟩
    have hcP:∀G5,Sub G4 G5->PRR E G5 Q (rC P (.slice a1 P.log.length c1) (.slice a2 P.sv.l.length c2) (.slice a3 P.sv.tab.length c3) (.slice a4 P.told.length c4) (.slice a5 P.aG.length c5) (.slice (some ⟨vb,0,none⟩) L.length vc) (.slice a7 P.ans.length c7)):=λG5 s=>by
     have t:=X4.x.sub.trans s;rw[hQ];exact PRR.of (P:={P with aH:=L}) (q1.sub t) (q2.sub t) (q3.sub t) (q4.sub t) (q5.sub t) (q6.sub t) ⟨z4.sub s,r4.sub s⟩ ⟨q8.1.sub t,q8.2.sub t⟩
    have hQz:Q.Ok:=by rw[hQ];exact⟨⟨z.n,z.odd,z.me,z.vw,z.bs,z.cm,z.op,z.told,z.aG,hLn,z.ans,z.tab,z.svl,z.srt,z.ent⟩,z.es,z.op4⟩
    have hQ1:Q.F=P.F/\Q.n=P.n/\Q.me=P.me/\Q.vw=P.vw/\Q.cm=P.cm/\Q.aH=L:=by rw[hQ];exact⟨rfl,rfl,rfl,rfl,rfl,rfl⟩
    have hcame:dD P m=if (bI L).length<=P.F\/(L.getD P.me {}).k=0 then(Q,[]) else match dV (bI L) with
     |none=>(Q,[])
     |some b=>fD Q b:=by
     have e0:(if (P.aH.getD m.fr {}).k=0 then {P with aH:=P.aH.set m.fr m} else P)=Q:=by rw[hQ,hL];unfold cO;split<;>rfl
     unfold dD;simp only[e0,hQ1];rfl
    rw[hLf];refine Go.Tm.aO [2,3,4,8,89] λ_ f4=>?_;simp only[push_cast,seval,gz,f3]at f4;refine(C9 hE X4.x.wf (hcP G4 (Sub.refl _)) (by rw[hQ1.2.1];omega)).mono ?_;rintro w H5 ⟨rfl,k5⟩;rw[hQ1.1];have X5:=X4.kw k5;have b5:=X5.f3;have hme:P.me<L.length:=by have:=z.me;omega
    have hgm:L[P.me]? = some L[P.me]:=List.getElem?_eq_getElem hme;have qme:=r4.at P.me _ hgm;have hgD:L.getD P.me {}=L[P.me]:=by rw[List.getD_eq_getElem?_getD,hgm];rfl
    rw[hgD]at hcame;obtain⟨vb',vd',e1,_,hac⟩:=z4.1.elem X5.x.frz hme;injection e1 with e1 _ _;injection e1 with e1;subst e1;obtain⟨_,_,_,_,_,_,hcc,_⟩:=qme.e;rw[hcc]at hac;simp only[Nat.zero_add]at hac;have p0:=aY hac 0 1 Nr;simp only[Nat.add_zero,List.drop_zero,List.take_succ_cons,List.take_zero]at p0
    have fin0:dD P m=(Q,[])->∃G' rc' co v2,(Value.tuple #[.agg (rC P (.slice a1 P.log.length c1) (.slice a2 P.sv.l.length c2) (.slice a3 P.sv.tab.length c3) (.slice a4 P.told.length c4) (.slice a5 P.aG.length c5) (.slice (some ⟨vb,0,none⟩) L.length vc) (.slice a7 P.ans.length c7)).toArray,.slice none 0 0])=.tuple #[.agg rc'.toArray,v2]/\PRR E G' (dD P m).1 rc'/\Fz E G' 17 (dD P m).2.length co v2/\bu E G' (dD P m).2 co/\Ext E G h G' (H5.put (h.next+1+1) (.cells (rC P (.slice a1 P.log.length c1) (.slice a2 P.sv.l.length c2) (.slice a3 P.sv.tab.length c3) (.slice a4 P.told.length c4) (.slice a5 P.aG.length c5) (.slice (some ⟨vb,0,none⟩) L.length vc) (.slice a7 P.ans.length c7)) 49 true)):=λe=>by
     rw[e];exact⟨G4,_,[],_,rfl,hcP G4 (Sub.refl _),Fz.nil,rfl,(X5.put hW 0 rfl).x⟩
    by_cases hnF:(bI L).length<=P.F
    ·have g1:decide (((bI L).length:Int)<=(P.F:Int))=true:=Nu;simp only[push_cast,seval,hE.z,f4,b5,g1];exact fin0 (by rw[hcame,if_pos (.inl hnF)])
    ·have g1:decide (((bI L).length:Int)<=(P.F:Int))=false:=Nu;simp only[push_cast,seval,hE.z,f4,b5,g1];rw[jw rfl Nr Nr,ab];by_cases hm0:L[P.me].k=0
     ·have g2:((L[P.me].k:Int)==0)=true:=by simp[hm0]
      simp only[push_cast,seval,hE.z,f4,b5,Nat.zero_add,Int.toNat_natCast,↓p0,g2];exact fin0 (by rw[hcame,if_pos (.inr hm0)])
     ·have g2:((L[P.me].k:Int)==0)=false:=NF;rw[if_neg (by simp[hnF,hm0])]at hcame;obtain⟨b,hbo⟩:∃b,dV (bI L)=some b:=by
       cases hbo:dV (bI L) with
       |some b=>exact⟨b,rfl⟩
       | none =>
         exfalso
         cases hcl:bI L with
         |nil=>rw[hcl]at hnF;simp at hnF
         |cons x l =>obtain⟨r,hr⟩:=sf x l;rw[hcl,hr]at hbo;cases hbo
      rw[hbo]at hcame f4;simp only[bIx]at f4;simp only at hcame;have hb:=hb (by rw[hgD];simp[hnF,hm0]) b hbo;obtain⟨hb1,hb2⟩:=jA (iB hbo);simp only[push_cast,seval,hE.z,f4,b5,Nat.zero_add,Int.toNat_natCast,↓p0,g2];obtain⟨I,hI⟩:∃I:PR,I=if b.1=P.me then Q else au Q b.2:=⟨_,rfl⟩;refine dJ (λtm H=>(aj tm 2=ptr h.next/\aj tm 4=ptr (h.next+1+1))/\I.Ok/\∃G6 rcI,MX E G h G6 H [(h.next+1+1,.cells zCR 49 true),(h.next+1,.cells (mCS m b1 d1 b2 d2 b3 d3) 66 true),(h.next,.cells rcI 49 true)]/\PRR E G6 I rcI) ?_ ?_
      ·rintro tm H ⟨f5,zI,G6,rcI,X6,hPI⟩;have hIk:I.n=P.n/\I.me=P.me/\I.vw=P.vw/\I.aH=L:=by
        rw[hI];split
        ·exact⟨hQ1.2.1,hQ1.2.2.1,hQ1.2.2.2.1,hQ1.2.2.2.2.2⟩
        ·rename_i hbm;obtain⟨hk1,hk2,hk3,hk4⟩:=hb hbm;have hi5:=hQz.install hk1 hk2 Pt Pu;exact⟨hi5.2.2.1.trans hQ1.2.1,hi5.2.2.2.1.trans hQ1.2.2.1,hi5.2.2.2.2.trans hQ1.2.2.2.1,(uT Q b.2).1.trans hQ1.2.2.2.2.2⟩
       obtain⟨hIn,hIm,hIv,hIc⟩:=hIk;obtain⟨R,hR⟩:∃R:PR,R={I with st:=0,nm:=I.vw,told:=List.replicate I.n 0}:=⟨_,rfl⟩;have hbeg:dD P m=((aq R (eP L)).1,R.allM (R.bM {k:=7,vw:=I.vw})++(aq R (eP L)).2):=by rw[hcame,hR];unfold fD;simp only[hQ1];rw[<-hI];simp only[hIv,hIn]
       obtain⟨A1,C1,A2,C2,A3,C3,A4,C4,A5,C5,A6,C6,A7,C7,CT,CC,CA,hrI,y1,⟨y2,y3,y4⟩,y5,y6,y7,y8⟩:=hPI.e;subst hrI;rw[hIc]at X6 y7;simp only[push_cast,seval,hE.z];refine bG (λk tm H2=>∃i,k=P.n-i/\i<=P.n/\(aj tm 2=ptr h.next/\aj tm 4=ptr (h.next+1+1)/\aj tm 13=iv (eP (L.take i))/\aj tm 14=iv i)/\H2=H) P.n ?_ ?_
       ·refine⟨0,Nr,Nr,?_,rfl⟩;simp only[push_cast,seval,f5];exact⟨rfl,rfl⟩
       ·rintro k tm H2 ⟨i,rfl,hi,f6,rfl⟩;have b6:=X6.f3;by_cases hlt:i<P.n
        ·have hlt1:decide ((i:Int)<(I.n:Int))=true:=by rw[hIn];simp;omega
         have hiL:i<L.length:=Nr;have hgi:L[i]? = some L[i]:=List.getElem?_eq_getElem hiL;have qi:=y7.2.at i _ hgi;have htk:=tt hgi;obtain⟨lb,lc,e1,hsp,hac⟩:=y7.1.1.elem X6.x.frz hiL;injection e1 with e1 _ e2;subst e1;subst e2;generalize L[i]=c at *;obtain⟨_,_,_,_,_,_,hcc,_⟩:=qi.e;rw[hcc]at hac;have p5:=aY hac 5 1 Nr;simp only[List.drop_succ_cons,List.drop_zero,List.take_succ_cons,List.take_zero]at p5;have hmx:max ((eP (L.take i):Nat):Int) (c.cm:Int)=((eP (L.take (i+1)):Nat):Int):=by rw[htk];omega
         simp only[push_cast,seval,hE.z,f6,b6,hlt1];rw[jw hsp Nr Nr,ab];simp only[push_cast,seval,hE.z,f6,Int.toNat_natCast,↓p5,hmx];exact⟨P.n-(i+1),Nr,i+1,rfl,Nr,rfl,bk Nr⟩
        ·have he:i=P.n:=Nr;subst he;have hlt1:decide ((P.n:Int)<(I.n:Int))=false:=by rw[hIn];simp
         rw[hLf]at f6;simp only[push_cast,seval,hE.z,f6,b6,hlt1];refine gtm (motive:=iX _ _ _) [2,4,13] λ_ f7=>?_;simp only[push_cast,seval,gz,f6]at f7;refine MX.gen (motive:=λH=>iX _ _ _ _ H) (B:=[(h.next+1+1,_),(h.next+1,_),(h.next,_)]) (X6.put hW 2 rfl) λH7 X7=>?_;have l7:=X7.lt 0 rfl;rw[xh Nr Nr Nr Nr,aR];have hai:(bR I.n [Value.int .i64 0]).length=I.n*1:=P3;obtain⟨X8,o8⟩:=X7.Hy (lo:=h.next+3) (e:=3) hai Nr Nr;simp only[push_cast,seval,hE.z,f7,X7.f3];refine gtA [2,4,13] λ_ f8=>?_;simp only[push_cast,seval,gz,f7]at f8;refine MX.uW (motive:=λH=>aF E _ _ _ H) (B:=[(h.next+1+1,_),(h.next+1,_),(h.next,_)]) (X8.put hW 2 rfl) (o8.put (X8.at 2 rfl).1 (.inl Nr)) λH9 X9 o9=>?_;obtain⟨GA,zA,XA,sA,_⟩:=X9.still hW o9 (((Dj.nil.low Nr).low Nr).low Nr) hn1;rw[gx]at zA;have hPR:PRR E GA R [iv I.me,iv I.n,iv I.vw,.int .i64 0,iv I.vw,iv I.bs,iv I.cm,iv I.nc,.slice A1 I.log.length C1,.bool false,.slice A2 I.sv.l.length C2,.slice none 0 0,.slice A3 I.sv.tab.length C3,.slice (some ⟨H7.next,0,none⟩) I.n I.n,.slice A5 I.aG.length C5,.bool I.aJ,.slice A6 L.length C6,.slice A7 I.ans.length C7]:=by rw[hR,<-hIc];rw[<-hIc]at y7;have q:=PRR.of (P:={I with st:=0,nm:=I.vw,told:=List.replicate I.n 0}) (y1.sub sA) (y2.sub sA) (y3.sub sA) (y4.sub sA) (by rw[List.length_replicate];exact zA) (y6.sub sA) ⟨y7.1.sub sA,y7.2.sub sA⟩ ⟨y8.1.sub sA,y8.2.sub sA⟩;simp only[List.length_replicate]at q;exact q
         have zR:R.Ok:=by rw[hR];exact⟨⟨zI.n,zI.odd,zI.me,zI.vw,zI.bs,zI.cm,zI.op,Nw,zI.aG,zI.aH,zI.ans,zI.tab,zI.svl,zI.srt,zI.ent⟩,zI.es,zI.op4⟩
         have hRn:R.n=P.n:=by rw[hR];exact hIn
         have bA:=XA.f3;refine aB [(0,5)] Nt Nt Nt ?_;simp only[push_cast,seval,hE.z,f8,bA]
         refine(mN hE XA.x.wf XA.x.frz hPR zR.toSz (λe he=>by
          have:=zR.es e he
          exact⟨Og,N3,N8⟩) (m:={k:=7,vw:=I.vw}) ⟨_,_,_,rfl,Fz.nil,Fz.nil,Fz.nil⟩).mono ?_
         rintro w HB ⟨GB,mB,rfl,rB,xB⟩;have XB:=XA.call xB;have bB:=XB.f3;simp only[push_cast,seval];refine(jM hE XB.x.wf (hPR.sub xB.sub) XB.x.frz Nr rB).mono ?_;rintro w HC ⟨co,oC,mC,kC⟩;have XC:=XB.kw kC;have lB:=XB.lt 0 rfl;have olC:=OL.of XB kC oC (lo:=h.next+3) Nr;obtain⟨wa,wc,rfl,_⟩:=oC.fh;have bC:=XC.f3;simp only[push_cast,seval,hE.z,f8,bA,bB,bC,aV,bp,aU,aW,ba,bn];have lenC:=iQ R (R.bM {k:=7,vw:=I.vw}) R.n;have hoC:(R.allM (R.bM {k:=7,vw:=I.vw})).length<=7:=by unfold PR.allM;omega
         refine Go.Tm.aO [2,4,15] λ_ f9=>?_;simp only[push_cast,seval,gz,f8]at f9;refine(gl hE XC.x.wf XC.x.frz (hPR.sub xB.sub) zR.toSz (eP L)).mono ?_;rintro w HD ⟨GD,rD,coD,vD,xD,pD,oD,mD,nD,rfl⟩;have XD:=XC.call xD;have olD:=olC.call XC.x.wf xD;have pD0:=pD;obtain⟨B1,E1,B2,E2,B3,E3,B4,E4,B5,E5,B6,E6,B7,E7,ET,EC,EA,hrD,_⟩:=pD.e;subst hrD;obtain⟨ua,uc,rfl,_⟩:=oD.fh;simp only[push_cast,seval,hE.z];refine gtA [4,15,16,17] λ_ f10=>?_;simp only[push_cast,seval,gz,f9]at f10;have om:OL E (h.next+3) GD HD 66 17 (aq R (eP L)).2.length coD (.slice ua (aq R (eP L)).2.length uc):=⟨oD.low (by have:=XC.lt 0 rfl;omega),nD⟩;refine MX.MR (motive:=λH=>aF E _ _ _ H) (B:=[(HD.next,_),(h.next+1+1,_),(h.next+1,_),(h.next,_)]) XD.new (olD.push XD.x.wf) (om.push XD.x.wf) λHE XE olE omE=>?_;have bE:=XE.f4;have hcl:=eE R (eP L);have hro:=zR.op4;have lE:=XE.lt 0 rfl;have l9:=XD.lt 0 rfl;refine aB [(0,3)] Nt Nt Nt ?_;simp only[push_cast,seval,hE.z,f10,bE];refine tU (mz hE.P) XE.x.wf (lo:=h.next+3) Nr olE.own omE.own mD.nj Nr Nr λv' HF ap=>?_;obtain⟨xa,xc,rfl⟩:=ap.sl;obtain⟨XF,olF⟩:=XE.app hW olE ((((Dj.nil.low Nr).low Nr).low Nr).tag Nz) hn1 ap;obtain⟨GG,zG,XG,sG,_⟩:=XF.still hW olF ((((Dj.nil.low Nr).low Nr).low Nr).tag Nz) hn1;simp only[push_cast,seval,hE.z,f10,bE,XF.f4,aV,bp,aU,aW,ba,bn];rw[hbeg];rw[<-List.length_append]at zG|-;exact⟨GG,_,_,_,rfl,pD0.sub sG,zG,((mC.sub xD.sub).sub sG).app (mD.sub sG),(XG.put hW 1 rfl).x⟩
      ·by_cases hbm:b.1=P.me
       ·have g3:((b.1:Int) != (P.me:Int))=false:=by simp[hbm]
        rw[if_pos hbm]at hI;simp only[push_cast,seval,f4,g3];rw[hI];exact⟨hQz,G4,_,X5,hcP G4 (Sub.refl _)⟩
       ·have g3:((b.1:Int) != (P.me:Int))=true:=Nu;rw[if_neg hbm]at hI;obtain⟨hk1,hk2,hk3,hk4⟩:=hb hbm;have hi5:=hQz.install hk1 hk2 Pt Pu;simp only[push_cast,seval,g3];refine gtA [2,3,4,8] λ_ f5=>?_;simp only[push_cast,seval,gz,f4]at f5;have qb:=r4.at b.1 _ hb1;have hbl:b.1<L.length:=(List.getElem?_eq_some_iff.1 hb1).1;obtain⟨vb',vd',e1,_,hab⟩:=z4.1.elem X5.x.frz hbl;injection e1 with e1 _ _;injection e1 with e1;subst e1;have qb0:=qb;obtain⟨_,_,_,_,_,_,hcb,_⟩:=qb.e;rw[hcb]at hab qb0;simp only[Nat.zero_add]at hab;refine dE [(0,[0]),(2,[0]),(5,[0])] [6,10,11] [(10,[])] [(0,(109,[0])),(1,(110,[1])),(2,(111,[2,1])),(3,(112,[3])),(4,(113,[4,1,2,3])),(5,(114,[5,1,2,3,4])),(6,(115,[6,0,1,2,3,4,5])),(7,(108,[7,0,1,2,3,4,5,6])),(8,(116,[8,0,1,2,3,4,5,6,7])),(9,(117,[9,0,1,2,3,4,5,6,7])),(10,(11,[10])),(12,(12,[12,0,1,2,3,4,5,6,7,8,9,10,11]))] [0,1,2,3,4,5,6,7,8,9,10,11,12] Nt Nt Nt Nt Nt Nv rfl ?_;simp only[push_cast,seval,hE.z,f5,b5];rw[jw rfl Nr Nr,ab];simp only[push_cast,seval,hE.z,Nat.zero_add,Int.toNat_natCast,↓hab];refine(mq hE X5.x.wf X5.x.frz (hcP G4 (Sub.refl _)) hQz qb0 hk1 hk2 Pt Pu).mono ?_;rintro w H6 ⟨G6,rcI,rfl,hPI,x6⟩;have X6:=X5.call x6;have b6:=X6.f3;have sI:=hPI.sc X6.x.wf X6.x.frz;have hPI0:=hPI;obtain⟨A1,C1,A2,C2,A3,C3,A4,C4,A5,C5,A6,C6,A7,C7,CT,CC,CA,hrI,_⟩:=hPI.e;subst hrI;simp only[push_cast,seval,hE.z,f5,b6];have n56:=x6.aK.next;have l5:=X5.lt 2 rfl;have sQ:=(hcP G4 (Sub.refl _)).sc X5.x.wf X5.x.frz;have sB:=qb0.sc X5.x.wf X5.x.frz;have sL:=z4.1.sc X5.x.wf X5.x.frz;refine⟨⟨⟨Nr,Nr⟩,?_,?_,?_,?_⟩,?_⟩
        ·have hab2:=hab;simp only[push_cast,seval]at hab2;simp only[push_cast,seval,hE.z,f5,b5,hab2,Option.map_some,jo,aV,bp,aU,aW,ba,bn,dq]
        ·simp only[push_cast,seval,jx,Op.operands,ef,sQ,sB];exact⟨rfl,λ_ h=>h.elim,by simp[Go.Tm.sc],JV sI Nr⟩
        ·simp only[push_cast,seval,hE.z,aOk];rfl
        ·have l7:=gI sL _ rfl;simp only[push_cast,seval,dOk];exact⟨cQ 0 Nr sQ,dU 0 Nr l5,cV 0 Nr sL,rfl,dU 0 Nr l7,cQ 0 Nr sB,cQ 7 Nz (wQ sI rfl),cQ 7 Nz (wQ sI rfl),cQ 7 Nz sI,rfl,dA (k:=10) Nz (Nat.le_refl _) (Nat.lt_succ_self _),rfl⟩
        ·rw[hI];exact⟨hi5.1,G6,_,(X6.new.put hW 3 rfl).drop 1,hPI0⟩
 ·by_cases hk0:P.aH[m.fr].k=0
  ·have hkb:((P.aH[m.fr].k:Int)==0)=true:=by simp[hk0]
   simp only[push_cast,seval,hE.z,hkb,f1,X3.f3];rw[jw rfl Nr Nr,ab];obtain⟨b',d',p,o',ev,hp,hbs,hwr,o4⟩:=o3.write X3.x.wf hfl (xs:=mCS m b1 d1 b2 d2 b3 d3) rfl rfl;injection ev with ev _ ev2;injection ev with ev;injection ev with ev;subst ev;subst ev2;have X4:=X3.Kn hW o3 (djM (Nat.le_refl _)) hn1 hp hbs (o':=o');simp only[push_cast,seval,hE.P,f1,Nat.zero_add,Int.toNat_natCast,↓hwr,ey];obtain⟨G5,z5,X5,s5,_⟩:=X4.still hW o4 (djM (Nat.le_refl _)) hn1;refine⟨G5,_,X5,z5,?_⟩;have ec:cO P m=P.aH.set m.fr m:=by unfold cO;rw[hgd,if_pos hk0]
   rw[ec];exact bu.set (q7.2.sub X5.x.sub) (hm0.sub X5.x.sub) hfl
  ·have hkb:((P.aH[m.fr].k:Int)==0)=false:=NF;simp only[push_cast,seval,hkb,f1];obtain⟨G5,z5,X5,s5,_⟩:=X3.still hW o3 (djM (Nat.le_refl _)) hn1;have ec:cO P m=P.aH:=by unfold cO;rw[hgd,if_neg hk0]
   exact⟨G5,_,X5,z5,by rw[ec];exact q7.2.sub X5.x.sub⟩
end
end Go.Proofs.YthbjaiilnkakcaaGreatDoor
namespace Vr
def lu(P:PR)(m:Mg):Prop:=(∀x,x∈cO P m->x.cm<=10000)/\(¬((bI (cO P m)).length<=P.F\/((cO P m).getD P.me {}).k=0)->∀b,dV (bI (cO P m))=some b->b.1≠P.me->fU b.2=true/\b.2.Ok/\P.cm<=b.2.op/\(P.cm<b.2.bs->jC b.2))
def jY(P:PR)(fr:Nat):PR:={P with aG:=P.aG.set fr true,aJ:=true}
def yu(P:PR)(fr:Nat):Mg:=(jY P fr).toM ((jY P fr).bM {k:=6,vw:=P.vw,nm:=P.nm}) (P.vw%P.n)
end Vr
namespace Go.Proofs.YthbjaiilnkakcaaGreatDoor
open Go.Tm Vr
theorem um{L:List Bool}{i:Nat}(hi:i<L.length):(cF L).take (i*1)++[.bool true]++(cF L).drop ((i+1)*1)=cF (L.set i true):=by rw[Nat.mul_one,Nat.mul_one];unfold cF;rw[List.set_eq_take_append_cons_drop,if_pos hi];simp
theorem uo:∀(L:List Bool),(cF L).all Value.oneCell'=true
 |[]=>rfl
 | x::L=>by
   have:=uo L;unfold cF at this|-;rw[List.map_cons,List.all_cons,this];rfl
variable{E:Env}(hE:EOk E)
include hE
section
variable{G:Mem}{h:ag}(hW:WF E h)(hG:Frz E G h){P:PR}{cs:List Value}(hP:PRR E G P cs)
include hW hG hP
theorem Gy(z:P.Ok){fr:Nat}(hfr:fr<P.n)(hc:P.vw%P.n=P.me->lu (jY P fr) (yu P fr)) :
 af E 97 [.agg cs.toArray,iv fr] h λv h'=>∃G' rc' co v2,v=.tuple #[.agg rc'.toArray,v2]/\PRR E G' (ep P fr).1 rc'/\Fz E G' 17 (ep P fr).2.length co v2/\bu E G' (ep P fr).2 co/\Ext E G h G' h':=by
 have hP0:=hP;obtain⟨a1,c1,a2,c2,a3,c3,a4,c4,a5,c5,a6,c6,a7,c7,ct,cc,ca,rfl,q1,⟨q2,q3,q4⟩,q5,q6,q7,q8⟩:=hP.e;have zn:=z.n;have zvl:=z.aG;have hn1:h.next<=h.next+2:=Nr;have hbl:(cF P.aG).length=P.aG.length:=by simp[cF]
 refine en hE Tryz.func97 rfl rfl Tryz.ntmps97 rfl Nv (rs:=[.cell 4 49,.tmp 5]) rfl ?_;simp only[push_cast,seval,hE.z,hW.b0];refine gtm (motive:=kwv _ _ _) [1,2,4] λ_ f=>?_;simp only[push_cast,seval,gz]at f;refine MX.gen (motive:=λH=>kwv (cI E H _ _ _ _) _ _ _ H) (B:=[(h.next+1,_),(h.next,_)]) ((MX.start hW hG).new.new) λH1 X1=>?_;have l1:=X1.lt 0 rfl;refine ej (MT hE.P) X1.x.wf X1.x.frz (lo:=h.next+2) l1 (Own.nil _ _ _ _) (q6.1.sub X1.x.sub) (by simp[cF]) (uo _) Nr Nr λv' H2 ap=>?_;obtain⟨va,vc,rfl⟩:=ap.sl;rw[Nat.zero_add,List.nil_append]at ap;obtain⟨X2,o2⟩:=X1.app hW OL.nil ((Dj.nil.low Nr).low Nr) hn1 ap;rw[Nat.zero_add];simp only[push_cast,seval,hE.z,f,X2.f2];refine gtm (motive:=bY _ _ _) [1,2,4,15] λ_ f1=>?_;simp only[push_cast,seval,gz,f]at f1;refine MX.uW (motive:=λH=>bY _ _ _ _ H) (B:=[(h.next+1,_),(h.next,_)]) (X2.put hW 1 rfl) (o2.put (X2.at 1 rfl).1 (.inl Nr)) λH3 X3 o3=>?_;have hfl:fr<P.aG.length:=Nr;obtain⟨b',d',p,o',ev,hp,hbs,hwr,o4⟩:=o3.write X3.x.wf hfl (xs:=[.bool true]) rfl rfl;injection ev with ev _ ev2;subst ev;subst ev2;rw[um hfl]at o4;have X4:=X3.Kn hW o3 ((Dj.nil.low Nr).low Nr) hn1 hp hbs (o':=o');rw[mu rfl Nr Nr,ab];rw[Nat.mul_one]at hwr;simp only[push_cast,seval,hE.P,Nat.zero_add,Int.toNat_natCast,↓hwr,ey];refine gtA [1,2,4] λ_ f2=>?_;simp only[push_cast,seval,gz,f1]at f2;obtain⟨G5,z5,X5,s5,_⟩:=X4.still hW o4 ((Dj.nil.low Nr).low Nr) hn1;refine MX.gen (motive:=λH=>aF E _ _ _ H) X5 λH5 X5=>?_;have zv:Fz E G5 1 (P.aG.set fr true).length (cF (P.aG.set fr true)) (.slice (some ⟨b',0,none⟩) P.aG.length vc):=by rw[List.length_set];exact z5
 obtain⟨Q,hQ⟩:∃Q:PR,Q={P with aG:=P.aG.set fr true}:=⟨_,rfl⟩;have s0:=X5.x.sub;have hPQ:PRR E G5 Q (rCS P a1 c1 a2 c2 a3 c3 a4 c4 (some ⟨b',0,none⟩) vc a6 c6 a7 c7):=by rw[hQ];have q:=PRR.of (P:={P with aG:=P.aG.set fr true}) (q1.sub s0) (q2.sub s0) (q3.sub s0) (q4.sub s0) (q5.sub s0) zv ⟨q7.1.sub s0,q7.2.sub s0⟩ ⟨q8.1.sub s0,q8.2.sub s0⟩;exact q
 have b5:=X5.f2;have hvot:ep P fr=if P.aJ=true\/dy (P.aG.set fr true)<P.F then(Q,[]) else if P.vw%P.n=P.me then dD (jY P fr) (yu P fr) else(jY P fr,[yu P fr]):=by rw[hQ];rfl
 have fin0:ep P fr=(Q,[])->∀H,MX E G h G5 H [(h.next+1,.cells zCR 49 true),(h.next,.cells (rCS P a1 c1 a2 c2 a3 c3 a4 c4 (some ⟨b',0,none⟩) vc a6 c6 a7 c7) 49 true)]->∃G' rc' co v2,(Value.tuple #[.agg (rCS P a1 c1 a2 c2 a3 c3 a4 c4 (some ⟨b',0,none⟩) vc a6 c6 a7 c7).toArray,.slice none 0 0])=.tuple #[.agg rc'.toArray,v2]/\PRR E G' (ep P fr).1 rc'/\Fz E G' 17 (ep P fr).2.length co v2/\bu E G' (ep P fr).2 co/\Ext E G h G' (H.put (h.next+1) (.cells (rCS P a1 c1 a2 c2 a3 c3 a4 c4 (some ⟨b',0,none⟩) vc a6 c6 a7 c7) 49 true)):=λe H X=>by
  rw[e];exact⟨G5,_,[],_,rfl,hPQ,Fz.nil,rfl,(X.put hW 0 rfl).x⟩
 refine aB [(6,5)] Nt Nt Nt ?_
 cases hs:P.aJ with
 |true =>simp only[hs]at b5;simp only[push_cast,seval,hE.z,f2,b5,true_and];have:=fin0 (by rw[hvot,hs,if_pos (.inl rfl)]) _ X5;simp only[rCS,rC,hs]at this;exact this
 | false =>
   have b5':=b5;simp only[hs]at b5';simp only[push_cast,seval,hE.z,f2,b5'];refine(Bq hE X5.x.wf X5.x.frz zv OK).mono ?_;rintro w H6 ⟨rfl,rfl⟩;simp only[rCS,rC,hs]at hPQ;simp only[push_cast,seval,hE.z,f2,b5'];refine(C9 hE X5.x.wf hPQ (by rw[hQ];exact⟨by show 1<=P.n;omega,by show P.n<=1000;omega⟩)).mono ?_;rintro w H7 ⟨rfl,k7⟩;have X7:=X5.kw k7;simp only[hs]at X7;have b7:=X7.f2;have hF:Q.F=P.F:=by rw[hQ];rfl
   rw[hF];have hvl:=List.length_filter_le id (P.aG.set fr true);rw[List.length_set]at hvl;by_cases hlt:dy (P.aG.set fr true)<P.F
   ·have g1:decide ((dy (P.aG.set fr true):Int)<(P.F:Int))=true:=Nu;simp only[push_cast,seval,hE.z,f2,b5',b7,g1,aV,bp,aU,aW,ba,bn];have:=fin0 (by rw[hvot,if_pos (.inr hlt)]) _ (X5.kw k7);simp only[rCS,rC,hs]at this;exact this
   ·have g1:decide ((dy (P.aG.set fr true):Int)<(P.F:Int))=false:=Nu;rw[if_neg (by simp[hs,hlt])]at hvot;simp only[push_cast,seval,hE.z,f2,b5',b7,g1,aV,bp,aU,aW,ba,bn];refine Go.Tm.aO [2,4] λ_ f3=>?_;simp only[push_cast,seval,gz,f2]at f3;refine MX.gen (motive:=λH=>af E _ _ H _) (B:=[(h.next+1,_),(h.next,_)]) (X7.put hW 1 rfl) λH8 X8=>?_
    have hPV:PRR E G5 (jY P fr) [iv P.me,iv P.n,iv P.vw,iv P.st,iv P.nm,iv P.bs,iv P.cm,iv P.nc,.slice a1 P.log.length c1,.bool false,.slice a2 P.sv.l.length c2,.slice none 0 0,.slice a3 P.sv.tab.length c3,.slice a4 P.told.length c4,.slice (some ⟨b',0,none⟩) P.aG.length vc,.bool true,.slice a6 P.aH.length c6,.slice a7 P.ans.length c7] :=
     PRR.of (P:=jY P fr) (q1.sub s0) (q2.sub s0) (q3.sub s0) (q4.sub s0) (q5.sub s0) zv ⟨q7.1.sub s0,q7.2.sub s0⟩ ⟨q8.1.sub s0,q8.2.sub s0⟩
    have zV:(jY P fr).Ok:=⟨⟨z.n,z.odd,z.me,z.vw,z.bs,z.cm,z.op,z.told,by show(P.aG.set fr true).length=P.n;simp[zvl],z.aH,z.ans,z.tab,z.svl,z.srt,z.ent⟩,z.es,z.op4⟩
    refine(mN hE X8.x.wf X8.x.frz hPV zV.toSz (λe he=>by
     have:=zV.es e he
     exact⟨Og,N3,N8⟩) (m:={k:=6,vw:=P.vw,nm:=P.nm}) ⟨_,_,_,rfl,Fz.nil,Fz.nil,Fz.nil⟩).mono ?_
    rintro w H9 ⟨G9,mB,rfl,rB,x9⟩;have X9:=X8.call x9;have hPV9:=hPV.sub x9.sub;obtain⟨p,hp⟩:∃p,p=P.vw%P.n:=⟨_,rfl⟩;have hvM:yu P fr=(jY P fr).toM ((jY P fr).bM {k:=6,vw:=P.vw,nm:=P.nm}) p:=by rw[hp];rfl
    rw[<-hp]at hvot hc;generalize (jY P fr).bM {k:=6,vw:=P.vw,nm:=P.nm}=W at rB hvM;have rB0:=rB;obtain⟨e1,u1,e2,u2,e3,u3,hmB,_⟩:=rB.e;subst hmB;have nz:((P.n:Int)=0)=False:=Nu;have hmod:((P.vw:Int).tmod (P.n:Int))=(p:Int):=by rw[<-Int.ofNat_tmod,hp]
    have X10:=X9.new (o:=.cells (mCS W e1 u1 e2 u2 e3 u3) 66 true);by_cases hpm:p=P.me
    ·have g2:((p:Int) != (P.me:Int))=false:=by simp[hpm]
     rw[if_pos hpm]at hvot;rw[hpm]at hvM;simp only[push_cast,seval,hE.z,f3,X9.f2,nz,hmod,g2];refine gtA [2,4,7] λ_ f4=>?_;simp only[push_cast,seval,gz,f3]at f4;refine MX.gen (motive:=λH=>aF E _ _ _ H) X10 λHA XA=>?_;refine aB [(0,5)] Nt Nt Nt ?_;have bA:=XA.f3;simp only[push_cast,seval,hE.z,f4,bA];refine(iU hE XA.x.wf hPV9 rB0 P.me).mono ?_;rintro w HB ⟨r,rfl,rR,kB⟩;have XB:=XA.kw kB;rw[<-hvM]at rR;have bB:=XB.f3;simp only[push_cast,seval];have hco:=hc hpm;refine(Aq hE XB.x.wf XB.x.frz hPV9 zV rR (by rw[hvM];exact z.me) hco.1 hco.2).mono ?_;rintro w HC ⟨GC,rC',co,v2,rfl,pC,zC,mC,xC⟩;have XC:=XB.call xC;have pC0:=pC;obtain⟨B1,E1,B2,E2,B3,E3,B4,E4,B5,E5,B6,E6,B7,E7,ET,EC,EA,hrD,_⟩:=pC.e;subst hrD;simp only[push_cast,seval,hE.z,f4,bA,bB,XC.f3,aV,bp,aU,aW,ba,bn];rw[hvot];exact⟨GC,_,co,v2,rfl,pC0,zC,mC,(XC.put hW 1 rfl).x⟩
    ·have g2:((p:Int) != (P.me:Int))=true:=Nu;rw[if_neg hpm]at hvot;simp only[push_cast,seval,hE.z,f3,X9.f2,nz,hmod,g2];refine gtA [2,4,7,8] λ_ f4=>?_;simp only[push_cast,seval,gz,f3]at f4;refine MX.gen (motive:=λH=>aF E _ _ _ H) X10 λHA XA=>?_;have bA:=XA.f3;refine pa 5 Nt (jm [(0,[0,5]),(1,[0]),(2,[0])] [4,5,6] [(6,[1,2,3,4])] [(0,(46,[0])),(1,(47,[1])),(2,(48,[2])),(3,(49,[3])),(4,(50,[4,1,2,3])),(6,(51,[6,1,2,3,4])),(7,(5,[7,0,1,2,3,4,5,6]))] [0,1,2,3,4,5,6,7] Nt Nt Nt Nt Nt Nv rfl ?_);simp only[push_cast,seval,hE.z,f4,bA];refine(iU hE XA.x.wf hPV9 rB0 p).mono ?_;rintro w HB ⟨r,rfl,rR,kB⟩;have XB:=XA.kw kB;have rR0:=rR;obtain⟨i1,j1,i2,j2,i3,j3,hr,_⟩:=rR.e;rw[hr];have bB:=XB.f3;simp only[push_cast,seval,hE.z,f4,bB];rw[lf rfl,aR];simp only[push_cast,seval,hE.z,f4,bA,bB];have nAB:=kB.k.next;have sP:=hPV9.sc XA.x.wf XA.x.frz;have sW:=rB0.sc XA.x.wf XA.x.frz;have sR:=rR0.sc XB.x.wf XB.x.frz;have sP':=hPV9.sc XB.x.wf XB.x.frz;have sRA:=rR0.sc XA.x.wf XA.x.frz;rw[hr]at sR sRA;refine⟨⟨Nr,?_,?_,?_,?_⟩,?_⟩
     ·simp only[push_cast,seval,hE.z,f4,bA,bB,jo,aV,bp,aU,aW,ba,bn,dq]
     ·simp only[push_cast,seval,f4,jx,Op.operands,ef,sP,sW,sR,sP'];exact⟨⟨rfl,rfl⟩,Pd⟩
     ·simp only[push_cast,seval,hE.z,aOk,gH];rw[lf rfl];exact⟨_,rfl,wR (cQ 0 Nr sRA)⟩
     ·simp only[push_cast,seval,dOk];exact⟨cQ 0 Nr sP,cQ 0 Nr sP,cQ 0 Nr sW,rfl,cQ 0 Nr sRA,eW (K:=6) Nz (Nat.le_refl _) (Nat.lt_succ_self _),eW (K:=6) Nz (Nat.le_refl _) (Nat.lt_succ_self _)⟩
     ·rw[hvot,hvM];obtain⟨XD,oD⟩:=(XB.put hW 1 rfl (o':=.cells [iv P.me,iv P.n,iv P.vw,iv P.st,iv P.nm,iv P.bs,iv P.cm,iv P.nc,.slice a1 P.log.length c1,.bool false,.slice a2 P.sv.l.length c2,.slice none 0 0,.slice a3 P.sv.tab.length c3,.slice a4 P.told.length c4,.slice (some ⟨b',0,none⟩) P.aG.length vc,.bool true,.slice a6 P.aH.length c6,.slice a7 P.ans.length c7] 49 true)).Hy (lo:=HB.next) (e:=66) (n:=1) (z:=17) (cs:=mCS ((jY P fr).toM W p) i1 j1 i2 j2 i3 j3) rfl Nr O0;have hXB:h.next<=HB.next:=XB.x.aK.next;have hb0:=XB.lt 0 rfl;have hb1:=XB.lt 1 rfl;have hb2:=XB.lt 2 rfl;obtain⟨GE,zE,XE,sE,_⟩:=XD.still hW oD (((Dj.nil.low hb2).low hb1).low hb0) hXB;rw[hr]at rR0;exact⟨GE,_,_,_,rfl,hPV9.sub sE,zE,bu.one (rR0.sub sE),XE.x⟩
end
end Go.Proofs.YthbjaiilnkakcaaGreatDoor
