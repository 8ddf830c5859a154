/- Part 0: Mc Eng1 Eng2 Eng3 Eng4 Eng5 Eng6. -/
import Derived.KernelRfl
import Derived.Calls
import Derived.LoopN
import Derived.Scope
import Derived.Laws.Entries
import Derived.Laws.Append
import Derived.Laws.Strings
set_option linter.all false
set_option maxRecDepth 10000
set_option maxHeartbeats 8000000
theorem Nr{P:Prop}(h:P:=by omega):P:=h
theorem Nt{P:Prop}(h:P:=by rw[hE.P];decide +kernel):P:=h
theorem Nu{P:Prop}(h:P:=by simp;omega):P:=h
theorem Nv{P:Prop}(h:P:=by decide +kernel):P:=h
theorem Nw{P:Prop}(h:P:=by simp):P:=h
theorem Nx{P:Prop}(h:P:=by simp[Op.operands]):P:=h
theorem Ny{P:Prop}(h:P:=by kernel_rfl):P:=h
theorem Nz{P:Prop}(h:P:=by decide):P:=h
theorem NA{P:Prop}(h:P:=by simp only[eq_iff_iff,iff_false];omega):P:=h
theorem NB{P:Prop}(h:P:=by first|omega|(simp<;>omega)):P:=h
theorem NC{P:Prop}(h:P:=by simp[hk]):P:=h
theorem ND{P:Prop}(h:P:=by rw[ai,if_pos rfl]):P:=h
theorem NF{P:Prop}(h:P:=by rw[beq_eq_false_iff_ne];omega):P:=h
theorem NG{P:Prop}(h:P:=by rw[cx (by omega) (by omega)];omega):P:=h
theorem NH{P:Prop}(h:P:=by unfold PR.op;omega):P:=h
theorem NI{P:Prop}(h:P:=by rw[ah,if_pos rfl]):P:=h
theorem NJ{P:Prop}(h:P:=by rw[cx (by omega) (by omega)];rfl):P:=h
theorem NK{P:Prop}(h:P:=by simp[findLabel]at h):P:=h
theorem NL{P:Prop}(h:P:=by rw[ah,if_neg (by simp;omega),ah,if_neg (by simp),ah,if_pos rfl]):P:=h
theorem NM{P:Prop}(h:P:=by rintro x a1 w1 ⟨rfl,hh⟩;exact⟨rfl,hh⟩):P:=h
theorem NN{P:Prop}(h:P:=by simp[hb]):P:=h
theorem NO{P:Prop}(h:P:=by rw[ah,if_pos (by simp)]):P:=h
theorem NP{P:Prop}(h:P:=by unfold Func.isWrapper;first|(rw[if_pos (by decide +kernel)];kernel_rfl)|(rw[if_neg (by decide +kernel)];exact⟨rfl,rfl⟩)):P:=h
theorem NQ{P:Prop}(h:P:=by simp[Op.operands,Call.operands]):P:=h
theorem NR{P:Prop}(h:P:=by rw[hav];unfold evA;rw[if_neg ha];omega):P:=h
theorem NT{P:Prop}(h:P:=by show(P i).me<n;rw[h.me];exact hi):P:=h
theorem NU{P:Prop}(h:P:=by rw[hi0];exact Nat.mod_lt _ (by omega)):P:=h
theorem NV{P:Prop}(h:P:=by simp[hst]):P:=h
theorem NW{P:Prop}(h:P:=by simpa using hx):P:=h
theorem NX{P:Prop}(h:P:=by have:=hw.base;simp only[eq_iff_iff,iff_false];omega):P:=h
theorem NY{P:Prop}(h:P:=by rw[ah,if_neg (by simp),ah,if_pos (by simp)]):P:=h
theorem NZ{P:Prop}(h:P:=by rw[hav];unfold evA;split<;>omega):P:=h
theorem N0{P:Prop}(h:P:=by rw[List.length_append];omega):P:=h
theorem N1{P:Prop}(h:P:=by rw[e,hr]at t1;injection t1 with t1;injection t1 with _ t1;cases t1):P:=h
theorem N2{P:Prop}(h:P:=by rw[List.map_drop];exact c.bx.nd.sublist (List.drop_sublist _ _)):P:=h
theorem N3{P:Prop}(h:P:=by have:=this.2.2.2.1;omega):P:=h
theorem N4{P:Prop}(h:P:=by show iv0<g.down.length;omega):P:=h
theorem N5{P:Prop}(h:P:=by rw[show({P i with log:=(P i).log++[e]}:PR).st=(P i).st from rfl]at h1;omega):P:=h
theorem N6{P:Prop}(h:P:=by simp[h1]):P:=h
theorem N7{P:Prop}(h:P:=by simp at h):P:=h
theorem N8{P:Prop}(h:P:=by rw[this.sz];omega):P:=h
theorem N9{P:Prop}(h:P:=by injection e with e;injection e with e;subst e;exact⟨rfl,λ_=>mw hnb rfl rfl (g:=cs++rest) (if_pos rfl)⟩):P:=h
theorem Oa{P:Prop}(h:P:=by simp at hx):P:=h
theorem Ob{P:Prop}(h:P:=by show(P i).me≠m.fr;rw[h.me];exact λe=>hne e.symm):P:=h
theorem Oc{P:Prop}(h:P:=by unfold PR.op;simp;omega):P:=h
theorem Od{P:Prop}(h:P:=by simp[ha]):P:=h
theorem Oe{P:Prop}(h:P:=by unfold dv;rw[Nat.sub_self,List.drop_zero]):P:=h
theorem Of{P:Prop}(h:P:=by have:=z.vw;omega):P:=h
theorem Og{P:Prop}(h:P:=by have:=this.2.1;omega):P:=h
theorem Oh{P:Prop}(h:P:=by have:=hW.nlt hg;simpa using this):P:=h
theorem Oi{P:Prop}(h:P:=by rw[List.length_drop];omega):P:=h
theorem Oj{P:Prop}(h:P:=by rw[List.length_take];omega):P:=h
theorem Ol{P:Prop}(h:P:=by rw[hs];simp[hk]):P:=h
theorem Om{P:Prop}(h:P:=by simpa using q1):P:=h
theorem On{P:Prop}(h:P:=by injection e with e;subst e;simp):P:=h
theorem Oo{P:Prop}(h:P:=by simp;intro e;rw[<-e,he5]at hr5;injection hr5 with hr5;injection hr5 with _ hr5;cases hr5):P:=h
theorem Oq{P:Prop}(h:P:=by simp only[Op.operands,List.mem_toArray,List.mem_map];exact⟨p,by simpa using hp,rfl⟩):P:=h
theorem Ot{P:Prop}(h:P:=by simpa using h):P:=h
theorem Ou{P:Prop}(h:P:=by simp;intro e;rw[e,he5]at hr5;injection hr5 with hr5;injection hr5 with _ hr5;cases hr5):P:=h
theorem Ov{P:Prop}(h:P:=by simp only[sc,decide_eq_true_eq]at *;omega):P:=h
theorem Ow{P:Prop}(h:P:=by have:=z.n;omega):P:=h
theorem Ox{P:Prop}(h:P:=by simp[h0]):P:=h
theorem Oy{P:Prop}(h:P:=by cases x):P:=h
theorem Oz{P:Prop}(h:P:=by rw[List.map_cons,List.map_cons,List.map_nil,lT _ _ (λb _=>rfl) v1 hcl1];rfl):P:=h
theorem OA{P:Prop}(h:P:=by simp[slB]):P:=h
theorem OC{P:Prop}(h:P:=by show(P i).me≠j;rw[h.me];exact λe=>j2 e.symm):P:=h
theorem OD{P:Prop}(h:P:=by rw[hk];rfl):P:=h
theorem OE{P:Prop}(h:P:=by simp[Op.operands,Call.operands,hx]):P:=h
theorem OF{P:Prop}(h:P:=by simp only[Op.operands,List.mem_toArray,List.mem_map];exact⟨p,hp,rfl⟩):P:=h
theorem OG{P:Prop}(h:P:=by rw[hc];exact hv):P:=h
theorem OH{P:Prop}(h:P:=by simp[Op.operands,Call.operands];simpa using hx):P:=h
theorem OI{P:Prop}(h:P:=by simpa using q0):P:=h
theorem OJ{P:Prop}(h:P:=by unfold dy;exact Nat.le_trans (List.length_filter_le _ _) (by simp;omega)):P:=h
theorem OK{P:Prop}(h:P:=by rw[List.length_set];omega):P:=h
theorem OM{P:Prop}(h:P:=by rw[List.length_take];exact Nat.min_le_left _ _):P:=h
theorem ON{P:Prop}(h:P:=by rw[hbs]at hb;injection hb with hb;rw[<-hb]):P:=h
theorem OO{P:Prop}(h:P:=by rw[ai,if_neg (λe1=>by subst e1;rw[hZn]at hb;cases hb)];exact hh):P:=h
theorem OP{P:Prop}(h:P:=by have:=hS.lt _ hx;omega):P:=h
theorem OQ{P:Prop}(h:P:=by rw[e,hr]at c1;injection c1 with c1;cases c1):P:=h
theorem OR{P:Prop}(h:P:=by simp only[scQ]at *;exact h _ hs):P:=h
theorem OS{P:Prop}(h:P:=by have:=z.n;show P.n<=1000;omega):P:=h
theorem OT{P:Prop}(h:P:=by rintro(h|h|h)<;>first|exact h1 h|exact h2 h|exact h3 h):P:=h
theorem OU{P:Prop}(h:P:=by rw[cx (by omega) (by omega)];congr 1;omega):P:=h
theorem OV{P:Prop}(h:P:=by simp only[push_cast,seval,tf,Bool.false_eq_true,false_implies]):P:=h
theorem OW{P:Prop}(h:P:=by rw[ai,if_neg (λe=>hb e.symm)];exact hg):P:=h
theorem OX{P:Prop}(h:P:=by rw[hBz];exact X5.drop 1):P:=h
theorem OY{P:Prop}(h:P:=by simpa using hb):P:=h
theorem OZ{P:Prop}(h:P:=by rw[<-hR,if_pos];exact hany):P:=h
theorem O0{P:Prop}(h:P:=by rw[dI];exact Nat.le_refl _):P:=h
theorem O1{P:Prop}(h:P:=by rw[hst2,if_neg (by rintro(h|h);exact hb h;exact h5 h)]):P:=h
theorem O2{P:Prop}(h:P:=by rw[ah,if_neg (by simp),ah,if_pos rfl]):P:=h
theorem O3{P:Prop}(h:P:=by show(P i).me=(P i).vw%n;rw[h.me,hpi]):P:=h
theorem O4{P:Prop}(h:P:=by simp[Op.operands,Call.operands];right;simpa using hx):P:=h
theorem O5{P:Prop}(h:P:=by simp only[List.mem_cons]at hj;exact hj.resolve_left e):P:=h
theorem O6{P:Prop}(h:P:=by rw[Cp (by omega) (by omega),oU (by omega) (by omega)]):P:=h
theorem O7{P:Prop}(h:P:=by show o2.length+P.cm<=P2.cm+1;omega):P:=h
theorem O8{P:Prop}(h:P:=by show(P i).me≠j;rw[h.me];exact λe=>j2' e.symm):P:=h
theorem O9{P:Prop}(h:P:=by have:=H.cj;rw[fv _ _ _ (by omega)];exact H.fix b hb):P:=h
theorem Pa{P:Prop}(h:P:=by simp[hx]):P:=h
theorem Pb{P:Prop}(h:P:=by rw[hop];omega):P:=h
theorem Pc{P:Prop}(h:P:=by rw[hnm];exact hpi):P:=h
theorem Pd{P:Prop}(h:P:=by simpa[Go.Tm.sc] using XB.lt 1 rfl):P:=h
theorem Pe{P:Prop}(h:P:=by rw[show c=[] from h];rfl):P:=h
theorem Pf{P:Prop}(h:P:=by rw[<-hQe]):P:=h
theorem Pg{P:Prop}(h:P:=by simp[h2]):P:=h
theorem Ph{P:Prop}(h:P:=by rw[hE.P];exact Tryz.underlying76):P:=h
theorem Pj{P:Prop}(h:P:=by cases b<;>simp_all[veq]):P:=h
theorem Pk{P:Prop}(h:P:=by unfold PR.op at zc;omega):P:=h
theorem Pl{P:Prop}(h:P:=by have:=(hW.live j o hj).2;omega):P:=h
theorem Pm{P:Prop}(h:P:=by unfold br;simp only;split<;>simp):P:=h
theorem Pn{P:Prop}(h:P:=by simpa using hi):P:=h
theorem Po{P:Prop}(h:P:=by simp[PR.new]):P:=h
theorem Pp{P:Prop}(h:P:=by simp[Op.operands,hx]):P:=h
theorem Pq{P:Prop}(h:P:=by have:=k4.w.live _ _ gZ4;omega):P:=h
theorem Pr{P:Prop}(h:P:=by have:=hst (by omega);simp;omega):P:=h
theorem Ps{P:Prop}(h:P:=by rw[e3];simp;omega):P:=h
theorem Pt{P:Prop}(h:P:=by rw[hQ1.2.2.2.2.1];exact hk3):P:=h
theorem Pu{P:Prop}(h:P:=by rw[hQ1.2.2.2.2.1];exact hk4):P:=h
theorem Pv{P:Prop}(h:P:=by simpa[scQ] using hs):P:=h
theorem Pw{P:Prop}(h:P:=by simp only[push_cast,seval]):P:=h
theorem Px{P:Prop}(h:P:=by rw[q1];exact Nat.le_refl _):P:=h
theorem Py{P:Prop}(h:P:=by unfold PR.F;have:=z.odd;omega):P:=h
theorem Pz{P:Prop}(h:P:=by simpa[sc] using hs):P:=h
theorem PA{P:Prop}(h:P:=by simpa[cl] using hs):P:=h
theorem PC{P:Prop}(h:P:=by simp[hl]):P:=h
theorem PD{P:Prop}(h:P:=by rw[Array.length_toList];rfl):P:=h
theorem PE{P:Prop}(h:P:=by rw[hchg,if_pos (.inl h1)]):P:=h
theorem PF{P:Prop}(h:P:=by rw[htk,hbs];rfl):P:=h
theorem PG{P:Prop}(h:P:=by simp[hv]):P:=h
theorem PH{P:Prop}(h:P:=by simp[bp,aW,ba,aV,aU,bn,iF]):P:=h
theorem PI{P:Prop}(h:P:=by simpa[Go.Tm.sc] using sl):P:=h
theorem PJ{P:Prop}(h:P:=by rw[e2,hzl,hcell]):P:=h
theorem PK{P:Prop}(h:P:=by rw[hdn];simp):P:=h
theorem PL{P:Prop}(h:P:=by have:=z.op4;omega):P:=h
theorem PN{P:Prop}(h:P:=by simpa using h2):P:=h
theorem PO{P:Prop}(h:P:=by simp[hc1]):P:=h
theorem PQ{P:Prop}(h:P:=by simp[slB]at hne;omega):P:=h
theorem PS{P:Prop}(h:P:=by rw[hop];exact hco):P:=h
theorem PT{P:Prop}(h:P:=by simp[ren]):P:=h
theorem PU{P:Prop}(h:P:=by rw[e];exact hx):P:=h
theorem PV{P:Prop}(h:P:=by simp[sc]):P:=h
theorem PW{P:Prop}(h:P:=by simp[bT];omega):P:=h
theorem PZ{P:Prop}(h:P:=by simpa using q):P:=h
theorem P0{P:Prop}(h:P:=by simp[hh]):P:=h
theorem P3{P:Prop}(h:P:=by rw[ka];rfl):P:=h
namespace Go.Tm
inductive Tr (α:Type) where
 |leaf
 |node (v:Option α) (l r:Tr α)
def path:Nat->Nat->List Bool
 |0,_=>[]
 | f+1,k=>match k with
   |0=>[]
   |k+1=>(k%2==0)::path f (k/2)
theorem Hq:∀(f k j g:Nat),k<=f->j<=g->path f k=path g j->k=j:=by
 intro f
 induction f with
 | zero =>
   intro k j g hk hj h
   cases g with
   |zero=>omega
   | succ g=>cases j with
     |zero=>omega
     |succ j=>simp[path]at h
 | succ f ih =>
   intro k j g hk hj h
   cases k with
   | zero =>
     cases g with
     |zero=>omega
     | succ g=>cases j with
       |zero=>rfl
       |succ j=>simp[path]at h
   | succ k =>
     cases g with
     |zero=>simp[path]at h
     | succ g=>cases j with
       |zero=>simp[path]at h
       | succ j =>
         simp only[path,List.cons.injEq]at h;obtain⟨h1,h2⟩:=h;have h3:=ih (k/2) (j/2) g Nr Nr h2;have h4:(k%2=0)↔(j%2=0):=by have:=congrArg (·=true) h1;simpa using this
         omega
namespace Tr
variable{α:Type}
def tW:Tr α->List Bool->Option α
 |leaf,_=>none
 |node v _ _,[]=>v
 |node _ l r,b::p=>if b then tW l p else tW r p
def ni(x:Option α):List Bool->Tr α->Tr α
 |[],leaf=>node x leaf leaf
 |[],node _ l r=>node x l r
 |b::p,leaf=>if b then node none (ni x p leaf) leaf else node none leaf (ni x p leaf)
 |b::p,node v l r=>if b then node v (ni x p l) r else node v l (ni x p r)
theorem FA(p:List Bool):tW (leaf:Tr α) p=none:=by cases p<;>rfl
theorem Fy(x:Option α):∀(p q:List Bool) (t:Tr α),tW (ni x p t) q=if p=q then x else tW t q:=by
 intro p
 induction p with
 |nil =>intro q t;cases t<;>cases q<;>simp[ni,tW]
 | cons b p ih =>
   intro q t
   cases t with
   | leaf =>
     cases b<;>cases q with
     |nil=>simp[ni,tW]
     |cons c q=>cases c<;>simp[ni,tW,ih]
   | node v l r =>
     cases b<;>cases q with
     |nil=>simp[ni,tW]
     |cons c q=>cases c<;>simp[ni,tW,ih]
def get(t:Tr α)(k:Nat):Option α:=tW t (path k k)
def set(t:Tr α)(k:Nat)(x:Option α):Tr α:=ni x (path k k) t
theorem sY(t:Tr α)(k j:Nat)(x:Option α):(t.set k x).get j=if k=j then x else t.get j:=by
 simp only[get,set,Fy];by_cases h:k=j
 ·subst h;simp
 ·have:path k k≠path j j:=λe=>h (Hq _ _ _ _ (Nat.le_refl _) (Nat.le_refl _) e);simp[h,this]
theorem mv(k:Nat):(leaf:Tr α).get k=none:=FA _
end Tr
structure Loc where
 r:Nat
 ex:Nat
 sh:Nat
abbrev Ren:=Nat->Loc
def fm(ρ:Ren)(a:Addr):Addr:=⟨(ρ a.block).r,a.off+(ρ a.block).sh,a.spot⟩
def gJ(ρ:Ren)(a:Addr):Addr :=
 match a.spot with
 |none=>⟨(ρ a.block).r,a.off+(ρ a.block).sh,none⟩
 |some d=>if d%2=1 then⟨(ρ a.block).r,a.off+(ρ a.block).sh,some (d/2)⟩ else⟨(ρ a.block).r,(if (ρ a.block).ex=0 then a.off else a.off+d/2)+(ρ a.block).sh,none⟩
def iy(ρ:Ren)(a:Addr)(l c:Nat):Nat:=if a.spot=some 0/\l≠0 then c else c+(ρ a.block).ex
theorem fM(ρ:Ren)(a:Addr)(l c:Nat)(h:a.spot=none):iy ρ a l c=c+(ρ a.block).ex:=by simp[iy,h]
theorem xj(ρ:Ren)(a:Addr)(l c:Nat):c<=iy ρ a l c:=by unfold iy;split<;>omega
mutual
def ren(ρ:Ren):Value->Value
 |.pointer (some a)=>.pointer (some (fm ρ a))
 |.slice (some a) l c=>.slice (some (gJ ρ a)) l (iy ρ a l c)
 |.map (some r)=>.map (some (ρ r).r)
 |.chan (some r)=>.chan (some (ρ r).r)
 |.func f x y=>.func f (nV ρ x) (nV ρ y)
 |.iface t v=>.iface t (ren ρ v)
 |.agg x=>.agg (nV ρ x)
 |.tuple x=>.tuple (nV ρ x)
 |.bool b=>.bool b
 |.int k n=>.int k n
 |.float k b=>.float k b
 |.complex k a b=>.complex k a b
 |.string s=>.string s
 |.pointer none=>.pointer none
 |.slice none l c=>.slice none l c
 |.map none=>.map none
 |.chan none=>.chan none
 |.nilFunc=>.nilFunc
 |.nilIface=>.nilIface
def nV(ρ:Ren):Array Value->Array Value
 |⟨l⟩=>⟨qA ρ l⟩
def qA(ρ:Ren):List Value->List Value
 |[]=>[]
 |v::l=>ren ρ v::qA ρ l
end
mutual
def sc(n:Nat):Value->Bool
 |.pointer (some a)=>decide (a.block<n)
 |.slice (some a) _ _=>decide (a.block<n)
 |.map (some r)=>decide (r<n)
 |.chan (some r)=>decide (r<n)
 |.func _ x y=>scA n x&&scA n y
 |.iface _ v=>sc n v
 |.agg x=>scA n x
 |.tuple x=>scA n x
 |_=>true
def scA(n:Nat):Array Value->Bool
 |⟨l⟩=>scL n l
def scL(n:Nat):List Value->Bool
 |[]=>true
 |v::l=>sc n v&&scL n l
end
theorem CJ(ρ:Ren)(l:List Value):qA ρ l=l.map (ren ρ):=by
 induction l with
 |nil=>simp[qA]
 |cons v l ih=>simp[qA,ih]
theorem dz(ρ:Ren)(a:Array Value):nV ρ a=a.map (ren ρ):=by cases a;simp[nV,CJ]
theorem Ki(n:Nat)(l:List Value):scL n l=l.all (sc n):=by
 induction l with
 |nil=>simp[scL]
 |cons v l ih=>simp[scL,ih]
theorem fJ(n:Nat)(l:List Value):scL n l=true↔∀v,v∈l->sc n v=true:=by simp[Ki]
theorem wS(n:Nat)(a:Array Value):scA n a=true↔∀v,v∈a->sc n v=true:=by cases a with|mk l=>simp[scA,fJ]
mutual
theorem dY(ρ ρ':Ren)(n:Nat)(h:∀b,b<n->ρ' b=ρ b):∀v,sc n v=true->ren ρ' v=ren ρ v
 | .pointer (some a),hs=>by
   have:=h a.block Pz;simp[ren,fm,this]
 | .slice (some a) l c,hs=>by
   have:=h a.block Pz;simp[ren,gJ,iy,this]
 | .map (some r),hs=>by
   have:=h r Pz;simp[ren,this]
 | .chan (some r),hs=>by
   have:=h r Pz;simp[ren,this]
 | .func f x y,hs=>by
   simp only[sc,Bool.and_eq_true]at hs;simp only[ren,ky ρ ρ' n h x hs.1,ky ρ ρ' n h y hs.2]
 | .iface t v,hs=>by
   simp only[sc]at hs;simp only[ren,dY ρ ρ' n h v hs]
 | .agg x,hs=>by
   simp only[sc]at hs;simp only[ren,ky ρ ρ' n h x hs]
 | .tuple x,hs=>by
   simp only[sc]at hs;simp only[ren,ky ρ ρ' n h x hs]
 |.bool b,_=>rfl
 |.int k n,_=>rfl
 |.float k b,_=>rfl
 |.complex k a b,_=>rfl
 |.string s,_=>rfl
 |.pointer none,_=>rfl
 |.slice none l c,_=>rfl
 |.map none,_=>rfl
 |.chan none,_=>rfl
 |.nilFunc,_=>rfl
 |.nilIface,_=>rfl
theorem ky(ρ ρ':Ren)(n:Nat)(h:∀b,b<n->ρ' b=ρ b):∀a,scA n a=true->nV ρ' a=nV ρ a
 | ⟨l⟩,hs=>by
   simp only[scA]at hs;simp only[nV,tK ρ ρ' n h l hs]
theorem tK(ρ ρ':Ren)(n:Nat)(h:∀b,b<n->ρ' b=ρ b):∀l,scL n l=true->qA ρ' l=qA ρ l
 |[],_=>rfl
 | v::l,hs=>by
   simp only[scL,Bool.and_eq_true]at hs;simp only[qA,dY ρ ρ' n h v hs.1,tK ρ ρ' n h l hs.2]
end
mutual
theorem eJ(n m:Nat)(h:n<=m):∀v,sc n v=true->sc m v=true
 |.pointer (some a),hs=>Ov
 |.slice (some a) l c,hs=>Ov
 |.map (some r),hs=>Ov
 |.chan (some r),hs=>Ov
 | .func f x y,hs=>by
   simp only[sc,Bool.and_eq_true]at *;exact⟨pq n m h x hs.1,pq n m h y hs.2⟩
 |.iface t v,hs=>by simp only[sc]at *;exact eJ n m h v hs
 |.agg x,hs=>by simp only[sc]at *;exact pq n m h x hs
 |.tuple x,hs=>by simp only[sc]at *;exact pq n m h x hs
 |.bool b,_=>rfl
 |.int k n,_=>rfl
 |.float k b,_=>rfl
 |.complex k a b,_=>rfl
 |.string s,_=>rfl
 |.pointer none,_=>rfl
 |.slice none l c,_=>rfl
 |.map none,_=>rfl
 |.chan none,_=>rfl
 |.nilFunc,_=>rfl
 |.nilIface,_=>rfl
theorem pq(n m:Nat)(h:n<=m):∀a,scA n a=true->scA m a=true
 |⟨l⟩,hs=>by simp only[scA]at *;exact yO n m h l hs
theorem yO(n m:Nat)(h:n<=m):∀l,scL n l=true->scL m l=true
 |[],_=>rfl
 | v::l,hs=>by
   simp only[scL,Bool.and_eq_true]at *;exact⟨eJ n m h v hs.1,yO n m h l hs.2⟩
end
mutual
def cl(n:Nat):Value->Bool
 |.pointer (some a)=>decide (a.block<n)
 |.slice (some a) _ _=>decide (a.block<n)&&a.spot.isNone
 |.map (some r)=>decide (r<n)
 |.chan (some r)=>decide (r<n)
 |.func _ x y=>clA n x&&clA n y
 |.iface _ v=>cl n v
 |.agg x=>clA n x
 |.tuple x=>clA n x
 |_=>true
def clA(n:Nat):Array Value->Bool
 |⟨l⟩=>clL n l
def clL(n:Nat):List Value->Bool
 |[]=>true
 |v::l=>cl n v&&clL n l
end
mutual
theorem lP(n:Nat):∀v,cl n v=true->sc n v=true
 |.pointer (some a),hs=>by simpa[sc,cl] using hs
 |.slice (some a) l c,hs=>by simp only[cl,Bool.and_eq_true]at hs;simpa[sc] using hs.1
 |.map (some r),hs=>by simpa[sc,cl] using hs
 |.chan (some r),hs=>by simpa[sc,cl] using hs
 | .func f x y,hs=>by
   simp only[cl,sc,Bool.and_eq_true]at *;exact⟨kj n x hs.1,kj n y hs.2⟩
 |.iface t v,hs=>by simp only[cl,sc]at *;exact lP n v hs
 |.agg x,hs=>by simp only[cl,sc]at *;exact kj n x hs
 |.tuple x,hs=>by simp only[cl,sc]at *;exact kj n x hs
 |.bool b,_=>rfl
 |.int k n,_=>rfl
 |.float k b,_=>rfl
 |.complex k a b,_=>rfl
 |.string s,_=>rfl
 |.pointer none,_=>rfl
 |.slice none l c,_=>rfl
 |.map none,_=>rfl
 |.chan none,_=>rfl
 |.nilFunc,_=>rfl
 |.nilIface,_=>rfl
theorem kj(n:Nat):∀a,clA n a=true->scA n a=true
 |⟨l⟩,hs=>by simp only[clA,scA]at *;exact tA n l hs
theorem tA(n:Nat):∀l,clL n l=true->scL n l=true
 |[],_=>rfl
 | v::l,hs=>by
   simp only[clL,scL,Bool.and_eq_true]at *;exact⟨lP n v hs.1,tA n l hs.2⟩
end
mutual
theorem tJ(ρ:Ren)(n:Nat)(h:∀b,b<n->ρ b=⟨b,0,0⟩):∀v,cl n v=true->ren ρ v=v
 | .pointer (some ⟨b,o,s⟩),hs=>by
   have:=h b PA;simp[ren,fm,this]
 | .slice (some ⟨b,o,none⟩) l c,hs=>by
   have:=h b PA;simp[ren,gJ,iy,this]
 |.slice (some ⟨b,o,some d⟩) l c,hs=>by simp[cl]at hs
 | .map (some r),hs=>by
   have:=h r PA;simp[ren,this]
 | .chan (some r),hs=>by
   have:=h r PA;simp[ren,this]
 | .func f x y,hs=>by
   simp only[cl,Bool.and_eq_true]at hs;simp only[ren,sU ρ n h x hs.1,sU ρ n h y hs.2]
 | .iface t v,hs=>by
   simp only[cl]at hs;simp only[ren,tJ ρ n h v hs]
 | .agg x,hs=>by
   simp only[cl]at hs;simp only[ren,sU ρ n h x hs]
 | .tuple x,hs=>by
   simp only[cl]at hs;simp only[ren,sU ρ n h x hs]
 |.bool b,_=>rfl
 |.int k n,_=>rfl
 |.float k b,_=>rfl
 |.complex k a b,_=>rfl
 |.string s,_=>rfl
 |.pointer none,_=>rfl
 |.slice none l c,_=>rfl
 |.map none,_=>rfl
 |.chan none,_=>rfl
 |.nilFunc,_=>rfl
 |.nilIface,_=>rfl
theorem sU(ρ:Ren)(n:Nat)(h:∀b,b<n->ρ b=⟨b,0,0⟩):∀a,clA n a=true->nV ρ a=a
 | ⟨l⟩,hs=>by
   simp only[clA]at hs;simp only[nV,CI ρ n h l hs]
theorem CI(ρ:Ren)(n:Nat)(h:∀b,b<n->ρ b=⟨b,0,0⟩):∀l,clL n l=true->qA ρ l=l
 |[],_=>rfl
 | v::l,hs=>by
   simp only[clL,Bool.and_eq_true]at hs;simp only[qA,tJ ρ n h v hs.1,CI ρ n h l hs.2]
end
def ue:Value->Value
 |.slice (some a) l c=>.slice (some ⟨a.block,a.off,a.spot.map λd=>2*d+1⟩) l c
 |v=>v
def cl1(n:Nat):Value->Bool
 |.slice (some a) _ _=>decide (a.block<n)
 |v=>cl n v
theorem lT(ρ:Ren)(n:Nat)(h:∀b,b<n->ρ b=⟨b,0,0⟩)(v:Value)(hs:cl1 n v=true):ren ρ (ue v)=v:=by
 unfold ue;split
 ·rename_i a l c;obtain⟨b,o,sp⟩:=a;have:=h b (by simpa[cl1] using hs)
  cases sp with
  |none=>simp[ren,gJ,iy,this]
  |some d =>have e1:(2*d+1)%2=1:=Nr;have e2:(2*d+1)/2=d:=Nr;simp[ren,gJ,iy,this,e1,e2]
 ·rename_i h1;refine tJ ρ n h v ?_;unfold cl1 at hs;split at hs
  ·rename_i a l c;exact absurd rfl (h1 a l c)
  ·exact hs
theorem pg(n:Nat)(v:Value)(hs:cl1 n v=true):sc n (ue v)=true:=by
 unfold ue;split
 ·simpa[cl1,sc] using hs
 ·rename_i h1;refine lP n v ?_;unfold cl1 at hs;split at hs
  ·rename_i a l c;exact absurd rfl (h1 a l c)
  ·exact hs
inductive bz where
 |cells (c:List Value) (e:TypeId) (fx:Bool)
 |map (es:List MapEntry) (clock:Nat)
 |iter (s:ByteArray) (pos:Nat)
 |miter (m:Nat) (clock:Nat)
structure ag where
 next:Nat
 tr:Tr bz
structure Env where
 P:Program
 base:Nat
 ro:Nat->Option Obj
 known:FuncId->List Value->Option Value:=λ_ _=>none
 iter:FuncId->List Value->ag->Nat->Option (Option Value):=λ_ _ _ _=>none
 lY:Code->Tr Value->ag->Option (Nat×Tr Value×ag):=λ_ _ _=>none
def ag.get(h:ag)(b:Nat):Option bz:=h.tr.get b
def ag.put(h:ag)(b:Nat)(o:bz):ag:={h with tr:=h.tr.set b (some o)}
def ag.kill(h:ag)(b:Nat):ag:={h with tr:=h.tr.set b none}
def ag.push(h:ag)(o:bz):ag:={next:=h.next+1,tr:=h.tr.set h.next (some o)}
theorem ai(h:ag)(b j:Nat)(o:bz):(h.put b o).get j=if b=j then some o else h.get j:=Tr.sY _ _ _ _
theorem dC(h:ag)(b j:Nat):(h.kill b).get j=if b=j then none else h.get j:=Tr.sY _ _ _ _
theorem ah(h:ag)(j:Nat)(o:bz):(h.push o).get j=if h.next=j then some o else h.get j:=Tr.sY _ _ _ _
@[simp] theorem dI (h:ag) (b:Nat) (o:bz):(h.put b o).next=h.next:=rfl
@[simp] theorem gw (h:ag) (b:Nat):(h.kill b).next=h.next:=rfl
@[simp] theorem bU (h:ag) (o:bz):(h.push o).next=h.next+1:=rfl
def dO(ρ:Ren)(e:MapEntry):MapEntry:={e with key:=ren ρ e.key,val:=ren ρ e.val}
def scO(n:Nat):bz->Prop
 |.cells c _ _=>∀v,v∈c->sc n v=true
 |.map es _=>∀e,e∈es->sc n e.key=true/\sc n e.val=true
 |.iter _ _=>True
 |.miter m _=>m<n
def fT(P:Program)(ρ:Ren)(x:Loc):bz->Obj->Prop
 |.cells c e fx,.cells c' e' fr=>e'=e/\(fx=true->x.ex=0)/\∃pre hid:List Value,c'=(pre++c.map (ren ρ)++hid).toArray/\pre.length=x.sh/\hid.length=x.ex*P.cellsOf e/\∀i,i<c'.size->¬(fr.1<=i/\i<fr.2)
 |.map es k,.map es' k'=>es'=(es.map (dO ρ)).toArray/\k'=k
 |.iter s p,.stringIter s' p'=>s'=s/\p'=p/\x.sh=0
 |.miter m k,.mapIter m' since seen last=>m'=some (ρ m).r/\since=k/\seen=#[]/\last=k/\x.sh=0
 |_,_=>False
theorem fw{P:Program}{ρ ρ':Ren}{n:Nat}{x:Loc}{o:bz}{c:Obj}(h:∀b,b<n->ρ' b=ρ b)(hs:scO n o)(hr:fT P ρ x o c):fT P ρ' x o c:=by
 cases o with
 |cells l e fx =>cases c<;>simp only[fT]at hr|-;have:l.map (ren ρ')=l.map (ren ρ):=List.map_congr_left λv hv=>dY ρ ρ' n h v (hs v hv);rw[this];exact hr
 | map es k =>
   cases c<;>simp only[fT]at hr|-
   have:es.map (dO ρ')=es.map (dO ρ):=List.map_congr_left λe he=>by
    obtain⟨h1,h2⟩:=hs e he;simp only[dO,dY ρ ρ' n h _ h1,dY ρ ρ' n h _ h2]
   rw[this];exact hr
 |iter s p=>cases c<;>exact hr
 |miter m k =>cases c<;>simp only[fT]at hr|-;rw[h m hs];exact hr
theorem j6{n m:Nat}{o:bz}(h:n<=m)(hs:scO n o):scO m o:=by
 cases o with
 |cells l e fx=>exact λv hv=>eJ n m h v (hs v hv)
 |map es k=>exact λe he=>⟨eJ n m h _ (hs e he).1,eJ n m h _ (hs e he).2⟩
 |iter s p=>trivial
 |miter m k=>exact Nat.lt_of_lt_of_le hs h
structure HR(E:Env)(B:Nat)(ρ:Ren)(h:ag)(w:World):Prop where
 cj:E.base<=h.next
 fS:∀b o,b<E.base->E.ro b=some o->b<B
 fG:B<=w.heap.size
 fix:∀b,b<E.base->ρ b=⟨b,0,0⟩
 ro:∀b o,b<E.base->E.ro b=some o->w.heap[b]? = some o
 live:∀b o,h.get b=some o->E.base<=b/\b<h.next/\B<=(ρ b).r/\scO h.next o/\∃c,w.heap[(ρ b).r]? = some c/\fT E.P ρ (ρ b) o c
 inj:∀b b' o o',h.get b=some o->h.get b'=some o'->(ρ b).r=(ρ b').r->b=b'
theorem HR.lt{E:Env}{B:Nat}{ρ:Ren}{h:ag}{w:World}(H:HR E B ρ h w){b:Nat}{o:bz}(hb:h.get b=some o):(ρ b).r<w.heap.size:=by
 obtain⟨_,_,_,_,c,hc,_⟩:=H.live b o hb;rcases Nat.lt_or_ge (ρ b).r w.heap.size with h'|h'
 ·exact h'
 ·simp[Array.getElem?_eq_none h']at hc
structure Step(E:Env)(B:Nat)(ρ:Ren)(h:ag)(w:World)(ρ':Ren)(h':ag)(w':World):Prop where
 hr:HR E B ρ' h' w'
 ext:∀b,b<h.next->ρ' b=ρ b
 le:h.next<=h'.next
 frame:∀r,r<w.heap.size->(∀b o,h.get b=some o->(ρ b).r≠r)->w'.heap[r]? = w.heap[r]?
 range:∀b o,h'.get b=some o->(∃b0 o0,h.get b0=some o0/\(ρ b0).r=(ρ' b).r)\/w.heap.size<=(ρ' b).r
 size:w.heap.size<=w'.heap.size
 os:w'.os=w.os
 tape:w'.tape=w.tape
 output:w'.output=w.output
theorem Step.refl{E:Env}{B:Nat}{ρ:Ren}{h:ag}{w:World}(H:HR E B ρ h w):Step E B ρ h w ρ h w where
 hr:=H
 ext:=λ_ _=>rfl
 le:=Nat.le_refl _
 frame:=λ_ _ _=>rfl
 range:=λb o hb=>.inl ⟨b,o,hb,rfl⟩
 size:=Nat.le_refl _
 os:=rfl
 tape:=rfl
 output:=rfl
theorem Step.trans{E:Env}{B:Nat}{ρ ρ' ρ'':Ren}{h h' h'':ag}{w w' w'':World}(s:Step E B ρ h w ρ' h' w')(t:Step E B ρ' h' w' ρ'' h'' w''):Step E B ρ h w ρ'' h'' w'' where
 hr:=t.hr
 ext:=λb hb=>(t.ext b (Nat.lt_of_lt_of_le hb s.le)).trans (s.ext b hb)
 le:=Nat.le_trans s.le t.le
 frame:=λr hr hn=>by
  rw[t.frame r (Nat.lt_of_lt_of_le hr s.size) ?_,s.frame r hr hn];intro b o hb e;rcases s.range b o hb with⟨b0,o0,h0,e0⟩|hge
  ·exact hn b0 o0 h0 (e0.trans e)
  ·omega
 range:=λb o hb=>by
  rcases t.range b o hb with⟨b0,o0,h0,e0⟩|hge
  ·rcases s.range b0 o0 h0 with⟨b1,o1,h1,e1⟩|hge
   ·exact .inl ⟨b1,o1,h1,e1.trans e0⟩
   ·exact .inr (e0▸hge)
  ·exact .inr (Nat.le_trans s.size hge)
 size:=Nat.le_trans s.size t.size
 os:=t.os.trans s.os
 tape:=t.tape.trans s.tape
 output:=t.output.trans s.output
theorem heap_alloc(w:World)(c:Obj):(w.alloc c).heap=w.heap.push c:=rfl
theorem HR.drew{E:Env}{B:Nat}{ρ:Ren}{h:ag}{w:World}(H:HR E B ρ h w):HR E B ρ h w.drew :=
 ⟨H.cj,H.fS,H.fG,H.fix,H.ro,H.live,H.inj⟩
theorem Step.drew{E:Env}{B:Nat}{ρ:Ren}{h:ag}{w:World}(H:HR E B ρ h w):Step E B ρ h w ρ h w.drew where
 hr:=H.drew
 ext:=λ_ _=>rfl
 le:=Nat.le_refl _
 frame:=λ_ _ _=>rfl
 range:=λb o hb=>.inl ⟨b,o,hb,rfl⟩
 size:=Nat.le_refl _
 os:=rfl
 tape:=rfl
 output:=rfl
def upd(ρ:Ren)(n:Nat)(x:Loc):Ren:=λb=>if b=n then x else ρ b
@[simp] theorem c9 (ρ:Ren) (n:Nat) (x:Loc):upd ρ n x n=x:=by simp[upd]
theorem dg(ρ:Ren)(n:Nat)(x:Loc){b:Nat}(h:b≠n):upd ρ n x b=ρ b:=by simp[upd,h]
theorem fv(ρ:Ren)(n:Nat)(x:Loc){b:Nat}(h:b<n):upd ρ n x b=ρ b:=dg _ _ _ Nr
theorem Step.alloc{E:Env}{B:Nat}{ρ:Ren}{h:ag}{w:World}(H:HR E B ρ h w){o:bz}{c:Obj}{ex sh:Nat}(hs:scO h.next o)(hc:fT E.P ρ ⟨w.heap.size,ex,sh⟩ o c) :
 Step E B ρ h w (upd ρ h.next ⟨w.heap.size,ex,sh⟩) (h.push o) (w.alloc c) where
 hr:={
  cj:=by have:=H.cj;simp;omega
  fS:=H.fS
  fG:=by have:=H.fG;simp;omega
  fix:=λb hb=>O9
  ro:=λb o' hb ho=>by
   have h1:=H.ro b o' hb ho;have h2:=H.fS b o' hb ho;have h3:=H.fG;rw[heap_alloc,Array.getElem?_push];rw[if_neg Nr];exact h1
  live:=λb o' hb=>by
   rw[ah]at hb;by_cases e:h.next=b
   ·subst e;simp only[if_true,Option.some.injEq]at hb;subst hb;refine⟨H.cj,Nw,by simpa using H.fG,j6 Nw hs,c,by rw[c9,heap_alloc];simp,?_⟩;rw[c9];exact fw (n:=h.next) (λb hb=>fv _ _ _ hb) hs hc
   ·rw[if_neg e]at hb;obtain⟨h1,h2,h3,h4,c',h5,h6⟩:=H.live b o' hb;rw[dg _ _ _ (λx=>e x.symm)];have:=H.lt hb;refine⟨h1,Nu,h3,j6 Nw h4,c',?_,fw (n:=h.next) (λb hb=>fv _ _ _ hb) h4 h6⟩;rw[heap_alloc,Array.getElem?_push];rw[if_neg Nr];exact h5
  inj:=λb b' o1 o2 h1 h2 he=>by
   rw[ah]at h1 h2;by_cases e1:h.next=b
   ·by_cases e2:h.next=b'
    ·omega
    ·rw[if_neg e2]at h2;rw[<-e1,c9,dg _ _ _ (λx=>e2 x.symm)]at he;have:=H.lt h2;simp only at he;omega
   ·rw[if_neg e1]at h1;by_cases e2:h.next=b'
    ·rw[<-e2,c9,dg _ _ _ (λx=>e1 x.symm)]at he;have:=H.lt h1;simp only at he;omega
    ·rw[if_neg e2]at h2;rw[dg _ _ _ (λx=>e1 x.symm),dg _ _ _ (λx=>e2 x.symm)]at he
     exact H.inj b b' o1 o2 h1 h2 he}
 ext:=λb hb=>fv _ _ _ hb
 le:=Nw
 frame:=λr hr _=>by rw[heap_alloc,Array.getElem?_push];rw[if_neg Nr]
 range:=λb o' hb=>by
  rw[ah]at hb;by_cases e:h.next=b
  ·subst e;right;simp
  ·rw[if_neg e]at hb;rw[dg _ _ _ (λx=>e x.symm)];exact .inl ⟨b,o',hb,rfl⟩
 size:=Nw
 os:=rfl
 tape:=rfl
 output:=rfl
def dh(w:World)(r:Nat)(c:Obj):World:={w with heap:=w.heap.setIfInBounds r c}
theorem dm(w:World)(r j:Nat)(c:Obj)(h:r<w.heap.size):(dh w r c).heap[j]? = if r=j then some c else w.heap[j]? := by
 simp only[dh,Array.getElem?_setIfInBounds];by_cases e:r=j
 ·subst e;simp[h]
 ·simp[e]
theorem Step.put{E:Env}{B:Nat}{ρ:Ren}{h:ag}{w:World}(H:HR E B ρ h w){b:Nat}{o0 o:bz}{c:Obj}(hb:h.get b=some o0)(hs:scO h.next o)(hc:fT E.P ρ (ρ b) o c) :
 Step E B ρ h w ρ (h.put b o) (dh w (ρ b).r c) where
 hr:={
  cj:=H.cj
  fS:=H.fS
  fG:=by simpa[dh] using H.fG
  fix:=H.fix
  ro:=λj o' hj ho=>by
   have h1:=H.ro j o' hj ho;rw[dm _ _ _ _ (H.lt hb)];have h2:=H.fS j o' hj ho;have h3:=(H.live b o0 hb).2.2.1;rw[if_neg Nr];exact h1
  live:=λj o' hj=>by
   rw[ai]at hj;by_cases e:b=j
   ·subst e;simp only[if_true,Option.some.injEq]at hj;subst hj;obtain⟨h1,h2,h3,_,_,_,_⟩:=H.live b o0 hb;exact⟨h1,h2,h3,hs,c,by rw[dm _ _ _ _ (H.lt hb)];simp,hc⟩
   ·rw[if_neg e]at hj;obtain⟨h1,h2,h3,h4,c',h5,h6⟩:=H.live j o' hj;refine⟨h1,h2,h3,h4,c',?_,h6⟩;rw[dm _ _ _ _ (H.lt hb),if_neg (λx=>e (H.inj _ _ _ _ hb hj x))];exact h5
  inj:=λj j' o1 o2 h1 h2 he=>by
   rw[ai]at h1 h2;have g1:∃o,h.get j=some o:=by
    by_cases e:b=j
    ·exact⟨o0,e▸hb⟩
    ·rw[if_neg e]at h1;exact⟨_,h1⟩
   have g2:∃o,h.get j'=some o:=by
    by_cases e:b=j'
    ·exact⟨o0,e▸hb⟩
    ·rw[if_neg e]at h2;exact⟨_,h2⟩
   obtain⟨_,g1⟩:=g1;obtain⟨_,g2⟩:=g2
   exact H.inj j j' _ _ g1 g2 he}
 ext:=λ_ _=>rfl
 le:=Nat.le_refl _
 frame:=λr hr hn=>by
  rw[dm _ _ _ _ (H.lt hb),if_neg (hn b o0 hb)]
 range:=λj o' hj=>by
  rw[ai]at hj;by_cases e:b=j
  ·exact .inl ⟨b,o0,hb,by rw[e]⟩
  ·rw[if_neg e]at hj;exact .inl ⟨j,o',hj,rfl⟩
 size:=by simp[dh]
 os:=rfl
 tape:=rfl
 output:=rfl
theorem Step.move{E:Env}{B:Nat}{ρ:Ren}{h:ag}{w:World}(H:HR E B ρ h w){b ex sh:Nat}{o0 o:bz}{c:Obj}(hb:h.get b=some o0)(hs:scO h.next o)(hc:fT E.P ρ ⟨(ρ b).r,ex,sh⟩ o c) :
 Step E B ρ h w (upd ρ h.next ⟨(ρ b).r,ex,sh⟩) ((h.kill b).push o) (dh w (ρ b).r c) where
 hr:={
  cj:=by have:=H.cj;simp;omega
  fS:=H.fS
  fG:=by simpa[dh] using H.fG
  fix:=λj hj=>by have:=H.cj;rw[fv _ _ _ (by omega)];exact H.fix j hj
  ro:=λj o' hj ho=>by
   have h1:=H.ro j o' hj ho;rw[dm _ _ _ _ (H.lt hb)];have h2:=H.fS j o' hj ho;have h3:=(H.live b o0 hb).2.2.1;rw[if_neg Nr];exact h1
  live:=λj o' hj=>by
   rw[ah,gw]at hj;obtain⟨k1,k2,k3,_,_,_,_⟩:=H.live b o0 hb;by_cases e:h.next=j
   ·subst e;simp only[if_true,Option.some.injEq]at hj;subst hj;refine⟨by simpa using H.cj,Nw,by rw[c9];exact k3,j6 Nw hs,c,by rw[c9,dm _ _ _ _ (H.lt hb)];simp,?_⟩;rw[c9];exact fw (n:=h.next) (λb hb=>fv _ _ _ hb) hs hc
   ·rw[if_neg e,dC]at hj;by_cases e2:b=j
    ·simp[e2]at hj
    rw[if_neg e2]at hj;obtain⟨h1,h2,h3,h4,c',h5,h6⟩:=H.live j o' hj;rw[dg _ _ _ (λx=>e x.symm)];refine⟨h1,Nu,h3,j6 Nw h4,c',?_,fw (n:=h.next) (λb hb=>fv _ _ _ hb) h4 h6⟩;rw[dm _ _ _ _ (H.lt hb),if_neg (λx=>e2 (H.inj _ _ _ _ hb hj x))];exact h5
  inj:=λj j' o1 o2 h1 h2 he=>by
   rw[ah,gw]at h1 h2;by_cases e1:h.next=j
   ·by_cases e2:h.next=j'
    ·omega
    ·rw[if_neg e2,dC]at h2;by_cases e3:b=j'
     ·simp[e3]at h2
     rw[if_neg e3]at h2;rw[<-e1,c9,dg _ _ _ (λx=>e2 x.symm)]at he;exact absurd (H.inj _ _ _ _ hb h2 he) e3
   ·rw[if_neg e1,dC]at h1;by_cases e3:b=j
    ·simp[e3]at h1
    rw[if_neg e3]at h1;by_cases e2:h.next=j'
    ·rw[<-e2,c9,dg _ _ _ (λx=>e1 x.symm)]at he;exact absurd (H.inj _ _ _ _ hb h1 he.symm) e3
    ·rw[if_neg e2,dC]at h2;by_cases e4:b=j'
     ·simp[e4]at h2
     rw[if_neg e4]at h2;rw[dg _ _ _ (λx=>e1 x.symm),dg _ _ _ (λx=>e2 x.symm)]at he
     exact H.inj _ _ _ _ h1 h2 he}
 ext:=λj hj=>fv _ _ _ hj
 le:=Nw
 frame:=λr hr hn=>by
  rw[dm _ _ _ _ (H.lt hb),if_neg (hn b o0 hb)]
 range:=λj o' hj=>by
  rw[ah,gw]at hj;by_cases e:h.next=j
  ·subst e;rw[c9];exact .inl ⟨b,o0,hb,rfl⟩
  ·rw[if_neg e,dC]at hj;by_cases e2:b=j
   ·simp[e2]at hj
   rw[if_neg e2]at hj;rw[dg _ _ _ (λx=>e x.symm)];exact .inl ⟨j,o',hj,rfl⟩
 size:=by simp[dh]
 os:=rfl
 tape:=rfl
 output:=rfl
theorem HR.kill{E:Env}{B:Nat}{ρ:Ren}{h:ag}{w:World}(H:HR E B ρ h w)(b:Nat):Step E B ρ h w ρ (h.kill b) w where
 hr:={
  cj:=H.cj
  fS:=H.fS
  fG:=H.fG
  fix:=H.fix
  ro:=H.ro
  live:=λj o hj=>by
   rw[dC]at hj;by_cases e:b=j
   ·simp[e]at hj
   ·rw[if_neg e]at hj;exact H.live j o hj
  inj:=λj j' o o' h1 h2 he=>by
   rw[dC]at h1 h2;by_cases e:b=j
   ·simp[e]at h1
   by_cases e':b=j'
   ·simp[e']at h2
   rw[if_neg e]at h1;rw[if_neg e']at h2
   exact H.inj _ _ _ _ h1 h2 he}
 ext:=λ_ _=>rfl
 le:=Nat.le_refl _
 frame:=λ_ _ _=>rfl
 range:=λj o hj=>by
  rw[dC]at hj;by_cases e:b=j
  ·simp[e]at hj
  ·rw[if_neg e]at hj;exact .inl ⟨j,o,hj,rfl⟩
 size:=Nat.le_refl _
 os:=rfl
 tape:=rfl
 output:=rfl
def FZ:List UInt8->List UInt8->Bool:=Op.bytesLess
def IK(op:BinOp)(k:IntKind)(a b:Int):Option Value :=
 match op with
 |.add=>some (.int k (k.wrap (a+b)))
 |.sub=>some (.int k (k.wrap (a-b)))
 |.mul=>some (.int k (k.wrap (a*b)))
 |.quo=>if b=0 then none else some (.int k (k.wrap (a.tdiv b)))
 |.rem=>if b=0 then none else some (.int k (a.tmod b))
 |.and | .or | .xor | .andNot=>some (.int k (bits op k a b))
 |.eql=>some (.bool (a==b))
 |.neq=>some (.bool (a != b))
 |.lss=>some (.bool (a<b))
 |.leq=>some (.bool (a<=b))
 |.gtr=>some (.bool (a>b))
 |.geq=>some (.bool (a>=b))
 |.shl | .shr=>none
def Iz(op:BinOp)(x y:ByteArray):Option Value :=
 match op with
 |.add=>if ((x.size+y.size:Nat):Int)>9223372036854775807 then none else some (.string (x++y))
 |.eql=>some (.bool (x.data.toList==y.data.toList))
 |.neq=>some (.bool !(x.data.toList==y.data.toList))
 |.lss=>some (.bool (FZ x.data.toList y.data.toList))
 |.leq=>some (.bool (FZ x.data.toList y.data.toList||x.data.toList==y.data.toList))
 |.gtr=>some (.bool !(FZ x.data.toList y.data.toList||x.data.toList==y.data.toList))
 |.geq=>some (.bool !(FZ x.data.toList y.data.toList))
 |_=>none
def hJ(P:Program)(kc:Bool)(t:TypeId)(u v:Value):Option Bool :=
 match P.underlying t,u,v with
 |some (.pointer _),.pointer none,.pointer none=>some true
 |some (.pointer _),.pointer none,.pointer (some _)=>some false
 |some (.pointer _),.pointer (some _),.pointer none=>some false
 |some (.interface _),.nilIface,.nilIface=>if kc then some true else none
 |some (.interface _),.nilIface,.iface _ _=>some false
 |some (.interface _),.iface _ _,.nilIface=>some false
 |some (.slice _),.slice none _ _,.slice none _ _=>some true
 |some (.slice _),.slice none _ _,.slice (some _) _ _=>some false
 |some (.slice _),.slice (some _) _ _,.slice none _ _=>some false
 |some (.map _ _),.map none,.map none=>some true
 |some (.map _ _),.map none,.map (some _)=>some false
 |some (.map _ _),.map (some _),.map none=>some false
 |some (.func _ _ _),.nilFunc,.nilFunc=>some true
 |some (.func _ _ _),.nilFunc,.func _ _ _=>some false
 |some (.func _ _ _),.func _ _ _,.nilFunc=>some false
 |some .bool,.bool a,.bool b=>some (a==b)
 |_,_,_=>none
def ye(P:Program)(kc:Bool)(op:BinOp)(t:TypeId)(u v:Value):Option Value :=
 match u,v with
 | .int k a,.int k' b =>
   match op with
   |.shl=>if b<0 then none else some (.int k (k.wrap (a*2^(min b.toNat k.bits))))
   |.shr=>if b<0 then none else some (.int k (a.fdiv (2^(min b.toNat k.bits))))
   |_=>if k=k' then IK op k a b else none
 |.string a,.string b=>Iz op a b
 | u,v =>
   match op with
   |.eql=>(hJ P kc t u v).map .bool
   |.neq=>(hJ P kc t u v).map λb=>.bool !b
   |_=>none
theorem Hg{P:Program}{op:BinOp}{t:TypeId}{k:IntKind}{a b:Int}{r:Value}(hn:op≠.shl/\op≠.shr)(h:IK op k a b=some r)(w:World) :
 (binOp op t (.int k a) (.int k b)).run P w=.ok r w:=by
 cases op<;>simp only[IK]at h<;>first
  |(split at h<;>first
   |(cases h;done)
   |(injection h with h;subst h;simp[binOp,Op.intDiv, *]))
  |(injection h with h;subst h;simp[binOp,Op.intArith,Op.intCmp,Op.intBits,bits])
  |simp at hn
theorem Hb{P:Program}{op:BinOp}{t:TypeId}{a b:ByteArray}{r:Value}(h:Iz op a b=some r)(w:World) :
 (binOp op t (.string a) (.string b)).run P w=.ok r w:=by
 have ha:a.toList=a.data.toList:=Go.ByteArray.toList_eq a;have hb:b.toList=b.data.toList:=Go.ByteArray.toList_eq b
 cases op<;>simp only[Iz]at h<;>first
  | (by_cases hc:((a.size+b.size:Nat):Int)>9223372036854775807
     ·rw[if_pos hc]at h;cases h
     ·rw[if_neg hc]at h
      injection h with h;subst h;simp only[binOp,Op.stringOp];rw[if_neg (by simpa using hc)];rfl)
  |(injection h with h;subst h;simp[binOp,Op.stringOp,ha,hb,FZ];done)
  |(cases h;done)
theorem yR{P:Program}{kc:Bool}{ρ:Ren}{t:TypeId}{u v:Value}{r:Bool}(h:hJ P kc t u v=some r)(w:World) :
 (Op.equal t (ren ρ u) (ren ρ v)).run P w=.ok r w:=by
 unfold Op.equal;generalize hd:Op.maxDepth=d;obtain⟨n,rfl⟩:∃n,d=n+1:=⟨9999,hd.symm⟩;clear hd;unfold hJ at h
 split at h<;>first
  |(cases h;done)
  | (rename_i hu
     cases kc
     ·cases h
     ·simp only[if_true,Option.some.injEq]at h;subst h;simp only[Op.equalIn,Sem.run_bind,run_underlying hu,Result.andThen_ok,ren]
      rfl)
  | (injection h with h;subst h
     rename_i hu;simp only[Op.equalIn,Sem.run_bind,run_underlying hu,Result.andThen_ok,ren]
     rfl)
theorem oA{op:BinOp}{t:TypeId}{u v:Value}{x y:Operand}(h1:¬(u=.nilIface/\v=.nilIface))(h2:∀a b,¬(u=.agg a/\v=.agg b)) :
 eqGuard op t x y u v=pure ():=by
 cases u with
 |nilIface=>cases v<;>first|(exact absurd ⟨rfl,rfl⟩ h1)|(cases op<;>rfl)
 |agg a=>cases v<;>first|(exact absurd ⟨rfl,rfl⟩ (h2 _ _))|(cases op<;>rfl)
 |_=>cases op<;>rfl
theorem Ch{P:Program}{kc:Bool}{ρ:Ren}{t:TypeId}{u v:Value}{b:Bool}(h:hJ P kc t u v=some b) :
 (¬(ren ρ u=.nilIface/\ren ρ v=.nilIface)\/(kc=true/\ren ρ u=.nilIface/\ren ρ v=.nilIface))/\∀a b,¬(ren ρ u=.agg a/\ren ρ v=.agg b):=by
 unfold hJ at h
 split at h<;>first
  |(cases h;done)
  | (cases kc
     ·cases h
     ·exact⟨.inr ⟨rfl,rfl,rfl⟩,PT⟩)
  |(constructor<;>simp[ren])
def isConst:Operand->Bool
 |.const _=>true
 |_=>false
theorem uY{op:BinOp}{t:TypeId}{x y:Operand}(h:(isConst x||isConst y)=true):eqGuard op t x y .nilIface .nilIface=pure ():=by cases x<;>first|(cases op<;>rfl)|(cases y<;>first|(cases op<;>rfl)|(simp[isConst]at h))
theorem yQ{P:Program}{ρ:Ren}{op:BinOp}{t:TypeId}{u v r:Value}{x y:Operand}(h:ye P (isConst x||isConst y) op t u v=some r) :
 eqGuard op t x y (ren ρ u) (ren ρ v)=pure ():=by
 have key:∀b,hJ P (isConst x||isConst y) t u v=some b->eqGuard op t x y (ren ρ u) (ren ρ v)=pure ():=by
  intro b hb;obtain⟨h1,h2⟩:=Ch (ρ:=ρ) hb;rcases h1 with h1|⟨hk,e1,e2⟩
  ·exact oA h1 h2
  ·rw[e1,e2];exact uY hk
 unfold ye at h;split at h
 ·exact oA PT PT
 ·exact oA PT PT
 ·split at h
  ·cases hb:hJ P (isConst x||isConst y) t u v with
   |none=>simp[hb]at h
   |some b=>exact key b hb
  ·cases hb:hJ P (isConst x||isConst y) t u v with
   |none=>simp[hb]at h
   |some b=>exact key b hb
  ·cases h
theorem Hi{P:Program}{kc:Bool}{ρ:Ren}{op:BinOp}{t:TypeId}{u v r:Value}(h:ye P kc op t u v=some r)(w:World) :
 (binOp op t (ren ρ u) (ren ρ v)).run P w=.ok r w:=by
 unfold ye at h;split at h
 ·rename_i k a k' b;simp only[ren];split at h
  ·split at h
   ·cases h
   ·injection h with h;subst h;simp[binOp,Op.shift, *]
  ·split at h
   ·cases h
   ·injection h with h;subst h;simp[binOp,Op.shift, *]
  ·rename_i h1 h2;split at h
   ·rename_i hk;subst hk;exact Hg ⟨h1,h2⟩ h w
   ·cases h
 ·simp only[ren];exact Hb h w
 ·rename_i h1 h2;split at h
  ·cases hb:hJ P kc t u v with
   |none=>simp[hb]at h
   | some b =>
     simp[hb]at h;subst h;have he:=yR (ρ:=ρ) hb w;have:binOp .eql t (ren ρ u) (ren ρ v)=(do pure (.bool (<- Op.equal t (ren ρ u) (ren ρ v)))):=by unfold hJ at hb;split at hb<;>first|(cases hb;done)|rfl
     rw[this];simp[he]
  ·cases hb:hJ P kc t u v with
   |none=>simp[hb]at h
   | some b =>
     simp[hb]at h;subst h;have he:=yR (ρ:=ρ) hb w;have:binOp .neq t (ren ρ u) (ren ρ v)=(do pure (.bool (!(<- Op.equal t (ren ρ u) (ren ρ v))))):=by unfold hJ at hb;split at hb<;>first|(cases hb;done)|rfl
     rw[this];simp[he]
  ·cases h
theorem wg{P:Program}{kc:Bool}{op:BinOp}{t:TypeId}{u v r:Value}(h:ye P kc op t u v=some r):∀ρ n,ren ρ r=r/\sc n r=true:=by
 intro ρ n;unfold ye at h;split at h
 ·split at h
  ·split at h
   ·cases h
   ·injection h with h;subst h;exact⟨rfl,rfl⟩
  ·split at h
   ·cases h
   ·injection h with h;subst h;exact⟨rfl,rfl⟩
  ·split at h
   ·cases op<;>simp only[IK]at h<;>first
     |(injection h with h;subst h;exact⟨rfl,rfl⟩)
     |(split at h<;>first|(cases h;done)|(injection h with h;subst h;exact⟨rfl,rfl⟩))
     |(cases h;done)
   ·cases h
 ·cases op<;>simp only[Iz]at h<;>first
   |(injection h with h;subst h;exact⟨rfl,rfl⟩)
   |(split at h<;>first|(cases h;done)|(injection h with h;subst h;exact⟨rfl,rfl⟩))
   |(cases h;done)
 ·split at h
  ·cases hb:hJ P kc t u v with
   |none=>simp[hb]at h
   |some b=>simp[hb]at h;subst h;exact⟨rfl,rfl⟩
  ·cases hb:hJ P kc t u v with
   |none=>simp[hb]at h
   |some b=>simp[hb]at h;subst h;exact⟨rfl,rfl⟩
  ·cases h
def asz(P:Program)(t:TypeId):Option Nat:=(P.info? t).map (·.size)
def Ge(P:Program)(t:TypeId):Option Bool :=
 match P.underlying t with
 |some (.struct _)=>some true
 |some (.array _ _)=>some true
 |some _=>some false
 |none=>none
theorem run_sizeOf{P:Program}{t:TypeId}{n:Nat}(h:asz P t=some n)(w:World):(sizeOf t).run P w=.ok n w:=by
 unfold asz at h
 cases hi:P.info? t with
 |none=>simp[hi]at h
 |some i=>simp[hi]at h;simp[sizeOf,typeInfo,hi,h]
theorem mR{P:Program}{t:TypeId}{b:Bool}(h:Ge P t=some b)(w:World):(isAgg t).run P w=.ok b w:=by
 unfold Ge at h;unfold isAgg
 cases hu:P.underlying t with
 |none=>simp[hu]at h
 |some d =>simp only[Sem.run_bind,run_underlying hu,Result.andThen_ok];rw[hu]at h;cases d<;>simp at h<;>subst h<;>rfl
def apart(P:Program)(t:TypeId)(cs:List Value)(off:Nat):Option Value :=
 match Ge P t,asz P t with
 |some true,some n=>some (.agg ((cs.drop off).take n).toArray)
 |some false,_=>cs[off]?
 |_,_=>none
theorem wZ(ρ:Ren)(l:List Value):ren ρ (.agg l.toArray)=.agg (l.map (ren ρ)).toArray:=by simp[ren,dz]
theorem vJ{P:Program}{ρ:Ren}{t:TypeId}{cs:List Value}{off:Nat}{v:Value}(h:apart P t cs off=some v)(w:World) :
 (part t (cs.map (ren ρ)).toArray off).run P w=.ok (ren ρ v) w:=by
 unfold apart at h;split at h
 ·rename_i n ha hz;injection h with h;subst h;unfold part;simp only[Sem.run_bind,mR ha,Result.andThen_ok,if_true,run_sizeOf hz,Sem.run_pure];rw[wZ];congr 2;apply Array.ext';simp[List.map_take,List.map_drop]
 ·rename_i ha;unfold part;simp only[Sem.run_bind,mR ha,Result.andThen_ok];simp[h]
 ·cases h
theorem yL{P:Program}{n:Nat}{t:TypeId}{cs:List Value}{off:Nat}{v:Value}(h:apart P t cs off=some v)(hs:∀x,x∈cs->sc n x=true):sc n v=true:=by
 unfold apart at h;split at h
 ·injection h with h;subst h;simp only[sc,scA,fJ];intro x hx;exact hs x (List.mem_of_mem_drop (List.mem_of_mem_take hx))
 ·exact hs v (List.mem_of_getElem? h)
 ·cases h
def fQ(a:Addr)(n:Nat):Addr:=⟨a.block,a.off+n,none⟩
theorem iR{a:Addr}(h:a.spot=none)(n:Nat):a.add n=fQ a n:=by
 unfold Addr.add fQ;split
 ·subst_vars;cases a;simp_all
 ·rfl
theorem vQ(ρ:Ren)(a:Addr)(n:Nat):fm ρ (fQ a n)=⟨(ρ a.block).r,a.off+(ρ a.block).sh+n,none⟩:=by simp[fm,fQ];omega
theorem j7{ρ:Ren}{a:Addr}(h:a.spot=none)(n:Nat):(fm ρ a).add n=fm ρ (fQ a n):=by rw[vQ,iR (by simpa[fm] using h)];rfl
theorem fK{ρ:Ren}{a:Addr}(h:a.spot=none):gJ ρ a=fm ρ a:=by simp[gJ,fm,h]
def lk(v:Option Value)(dflt y:Nat):Option Nat :=
 match v with
 |none=>some dflt
 |some (.int _ i)=>if 0<=i/\i<=y then some i.toNat else none
 |_=>none
def asl(P:Program)(t:TypeId)(x:Value)(lo hi:Option Value):Option Value :=
 match P.underlying t,x with
 | some .string,.string s =>
   match lk hi s.size s.size with
   |none=>none
   | some h=>match lk lo 0 h with
     |none=>none
     |some l=>some (.string (s.extract l h))
 | some (.slice e),.slice a len cap =>
   match lk hi len cap,asz P e with
   | some h,some size=>match lk lo 0 h with
     |none=>none
     | some l =>
       match a with
       |none=>some (.slice none (h-l) (cap-l))
       | some a =>
         match a.spot with
         |none=>if l<cap then some (.slice (some (fQ a (l*size))) (h-l) (cap-l)) else if h<=cap then some (.slice (some ⟨a.block,a.off,some (2*(l*size))⟩) (h-l) (cap-l)) else none
         |some _=>if l=0/\h=0/\cap=0/\len=0 then some (.slice (some a) 0 0) else none
   |_,_=>none
 |_,_=>none
theorem yV{P:Program}{ρ:Ren}{v:Value}{d y y' l:Nat}{code:BoundsCode}(h:lk (some v) d y=some l)(hy:y<=y')(w:World) :
 (Instr.sliceBound (ren ρ v) y' code).run P w=.ok l w:=by
 unfold lk at h;split at h
 ·rename_i e;cases e
 ·rename_i k i e;injection e with e;subst e;split at h
  ·rename_i hi;injection h with h;have:0<=i/\i<=y':=⟨hi.1,by have:=hi.2;omega⟩;simp[Instr.sliceBound,ren,asIntOf,this,h]
  ·cases h
 ·cases h
theorem JN{v:Option Value}{d y l:Nat}(h:lk v d y=some l)(hd:d<=y):l<=y:=by
 unfold lk at h;split at h
 ·injection h with h;omega
 ·split at h
  ·rename_i hi;injection h with h;have:=hi.2;omega
  ·cases h
 ·cases h
theorem tD{P:Program}{ρ:Ren}{isS:Bool}{len cap cap':Nat}{lo hi:Option Value}{h l:Nat}(hl:lk hi len cap=some h)(ll:lk lo 0 h=some l)(hc:cap<=cap')(w:World) :
 (Instr.sliceBounds isS len cap' (lo.map (ren ρ)) (hi.map (ren ρ)) none).run P w=.ok (l,h,cap') w:=by
 unfold Instr.sliceBounds;have r1:∀v,hi=some v->(Instr.sliceBound (ren ρ v) cap' (if isS then .sliceAcap else .sliceAlen)).run P w=.ok h w:=λv e=>yV (d:=len) (by rw[<-e];exact hl) hc w;have r2:∀v,lo=some v->(Instr.sliceBound (ren ρ v) h .sliceB).run P w=.ok l w:=λv e=>yV (d:=0) (by rw[<-e];exact ll) (Nat.le_refl _) w
 cases hi with
 | none =>
   simp only[lk,Option.some.injEq]at hl;subst hl
   cases lo with
   |none=>simp only[lk,Option.some.injEq]at ll;subst ll;simp
   |some v=>simp[r2 v rfl]
 | some u =>
   cases lo with
   |none=>simp only[lk,Option.some.injEq]at ll;subst ll;simp[r1 u rfl]
   |some v=>simp[r1 u rfl,r2 v rfl]
theorem Jj{P:Program}{ρ:Ren}{t:TypeId}{x v:Value}{lo hi:Option Value}(h:asl P t x lo hi=some v)(w:World) :
 (Instr.sliceAt t (ren ρ x) (lo.map (ren ρ)) (hi.map (ren ρ)) none).run P w=.ok (ren ρ v) w:=by
 unfold asl at h;split at h
 ·rename_i s hu;split at h
  ·cases h
  ·rename_i hh hb;split at h
   ·cases h
   ·rename_i l lb;injection h with h;subst h;simp only[Instr.sliceAt,Sem.run_bind,run_underlying hu,Result.andThen_ok,Instr.slice,ren];simp[tD hb lb (Nat.le_refl _)]
 ·rename_i e a len cap hu;split at h
  ·rename_i hh size hb hz;split at h
   ·cases h
   ·rename_i l lb;have key:∀b cap',cap<=cap'->(Instr.sliceAt t (.slice b len cap') (lo.map (ren ρ)) (hi.map (ren ρ)) none).run P w=.ok (.slice (if cap'=l then b else b.map (·.add (l*size))) (hh-l) (cap'-l)) w:=by intro b cap' hc;simp only[Instr.sliceAt,Sem.run_bind,run_underlying hu,Result.andThen_ok,Instr.slice];simp[tD hb lb hc,run_sizeOf hz]
    split at h
    ·injection h with h;subst h;simp only[ren];rw[key _ _ (Nat.le_refl _)];simp
    ·rename_i a0;simp only[ren];rw[key _ _ (xj _ _ _ _)];split at h
     ·rename_i hsp;split at h
      ·rename_i hlt;injection h with h;subst h;simp only[ren];rw[fM _ _ _ _ hsp,fM _ (fQ a0 (l*size)) _ _ rfl];rw[if_neg Nr,fK hsp,fK (a:=fQ a0 (l*size)) rfl];simp only[Option.map_some,j7 hsp];congr 2;simp[fQ];omega
      ·rename_i hge;have hlh:l<=hh:=JN lb (Nat.zero_le _);split at h
       ·rename_i hc;injection h with h;subst h;have ev:¬(2*(l*size)%2=1):=Nr;have ev2:2*(l*size)/2=l*size:=Nr;rw[fM _ _ _ _ hsp];have el:l=cap:=Nr;have eh:hh-l=0:=Nr;have ecx:iy ρ ⟨a0.block,a0.off,some (2*(l*size))⟩ (hh-l) (cap-l)=cap-l+(ρ a0.block).ex:=by simp[iy,eh]
        simp only[ren,gJ,hsp,if_neg ev,ev2,ecx];subst el;by_cases ex:(ρ a0.block).ex=0
        ·simp[ex]
        ·have:¬(l+(ρ a0.block).ex=l):=Nr;rw[if_neg this];simp[ex,iR,fQ];omega
       ·cases h
     ·rename_i d hsp;split at h
      ·rename_i hc;obtain⟨rfl,rfl,rfl,rfl⟩:=hc;injection h with h;subst h;have ecx:iy ρ a0 0 0=(ρ a0.block).ex:=by simp[iy]
       simp only[ren,ecx];by_cases ex:(ρ a0.block).ex=0
       ·simp[ex]
       ·simp[Addr.add]
      ·cases h
  ·cases h
 ·cases h
def Ca(P:Program)(t:TypeId)(x:Value)(lo hi:Option Value)(mx:Value):Option Value :=
 match P.underlying t,x,lo,hi,mx with
 | some (.slice e),.slice (some a) _ cap,none,some (.int _ h),.int _ m =>
   match asz P e,a.spot with
   |some _,none=>if h=m/\0<h/\h<=cap then some (.slice (some ⟨a.block,a.off,some 0⟩) h.toNat h.toNat) else none
   |_,_=>none
 |_,_,_,_,_=>none
theorem Hd{P:Program}{ρ:Ren}{t:TypeId}{x v mx:Value}{lo hi:Option Value}(h:Ca P t x lo hi mx=some v)(w:World) :
 (Instr.sliceAt t (ren ρ x) (lo.map (ren ρ)) (hi.map (ren ρ)) (some (ren ρ mx))).run P w=.ok (ren ρ v) w:=by
 unfold Ca at h;split at h
 ·rename_i e a len cap k hh k2 m hu;split at h
  ·rename_i size hz hsp;split at h
   ·rename_i hc;obtain⟨rfl,h0,hle⟩:=hc;injection h with h;subst h;have hle':hh<=((iy ρ a len cap:Nat):Int):=by have:=xj ρ a len cap;omega
    have hnn:0<=hh:=Nr;have hto:(hh.toNat:Int)=hh:=Nr;have hne:¬(hh.toNat=0):=Nr;simp only[Instr.sliceAt,Sem.run_bind,run_underlying hu,Result.andThen_ok,Instr.slice,ren];have hb:(Instr.sliceBounds true len (iy ρ a len cap) none (some (.int k hh)) (some (.int k2 hh))).run P w=.ok (0,hh.toNat,hh.toNat) w:=by unfold Instr.sliceBounds;simp[Instr.sliceBound,asIntOf,hnn,hle',Int.max_eq_left hnn]
    generalize iy ρ a len cap=q at hb|-;simp[ren,hb,run_sizeOf hz,gJ,hsp,iy,hne,Addr.add]
   ·cases h
  ·cases h
 ·cases h
def gp(P:Program)(s:TypeId)(x:Value)(f:Nat):Option Value :=
 match P.underlying s,x with
 | some (.struct fields),.pointer (some a) =>
   match fields[f]? with
   | some fl=>match asz P fl.type,a.spot with
     |some (_+1),none=>some (.pointer (some (fQ a fl.offset)))
     |_,_=>none
   |none=>none
 |_,_=>none
theorem tF{P:Program}{ρ:Ren}{s:TypeId}{x v:Value}{f:Nat}(h:gp P s x f=some v)(w:World) :
 (Instr.fieldAt s (ren ρ x) f).run P w=.ok (ren ρ v) w:=by
 unfold gp at h;split at h
 ·rename_i fields a hu;split at h
  ·rename_i fl hf;split at h
   ·rename_i k hz hsp;injection h with h;subst h;simp only[Instr.fieldAt,Sem.run_bind,run_underlying hu,Result.andThen_ok,hf,ren,Instr.sureAddr,Sem.run_pure,fieldPlace,run_sizeOf hz];simp[j7 hsp]
   ·cases h
  ·cases h
 ·cases h
def xY(P:Program)(t:TypeId)(x:Value)(f:Nat):Option Value :=
 match P.underlying t,x with
 | some (.struct fields),.agg cs =>
   match fields[f]? with
   |some fl=>apart P fl.type cs.toList fl.offset
   |none=>none
 |_,_=>none
theorem Bg{P:Program}{ρ:Ren}{s:TypeId}{x v:Value}{f:Nat}(h:xY P s x f=some v)(w:World) :
 (Instr.field s (ren ρ x) f).run P w=.ok (ren ρ v) w:=by
 unfold xY at h;split at h
 ·rename_i fields cs hu;split at h
  ·rename_i fl hf;have:=vJ (ρ:=ρ) h w;simp only[Instr.field,Sem.run_bind,run_underlying hu,Result.andThen_ok,hf,ren,dz,asAgg,Sem.run_pure];rw[<-this];congr 2;apply Array.ext';simp
  ·cases h
 ·cases h
def cA(P:Program)(t:TypeId)(x i:Value):Option Value :=
 match P.underlying t,x,i with
 | some (.slice e),.slice (some a) len _,.int _ n =>
   if 0<=n/\n<len then
    match asz P e,a.spot with
    |some size,none=>some (.pointer (some (fQ a (n.toNat*size))))
    |some size,some 0=>some (.pointer (some ⟨a.block,a.off+n.toNat*size,none⟩))
    |_,_=>none
   else none
 | some (.array len e),.pointer (some a),.int _ n =>
   if 0<=n/\n<len then
    match asz P e,a.spot with
    |some size,none=>some (.pointer (some (fQ a (n.toNat*size))))
    |_,_=>none
   else none
 |_,_,_=>none
theorem tE{P:Program}{ρ:Ren}{t:TypeId}{x i v:Value}(h:cA P t x i=some v)(w:World) :
 (Instr.indexAt t (ren ρ x) (ren ρ i)).run P w=.ok (ren ρ v) w:=by
 unfold cA at h;split at h
 ·rename_i e a len cap k n hu;split at h
  ·rename_i hn;split at h
   ·rename_i size hz hsp;injection h with h;subst h;simp only[Instr.indexAt,Sem.run_bind,run_underlying hu,Result.andThen_ok,ren,asIntOf,Sem.run_pure,fK hsp];simp[hn,run_sizeOf hz,j7 hsp]
   ·rename_i size hz hsp;injection h with h;subst h;simp only[Instr.indexAt,Sem.run_bind,run_underlying hu,Result.andThen_ok,ren,asIntOf,Sem.run_pure];simp[hn,run_sizeOf hz,gJ,hsp,fm,iR,fQ];omega
   ·cases h
  ·cases h
 ·rename_i len e a k n hu;split at h
  ·rename_i hn;split at h
   ·rename_i size hz hsp;injection h with h;subst h;simp only[Instr.indexAt,Sem.run_bind,run_underlying hu,Result.andThen_ok,ren,asIntOf,Sem.run_pure,Instr.sureAddr];simp[hn,run_sizeOf hz,j7 hsp]
   ·cases h
  ·cases h
 ·cases h
def oP(P:Program)(t:TypeId)(x i:Value):Option Value :=
 match P.underlying t,x,i with
 | some .string,.string s,.int _ n =>
   if 0<=n then match s.data.toList[n.toNat]? with
    |some b=>some (.int .u8 b.toNat)
    |none=>none
   else none
 | some (.array len e),.agg cs,.int _ n =>
   if 0<=n/\n<len then
    match asz P e with
    |some size=>apart P e cs.toList (n.toNat*size)
    |none=>none
   else none
 |_,_,_=>none
theorem Bf{P:Program}{ρ:Ren}{t:TypeId}{x i v:Value}(h:oP P t x i=some v)(w:World) :
 (Instr.index t (ren ρ x) (ren ρ i)).run P w=.ok (ren ρ v) w:=by
 unfold oP at h;split at h
 ·rename_i s k n hu;split at h
  ·rename_i hn;split at h
   ·rename_i b hb;injection h with h;subst h;have hg:s[n.toNat]? = some b:=by
     have hlt:n.toNat<s.size:=by have:=(List.getElem?_eq_some_iff.1 hb).1;cases s;exact this
     rw[ByteArray.getElem?_lt' s _ hlt];have h2:=(List.getElem?_eq_some_iff.1 hb).2;congr 1
    simp only[Instr.index,Sem.run_bind,run_underlying hu,Result.andThen_ok,ren,asIntOf,Sem.run_pure];simp[hn,hg]
   ·cases h
  ·cases h
 ·rename_i len e cs k n hu;split at h
  ·rename_i hn;split at h
   ·rename_i size hz;have:=vJ (ρ:=ρ) h w;simp only[Instr.index,Sem.run_bind,run_underlying hu,Result.andThen_ok,ren,dz,asIntOf,Sem.run_pure];rw[if_pos hn];simp only[Sem.run_bind,run_sizeOf hz,Result.andThen_ok];rw[<-this];congr 2;apply Array.ext';simp
   ·cases h
  ·cases h
 ·cases h
def gY(x:Value)(i:Nat):Option Value :=
 match x with
 |.tuple vs=>vs.toList[i]?
 |_=>none
theorem wW{P:Program}{ρ:Ren}{x v:Value}{i:Nat}(h:gY x i=some v)(w:World) :
 (Instr.extract (ren ρ x) i).run P w=.ok (ren ρ v) w:=by
 unfold gY at h;split at h
 ·rename_i vs;simp only[ren,dz,Instr.extract];have:(vs.map (ren ρ))[i]? = some (ren ρ v):=by simp at h;simp[h]
  simp[this]
 ·cases h
def re(P:Program)(t:TypeId)(x:Value):Option Value :=
 match P.underlying t,x with
 |some .string,.string s=>some (.int .i64 s.size)
 |some (.slice _),.slice _ n _=>some (.int .i64 n)
 |some (.array n _),.agg _=>some (.int .i64 n)
 |some (.array n _),.pointer _=>some (.int .i64 n)
 |some (.map _ _),.map none=>some (.int .i64 0)
 |_,_=>none
theorem Hf{P:Program}{ρ:Ren}{t ty:TypeId}{x v:Value}(h:re P t x=some v)(w:World) :
 (Builtin.len_ #[t] ty #[ren ρ x]).run P w=.ok v w:=by
 unfold re at h;split at h
 ·rename_i s hu;injection h with h;subst h;simp[Builtin.len_,run_underlying hu,ren,goInt]
 ·rename_i a n c d hu;injection h with h;subst h;cases n<;>simp[Builtin.len_,run_underlying hu,ren,goInt]
 ·rename_i n _ cs hu;injection h with h;subst h;simp[Builtin.len_,run_underlying hu,ren,goInt]
 ·rename_i n _ a hu;injection h with h;subst h;cases a<;>simp[Builtin.len_,run_underlying hu,ren,goInt]
 ·rename_i hu;injection h with h;subst h;simp[Builtin.len_,run_underlying hu,ren,goInt]
 ·cases h
def qe(f:Int->Int->Int)(x:Int):List Value->Option Int
 |[]=>some x
 |.int _ y::l=>qe f (f x y) l
 |_=>none
def amm(f:Int->Int->Int):List Value->Option Value
 |.int k x::l=>(qe f x l).map (.int k)
 |_=>none
def FG(x y:Int):Int:=if y>x then y else x
def FF(x y:Int):Int:=if y<x then y else x
theorem qz{P:Program}{ρ:Ren}{k:IntKind}{f:Int->Int->Int}{g:Value->Value->Sem Value}(hg:∀x j y,g (.int k x) (.int j y)=pure (.int k (f x y)))(w:World) :
 ∀(l:List Value) (x r:Int),qe f x l=some r->((l.map (ren ρ)).foldlM g (.int k x)).run P w=.ok (.int k r) w
 |[],x,r,h=>by simp[qe]at h;simp[h]
 | v::l,x,r,h=>by
   cases v<;>simp only[qe]at h<;>first|(cases h;done)|skip
   rename_i j y;simp only[List.map_cons,ren,List.foldlM_cons,hg];exact qz hg w l _ r h
theorem CF{P:Program}{ρ:Ren}{l:List Value}{v:Value}{ts:Array TypeId}{t:TypeId}(w:World) :
 (amm FG l=some v->(Builtin.max_ ts t (l.map (ren ρ)).toArray).run P w=.ok v w)/\(amm FF l=some v->(Builtin.min_ ts t (l.map (ren ρ)).toArray).run P w=.ok v w):=by
 constructor
 ·intro h
  cases l with
  |nil=>simp[amm]at h
  | cons x l =>
    cases x<;>simp only[amm]at h<;>first|(cases h;done)|skip
    rename_i k x
    cases hf:qe FG x l with
    |none=>simp[hf]at h
    |some r =>simp[hf]at h;subst h;simp only[Builtin.max_,List.map_cons,ren];exact qz (λ_ _ _=>rfl) w l x r hf
 ·intro h
  cases l with
  |nil=>simp[amm]at h
  | cons x l =>
    cases x<;>simp only[amm]at h<;>first|(cases h;done)|skip
    rename_i k x
    cases hf:qe FF x l with
    |none=>simp[hf]at h
    |some r =>simp[hf]at h;subst h;simp only[Builtin.min_,List.map_cons,ren];exact qz (λ_ _ _=>rfl) w l x r hf
theorem pP{f:Int->Int->Int}{l:List Value}{v:Value}(h:amm f l=some v):∃k n,v=.int k n:=by
 cases l with
 |nil=>simp[amm]at h
 | cons x l =>
   cases x<;>simp only[amm]at h<;>first|(cases h;done)|skip
   rename_i k x
   cases hf:qe f x l with
   |none=>simp[hf]at h
   |some r=>simp[hf]at h;exact⟨_,_,h.symm⟩
def sq(P:Program)(s d:TypeId)(x:Value):Option Value :=
 match P.underlying s,P.underlying d,x with
 |some (.int _),some (.int k),.int _ n=>some (.int k (k.wrap n))
 |some .string,some .string,.string b=>some (.string b)
 |_,_,_=>none
theorem DY{P:Program}{ρ:Ren}{s d:TypeId}{x v:Value}(h:sq P s d x=some v)(w:World) :
 (convert s d (ren ρ x)).run P w=.ok v w:=by
 unfold sq at h;split at h
 ·rename_i hs hd;injection h with h;subst h;simp[convert,run_underlying hs,run_underlying hd,ren,Conv.intToInt]
 ·rename_i hs hd;injection h with h;subst h;simp[convert,run_underlying hs,run_underlying hd,ren]
 ·cases h
def aun(op:UnOp)(x:Value):Option Value :=
 match op,x with
 |.neg,.int k n=>some (.int k (k.wrap (0-n)))
 |.xor,.int k n=>some (.int k (bits .xor k (if k.signed then -1 else k.max) n))
 |.not,.bool b=>some (.bool !b)
 |_,_=>none
theorem Ji{P:Program}{ρ:Ren}{op:UnOp}{x v:Value}(h:aun op x=some v)(w:World) :
 (Op.unary op (ren ρ x)).run P w=.ok v w:=by
 unfold aun at h;split at h
 ·injection h with h;subst h;simp[Op.unary,ren,Op.intArith]
 ·injection h with h;subst h;simp[Op.unary,ren,intBits_xor]
 ·injection h with h;subst h;simp[Op.unary,ren]
 ·cases h
def bJ(c:List Value)(off:Nat)(vs:List Value):List Value:=c.take off++vs++c.drop (off+vs.length)
def aM:Value->List Value
 |.agg cs=>cs.toList
 |v=>[v]
theorem fB(v:Value):v.cells=(aM v).toArray:=by cases v<;>simp[Value.cells,aM]
theorem fu(ρ:Ren)(v:Value):aM (ren ρ v)=(aM v).map (ren ρ):=by
 cases v with
 |agg a=>simp[ren,dz,aM]
 |pointer a=>cases a<;>rfl
 |slice a l c=>cases a<;>rfl
 |map a=>cases a<;>rfl
 |chan a=>cases a<;>rfl
 |_=>rfl
def dP(place:Nat->Option (Nat×Nat))(cells:List Value):List (Nat×Value)->Option (List Value)
 |[]=>some cells
 | (i,v)::rest =>
   match place i with
   |none=>none
   | some (off,size) =>
     if (aM v).length≠size\/off+(aM v).length>cells.length then none
     else dP place (bJ cells off (aM v)) rest
theorem ig{c vs:List Value}{off:Nat}(h:off+vs.length<=c.length)(j:Nat) :
 (bJ c off vs)[j]? = if j<off then c[j]? else if j<off+vs.length then vs[j-off]? else c[j]? := by
 unfold bJ;have e:(c.take off).length=off:=Oj;by_cases h1:j<off
 ·rw[if_pos h1,List.append_assoc,List.getElem?_append_left Nr,List.getElem?_take_of_lt h1]
 ·rw[if_neg h1,List.append_assoc,List.getElem?_append_right Nr,e];by_cases h2:j<off+vs.length
  ·rw[if_pos h2,List.getElem?_append_left Nr]
  ·rw[if_neg h2,List.getElem?_append_right Nr,List.getElem?_drop];congr 1;omega
theorem fj{c vs:List Value}{off:Nat}(h:off+vs.length<=c.length):(bJ c off vs).length=c.length:=by unfold bJ;simp;omega
theorem ot(vs:List Value):∀(c:List Value) (off k:Nat),off+k+vs.length<=c.length ->
 (vs.zipIdx k).foldl (λcs (x:Value×Nat)=>cs.set (off+x.2) x.1) c=bJ c (off+k) vs:=by
 induction vs with
 |nil=>intro c off k h;simp[bJ]
 | cons v vs ih =>
   intro c off k h;simp only[List.length_cons]at h;simp only[List.zipIdx_cons,List.foldl_cons];rw[ih _ _ _ OK];apply List.ext_getElem?;intro j;rw[ig OK,ig (by rw[List.length_cons];omega)];simp only[List.length_cons];by_cases h1:j<off+k
   ·rw[if_pos Nr,if_pos h1,List.getElem?_set_ne Nr]
   ·by_cases h2:j=off+k
    ·subst h2;rw[if_pos Nr,if_neg Nr,if_pos Nr,List.getElem?_set_self Nr];simp
    ·rw[if_neg Nr,if_neg h1];by_cases h3:j<off+k+(vs.length+1)
     ·rw[if_pos Nr,if_pos h3];obtain⟨i,rfl⟩:∃i,j=off+k+1+i:=⟨j-(off+k+1),Nr⟩;rw[show off+k+1+i-(off+(k+1))=i by omega,show off+k+1+i-(off+k)=i+1 by omega,List.getElem?_cons_succ]
     ·rw[if_neg Nr,if_neg h3,List.getElem?_set_ne Nr]
theorem we(off:Nat):∀(l:List (Value×Nat)) (c:Array Value),
 (l.foldl (λcs (x:Value×Nat)=>cs.setIfInBounds (off+x.2) x.1) c).toList=l.foldl (λcs (x:Value×Nat)=>cs.set (off+x.2) x.1) c.toList
 |[],c=>rfl
 | x::l,c=>by
   simp only[List.foldl_cons];rw[we off l];simp
theorem FD(vs:List Value)(c:Array Value)(off k:Nat)(h:off+k+vs.length<=c.size) :
 ((vs.zipIdx k).foldl (λcs (x:Value×Nat)=>cs.setIfInBounds (off+x.2) x.1) c).toList=bJ c.toList (off+k) vs:=by
 rw[we,ot vs _ _ _ Ot]
theorem mT{ρ:Ren}{place:Nat->Option (Nat×Nat)}:∀(parts:List (Nat×Value)) (cells r:List Value),dP place cells parts=some r ->
 Instr.fill place (cells.map (ren ρ)).toArray (parts.map λp=>(p.1,ren ρ p.2))=some (r.map (ren ρ)).toArray
 |[],cells,r,h=>by simp[dP]at h;subst h;rfl
 | (i,v)::rest,cells,r,h=>by
   simp only[dP]at h;simp only[List.map_cons,Instr.fill]
   cases hp:place i with
   |none=>simp[hp]at h
   | some os =>
     obtain⟨off,size⟩:=os;simp only[hp]at h|-;have hl:(ren ρ v).cells.size=(aM v).length:=by rw[fB,fu];simp
     split at h
     ·cases h
     ·rename_i hc;have hc1:(aM v).length=size:=Nr;have hc2:off+(aM v).length<=cells.length:=Nr;rw[hl,if_neg (by simp[hc1];omega)];have ih:=mT (ρ:=ρ) rest _ r h;have he:Array.foldl (λ(cs:Array Value) (x:Value×Nat)=>cs.setIfInBounds (off+x.2) x.1) (cells.map (ren ρ)).toArray (ren ρ v).cells.zipIdx=((bJ cells off (aM v)).map (ren ρ)).toArray:=by apply Array.ext';have:=FD ((aM v).map (ren ρ)) (cells.map (ren ρ)).toArray off 0 (by simpa using hc2);simp only[Nat.add_zero]at this;rw[<-Array.foldl_toList];rw[fB,fu];simp only[Array.toList_zipIdx];rw[this];simp[bJ,List.map_take,List.map_drop]
      exact he▸ih
def dG(P:Program):List Field->Option (List (Nat×Nat))
 |[]=>some []
 | f::l =>
   match asz P f.type,dG P l with
   |some n,some r=>some ((f.offset,n)::r)
   |_,_=>none
theorem rA{P:Program}(w:World):∀(l:List Field) (r:List (Nat×Nat)),dG P l=some r ->
 (l.mapM λf=>do pure (f.offset,<-sizeOf f.type):Sem (List (Nat×Nat))).run P w=.ok r w
 |[],r,h=>by simp[dG]at h;subst h;rfl
 | f::l,r,h=>by
   simp only[dG]at h
   cases h1:asz P f.type with
   |none=>simp[h1]at h
   | some n =>
     cases h2:dG P l with
     |none=>simp[h1,h2]at h
     |some r' =>simp[h1,h2]at h;subst h;have ih:=rA w l r' h2;simp only[List.mapM_cons,Sem.run_bind,run_sizeOf h1,Result.andThen_ok,Sem.run_pure,ih]
def dw(P:Program)(t:TypeId):Option Value :=
 match P.info? t with
 | some i=>match i.zero with
   |some z=>if cl 0 z then some z else none
   |none=>none
 |none=>none
theorem gv{P:Program}{t:TypeId}{z:Value}(h:dw P t=some z)(w:World):(zeroValue t).run P w=.ok z w/\cl 0 z=true/\(P.info? t).bind (·.zero)=some z:=by
 unfold dw at h
 cases hi:P.info? t with
 |none=>simp[hi]at h
 | some i =>
   simp only[hi]at h
   cases hz:i.zero with
   |none=>simp[hz]at h
   | some z' =>
     simp only[hz]at h;split at h
     ·rename_i hc;injection h with h;subst h;exact⟨by simp[zeroValue,typeInfo,hi,hz],hc,by simp[hz]⟩
     ·cases h
theorem dM{ρ:Ren}{P:Program}{t:TypeId}{z:Value}(h:dw P t=some z):ren ρ z=z/\∀n,sc n z=true:=by have hc:=(gv h default).2.1;exact⟨tJ ρ 0 (λ_ hb=>by omega) z hc,λn=>eJ 0 n (Nat.zero_le _) z (lP 0 z hc)⟩
theorem fI{n:Nat}{v:Value}(h:sc n v=true):∀x,x∈aM v->sc n x=true:=by
 cases v<;>simp only[aM]<;>first
  |(intro x hx;simp only[List.mem_singleton]at hx;subst hx;exact h)
  |skip
 rename_i a;simp only[sc]at h;cases a with|mk l=>simpa[scA,fJ] using h
def cZ(P:Program)(t:TypeId)(parts:List (Nat×Value)):Option Value :=
 match dw P t with
 | some z=>match P.underlying t with
   | some (.struct fields)=>match dG P fields.toList with
     |some ps=>(dP (ps[·]?) (aM z) parts).map λl=>.agg l.toArray
     |none=>none
   | some (.array _ e)=>match asz P e with
     |some size=>(dP (λi=>some (i*size,size)) (aM z) parts).map λl=>.agg l.toArray
     |none=>none
   |_=>none
 |none=>none
theorem vE{n:Nat}{c vs:List Value}{off:Nat}(h1:∀x,x∈c->sc n x=true)(h2:∀x,x∈vs->sc n x=true):∀x,x∈bJ c off vs->sc n x=true:=by
 intro x hx;unfold bJ at hx;simp only[List.mem_append]at hx;rcases hx with(hx|hx)|hx
 ·exact h1 x (List.mem_of_mem_take hx)
 ·exact h2 x hx
 ·exact h1 x (List.mem_of_mem_drop hx)
theorem pj{n:Nat}{place:Nat->Option (Nat×Nat)}:∀(parts:List (Nat×Value)) (cells r:List Value),dP place cells parts=some r ->
 (∀x,x∈cells->sc n x=true)->(∀p,p∈parts->sc n p.2=true)->∀x,x∈r->sc n x=true
 |[],cells,r,h,h1,_=>by simp[dP]at h;subst h;exact h1
 | (i,v)::rest,cells,r,h,h1,h2=>by
   simp only[dP]at h
   cases hp:place i with
   |none=>simp[hp]at h
   | some os =>
     obtain⟨off,size⟩:=os;simp only[hp]at h;split at h
     ·cases h
     ·exact pj rest _ r h (vE h1 (fI (h2 (i,v) Nw))) (λp hp=>h2 p (by simp[hp]))
theorem Bi{P:Program}{ρ:Ren}{t:TypeId}{parts:List (Nat×Value)}{v:Value}(h:cZ P t parts=some v)(w:World) :
 (Instr.build t (parts.map λp=>(p.1,ren ρ p.2)).toArray).run P w=.ok (ren ρ v) w:=by
 unfold cZ at h
 cases hz:dw P t with
 |none=>simp[hz]at h
 | some z =>
   simp only[hz]at h;obtain⟨r0,_⟩:=gv hz w;have e0:=(dM (ρ:=ρ) hz).1;have e1:z.cells=((aM z).map (ren ρ)).toArray:=by rw[<-fu,e0,fB]
   split at h
   ·rename_i fields hu
    cases hp:dG P fields.toList with
    |none=>simp[hp]at h
    | some ps =>
      simp only[hp]at h
      cases hf:dP (ps[·]?) (aM z) parts with
      |none=>simp[hf]at h
      | some l =>
        simp[hf]at h;subst h;have rf:=mT (ρ:=ρ) parts (aM z) l hf;have rp:=rA w fields.toList ps hp;simp only[Instr.build,Sem.run_bind,r0,Result.andThen_ok,run_underlying hu,Array.mapM_eq_mapM_toList,Sem.run_map,rp,e1];have:(λ(x:Nat)=>(ps.toArray:Array (Nat×Nat))[x]?)=(ps[·]?):=by funext x;simp
        rw[this,rf];simp[wZ]
   ·rename_i k e hu
    cases hs:asz P e with
    |none=>simp[hs]at h
    | some size =>
      simp only[hs]at h
      cases hf:dP (λi=>some (i*size,size)) (aM z) parts with
      |none=>simp[hf]at h
      |some l =>simp[hf]at h;subst h;have rf:=mT (ρ:=ρ) parts (aM z) l hf;simp only[Instr.build,Sem.run_bind,r0,Result.andThen_ok,run_underlying hu,run_sizeOf hs,e1];rw[rf];simp[wZ]
   ·cases h
theorem DN{P:Program}{n:Nat}{t:TypeId}{parts:List (Nat×Value)}{v:Value}(h:cZ P t parts=some v)(hs:∀p,p∈parts->sc n p.2=true):sc n v=true:=by
 unfold cZ at h
 cases hz:dw P t with
 |none=>simp[hz]at h
 | some z =>
   simp only[hz]at h;have hz':=(dM (ρ:=λb=>⟨b,0,0⟩) hz).2 n;split at h
   ·rename_i fields hu
    cases hp:dG P fields.toList with
    |none=>simp[hp]at h
    | some ps =>
      simp only[hp]at h
      cases hf:dP (ps[·]?) (aM z) parts with
      |none=>simp[hf]at h
      |some l =>simp[hf]at h;subst h;simp only[sc,scA,fJ];exact pj parts _ l hf (fI hz') hs
   ·rename_i k e hu
    cases hs':asz P e with
    |none=>simp[hs']at h
    | some size =>
      simp only[hs']at h
      cases hf:dP (λi=>some (i*size,size)) (aM z) parts with
      |none=>simp[hf]at h
      |some l =>simp[hf]at h;subst h;simp only[sc,scA,fJ];exact pj parts _ l hf (fI hz') hs
   ·cases h
def cu(P:Program)(ev:Operand->Value):Op->Option Value
 |.move x=>some (ev x)
 |.assign x=>some (ev x)
 | .pick c a b=>match ev c with
   |.bool t=>some (if t then ev a else ev b)
   |_=>none
 |.build t parts=>cZ P t (parts.toList.map λp=>(p.1,ev p.2))
 | .nilCheck x=>match ev x with
   |.pointer (some a)=>some (.pointer (some a))
   |.func (.func f) x y=>some (.func (.func f) x y)
   |.iface t v=>some (.iface t v)
   |_=>none
 |.binOp op t x y _=>ye P (isConst x||isConst y) op t (ev x) (ev y)
 |.unOp op _ x=>aun op (ev x)
 |.convert s d x=>sq P s d (ev x)
 | .makeInterface t x=>match P.underlying t with
   |some (.interface _)=>none
   |some _=>some (.iface t (ev x))
   |none=>none
 |.makeFunc (.func f) first cap=>some (.func (.func f) (first.toList.map ev).toArray (cap.toList.map ev).toArray)
 |.slice t x lo hi none=>asl P t (ev x) (lo.map ev) (hi.map ev)
 |.slice t x lo hi (some m)=>Ca P t (ev x) (lo.map ev) (hi.map ev) (ev m)
 |.fieldAddr t x f=>gp P t (ev x) f
 |.field t x f=>xY P t (ev x) f
 |.indexAddr t x i=>cA P t (ev x) (ev i)
 |.index t x i=>oP P t (ev x) (ev i)
 |.extract x i=>gY (ev x) i
 | .call { callee:=.builtin .len,args,argTypes } =>
   match args.toList,argTypes.toList with
   |[x],[t]=>re P t (ev x)
   |_,_=>none
 |.call {callee:=.builtin .max,args,argTypes:=_}=>amm FG (args.toList.map ev)
 |.call {callee:=.builtin .min,args,argTypes:=_}=>amm FF (args.toList.map ev)
 |_=>none
theorem vI{P:Program}{ρ:Ren}{ev:Operand->Value}{o:Oper}{v:Value}(h:cu P ev o.op=some v)(w:World) :
 (execOp (λx=>ren ρ (ev x)) o).run P w=.ok (.value (ren ρ v)) w:=by
 obtain⟨dst,op,ty,pos,after,guard⟩:=o;simp only at h;unfold cu at h;split at h
 ·injection h with h;subst h;rfl
 ·injection h with h;subst h;rfl
 ·rename_i c a b;split at h
  ·rename_i t hc;injection h with h;subst h;simp only[execOp,hc,ren,asBool,Sem.run_bind,Sem.run_pure,Result.andThen_ok];cases t<;>rfl
  ·cases h
 ·rename_i t parts;have:=Bi (ρ:=ρ) h w;simp only[execOp,Sem.run_bind];have e:(parts.map λx=>(x.1,ren ρ (ev x.2)))=(List.map (λp=>(p.1,ren ρ p.2)) (List.map (λp=>(p.1,ev p.2)) parts.toList)).toArray:=by apply Array.ext';simp
  rw[show(parts.map λ(x:Nat×Operand)=>match x with|(i,x)=>(i,ren ρ (ev x)))=(parts.map λx=>(x.1,ren ρ (ev x.2))) from rfl,e,this];rfl
 ·rename_i x;split at h
  all_goals first
   |(rename_i hx;injection h with h;subst h;simp only[execOp,hx,ren];rfl)
   |(cases h;done)
 ·rename_i op t x y yt;have hg:=yQ (ρ:=ρ) (x:=x) (y:=y) h;have hb:=Hi (ρ:=ρ) h w;have hf:=(wg h ρ 0).1;simp only[execOp,Sem.run_bind,hg,Sem.run_pure,Result.andThen_ok,hb,hf]
 ·have hb:=Ji (P:=P) (ρ:=ρ) h w;have hf:ren ρ v=v:=by unfold aun at h;split at h<;>first|(injection h with h;subst h;rfl)|(cases h;done)
  simp only[execOp,Sem.run_bind,Sem.run_pure,Result.andThen_ok,hb,hf]
 ·have hb:=DY (P:=P) (ρ:=ρ) h w;have hf:ren ρ v=v:=by unfold sq at h;split at h<;>first|(injection h with h;subst h;rfl)|(cases h;done)
  simp only[execOp,Sem.run_bind,Sem.run_pure,Result.andThen_ok,hb,hf]
 ·rename_i t x;split at h
  ·cases h
  ·rename_i d hd hu;injection h with h;subst h;simp only[execOp,Instr.makeInterface,Sem.run_bind,run_underlying hu,Result.andThen_ok,ren];cases d<;>first|rfl|exact absurd rfl (hd _)
  ·cases h
 ·rename_i f first cap
  injection h with h;subst h;simp only[execOp,Instr.makeFunc,Sem.run_bind,Sem.run_pure,Result.andThen_ok,ren,dz];congr 2;simp only[Value.func.injEq,true_and];constructor<;>(apply Array.ext';simp)
 ·rename_i t x lo hi;have:=Jj (ρ:=ρ) h w;simp only[Option.map_map]at this;simp only[execOp,Sem.run_bind,Option.map_none];rw[show(Option.map (λx=>ren ρ (ev x)) lo)=Option.map (ren ρ ∘ ev) lo from rfl,show(Option.map (λx=>ren ρ (ev x)) hi)=Option.map (ren ρ ∘ ev) hi from rfl,this];rfl
 ·rename_i t x lo hi m;have:=Hd (ρ:=ρ) h w;simp only[Option.map_map]at this;simp only[execOp,Sem.run_bind,Option.map_some];rw[show(Option.map (λx=>ren ρ (ev x)) lo)=Option.map (ren ρ ∘ ev) lo from rfl,show(Option.map (λx=>ren ρ (ev x)) hi)=Option.map (ren ρ ∘ ev) hi from rfl,this];rfl
 ·simp only[execOp,Sem.run_bind,tF (ρ:=ρ) h w];rfl
 ·simp only[execOp,Sem.run_bind,Bg (ρ:=ρ) h w];rfl
 ·simp only[execOp,Sem.run_bind,tE (ρ:=ρ) h w];rfl
 ·simp only[execOp,Sem.run_bind,Bf (ρ:=ρ) h w];rfl
 ·simp only[execOp,Sem.run_bind,wW (ρ:=ρ) h w];rfl
 ·rename_i args argTypes;split at h
  ·rename_i x t hx ht;obtain⟨args⟩:=args;obtain⟨argTypes⟩:=argTypes;simp only at hx ht;subst hx ht;have hl:=Hf (ρ:=ρ) (ty:=ty) h w;have hf:ren ρ v=v:=by unfold re at h;split at h<;>first|(injection h with h;subst h;rfl)|(cases h;done)
   simp[execOp,resolve,invoke,builtin,hl,hf]
  ·cases h
 ·rename_i args argTypes;obtain⟨args⟩:=args;have hl:=(CF (P:=P) (ρ:=ρ) (ts:=argTypes) (t:=ty) w).1 h;have hf:ren ρ v=v:=by obtain⟨k,n,rfl⟩:=pP h;rfl
  simp only[List.map_map]at hl;simp[execOp,resolve,invoke,builtin,hf];rw[show(λx=>ren ρ (ev x))=ren ρ ∘ ev from rfl,hl];rfl
 ·rename_i args argTypes;obtain⟨args⟩:=args;have hl:=(CF (P:=P) (ρ:=ρ) (ts:=argTypes) (t:=ty) w).2 h;have hf:ren ρ v=v:=by obtain⟨k,n,rfl⟩:=pP h;rfl
  simp only[List.map_map]at hl;simp[execOp,resolve,invoke,builtin,hf];rw[show(λx=>ren ρ (ev x))=ren ρ ∘ ev from rfl,hl];rfl
 ·cases h
end Go.Tm
