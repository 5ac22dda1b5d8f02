/- WholeCures of the program cuirasstop holds for all arguments, as the given statement says; no further condition -/
import Derived.Test.YtlbgenenpheheaaGreatB7
import Derived.Test.YtlbgenenpheheaaGreatRows
set_option linter.unusedVariables false
set_option linter.unusedSimpArgs false
set_option maxHeartbeats 100000000
set_option maxRecDepth 100000
namespace Go.Proofs.YtlbgenenpheheaaGreat
open Go.Value renaming int→I
open Go.IntKind renaming i64→Z
open Go.Obj renaming cells→O
open Go.Ending renaming returned→E
open _root_.Go.Proofs.YtlbgenenpheheaaGreat.Rows renaming wholeCuresRow→wB,wholeCuresSpec→wZ
open _root_.Go.Proofs.Tryz renaming prog→Y
open _root_.Go.Proofs.Tryz
open _root_.Array renaming length_toList→Ot
open _root_.Bool renaming and_eq_true→Nx
open Go renaming World→Mz,Value→Na,Calls→Nb,undef→Nd,bodyPost_ret→Ng,wpQuiet_step→Nh,wpQuiet_nil→Ni,results_cell_row→Oh
open Go.RowKit renaming Below→Nc
open _root_.List renaming length_map→Nw,length_append→Ny
open _root_.Nat renaming zero_le→Nz
open _root_.Option renaming some→S,none→N
variable {B g j k n:Nat} {W W' w:World} {X:Array Value} {a b d l r:Int} {q:dK} {s s':CtSt} {v:Value} {y:cQ}
section
open Go.RowKit Go.Shelf lin
attribute [local go_sem] Oper.semAt_some run_makeMap
theorem yv {own:Nat→Prop} {t:bO} (ok:fF t) (w:Mz) (k:dX B own t n w):Nb Y 27 #[.pointer (S ⟨B,0,N⟩)] w fun e b=>∃f a,e=E (.slice f t.lasts.length a)∧Nc w.heap.size w b:=by obtain⟨p,l,m,c,d,f,g,h,o,i,a,j⟩:=k;have k:=Cw o 7;simp at k;have b:=aA (EC t.lasts ok.ln _ w a.rd);clear c d f g h o i a j;go_in;go_wp2_with fail;refine b.out.mono ?_;rintro e g ⟨h,rfl,c,-,d⟩;obtain⟨f,a,rfl⟩:=c.slice;clear c b;go_wp2_with fail;refine Ng (v:=.slice f (t.lasts.map aZ.cells).length a) (by simp[results,results27,go_sem]) rfl ⟨f,a,by rw[Nw],d⟩
theorem yx {own:Nat→Prop} {t:bO} (ok:fF t) (w:Mz) (k:dX B own t n w):Nb Y 28 #[.pointer (S ⟨B,0,N⟩)] w fun e b=>∃f a,e=E (.slice f t.coming.length a)∧Nc w.heap.size w b:=by obtain⟨p,l,m,c,d,f,g,h,o,i,j,a⟩:=k;have k:=Cw o 8;simp at k;have b:=aA (EC t.coming ok.cn _ w a.rd);clear c d f g h o i j a;go_in;go_wp2_with fail;refine b.out.mono ?_;rintro e g ⟨h,rfl,c,-,d⟩;obtain⟨f,a,rfl⟩:=c.slice;clear c b;go_wp2_with fail;refine Ng (v:=.slice f (t.coming.map aZ.cells).length a) (by simp[results,results28,go_sem]) rfl ⟨f,a,by rw[Nw],d⟩
end
section
open Go.RowKit Go.Shelf lin
attribute [local go_sem] Oper.semAt_some run_makeMap Mh
attribute [local simp] Mf Mg
theorem zv {own:Nat→Prop} {t:cF} (ok:iG t) (i:Int) (k:bN i) (w:Mz) (c:fH B own t n w):Nb Y 30 #[.pointer (S ⟨B,0,N⟩),I Z i] w fun e a=>e=E (eJ (t.gh i))∧Nc w.heap.size w a:=by
 obtain⟨A,G,C,x,m,o,p,q,r,b,s,h,u,d,f⟩:=c;have v:=Cw b 1;have y:=aB b;simp at v;have⟨l,c⟩:=Ex (t.gh i);have a:=ok.gh_len i;rw[←c]at a ⊢;have j:=(h.keeps (K.alloc (K.refl w) (O zeroCells79 79))).lookup underlying3 underlying117 (BE _) k;replace j:(Instr.lookup 117 (.map (S G)) (I Z i) false).run Y (w.alloc (O zeroCells79 79))=.ok (.agg (aD .u8 l)) (w.alloc (O zeroCells79 79)):=by rw[j,c];unfold cF.gh eJ;cases t.ghost i<;>rfl
 have z:(Me ⟨w.heap.size,0,N⟩ (aD .u8 l).toList 0).run Y (w.alloc (O zeroCells79 79))=.ok () (w.alloc (O (aD .u8 l) 79)):=Mi w 79 _ (aD .u8 l) (by rw[aP,a];kernel_rfl) (by rw[aP,a];exact nQ) (dG _ _);have g:(aD .u8 l).size=72:=by rw[aP,a]
 unfold eJ;clear m o p q r b s h u d f c;go_in;go_wp2_with fail;refine Ng (Oh (P:=Y) results30 _ _ w.heap.size 79 (aD .u8 l) (0,0) (.array 72 5) rfl (aG _ _ _ rfl) (by kernel_rfl) rfl (by rw[g];kernel_rfl)) rfl ⟨rfl,aU⟩
end
section
open Go.RowKit Go.Shelf lin
attribute [local go_sem] Oper.semAt_some
theorem FW {col:Nat→Nat} (w:Mz) (h:dB q col s n w):Nb Y 16 #[q.ar] w fun e d=>e=E q.l.p.ar∧Nc w.heap.size w d:=by obtain⟨j,b,_,_⟩:=h.row;have a:=h.led.row;have i:=aB b;have g:=aB a;unfold CtSt.row at b;unfold bH.row at a;have f:=Cw b 0;simp at f;have c:=Cw a 16;simp at c;unfold dK.ar dH.ar at*;clear h b a;go_in;go_wp2;go_ret;exact⟨rfl,(by repeat first|exact Bl|assumption|refine Ka ?_|refine Ks ?_ (by first|exact Nl|simp<;>omega|omega)|refine Kd ?_|refine Kc ?_ (by assumption))⟩
end
section
open Go.RowKit Go.Shelf lin
theorem eA.ix_at (ok:eA s) (a:s.ld.c.has l):eC s.ld.c.r s.ld.c.s s.ld.c.b s.ld.c.d s.ld.c.c (s.ix l)=true:=by have h:=ok.rp.at ((ok.has l).2 a);have e:s.ld.rp.route l=s.ix l:=ok.ixr a;unfold aW.route at e h;obtain⟨b,c,d,f,g,_⟩:=ok.geo;rw[e,b,c,d,f,g]at h;exact h
theorem NR {x:aY} (b:lE x) (ok:cO (MSt.new x).ct):gV (MSt.new x).idl (MSt.new x).ct:=by
 have g:=wV b;have c:(MSt.new x).ct.ld.c=x:=by show(CtSt.wipe x 4096).ld.c=x;rw[g.ld];rfl
 intro l d;have a:=ok.rt.ix_at d;rw[c]at a ⊢;obtain⟨e,f,h⟩:=g.gh _ a;exact⟨e,by show(CtSt.wipe x 4096).dv.mark _≠1;rw[f];decide⟩
def GA (s:CtSt) (c0:Int) (k:Nat) (n:Int):Prop:=s.cur=(c0+k)%n∧fI s.dv.dr∧(iZ s.dv→∀j:Nat,j<k→s.dv.dr.at (s.ix ((c0+j)%n))=s.dv.gh (s.ix ((c0+j)%n)))
theorem Gs {g:Int→List Int} {a n:Int} (ok:eA s) (w:n=s.ld.rp.t.seen*s.ld.rp.t.c) (C:0<n) (D:s.ld.c.has s.cur) (j:iZ s'.dv→gV g s) (gk:wS g) (B:GA s a k n) (d:Readed s.nextCur s.cur true s'):GA s' a (k+1) n:=by
 obtain⟨l,H,x⟩:=B;have y:=NN ok.nextCur d;have F:=NO d H;refine⟨?_,F,fun c f J=>?_⟩
 ·rw[y.2];show(s.cur+1)%(s.ld.rp.t.seen*s.ld.rp.t.c)=_;rw[←w,l,Int.emod_add_emod,show a+(k:Int)+1=a+((k+1:Nat):Int) by omega]
 ·have p:=(eX.rd s.nextCur.dv _).trans (CV ok.nextCur d)
  have h:iZ s.dv:=c.of p;have i:∀f:Nat,s.ld.c.has ((a+f)%n):=fun f=>by rw[←ok.has];unfold aW.has;rw[←w];exact jO (Int.emod_nonneg _ (by omega)) (Int.emod_lt_of_pos _ C)
  have q:s'.ix ((a+f)%n)=s.ix ((a+f)%n):=y.1.ix _ (i f);rw[q];have j:=j c;obtain⟨G,b⟩:=G7 (s:=s.nextCur) ok.nextCur j gk D (c.of (CV ok.nextCur d));obtain⟨m,z,rfl⟩:=d;have d:m.dv.dr=s.dv.dr:=z.qui H;obtain⟨t1,A,_⟩:=z.same ok.nextCur;have r:s.nextCur.ix s.cur=s.ix s.cur:=rfl;have t:s.nextCur.dv.dr.read (s.ix s.cur)=s.dv.dr.at (s.ix s.cur):=H.read _;rw[r]at G b ⊢;have u:s.nextCur.dv.gh (s.ix s.cur)=s.dv.gh (s.ix s.cur):=rfl;rw[t,u]at b;by_cases o:(s.nextCur.dec (s.ix s.cur)).2.1=1∧true=true
  ·rw[Fp o]
   have K:m.ld.c.m=s.ld.c.m:=by rw[t1.c];rfl
   rw[pJ (by rw[d];exact H),uY,d];show _=cF.gh (m.dv.put _ _ _) _;rw[CU,A];by_cases e:((s.ix ((a+f)%n):Nat):Int)=(s.ix s.cur:Nat)
   ·rw[Fp e,Fp e]
   ·rw[Fn e,Fn e]
    have v:f<k:=by
     rcases Nat.lt_or_ge f k with B|B
     ·exact B
     ·exfalso;apply e;rw[l,show f=k by omega]
    exact x h f v
  ·rw[Fn o]
   rw[d,A];show _=s.dv.gh _;rcases b with b|b
   ·rcases Nat.lt_or_ge f k with B|B
    ·exact x h f B
    ·rw[show f=k by omega,←l];exact b.2
   ·exact absurd ⟨b,rfl⟩ o
theorem Gt {a n:Int} (k:GA s a n.toNat n) (f:iZ s.dv) (i:0≤a) (j:a<n) (c:0≤l) (d:l<n):s.dv.dr.at (s.ix l)=s.dv.gh (s.ix l):=by
 have b:∀h:Nat,h<n.toNat→(a+h)%n=l→s.dv.dr.at (s.ix l)=s.dv.gh (s.ix l):=fun h g e=>by
  have:=k.2.2 f h g
  rwa [e]at this
 by_cases g:a≤l
 ·refine b (l-a).toNat (by omega) ?_;rw[show a+((l-a).toNat:Int)=l by omega,Int.emod_eq_of_lt c d]
 ·refine b (l-a+n).toNat (by omega) ?_;rw[show a+((l-a+n).toNat:Int)=l+n by omega,Int.add_emod_right,Int.emod_eq_of_lt c d]
theorem Hp:Y.cellsOf 79=72:=by kernel_rfl
theorem Hx {a b:List Int} (c:a.length=72) (d:b.length=72) (e:aX 72 a) (f:aX 72 b) (w:Mz):(Mj 10000 79 (.agg (aD .u8 a)) (.agg (aD .u8 b))).run Y w=.ok (decide (a=b)) w:=NX underlying79 Hp (by kernel_rfl) c d e f w
theorem Jr (k:Int) (W:Mz):(Instr.build 45 #[(0,I Z k)]).run Y W=.ok (.agg (⟨k,0,ln0,0,dQ⟩:Sp).vals) W:=run_build W 45 _ _ (GI _ _ (GJ k []))
section
attribute [local simp] Mu
end
end
section
open Go.RowKit Go.Shelf lin
attribute [local go_sem] Oper.semAt_some cK Mh
attribute [local simp] Mf Mg
theorem Jb:max a b≤1↔a≤1∧b≤1:=by omega
theorem YX:∀(l:List dP) (p:Int×Bool),((l.foldl yU p).2=false∧(l.foldl yU p).1≤1)↔(p.2=false∧p.1≤1∧∀e∈l,NM e)
 |[],p=>by simp
 |e::l,p=>by
  rw[List.foldl_cons,YX l];unfold yU vE NM;simp only[List.mem_cons,forall_eq_or_imp];cases f:e.ast
  ·simp only[Bool.or_false,Bool.false_eq_true,if_false,Jb,true_and]
   constructor
   ·rintro⟨a,⟨b,c⟩,d⟩;exact⟨a,b,c,d⟩
   ·rintro⟨a,b,c,d⟩;exact⟨a,⟨b,c⟩,d⟩
  ·simp
theorem Je (d:cF):iZ d↔(lK d.accs).2=false∧(lK d.accs).1≤1:=by unfold lK;rw[YX];simp[iZ]
theorem O6 (d:cF):sR d=true↔iZ d:=by rw[Je];unfold sR;simp
end
section
open Go.RowKit Go.Shelf lin
def aY.layV (x:aY):Array Na:=#[I Z x.r,I Z x.s,I Z x.b,I Z x.d,I Z x.c,I Z x.way,I Z x.res]
theorem aY.lines_is {x:aY} (c:lE x):((x.lines:Nat):Int)=(cU x.r x.s x.b x.d x.c-x.res)*x.c∧x.lines≤4096:=by
 obtain⟨a,e,f,g⟩:=eM c.lay;have b:=nL (eE a).1;have h:=cM (eE a).1;unfold aY.lines;generalize cU x.r x.s x.b x.d x.c=d at*;have i:1≤x.c:=by omega
 have j:=Int.mul_le_mul_of_nonneg_right (show d-x.res≤d by omega) (show 0≤x.c by omega);have k:d*x.c≤4096:=by rw[b.1];exact b.2.2.2
 have l:=Int.mul_nonneg (show 0≤d-x.res by omega) (show 0≤x.c by omega);omega
theorem aY.lines_has {x:aY} (a:lE x) (l:Int):x.has l↔0≤l∧l<(x.lines:Nat):=by unfold aY.has;rw[←(aY.lines_is a).1];exact⟨fun b=>eB b,fun b=>jO b.1 b.2⟩
theorem GO {x:aY} (a:lE x) (w:Mz):Nb Y 14 #[.agg x.layV] w fun e b=>e=E (I Z (x.lines:Nat))∧Nc w.heap.size w b:=by rw[(aY.lines_is a).1];exact EF a.lay rfl w
theorem yZ {x:aY} (a:W.heap[g]?=S (O x.vals 31)):(Mc ⟨g,0,N⟩ 0 7 #[]).run Y W=.ok x.layV W:=tW a [_,_,_,_,_,_,_] _ rfl
end
section
open Go.RowKit Go.Shelf lin
attribute [local go_sem] Oper.semAt_some cK Mh
attribute [local simp] Mf Mg Ml Mu
def kR (l:List aN):List (List Na):=l.map fun a=>a.vals.toList
structure mH (w0:Mz) (col:Nat→Nat) (v:Na) (l:List aN) (W:Mz):Prop where
 s:bP 48 66 v (kR l) W
 o:∀g,v.ownBlock=S g→col g=0∧w0.heap.size<g
theorem mH.nil (w0:Mz) (col:Nat→Nat) (W:Mz):mH w0 col (.slice N 0 0) [] W:=⟨bP.nil 48 66 W,fun b a=>by cases a⟩
theorem mH.keeps {w0:Mz} {col:Nat→Nat} {l:List aN} (b:mH w0 col v l W) (a:aC W W'):mH w0 col v l W':=⟨b.s.keeps a,b.o⟩
theorem mH.stq {w0:Mz} {col a:Nat→Nat} {l:List aN} (e:mH w0 col v l W) (c:aS KM col W a W'):mH w0 a v l W':=⟨e.s.chg c.chg fun d b=>by rw[(e.o d b).1];exact jU,fun d b=>⟨(c.old d (e.s.lt d b)).trans (e.o d b).1,(e.o d b).2⟩⟩
theorem mH.slice {w0:Mz} {col:Nat→Nat} {l:List aN} (c:mH w0 col v l W):∃b a,v=.slice b l.length a:=by obtain⟨b,a,rfl⟩:=c.s.slice;exact⟨b,a,by unfold kR;rw[Nw]⟩
theorem dW.grown {col:Nat→Nat} {s:MSt} {a:Option Nat} (g:dW w X y col s n W) (c:W.grownBy W' a) (d:∀f,a=S f→col f=0∧w.heap.size<f):dW w X y col s n W':=by have h:aF (fun b=>a=S b) W W':=(aF.refl _ W).grown c fun i f=>.inl f;exact⟨⟨g.m.m.chg h fun b f=>by rw[(d b f).1];exact jU,g.m.ok,g.m.ex,g.m.z,sI g.m.k c fun i f=>by have:=(d i f).2;omega⟩,eS c g.c.1 (fun e=>by have:=(d _ e.symm).2;omega),g.c.2⟩
theorem mH.push {col:Nat→Nat} {s:MSt} {b:Mz} {v':Na} {l:List aN} {a:aN} (m:mH w col v l W) (f:dW w X y col s n W) (h:a.l.length=64) (g:aC W W') (i:W'.grownBy b v.ownBlock) (c:l.length=k) (j:b.ownsRow 0 48 66 v' (k+1) ((kR l).flatten++a.vals.toList)) (d:v'.ownBlock=v.ownBlock∨v'.ownBlock=S W'.heap.size):mH w col v' (l++[a]) b∧dW w X y col s n b:=by
 subst c;refine⟨⟨?_,fun o c=>?_⟩,(f.keeps g).grown i m.o⟩
 ·unfold kR
  rw[List.map_append];refine bP.push (W:=W) m.s ?_ ?_
  ·rw[Ot,aN.size h]
  ·rw[Nw];exact j
 ·rcases d with e|e
  ·exact m.o o (e▸c)
  ·rw[e]at c;have c:=Option.some.inj c;have p:=g.size;have q:=aB f.c.1;exact⟨f.m.m.top o (by omega),by omega⟩
theorem Did.len {s b:MSt} {x:Sp} {a:aN} (c:Did s x a b) (ok:dZ s):a.l.length=64:=by
 cases c with
 |rd c d e f=>exact uV (ok.ct.dv.dr.read_len _) _
 |_=>rfl
theorem Kq {c0:Nat→Nat} {R:MSt} {F:Nat} (I:MSt→Prop) (f:∀s d c a,dZ s→dJ c→Did s c a d→I s→I d) (a:Option Addr) (c cap:Nat) (xs:Nat→Sp) (G:∀d,dJ (xs d)) (hl:c≤200) (hR:dW w X y c0 R F W) (hn:F+2000<bY) (g:I R) (ha:mG a c xs w):Nb Y 24 #[y.ar,.slice a c cap] W fun e W'=>∃i h d,e=E i∧dW w X y h d (F+5*c) W'∧I d:=by
 obtain⟨i0,H,J,n,aa⟩:=info_parts GK;have T:=aH hR g;have HI:=aA f;have ba:(c:Int)≤200:=by omega
 clear f g;unfold cQ.ar;go_in;go_wp2_with fail;go_loopw [5,10] (fun f d wr=>∃(k:Nat) (U:Option Addr) (V:Nat) (ar:Nat→Nat) (s:MSt) (l:List aN),k≤c∧d=.int .i64 k∧f=.slice U k V∧l.length=k∧dW w X y ar s (F+5*k) wr∧mH w ar (.slice U k V) l wr∧I s) fun _ d _=>c-(intOf d).toNat
 case atStart=>exact⟨0,N,0,c0,R,[],Nz _,rfl,rfl,rfl,T.out.1,mH.nil _ _ _,T.out.2⟩
 case round=>
  obtain⟨k,U,V,ar,s,l,hk,rfl,rfl,x,o,hA,z⟩:=hrel;have f:=bT o hA z x;by_cases ab:k<c
  ·obtain⟨b,bb,rfl,bd,LX⟩:=ha.load G o.m.k ab
   have h:=aA fun W (d:dW w X y ar s (F+5*k) W)=>d.do (by omega) (G k);have i:=Sp.size (G k).dl;have A:=Sp.one (xs k);have L:=aA (G k);unfold cQ.ar at h;obtain⟨bs,hS⟩:=Ey (xs k);rw[hS]at h LX i A L;have⟨br,hV⟩:=Ey bs.vals;rw[hV]at h LX i A;have SP:=Mi (P:=Y) wr 45 zeroCells45 br (by rw[i];kernel_rfl) (by rw[i];rfl) A;have bm:(k:Int)<c:=by omega
   clear o hA z x hV hS T;go_upto_region 5 with fail;have⟨W1,p⟩:=Ex (wr.alloc (O br 45));rw[←p];have k1:aC wr W1:=by rw[p];exact Ka (K.refl wr)
   have b1:W1.heap[wr.heap.size]?=S (O br 45):=by rw[p];exact aG _ _ _ rfl
   have LV:=Lw b1 75 i;have HD:=aA (h.out W1 (f.out.1.keeps k1));have M:=aA (f.out.2.1.keeps k1);have zV:=aB b1;clear p k1 b1 h SP LX;go_wp2_with fail;refine HD.out.mono ?_;rintro e Q ⟨t,c2,s2,rfl,_,q,hd,hq⟩;have j:=M.out.stq hq;have r:=HI.out s s2 bs t f.out.1.m.ok L.out hd f.out.2.2.1;have m:t.l.length=64:=hd.len f.out.1.m.ok;have u:=j.s.own;have ad:(kR l).length=k:=by unfold kR;rw[Nw];exact f.out.2.2.2
   rw[ad]at u;have B:t.vals.size=66:=aN.size m;have C:=aN.one t;have P2:=bT q j r m;have⟨av,D⟩:=Ey t.vals;rw[D]at B C ⊢;have ae:=aA D;have bu0:∀l,Hid (l=[(0,.agg av)])→∀W,(Instr.buildSlice 36 1 l.toArray).run Y W=.ok (.slice (S ⟨W.heap.size,0,N⟩) 1 1) (W.alloc (O av 48)):=fun l hl W=>by rw[hl.out];exact GD underlying36 H J (by rw[n];decide) (by rw[n];decide) (by rw[n];exact B) W
   simp[go_sem]at bu0;have LB:=aA (bu0 _ (aA rfl));clear bu0;have bn:=LB.out Q;have an:av.toList.length=66:=by simpa using B
   clear q hd hq j r m HD M LV D;go_wp2_with(at_builtin;refine wpList_append_own_at _ rfl _ _ 36 rfl 0 48 i0 _ 66 80 underlying36 H J n aa (by kernel_rfl) (by decide) _ _ _ rfl (Mz.ownsRow.alloc u _) ⟨Q.heap.size,0,N⟩ 1 1 av.toList rfl (by rw[an]) (Mz.news_of_block (heap_alloc_new Q _)) (by rw[Array.all_eq_true']at C;simpa using C) (by unfold maxLen;omega) (by omega) (Nz _) ?_;intro v' w6 d g _ v;obtain⟨a6,c6,rfl⟩:=own_slice d;have H6:=Hd3 d g v;clear d g v);go_roundw
   case rel=>have⟨q,j,r,m⟩:=P2.out;have:=mH.push (k:=k) (a:=t) j q m (K.alloc (K.refl Q) (O av 48)) H6.out.2.1 f.out.2.2.2 (by rw[ae.out];exact H6.out.1) H6.out.2.2;exact⟨k+1,a6,c6,c2,s2,l++[t],by omega,by go_num,rfl,by rw[Ny,f.out.2.2.2];rfl,this.2.up (by omega),this.1,r⟩
   case measure=>simp[intOf];omega
  ·have d:k=c:=by omega
   subst d;clear o hA z x;go_wp2_with fail;go_ret;exact⟨_,ar,s,rfl,f.out.1,f.out.2.2.1⟩
end
section
open Go.RowKit Go.Shelf lin
attribute [local go_sem] Oper.semAt_some cK Mh
attribute [local simp] Mf Mg Ml Mv
def rY (x:aY) (s:MSt):Prop:=s.ct.ld.c=x∧(iZ s.ct.dv→gV s.idl s.ct)
theorem dJ.spok {x:Sp} (a:dJ x):wT x:=⟨a.dl,a.db,a.ms,a.ln⟩
theorem rY.new {x:aY} (a:x.small=true) (ok:cO (MSt.new x).ct):rY x (MSt.new x):=⟨vH a,fun _=>NR (aY.small_ok a) ok⟩
theorem rY.did {x:aY} (s b:MSt) (z:Sp) (a:aN) (ok:dZ s) (e:dJ z) (f:Did s z a b) (c:rY x s):rY x b:=⟨(f.c ok.ct).trans c.1,fun d=>(f.calm ok e.spok (c.2 (d.of (f.grw ok.ct))) d).1⟩
def x6:Sp:=⟨4,0,ln0,0,dQ⟩
theorem ZL:dJ x6:=⟨by unfold bN;decide,by unfold bN;decide,rfl,kI,by decide,GM⟩
theorem Lx:x6.okB=true:=by decide+kernel
theorem Did.scrub {s d:MSt} {a:aN} (c:Did s x6 a d):Readed s.ct.nextCur s.ct.cur true d.ct:=by
 have h:x6.k=4:=rfl;have g:=Lx;cases c with
 |bad c=>rw[g]at c;exact absurd c (by decide)
 |no c b f=>omega
 |rd c b=>omega
 |wr c b=>omega
 |ma c b=>omega
 |sc c b e=>exact e
 |idle c b=>omega
 |cp c b=>omega
 |tk c b=>omega
 |cl c b=>omega
 |inj c b=>omega
def uA (x:aY) (c0:Int) (j:Nat) (s:MSt):Prop:=rY x s∧GA s.ct c0 j (x.lines:Nat)
theorem uA.did {x:aY} (g:x.small=true) {e:Int} {s c:MSt} {a:aN} (ok:dZ s) (n:Did s x6 a c) (b:uA x e j s):uA x e (j+1) c:=by
 refine⟨rY.did s c x6 a ok ZL n b.1,?_⟩;have f:((x.lines:Nat):Int)=s.ct.ld.rp.t.seen*s.ct.ld.rp.t.c:=by obtain⟨d,h,i,k,l,o,m⟩:=ok.ct.ld.geo;rw[(aY.lines_is (aY.small_ok g)).1];unfold aR.seen;rw[d,h,i,k,l,m,b.1.1]
 have d:=eB ok.ct.cur;rw[←f]at d;refine Gs ok.ct.rt f (by omega) ok.ct.curL (fun h=>b.1.2 (h.of (n.grw ok.ct))) ok.gok b.2 n.scrub
theorem uA.start {x:aY} (c:x.small=true) {s:MSt} (ok:dZ s) (b:rY x s) (d:fI s.ct.dv.dr):uA x s.ct.cur 0 s∧0≤s.ct.cur∧s.ct.cur<(x.lines:Nat):=by
 have e:((x.lines:Nat):Int)=s.ct.ld.rp.t.seen*s.ct.ld.rp.t.c:=by obtain⟨a,f,g,h,i,k,j⟩:=ok.ct.ld.geo;rw[(aY.lines_is (aY.small_ok c)).1];unfold aR.seen;rw[a,f,g,h,i,j,b.1]
 have a:=eB ok.ct.cur;rw[←e]at a;refine⟨⟨b,?_,d,fun _ g f=>absurd f (Nat.not_lt_zero _)⟩,a⟩;show s.ct.cur=(s.ct.cur+((0:Nat):Int))%_;rw[Int.natCast_zero,Int.add_zero,Int.emod_eq_of_lt a.1 a.2]
theorem ZM {own:Nat→Prop} {t:cF} (g:fH B own t n w):∃s,dX s own t.dr n w∧∀W,aC w W→Nb Y 26 #[.pointer (S ⟨B,0,N⟩)] W fun e h=>e=E (.pointer (S ⟨s,0,N⟩))∧Nc W.heap.size W h:=by obtain⟨s,G,x,u,i,j,k,l,m,d,f,o,p,a,c⟩:=g;have g:=f.mono (own':=own) (fun b q=>q.1) Nl;refine⟨s,g,fun W q=>?_⟩;have v:=aE q d;have r:=Cw v 0;simp at r;clear i j k l m d f o p a c v g;go_in;go_wp2;go_ret;exact⟨rfl,Bl⟩
theorem Ly {s c i:Int} (e:eC r s b d c i=true):bN i:=by
 have a:dF r s b d c=true:=by unfold eC at e;simp only[Nx,decide_eq_true_eq]at e;exact(oV e.2).1
 have:=oI e a;unfold bN;omega
theorem Lz {x:aY} (f:x.small=true) {s:MSt} (ok:dZ s) {b:Int} (t:uA x b j s) (g:0≤b) (h:b<(x.lines:Nat)) (d:j=x.lines) (i:iZ s.ct.dv) (c:s.ct.ld.c.has l):∃a,s.ct.ld.rp.route l=a∧∃k,s.ct.dv.gh a=k∧eC s.ct.dv.dr.r s.ct.dv.dr.s s.ct.dv.dr.b s.ct.dv.dr.d s.ct.dv.dr.c a=true∧s.ct.dv.dr.look a=k:=by
 have a:x.has l:=by rw[←t.1.1];exact c
 have a:=(aY.lines_has (aY.small_ok f) l).1 a;have k:=Gt (n:=(x.lines:Nat)) (by rw[Int.toNat_natCast,←d];have:=t.2;rwa [←d]at this) i g h a.1 a.2;have e:s.ct.ld.rp.route l=s.ct.ix l:=ok.ct.rt.ixr c;refine⟨_,rfl,_,rfl,?_,?_⟩
 ·have:=ok.ct.rt.ix_at c;obtain⟨m,o,p,q,r,_⟩:=ok.ct.geo;rw[e,m,o,p,q,r];exact this
 ·rw[e,←k];unfold bO.look;rw[t.2.2.1.1];rfl
theorem Ma (h:X.size=16) (b:∀W,Nb Y 10 #[.agg X] W fun e c=>e=E (.pointer N)∧Nc W.heap.size W c) (a:Option Addr) (f cap:Nat) (w:Mz):Nb Y 8 #[.agg X,.slice a f cap] w fun e c=>e=E (.bool true)∧Nc w.heap.size w c:=by
 have⟨m,c⟩:=Ex (w.alloc (O X 31));have g:aC w m:=by rw[c];exact aU
 have d:m.heap[w.heap.size]?=S (O X 31):=by rw[c];exact aG _ _ _ rfl
 have i:=aA b;have j:=aA fun W (k:aC m W)=>Lw (aE k d) 16 h;have k:=aA g;have o:=aB d;have l:=aA (pO m);clear g d b;go_in;go_upto_region 1 with fail;rw[←c];clear c;go_wp2_with fail;refine l.out.mono ?_;rintro e c ⟨rfl,b⟩;have p:=j.out c b;have d:=aA (aK k.out b);have n:w.heap.size<c.heap.size:=by have:=b.size;omega
 clear b;go_wp2_with fail;refine(i.out c).mono ?_;rintro e q ⟨rfl,b⟩;have g:=aA (aK d.out b);clear b;go_wp2_with fail;go_ret;exact⟨rfl,g.out⟩
theorem Mb {x:aY} (q:x.small=true) (a:Option Addr) (d cap:Nat) (xs:Nat→Sp) (hs:∀D,dJ (xs D)) (w:Mz) (ha:mG a d xs w) (g:d≤maxLen):Nb Y 8 #[.agg x.vals,.slice a d cap] w fun e f=>e=E (.bool true)∧Nc w.heap.size w f:=by
 have⟨X,b⟩:=Ey x.vals;have an:X.size=16:=by rw[←b];rfl
 have c:=aA fun W=>wY q W;rw[b]at c ⊢;have M:=aA b;clear b;have⟨bz,f⟩:=Ex (w.alloc (O X 31));have j:aC w bz:=by rw[f];exact aU
 have h:bz.heap[w.heap.size]?=S (O X 31):=by rw[f];exact aG _ _ _ rfl
 have m:=aA fun W (b:aC bz W)=>Lw (aE b h) 16 an;have i:=aH j h;have hz:=aB h;have n:=aA (pO bz);have cc:(d:Int)≤9223372036854775807:=by unfold maxLen at g;omega
 clear j h g;go_in;go_upto_region 1 with fail;rw[←f];clear f;go_wp2_with fail;refine n.out.mono ?_;rintro e w1 ⟨rfl,b⟩;have h:=m.out w1 b;have K1:=aA (aK i.out.1 b);have cd:w.heap.size<w1.heap.size:=by have:=b.size;omega
 have f:=aA (aE b i.out.2);clear b;go_wp2_with fail;refine(c.out w1).mono ?_;rintro e w2 ⟨cm,cf,rfl,b,ok,l,g⟩;have k:=aA (dW.new q K1.out f.out b ok l g);clear b ok l g c h i m n f;unfold cQ.ar;by_cases bs:d≤80
 ·have ab:¬(d:Int)>80:=by omega
  have u:=aY.small_ok q;have g:=aA (Kq (rY x) rY.did a d cap xs hs (by omega) k.out (by decide) (rY.new q k.out.m.ok.ct) ha);unfold cQ.ar at g;have n:=aA fun W=>GO u W;have ar:=(aY.lines_is u).2;obtain⟨bx,r⟩:=Ey x.lines;rw[r]at n ar;have HN:=aA r;clear r;go_wp2_with fail;refine g.out.mono ?_;rintro e w3 ⟨cu,c3,F,rfl,c,l⟩;obtain⟨D3,h,p⟩:=ZM c.m.m.ct.dev;have o:=aA fun W (b:aC w3 W)=>FV W (c.m.m.keeps b);have v:=aA p;have y:=aA fun W (b:aC w3 W)=>yv c.m.ok.ct.dv.dr W (h.keeps b);have z:=aA fun W (b:aC w3 W)=>yx c.m.ok.ct.dv.dr W (h.keeps b);unfold cQ.ar at o;have G:=aH c l;have⟨nl,i⟩:=Ey F.ct.dv.dr.lasts.length;have⟨nc,j⟩:=Ey F.ct.dv.dr.coming.length;rw[i]at y;rw[j]at z;have HQ:=aH i j;clear c l h p i j k g;go_wp2_with fail;refine(o.out _ Kr).mono ?_;rintro e w4 ⟨rfl,m⟩;go_wp2_with fail;refine(v.out _ m).mono ?_;rintro e w5 ⟨rfl,f⟩;have f:=aK m f;go_wp2_with fail;refine(y.out _ f).mono ?_;rintro e w6 ⟨a6,bv,rfl,b⟩;have b:=aK f b;by_cases A:nl=0
  ·subst A
   go_wp2_with fail;refine(o.out _ b).mono ?_;rintro e w7 ⟨rfl,i⟩;have i:=aK b i;go_wp2_with fail;refine(v.out _ i).mono ?_;rintro e w8 ⟨rfl,j⟩;have j:=aK i j;go_wp2_with fail;refine(z.out _ j).mono ?_;rintro e w9 ⟨a9,bw,rfl,k⟩;have k:=aK j k;by_cases av:nc=0
   ·subst av
    have hq:fI F.ct.dv.dr:=⟨List.eq_nil_of_length_eq_zero HQ.out.1,List.eq_nil_of_length_eq_zero HQ.out.2⟩;have Q:=aH (G.out.1.keeps k) (uA.start q G.out.1.m.ok G.out.2 hq);clear m f b i j k hq o v y z;have H:=yZ (x:=x) (by rw[M.out];exact Q.out.1.c.1);have zc:=aB Q.out.1.c.1;have⟨LY,A⟩:=Ey x.layV;have ba:=aA A;rw[A]at H n;clear A;go_wp2_with fail;refine(n.out w9).mono ?_;rintro e wa ⟨rfl,R⟩;have T:=aH (Q.out.1.keeps R) Q.out.2;clear R H zc;go_wp2_with fail;go_loopw [44] (fun b wr=>∃(L:Nat) (cn:Nat→Nat) (s:MSt),L≤bx∧b=I Z L∧dW w X cm cn s (4096+5*d+5*L) wr∧uA x F.ct.cur L s) fun b _=>bx-(intOf b).toNat
    case atStart=>exact⟨0,c3,F,Nz _,rfl,T.out.1,T.out.2.1⟩
    case round=>
     obtain⟨L,cn,s,hj,rfl,g,hI⟩:=hrel;have U:=aH g hI;by_cases ck:L<bx
     ·have o:(L:Int)<bx:=by omega
      have b:=aA (g.do (by unfold bY;omega) ZL);have h:=Mr (Jr 4 wr);unfold cQ.ar at b;unfold x6 at b;have⟨p,i⟩:=Ey (⟨4,0,ln0,0,dQ⟩:Sp).vals;rw[i]at b h;clear i g hI;go_wp2_with fail;refine b.out.mono ?_;rintro e W2 ⟨k,l,m,rfl,_,c,j,_⟩;have f:=aH c (uA.did q U.out.1.m.ok j U.out.2);generalize k.vals=r at*;clear c j b h;go_wp2_with fail;go_roundw
      case rel=>exact⟨L+1,l,m,by omega,by go_num,f.out.1.up (by omega),f.out.2⟩
      case measure=>simp[intOf];omega
     ·have bb:L=bx:=by omega
      subst bb;have HC:=aA (GG g.m.ok g.m.ex (by unfold bY;omega) wr g.m.m);unfold cQ.ar at HC;clear g hI;go_wp2_with fail;refine HC.out.mono ?_;rintro e W2 ⟨rfl,l⟩;have J:=aH (U.out.1.keeps l) U.out.2;clear l HC;cases t:sR s.ct.dv
      ·go_wp2_with fail;go_ret;exact⟨rfl,J.out.1.m.k⟩
      ·have H:=yZ (x:=x) (by rw[M.out];exact J.out.1.c.1)
       have zc:=aB J.out.1.c.1;rw[ba.out]at H;have ad:=aA t;clear t;go_wp2_with fail;refine(n.out W2).mono ?_;rintro e r ⟨rfl,V⟩;have c:=aH (J.out.1.keeps V) J.out.2;clear V H zc;go_wp2_with fail;obtain⟨cp,hD,hF⟩:=ZM c.out.1.m.m.ct.dev;have aa:=aA fun W (b:aC r W)=>CT W (c.out.1.m.m.keeps b);have B:=aA fun W (b:aC r W)=>FW W (c.out.1.m.m.keeps b).ct;have C:=aA fun W (b:aC r W)=>FV W (c.out.1.m.m.keeps b);have bd:=aA hF;have bm:=aA hD
       have h:Hid (∀D:Nat,D<L→∃(br z1 z2:Int) (A:List Int),A.length=72∧aX 72 A∧
        (∀W,aC r W→Nb Y 17 #[cm.q.l.p.ar,I Z (D:Int)] W fun e f=>e=E (.tuple #[I Z br,I Z z1,I Z z2,I Z 0])∧Nc W.heap.size W f)∧
        (∀W,aC r W→Nb Y 29 #[.pointer (S ⟨cp,0,N⟩),I Z br] W fun e f=>e=E (.tuple #[eJ A,I Z 0])∧Nc W.heap.size W f)∧
        (∀W,aC r W→Nb Y 30 #[.pointer (S ⟨cm.q.B,0,N⟩),I Z br] W fun e f=>e=E (eJ A)∧Nc W.heap.size W f)):=aA (fun D hi=>by
        have ok:=c.out.1.m.ok;have j:s.ct.ld.c.has (D:Int):=by rw[c.out.2.1.1,aY.lines_has u,HN.out];omega
        obtain⟨br,hz,A,g,f,i⟩:=Lz q ok c.out.2 T.out.2.2.1 T.out.2.2.2 (by rw[HN.out]) ((O6 _).1 ad.out) j;refine⟨br,s.ct.ld.rp.t.home (D:Int),s.ct.ld.rp.t.rk (D:Int),A,by rw[←g];exact ok.ct.dv.gh_len _,by rw[←g];exact ok.ct.dv.gh_bts _,fun W b=>?_,fun W b=>?_,fun W b=>?_⟩
        ·have:=EV ok.ct.ld.rp (D:Int) ((ok.ct.ld.has _).2 j) W (c.out.1.m.m.keeps b).ct.led.rep;rw[hz]at this;exact this
        ·have:=SC ok.ct.dv.dr br W (bm.out.keeps b);rw[Fp f,i]at this;exact this
        ·have:=zv ok.ct.dv br (by have:=Ly f;exact this) W (c.out.1.m.m.keeps b).ct.dev
         rw[g]at this
         exact this)
       unfold cQ.ar at aa C;unfold dK.ar at B;unfold dH.ar at B h;unfold eJ at h;clear hD hF;go_loopw [56] (fun b wr=>∃(D:Nat),D≤L∧b=I Z D∧aC r wr) fun b _=>L-(intOf b).toNat
       case atStart=>exact⟨0,Nz _,rfl,Kr⟩
       case round=>
        obtain⟨D,hi,rfl,p⟩:=hrel;have KR:=aA p;by_cases ae:D<L
        ·have cl:(D:Int)<L:=by omega
         obtain⟨br,z1,z2,A,g,k,g1,g2,g3⟩:=h.out D ae;have av:=aA g1;have bb:=aA g2;have bn:=aA g3;have b:=aa.out _ p;clear g1 g2 g3 p;go_wp2_with fail;refine b.mono ?_;rintro e X1 ⟨rfl,l⟩;have R:=aK KR.out l;clear b;go_wp2_with fail;refine(B.out _ R).mono ?_;rintro e X2 ⟨rfl,m⟩;have V:=aK R m;go_wp2_with fail;refine(av.out _ V).mono ?_;rintro e X3 ⟨rfl,o⟩;have k3:=aA (aK V o);clear R V l m o;go_wp2_with fail;refine(C.out _ k3.out).mono ?_;rintro e X4 ⟨rfl,t⟩;have k4:=aK k3.out t;go_wp2_with fail;refine(bd.out _ k4).mono ?_;rintro e X5 ⟨rfl,v⟩;have k5:=aK k4 v;go_wp2_with fail;refine(bb.out _ k5).mono ?_;rintro e j ⟨rfl,y⟩;have k6:=aK k5 y;have i:(aD .u8 A).size=72:=by rw[aP,g]
         have SP:=Mi (P:=Y) j 79 zeroCells79 (aD .u8 A) (by rw[i];kernel_rfl) (by rw[i];rfl) (dG _ _);have K6:=aA k6;clear k4 k5 k6 t v y;go_upto_region 20 with fail;have⟨X7,f⟩:=Ex (j.alloc (O (aD .u8 A) 79));rw[←f];have k7:aC j X7:=by rw[f];exact Ka (K.refl j)
         have b7:X7.heap[j.heap.size]?=S (O (aD .u8 A) 79):=by rw[f];exact aG _ _ _ rfl
         have z7:=aB b7;have H:=aA fun W (b:aC X7 W)=>Lw (aE b b7) 72 i;have HEq:Hid (∀W,(Mj 10000 79 (.agg (aD .u8 A)) (.agg (aD .u8 A))).run Y W=.ok true W):=aA (fun W=>by rw[Hx g g k k W];simp);have K7:=aA (aK K6.out k7);clear f k7 b7 SP;refine bS (by kernel_rfl) (by kernel_rfl) ?_
         repeat
          with_reducible refine Nh fun K l=>?_
          go_simp
          try first
           |(apply Ei
             intro f b;obtain⟨m,o⟩:=b.cells;have p:=H.out _ b;have t:=HEq.out f;go_simp
             first
              |(go_at_call 25;with_reducible exact b.call (C.out _ (aK K7.out b)))
              |(go_at_call 30;with_reducible exact b.call (bn.out _ (aK K7.out b)))
              |rfl)
           |(with_reducible refine aQ ?_ ?_;first|decide|simp[Nd];done)
          refine l _ ?_;clear l K
         with_reducible refine Ni ?_
         intro X8 z;have K8:=aA (aK K7.out z);clear z z7;go_wp2_with fail;go_roundw
         case rel=>exact⟨D+1,by omega,by go_num,K8.out⟩
         case measure=>simp[intOf];omega
        ·have bn:D=L:=by omega
         subst bn;clear p;go_wp2_with fail;go_ret;exact⟨rfl,(c.out.1.keeps KR.out).m.k⟩
   ·have B:(0:Int)<nc:=by omega
    have t:=aA k;clear m f b i j k;go_wp2_with fail;go_ret;exact⟨rfl,(G.out.1.keeps t.out).m.k⟩
  ·have B:(0:Int)<nl:=by omega
   have t:=aA b;clear m f b;go_wp2_with fail;go_ret;exact⟨rfl,(G.out.1.keeps t.out).m.k⟩
 ·have ab:(d:Int)>80:=by omega
  go_wp2_with fail;go_ret;exact⟨rfl,k.out.m.k⟩
end
section
open Go.ChangeShapes Go.WideShapes Go.ChangeAt Go.RowKit Go.Shelf
namespace law8
theorem qN (r s b d c way h m j k l n g o lg:Int) (bk:Bool) (a:Option Addr) (f cap:Nat) (xs:Nat→Sp) (p:f≤maxLen) (q:∀i,dJ (xs i)) (W:Mz) (t:mG a f xs W):Nb Tryz.prog 8 #[.agg (mZ r s b d c way h m j k l n g o lg bk),.slice a f cap] W fun e i=>e=.returned (.bool true)∧Nc W.heap.size W i:=by
 cases v:oR r s b d c way h m j k l n g o lg with
 |false=>exact Ma rfl (fun w=>yW v w) a f cap W
 |true=>obtain⟨x,u,i,_⟩:=yV (bk:=bk) v;rw[←u];exact Mb i a f cap xs q W t p
theorem aL {a b:Bool} (c:a=true) (k:b=true):(a&&b)=true:=by rw[c,k];rfl
theorem j1:(wB.wf (OpenSpec.ofChange wZ))=true:=by kernel_rfl
theorem j2:(laidOutB Y)=true:=by kernel_rfl
theorem j3:(mapsRowed Y)=true:=by kernel_rfl
theorem j4:(Tryz.f8.params.all (Y.readableRec ·))=true:=by kernel_rfl
theorem j5:(namedTie Y wB.named wZ.vars)=true:=by kernel_rfl
theorem j6:((wB.stops==[]))=true:=by kernel_rfl
theorem j7:((Y.stops==[]))=true:=by kernel_rfl
theorem j8:((wB.knobs==[]))=true:=by kernel_rfl
theorem j9:((Y.stopKnobs==[]))=true:=by kernel_rfl
theorem qO:((wB.inPlace==Y.inPlace 8))=true:=by kernel_rfl
theorem qP:((wB.unfollowed==Y.unfollowed 8))=true:=by kernel_rfl
theorem qQ:((wB.recurses==Y.recurses 8))=true:=by kernel_rfl
theorem qT:((wB.named==Y.varsNamed 8))=true:=by kernel_rfl
theorem qU:((wB.maps==(Tryz.f8.params.toList++wZ.plain.varTypes Y).any (Y.mapsRec ·)))=true:=by kernel_rfl
theorem qV:((wB.ifaces==(Tryz.f8.params.toList++wZ.plain.varTypes Y).any (Y.ifacesRec ·)))=true:=by kernel_rfl
theorem qW:((wB.mapsOut==Y.mapsAmong Tryz.f8.resultTypes.toList))=true:=by kernel_rfl
theorem qX:((wB.loops==(Tryz.f8.params.toList++wZ.plain.varTypes Y).any (Y.loopsFrom ·)))=true:=by kernel_rfl
theorem qY:((wB.wideKeys==(Tryz.f8.params.toList++wZ.plain.varTypes Y++Tryz.f8.resultTypes.toList).any (Y.wideKeysFrom ·)))=true:=by kernel_rfl
theorem qZ:(wZ.vars.all (Y.varReadable ·))=true:=by kernel_rfl
theorem rF:(Tryz.f8.resultTypes.all fun t=>Y.readableRec t&&decide (t<Y.types.size))=true:=by kernel_rfl
theorem rH:((wB.ifacesOut==Tryz.f8.resultTypes.toList.any (Y.ifacesRec ·)))=true:=by kernel_rfl
theorem rI:((wB.loopsOut==Tryz.f8.resultTypes.toList.any (Y.loopsFrom ·)))=true:=by kernel_rfl
theorem rJ:((wB.plainKeys==Y.plainKeys))=true:=by kernel_rfl
theorem rK:(wB.shortTexts.isNone)=true:=by kernel_rfl
theorem rM:(Y.stopsHeard)=true:=by kernel_rfl
theorem rN:(Y.mayEnter)=true:=by kernel_rfl
theorem rO:((wB.lifted==Y.liftsFinal))=true:=by kernel_rfl
theorem rP:((Y.make==S wB.make))=true:=by kernel_rfl
theorem rQ:((wB.kinds==(if wB.domain.isEmpty then[]else Tryz.f8.params.toList.map fun t=>match Y.underlying t with|some (.int k)=>S k|_=>N)))=true:=by kernel_rfl
theorem rR:((wB.pinned==wB.pinnedBy))=true:=by kernel_rfl
theorem rS:((wB.veiled==(Tryz.f8.params.toList++wZ.plain.varTypes Y++Tryz.f8.resultTypes.toList).any (Y.veiledRec ·)))=true:=by kernel_rfl
theorem rT:(wB.veiledFits Y Tryz.f8.params.toList (Tryz.f8.params.toList++wZ.plain.varTypes Y++Tryz.f8.resultTypes.toList))=true:=by kernel_rfl
theorem facts:joinedFacts Tryz.prog 8 Tryz.f8 wZ wB=true:=(aL (aL (aL (aL (aL (aL (aL (aL (aL (aL (aL (aL (aL (aL (aL (aL (aL (aL (aL (aL (aL (aL (aL (aL (aL (aL (aL (aL (aL (aL (aL j1 j2) j3) j4) j5) j6) j7) j8) j9) qO) qP) qQ) qT) qU) qV) qW) qX) qY) qZ) rF) rH) rI) rJ) rK) rM) rN) rO) rP) rQ) rR) rS) rT)
theorem t1:Y.funcNamed wB.func=S 8:=by kernel_rfl
theorem t3:Tryz.f8.isInstance Tryz.prog wB.origin wB.targs:=(of_decide_eq_true (by kernel_rfl))
theorem t4:Tryz.f8.isWrapper Tryz.prog wB.wrapper wB.mainSum:=(by unfold Func.isWrapper;first|(rw[Fp (by decide+kernel)];kernel_rfl)|(rw[Fn (by decide+kernel)];exact⟨rfl,rfl⟩))
theorem rU (u:Os) (f:u.Started) (H:Type) (enc:TypeId×Na→H):ReturnsInHanded {} Tryz.checked u 8 .any (wZ.pre6 enc Tryz.prog Tryz.f8 wB.domain false) (wZ.post enc Tryz.prog Tryz.f8 false true false false):=by
 refine returnsInHanded_of_change (C:=Tryz.checked) own f (by kernel_rfl) func8 (ChangeSpec.witness6 (enc:=enc) (C:=Tryz.checked) false ⟨#[],#[.agg #[.int .i64 0,.int .i64 0,.int .i64 0,.int .i64 0,.int .i64 0,.int .i64 0,.int .i64 0,.int .i64 0,.int .i64 0,.int .i64 0,.int .i64 0,.int .i64 0,.int .i64 0,.int .i64 0,.int .i64 0,.bool false],.slice N 0 0],[]⟩ 8 (by kernel_rfl) (by kernel_rfl) (by kernel_rfl) (by kernel_rfl)) ?_;intro W base a G gs j d h F _;have c:∀(g:Nat) t i,Tryz.f8.params[g]?=S t→a[g]?=S i→Na.okWide Tryz.prog W .any base t i:=d;have k:=h;obtain⟨av,bn,g,J,rfl,aa,ab⟩:=h;have v:DataW.TrodAll enc Tryz.prog W 0 (fun _=>true) true Tryz.f8.params.toList a.toList G av:=g;rw[Tryz.params8]at v c;obtain⟨w,ad,d0,ae,K,q0,x,rfl,rfl,y,L⟩:=trodAll_cons v;obtain⟨z,an,d1,ar,M,q1,rfl,rfl,rfl,A,P⟩:=trodAll_cons L;obtain⟨rfl,rfl,rfl⟩:=trodAll_nil P;obtain rfl:a=#[w,z]:=by cases a;simp_all
 obtain⟨rfl,rfl⟩:=trodVars_none J;have B:=y;have l:∀h∈K,h.block<W.heap.size:=by obtain⟨m,i⟩:=B;exact DataW.trod_lt m _ _ _ i
 have D:=A;have n:∀h∈M,h.block<W.heap.size:=by obtain⟨m,i⟩:=D;exact DataW.trod_lt m _ _ _ i
 obtain⟨ba,s,b,bb,bd,o,p,m,Q,R,T,U,h,V,X,bk,rfl⟩:=yX (c 0 31 w rfl rfl) y;obtain⟨bm,q,r,xs,rfl,hl,hs,ha⟩:=yY (c 1 32 z rfl rfl) A;clear g d;refine(qN ba s b bb bd o p m Q R T U h V X bk bm q r xs hl hs W ha).mono fun e W' ⟨d,bel⟩=>?_;subst d;exact⟨_,rfl,_,_,_,[],_,[],k,trodAll_mk1 (shut_bool underlying4 _),(trodAll_cons_mk (Nc.trod mL (by kernel_rfl) (of_decide_eq_true (by kernel_rfl)) B bel l) (trodAll_cons_mk (Nc.trod mL (by kernel_rfl) (of_decide_eq_true (by kernel_rfl)) D bel n) trodAll_mk0)),rfl,bel.frame _,fun d=>by cases d⟩
theorem rX:wB.holds Tryz.pinned (OpenSpec.ofChange wZ):=OpenClaim.holds_of_wide 8 Tryz.f8 rfl rfl rfl rfl rfl rfl rfl ⟨rfl,rfl,rfl,rfl,rfl⟩ rfl rfl rfl rfl rfl t1 func8 facts t3 t4 fun b a H enc _=>rU b a H enc
theorem proved:Rows.WholeCuresSaid:=rX
end law8
end
end Go.Proofs.YtlbgenenpheheaaGreat
