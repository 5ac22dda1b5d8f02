/- WholeCured of the program cuirasstop holds for all arguments, as the given statement says; no further condition -/
import Derived.Test.YtlbgenenpheheaaGreatB7
import Derived.Test.YtlbgenenpheheaaGreatRows
set_option linter.unusedVariables false
set_option linter.unusedSimpArgs false
set_option maxHeartbeats 100000000
set_option maxRecDepth 100000
namespace Go.Proofs.YtlbgenenpheheaaGreat
open Go.Value renaming int→I
open Go.IntKind renaming i64→Z
open Go.Obj renaming cells→O
open Go.Ending renaming returned→E
open _root_.Go.Proofs.YtlbgenenpheheaaGreat.Rows renaming wholeCuredRow→wB,wholeCuredSpec→wZ
open _root_.Go.Proofs.Tryz renaming prog→Y
open _root_.Go.Proofs.Tryz
open _root_.Array renaming length_toList→Ot
open Go renaming World→Mz,Value→Na,Calls→Nb,undef→Nd,wpQuiet_step→Nh,wpQuiet_nil→Ni
open Go.RowKit renaming Below→Nc
open _root_.List renaming length_map→Nw
open _root_.Nat renaming zero_le→Nz
open _root_.Option renaming some→S,none→N
variable {W W' w:World} {X:Array Value} {g k n:Nat} {v:Value} {y:cQ}
section
open Go.ChangeShapes Go.WideShapes Go.ChangeAt Go.RowKit Go.Deep lin
section
variable {H:Type} {enc:TypeId×Value→H} {w:World} {base:Nat} {spare:Nat→Bool} {held:Bool}
theorem Kl {r:Reach} {a:Nat} {v:Na} {d:DataW H} {p:List MemPlace} (b:Na.okWide Tryz.prog w r a 45 v) (g:DataW.Trod enc Tryz.prog w base spare held 45 v d p):∃f:Sp,v=.agg f.vals∧dJ f:=by obtain⟨l,rfl,c⟩:=ZF underlying45 b g;obtain⟨f,rfl,e⟩:=ZD c;exact⟨f,by rw[Array.toArray_toList],e⟩
end
end
section
open Go.RowKit Go.Shelf lin
def aY.layV (x:aY):Array Na:=#[I Z x.r,I Z x.s,I Z x.b,I Z x.d,I Z x.c,I Z x.way,I Z x.res]
theorem aY.lines_is {x:aY} (c:lE x):((x.lines:Nat):Int)=(cU x.r x.s x.b x.d x.c-x.res)*x.c∧x.lines≤4096:=by
 obtain⟨a,e,f,g⟩:=eM c.lay;have b:=nL (eE a).1;have h:=cM (eE a).1;unfold aY.lines;generalize cU x.r x.s x.b x.d x.c=d at*;have i:1≤x.c:=by omega
 have j:=Int.mul_le_mul_of_nonneg_right (show d-x.res≤d by omega) (show 0≤x.c by omega);have k:d*x.c≤4096:=by rw[b.1];exact b.2.2.2
 have l:=Int.mul_nonneg (show 0≤d-x.res by omega) (show 0≤x.c by omega);omega
theorem aY.lines_has {x:aY} (a:lE x) (l:Int):x.has l↔0≤l∧l<(x.lines:Nat):=by unfold aY.has;rw[←(aY.lines_is a).1];exact⟨fun b=>eB b,fun b=>jO b.1 b.2⟩
theorem GO {x:aY} (a:lE x) (w:Mz):Nb Y 14 #[.agg x.layV] w fun e b=>e=E (I Z (x.lines:Nat))∧Nc w.heap.size w b:=by rw[(aY.lines_is a).1];exact EF a.lay rfl w
theorem yZ {x:aY} (a:W.heap[g]?=S (O x.vals 31)):(Mc ⟨g,0,N⟩ 0 7 #[]).run Y W=.ok x.layV W:=tW a [_,_,_,_,_,_,_] _ rfl
theorem Kx (a:aN) (W:Mz):(Instr.field 48 (.agg a.vals) 0).run Y W=.ok (I Z a.e) W:=by
 have b:a.vals[0]?=S (I Z a.e):=by unfold aN.vals;rw[Array.getElem?_append_left (by simp)];rfl
 have⟨d,c⟩:=Ey a.vals;rw[c]at b ⊢;unfold Instr.field;simp[go_sem,asAgg];rw[b];simp
end
section
open Go.RowKit Go.Shelf lin
attribute [local go_sem] Oper.semAt_some cK Mh
attribute [local simp] Mf Mg Ml Mu
def kR (l:List aN):List (List Na):=l.map fun a=>a.vals.toList
structure mH (w0:Mz) (col:Nat→Nat) (v:Na) (l:List aN) (W:Mz):Prop where
 s:bP 48 66 v (kR l) W
 o:∀g,v.ownBlock=S g→col g=0∧w0.heap.size<g
theorem mH.nil (w0:Mz) (col:Nat→Nat) (W:Mz):mH w0 col (.slice N 0 0) [] W:=⟨bP.nil 48 66 W,fun b a=>by cases a⟩
theorem mH.keeps {w0:Mz} {col:Nat→Nat} {l:List aN} (b:mH w0 col v l W) (a:aC W W'):mH w0 col v l W':=⟨b.s.keeps a,b.o⟩
theorem mH.stq {w0:Mz} {col a:Nat→Nat} {l:List aN} (e:mH w0 col v l W) (c:aS KM col W a W'):mH w0 a v l W':=⟨e.s.chg c.chg fun d b=>by rw[(e.o d b).1];exact jU,fun d b=>⟨(c.old d (e.s.lt d b)).trans (e.o d b).1,(e.o d b).2⟩⟩
theorem mH.slice {w0:Mz} {col:Nat→Nat} {l:List aN} (c:mH w0 col v l W):∃b a,v=.slice b l.length a:=by obtain⟨b,a,rfl⟩:=c.s.slice;exact⟨b,a,by unfold kR;rw[Nw]⟩
theorem dW.grown {col:Nat→Nat} {s:MSt} {a:Option Nat} (g:dW w X y col s n W) (c:W.grownBy W' a) (d:∀f,a=S f→col f=0∧w.heap.size<f):dW w X y col s n W':=by have h:aF (fun b=>a=S b) W W':=(aF.refl _ W).grown c fun i f=>.inl f;exact⟨⟨g.m.m.chg h fun b f=>by rw[(d b f).1];exact jU,g.m.ok,g.m.ex,g.m.z,sI g.m.k c fun i f=>by have:=(d i f).2;omega⟩,eS c g.c.1 (fun e=>by have:=(d _ e.symm).2;omega),g.c.2⟩
theorem mH.push {col:Nat→Nat} {s:MSt} {b:Mz} {v':Na} {l:List aN} {a:aN} (m:mH w col v l W) (f:dW w X y col s n W) (h:a.l.length=64) (g:aC W W') (i:W'.grownBy b v.ownBlock) (c:l.length=k) (j:b.ownsRow 0 48 66 v' (k+1) ((kR l).flatten++a.vals.toList)) (d:v'.ownBlock=v.ownBlock∨v'.ownBlock=S W'.heap.size):mH w col v' (l++[a]) b∧dW w X y col s n b:=by
 subst c;refine⟨⟨?_,fun o c=>?_⟩,(f.keeps g).grown i m.o⟩
 ·unfold kR
  rw[List.map_append];refine bP.push (W:=W) m.s ?_ ?_
  ·rw[Ot,aN.size h]
  ·rw[Nw];exact j
 ·rcases d with e|e
  ·exact m.o o (e▸c)
  ·rw[e]at c;have c:=Option.some.inj c;have p:=g.size;have q:=aB f.c.1;exact⟨f.m.m.top o (by omega),by omega⟩
theorem Did.len {s b:MSt} {x:Sp} {a:aN} (c:Did s x a b) (ok:dZ s):a.l.length=64:=by
 cases c with
 |rd c d e f=>exact uV (ok.ct.dv.dr.read_len _) _
 |_=>rfl
end
section
open Go.RowKit Go.Shelf lin
attribute [local go_sem] Oper.semAt_some cK Mh
attribute [local simp] Mf Mg Ml Mv
theorem dJ.spok {x:Sp} (a:dJ x):wT x:=⟨a.dl,a.db,a.ms,a.ln⟩
theorem Ky (n:Int):(kQ n).okB=true:=by unfold Sp.okB;rw[decide_eq_true (show kQ n=(kQ n).bare from rfl)];rfl
theorem Kz {d a s:MSt} {z:Sp} {m o:aN} (e:dZ d) (c:dZ a) (h:dJ z) (t:z.okB=true) (b:z.k=2) (i:d.ct.ld.c.has z.ln) (q:fI d.ct.dv.dr) (p:Did d z m a) (u:Did a (kQ z.ln) o s):m.e=0∧o=⟨0,0,z.dt⟩:=by
 obtain⟨v,_,G,j,_⟩:=p.write (n:=0) e h.spok t b i;refine⟨by rw[v],?_⟩;have D:(kQ z.ln).k=1:=rfl;have w:(kQ z.ln).ln=z.ln:=rfl;have x:=Ky z.ln;have k:a.ct.ld.c.has z.ln:=by rw[p.c e.ct];exact i
 have r:(a.ct.dec (a.ct.ix z.ln)).1=z.dt∧((a.ct.dec (a.ct.ix z.ln)).2.1=0∨(a.ct.dec (a.ct.ix z.ln)).2.1=1):=by
  obtain⟨F,y⟩:=c.ct.rt.m;have A:fI a.ct.dv.dr:=by rw[j,pJ q];exact q
  have l:a.ct.ix z.ln=d.ct.ix z.ln:=by rw[j];rfl
  have B:a.ct.dv.dr.read (a.ct.ix z.ln)=a.ct.dv.dr.at (a.ct.ix z.ln):=A.read _;have C:a.ct.dv.dr.at (a.ct.ix z.ln)=cD a.ct.ld.c.m z.dt (a.ct.ix z.ln) false:=by rw[l,j,pJ q,uY,Fp rfl];rfl
  have f:=c.ct.dv.dr.read_len (a.ct.ix z.ln);have g:=c.ct.dv.dr.read_bts (a.ct.ix z.ln);unfold CtSt.dec;rw[B]at f g ⊢;have:=(CR y h.dl h.db f g (a.ct.ix z.ln)).1 (by rw[C,NP];exact Nz _);exact⟨this.1,this.2.imp And.left id⟩
 cases u with
 |bad g=>rw[x]at g;exact absurd g (by decide)
 |no g b f=>
  rcases f with f|f
  ·exact absurd k f
  ·omega
 |rd g b i l=>rw[w,r.1,yM r.2]
 |wr g b=>omega
 |ma g b=>omega
 |sc g b=>omega
 |idle g b=>omega
 |cp g b=>omega
 |tk g b=>omega
 |cl g b=>omega
 |inj g b=>omega
theorem Sp.cf0 {x:Sp} (a:x.dt.length=64):x.vals[67]?=S (I Z x.f.k):=Sp.cf a 0
theorem La (i:X.size=16) (b:∀W,Nb Y 10 #[.agg X] W fun e c=>e=E (.pointer N)∧Nc W.heap.size W c) (a:Option Addr) (g cap:Nat) (s:Array Na) (w:Mz):Nb Y 4 #[.agg X,.slice a g cap,.agg s] w fun e c=>e=E (.bool true)∧Nc w.heap.size w c:=by
 have⟨o,c⟩:=Ex ((w.alloc (O X 31)).alloc (O s 45));have h:aC w o:=by rw[c];exact gH
 have f:o.heap[w.heap.size]?=S (O X 31):=by rw[c,aV _ _ _ (by simp)];exact aG _ _ _ rfl
 have j:=aA b;have k:=aA fun W (d:aC o W)=>Lw (aE d f) 16 i;have l:=aA h;have t:=aB f;have m:=aA (pO o);clear h f b;go_in;go_upto_region 1 with fail;rw[←c];clear c;go_wp2_with fail;refine m.out.mono ?_;rintro e f ⟨rfl,b⟩;have u:=k.out f b;have h:=aA (aK l.out b);have p:w.heap.size<f.heap.size:=by have:=b.size;omega
 clear b;go_wp2_with fail;refine(j.out f).mono ?_;rintro e v ⟨rfl,b⟩;have n:=aA (aK h.out b);clear b;go_wp2_with fail;refine bS (by kernel_rfl) (by kernel_rfl) ?_
 repeat
  with_reducible refine Nh fun K d=>?_
  go_simp
  try first
   |(apply Ei
     intro c b;obtain⟨q,r⟩:=b.cells;go_simp
     first
      |(go_at_call 13;with_reducible exact b.call (trivial))
      |rfl)
   |(with_reducible refine aQ ?_ ?_;first|decide|simp[Nd];done)
  refine d _ ?_;clear d K
 with_reducible refine Ni ?_
 intro W d;have b:=aA (aK n.out d);clear d;go_wp2_with fail;go_ret;exact⟨rfl,b.out⟩
theorem Lb {x:aY} (hx:x.small=true) (a:Option Addr) (d cap:Nat) (xs:Nat→Sp) (hs:∀c,dJ (xs c)) (z:Sp) (o:dJ z) (w:Mz) (ha:mG a d xs w) (j:d≤maxLen):Nb Y 4 #[.agg x.vals,.slice a d cap,.agg z.vals] w fun e p=>e=E (.bool true)∧Nc w.heap.size w p:=by
 have⟨X,i⟩:=Ey x.vals;have bb:X.size=16:=by rw[←i];rfl
 have g:=aA fun W=>wY hx W;have f:=aA fun(W:Mz) (c:W.heap[w.heap.size]?=S (O x.vals 31))=>yZ (x:=x) c;rw[i]at g f ⊢;have cc:=aA i;have h:=aA fun W=>NY o W;have aa:=Sp.c0 z;have H:=Sp.c1 z;have J:=Sp.size o.dl;have bd:=Sp.one z;obtain⟨Z,C⟩:=Ey z.vals;rw[C]at h aa H J bd ⊢;have HZ:=aA C;clear i C;have⟨bw,i⟩:=Ex ((w.alloc (O X 31)).alloc (O Z 45));have l:aC w bw:=by rw[i];exact gH
 have k:bw.heap[w.heap.size]?=S (O X 31):=by rw[i,aV _ _ _ (by simp)];exact aG _ _ _ rfl
 have p:bw.heap[w.heap.size+1]?=S (O Z 45):=by rw[i];exact aG _ _ _ (by simp)
 have q:=aA fun W (c:aC bw W)=>Lw (aE c k) 16 bb;have m:=Hd3 l k p;have cd:=aB k;have r:=aA (pO bw);have cf:(d:Int)≤9223372036854775807:=by unfold maxLen at j;omega
 clear l k p j;go_in;go_upto_region 1 with fail;rw[←i];clear i;go_wp2_with fail;refine r.out.mono ?_;rintro e w1 ⟨rfl,c⟩;have p:=q.out w1 c;have K1:=aA (aK m.out.1 c);have ck:w.heap.size<w1.heap.size:=by have:=c.size;omega
 have i:=aH (aE c m.out.2.1) (aE c m.out.2.2);clear c;go_wp2_with fail;refine(g.out w1).mono ?_;rintro e w2 ⟨cv,ab,rfl,k,ok,c,j⟩;have l:=aH (dW.new hx K1.out i.out.1 k ok c j) (show iE ab w2 (w.heap.size+1) (O Z 45) from⟨aE c i.out.2,j _ (aB i.out.2)⟩);clear k ok c j g p m q r i;unfold cQ.ar;have cl:=aB l.out.1.c.1;have cm:=aB l.out.2.1;have⟨f0,f1⟩:=bQ l.out.2.1;rw[aa]at f0;rw[H]at f1;have g:=aA fun W (c:aC w2 W)=>Lw (aE c l.out.2.1) 75 J;have k:=aA fun W (c:aC w2 W)=>f.out W (aE c l.out.1.c.1);have y:=aY.small_ok hx;have i:=aA fun W=>GO y W;have bm:=(aY.lines_is y).2;have HN:=aA (aY.lines_has y);obtain⟨cx,q⟩:=Ey x.lines;rw[q]at i bm HN;have⟨LY,p⟩:=Ey x.layV;rw[p]at i k;have⟨ob,c⟩:=Ey z.okB;have⟨zk,j⟩:=Ey z.k;have⟨F,m⟩:=Ey z.ln;rw[c]at h;rw[j]at f0;rw[m]at f1;have HE:=Hd3 c j m;clear q p c j m f;go_upto_region 4 with fail;by_cases c1:d≤80
 ·have bn:¬(d:Int)>80:=by omega
  by_cases V:zk=2
  ·subst V
   cases ob
   ·skip
    refine bS (by kernel_rfl) (by kernel_rfl) ?_
    repeat
     with_reducible refine Nh fun K f=>?_
     go_simp
     try first
      |(apply Ei
        intro p c;obtain⟨j,m⟩:=c.cells;have q:=g.out _ c;have r:=k.out _ c;go_simp
        first
         |(go_at_call 13;with_reducible exact c.call (h.out _))
         |(go_at_call 14;with_reducible exact c.call (i.out _))
         |rfl)
      |(with_reducible refine aQ ?_ ?_;first|decide|simp[Nd];done)
     refine f _ ?_;clear f K
    with_reducible refine Ni ?_
    intro W c;have f:=aA (aK l.out.1.m.k c);clear c;go_wp2_with fail;go_ret;exact⟨rfl,f.out⟩
   ·by_cases c3:F<0
    ·skip
     refine bS (by kernel_rfl) (by kernel_rfl) ?_
     repeat
      with_reducible refine Nh fun K f=>?_
      go_simp
      try first
       |(apply Ei
         intro p c;obtain⟨j,m⟩:=c.cells;have q:=g.out _ c;have r:=k.out _ c;go_simp
         first
          |(go_at_call 13;with_reducible exact c.call (h.out _))
          |(go_at_call 14;with_reducible exact c.call (i.out _))
          |rfl)
       |(with_reducible refine aQ ?_ ?_;first|decide|simp[Nd];done)
      refine f _ ?_;clear f K
     with_reducible refine Ni ?_
     intro W c;have f:=aA (aK l.out.1.m.k c);clear c;go_wp2_with fail;go_ret;exact⟨rfl,f.out⟩
    ·by_cases c4:F≥(cx:Int)
     ·skip
      refine bS (by kernel_rfl) (by kernel_rfl) ?_
      repeat
       with_reducible refine Nh fun K f=>?_
       go_simp
       try first
        |(apply Ei
          intro p c;obtain⟨j,m⟩:=c.cells;have q:=g.out _ c;have r:=k.out _ c;go_simp
          first
           |(go_at_call 13;with_reducible exact c.call (h.out _))
           |(go_at_call 14;with_reducible exact c.call (i.out _))
           |rfl)
        |(with_reducible refine aQ ?_ ?_;first|decide|simp[Nd];done)
       refine f _ ?_;clear f K
      with_reducible refine Ni ?_
      intro W c;have f:=aA (aK l.out.1.m.k c);clear c;go_wp2_with fail;go_ret;exact⟨rfl,f.out⟩
     ·skip
      refine bS (by kernel_rfl) (by kernel_rfl) ?_
      repeat
       with_reducible refine Nh fun K f=>?_
       go_simp
       try first
        |(apply Ei
          intro p c;obtain⟨j,m⟩:=c.cells;have q:=g.out _ c;have r:=k.out _ c;go_simp
          first
           |(go_at_call 13;with_reducible exact c.call (h.out _))
           |(go_at_call 14;with_reducible exact c.call (i.out _))
           |rfl)
        |(with_reducible refine aQ ?_ ?_;first|decide|simp[Nd];done)
       refine f _ ?_;clear f K
      with_reducible refine Ni ?_
      intro W c;have L:=aH (l.out.1.keeps c) (l.out.2.keeps c);clear c;go_wp2_with fail;go_loopw [48] (fun c wr=>∃(G:Nat) (bx:Nat→Nat) (s:MSt),G≤d∧c=I .i64 G∧dW w X cv bx s (4096+5*G) wr∧s.ct.ld.c=x∧fI s.ct.dv.dr∧iE bx wr (w.heap.size+1) (O Z 45)) fun c _=>d-(intOf c).toNat
      case atStart=>exact⟨0,ab,MSt.new x,Nz _,rfl,L.out.1,vH hx,(wV y).q,L.out.2⟩
      case round=>
       obtain⟨G,bx,s,hk,rfl,hR,hc,hq,C⟩:=hrel;have f:=bT hR hc hq C;by_cases br:G<d
       ·obtain⟨b,ba,rfl,bv,LX⟩:=ha.load hs hR.m.k br
        have p:=aA fun W (c:dW w X cv bx s (4096+5*G) W)=>c.do (by unfold bY;omega) (hs G);have j:=Sp.size (hs G).dl;have v:=Sp.one (xs G);have A:=Sp.c0 (xs G);have m:=Sp.cf0 (hs G).dl;unfold cQ.ar at p;obtain⟨ar,hS⟩:=Ey (xs G);rw[hS]at p LX j v A m;have⟨av,hV⟩:=Ey ar.vals;rw[hV]at p LX j v A m;have⟨sk,M⟩:=Ey ar.k;have⟨fk,Q⟩:=Ey ar.f.k;rw[M]at A;rw[Q]at m;have HS:=aH M Q;have SP:=Mi (P:=Y) wr 45 zeroCells45 av (by rw[j];kernel_rfl) (by rw[j];rfl) v;have cn:(G:Int)<d:=by omega
        clear hR hV hS hc hq C L M Q;go_upto_region 9 with fail;have⟨W1,B⟩:=Ex (wr.alloc (O av 45));rw[←B];have k1:aC wr W1:=by rw[B];exact Ka (K.refl wr)
        have b1:W1.heap[wr.heap.size]?=S (O av 45):=by rw[B];exact aG _ _ _ rfl
        have LV:=Lw b1 75 j;have q:=aA (p.out W1 (f.out.1.keeps k1));have R:=aA (f.out.2.2.2.keeps k1);have zV:=aB b1;have⟨g0,ad⟩:=iO b1 0 67;rw[A]at g0;rw[m]at ad;have ae:=aA (dW.up (n':=4096+5*(G+1)) (f.out.1.keeps k1) (by omega));clear B k1 b1 p SP LX;by_cases T:sk=8
        ·by_cases p:fk=1
         ·have c:ar.k=8→ar.f.k=1:=fun _=>by rw[HS.out.2];exact p
          have U:=aA c;clear c;subst T;subst p;go_wp2_with fail;refine q.out.mono ?_;rintro e W2 ⟨an,V,s2,rfl,_,r,D,t⟩;have u:=bT (r.up (n':=4096+5*(G+1)) (by omega)) ((D.c f.out.1.m.ok.ct).trans f.out.2.1) (D.qui U.out f.out.2.2.1) (R.out.stq t);generalize an.vals=bs at*;clear r D t q LV;go_wp2_with fail;go_roundw
          case rel=>exact⟨G+1,V,s2,by omega,by go_num,u.out.1,u.out.2.1,u.out.2.2.1,u.out.2.2.2⟩
          case measure=>simp[intOf];omega
         ·subst T
          go_wp2_with fail;go_roundw
          case rel=>exact⟨G+1,bx,s,by omega,by go_num,ae.out,f.out.2.1,f.out.2.2.1,R.out⟩
          case measure=>simp[intOf];omega
        ·have c:ar.k=8→ar.f.k=1:=fun bz=>absurd (HS.out.1.symm.trans bz) T
         have U:=aA c;clear c;go_wp2_with fail;refine q.out.mono ?_;rintro e W2 ⟨an,V,s2,rfl,_,r,D,t⟩;have u:=bT (r.up (n':=4096+5*(G+1)) (by omega)) ((D.c f.out.1.m.ok.ct).trans f.out.2.1) (D.qui U.out f.out.2.2.1) (R.out.stq t);generalize an.vals=bs at*;clear r D t q LV;go_wp2_with fail;go_roundw
         case rel=>exact⟨G+1,V,s2,by omega,by go_num,u.out.1,u.out.2.1,u.out.2.2.1,u.out.2.2.2⟩
         case measure=>simp[intOf];omega
       ·have bs:G=d:=by omega
        subst bs;clear hR hc hq C;have LZ:=Lw f.out.2.2.2.1 75 J;have zZ:=aB f.out.2.2.2.1;have q:=aA (f.out.1.do (by unfold bY;omega) o);rw[HZ.out]at q;unfold cQ.ar at q;go_upto_region 12 with fail;go_wp2_with fail;refine q.out.mono ?_;rintro e W2 ⟨a4,cn,s4,rfl,_,D,d4,q4⟩;have⟨ho,U,m⟩:=HE.out;have M:s.ct.ld.c.has z.ln:=by rw[f.out.2.1,m];exact(HN.out F).2 ⟨by omega,by omega⟩
        have e4:=(d4.write (n:=0) f.out.1.m.ok o.spok ho U M).1;have F4:=Kx a4 W2;rw[e4]at F4;have r:=f.out.2.2.2.stq q4;have T:=bT D r d4 M;rw[e4]at T ⊢;have ba:bN F:=by rw[←m];exact o.ln
        have p:=aA (D.do (by unfold bY;omega) (DA ba));have B5:=Mr (D8 1 F W2);have g1:=Cw r.1 1;rw[H,m]at g1;have cp:=aB r.1;have bv:=aA m;unfold cQ.ar at p;unfold kQ at p;obtain⟨V5,ad⟩:∃av,(⟨1,F,ln0,0,dQ⟩:Sp).vals=av:=⟨_,rfl⟩;rw[ad]at p B5;obtain⟨A4,ae⟩:∃bs,(⟨0,0,ln0⟩:aN).vals=bs:=⟨_,rfl⟩;rw[ae]at F4 ⊢;simp only at F4;clear D r d4 q4 ad ae q LZ e4 ho U M m;go_wp2_with fail;refine p.out.mono ?_;rintro e v ⟨a5,c5,s5,rfl,j,an,d5,q5⟩;obtain⟨_,e5⟩:=Kz f.out.1.m.ok T.out.1.m.ok o HE.out.1 HE.out.2.1 T.out.2.2.2 f.out.2.2.1 T.out.2.2.1 (by rw[bv.out];exact d5);have j:=j (by show(1:Int)≤3;decide);rw[e5]at j;have Q:=T.out.2.1.stq q5;have HEq:Hid (∀W,(Mj 10000 48 (.agg (⟨0,0,z.dt⟩:aN).vals) (.agg (⟨0,0,z.dt⟩:aN).vals)).run Y W=.ok true W):=aA (fun W=>by rw[yP j j W];simp);have R:=aA fun W=>Mt (GL o.dl W);have t:(⟨0,0,z.dt⟩:aN).vals.size=66:=aN.size o.dl;have ar:(⟨0,0,z.dt⟩:aN).vals.all (·.oneCell')=true:=aN.one _;have P5:=aA an
        have av:Hid (∀W,aC v W→(Mc ⟨w.heap.size+1,2,N⟩ 0 64 #[]).run Y W=.ok (aD .u8 z.dt) W):=aA (fun W c=>by
         have bz:=aE c Q.1;rw[←HZ.out]at bz;have e:z.vals=#[I .i64 z.k,I .i64 z.ln]++aD .u8 z.dt++(#[.int .u64 z.ms]++z.f.cells.toArray):=by unfold Sp.vals;simp only[Array.append_assoc]
         rw[e]at bz
         exact D6 bz rfl (by rw[aP,o.dl]))
        rw[e5];have⟨cz,hD⟩:=Ey (aD .u8 z.dt);obtain⟨A5,A⟩:∃bs,(⟨0,0,z.dt⟩:aN).vals=bs:=⟨_,rfl⟩;rw[A]at HEq R t ar ⊢;rw[hD]at R av;have SP:=Mi (P:=Y) v 48 zeroCells48 A5 (by rw[t];kernel_rfl) (by rw[t];rfl) ar;have bz:=aB Q.1;clear hD A e5 j an d5 q5 Q p B5 F4 g1;go_upto_region 14 with fail;have⟨B,u⟩:=Ex (v.alloc (O A5 48));rw[←u];have k9:aC v B:=by rw[u];exact Ka (K.refl v)
        have b9:B.heap[v.heap.size]?=S (O A5 48):=by rw[u];exact aG _ _ _ rfl
        have L9:=Lw b9 66 t;have D9:=av.out B k9;have B9:=R.out B;have E9:=HEq.out B;have z9:=aB b9;have cu:w.heap.size+1<B.heap.size:=by have:=k9.size;omega
        have K9:=aA (P5.out.keeps k9);clear u k9 b9 SP;go_wp2_with fail;go_ret;exact⟨by first|rfl|simp,K9.out.m.k⟩
  ·skip
   refine bS (by kernel_rfl) (by kernel_rfl) ?_
   repeat
    with_reducible refine Nh fun K f=>?_
    go_simp
    try first
     |(apply Ei
       intro p c;obtain⟨j,m⟩:=c.cells;have q:=g.out _ c;have r:=k.out _ c;go_simp
       first
        |(go_at_call 13;with_reducible exact c.call (h.out _))
        |(go_at_call 14;with_reducible exact c.call (i.out _))
        |rfl)
     |(with_reducible refine aQ ?_ ?_;first|decide|simp[Nd];done)
    refine f _ ?_;clear f K
   with_reducible refine Ni ?_
   intro W c;have f:=aA (aK l.out.1.m.k c);clear c;go_wp2_with fail;go_ret;exact⟨rfl,f.out⟩
 ·have bn:(d:Int)>80:=by omega
  refine bS (by kernel_rfl) (by kernel_rfl) ?_
  repeat
   with_reducible refine Nh fun K f=>?_
   go_simp
   try first
    |(apply Ei
      intro p c;obtain⟨j,m⟩:=c.cells;have q:=g.out _ c;have r:=k.out _ c;go_simp
      first
       |(go_at_call 13;with_reducible exact c.call (h.out _))
       |(go_at_call 14;with_reducible exact c.call (i.out _))
       |rfl)
    |(with_reducible refine aQ ?_ ?_;first|decide|simp[Nd];done)
   refine f _ ?_;clear f K
  with_reducible refine Ni ?_
  intro W c;have f:=aA (aK l.out.1.m.k c);clear c;go_wp2_with fail;go_ret;exact⟨rfl,f.out⟩
end
section
open Go.ChangeShapes Go.WideShapes Go.ChangeAt Go.RowKit Go.Shelf
namespace law4
theorem qN (r s b d c way h m j k l n g o lg:Int) (bk:Bool) (a:Option Addr) (f cap:Nat) (xs:Nat→Sp) (z:Sp) (p:f≤maxLen) (q:∀i,dJ (xs i)) (t:dJ z) (W:Mz) (u:mG a f xs W):Nb Tryz.prog 4 #[.agg (mZ r s b d c way h m j k l n g o lg bk),.slice a f cap,.agg z.vals] W fun e i=>e=.returned (.bool true)∧Nc W.heap.size W i:=by
 cases x:oR r s b d c way h m j k l n g o lg with
 |false=>exact La rfl (fun w=>yW x w) a f cap _ W
 |true=>obtain⟨y,v,i,_⟩:=yV (bk:=bk) x;rw[←v];exact Lb i a f cap xs q z t W u p
theorem aL {a b:Bool} (c:a=true) (k:b=true):(a&&b)=true:=by rw[c,k];rfl
theorem j1:(wB.wf (OpenSpec.ofChange wZ))=true:=by kernel_rfl
theorem j2:(laidOutB Y)=true:=by kernel_rfl
theorem j3:(mapsRowed Y)=true:=by kernel_rfl
theorem j4:(Tryz.f4.params.all (Y.readableRec ·))=true:=by kernel_rfl
theorem j5:(namedTie Y wB.named wZ.vars)=true:=by kernel_rfl
theorem j6:((wB.stops==[]))=true:=by kernel_rfl
theorem j7:((Y.stops==[]))=true:=by kernel_rfl
theorem j8:((wB.knobs==[]))=true:=by kernel_rfl
theorem j9:((Y.stopKnobs==[]))=true:=by kernel_rfl
theorem qO:((wB.inPlace==Y.inPlace 4))=true:=by kernel_rfl
theorem qP:((wB.unfollowed==Y.unfollowed 4))=true:=by kernel_rfl
theorem qQ:((wB.recurses==Y.recurses 4))=true:=by kernel_rfl
theorem qT:((wB.named==Y.varsNamed 4))=true:=by kernel_rfl
theorem qU:((wB.maps==(Tryz.f4.params.toList++wZ.plain.varTypes Y).any (Y.mapsRec ·)))=true:=by kernel_rfl
theorem qV:((wB.ifaces==(Tryz.f4.params.toList++wZ.plain.varTypes Y).any (Y.ifacesRec ·)))=true:=by kernel_rfl
theorem qW:((wB.mapsOut==Y.mapsAmong Tryz.f4.resultTypes.toList))=true:=by kernel_rfl
theorem qX:((wB.loops==(Tryz.f4.params.toList++wZ.plain.varTypes Y).any (Y.loopsFrom ·)))=true:=by kernel_rfl
theorem qY:((wB.wideKeys==(Tryz.f4.params.toList++wZ.plain.varTypes Y++Tryz.f4.resultTypes.toList).any (Y.wideKeysFrom ·)))=true:=by kernel_rfl
theorem qZ:(wZ.vars.all (Y.varReadable ·))=true:=by kernel_rfl
theorem rF:(Tryz.f4.resultTypes.all fun t=>Y.readableRec t&&decide (t<Y.types.size))=true:=by kernel_rfl
theorem rH:((wB.ifacesOut==Tryz.f4.resultTypes.toList.any (Y.ifacesRec ·)))=true:=by kernel_rfl
theorem rI:((wB.loopsOut==Tryz.f4.resultTypes.toList.any (Y.loopsFrom ·)))=true:=by kernel_rfl
theorem rJ:((wB.plainKeys==Y.plainKeys))=true:=by kernel_rfl
theorem rK:(wB.shortTexts.isNone)=true:=by kernel_rfl
theorem rM:(Y.stopsHeard)=true:=by kernel_rfl
theorem rN:(Y.mayEnter)=true:=by kernel_rfl
theorem rO:((wB.lifted==Y.liftsFinal))=true:=by kernel_rfl
theorem rP:((Y.make==S wB.make))=true:=by kernel_rfl
theorem rQ:((wB.kinds==(if wB.domain.isEmpty then[]else Tryz.f4.params.toList.map fun t=>match Y.underlying t with|some (.int k)=>S k|_=>N)))=true:=by kernel_rfl
theorem rR:((wB.pinned==wB.pinnedBy))=true:=by kernel_rfl
theorem rS:((wB.veiled==(Tryz.f4.params.toList++wZ.plain.varTypes Y++Tryz.f4.resultTypes.toList).any (Y.veiledRec ·)))=true:=by kernel_rfl
theorem rT:(wB.veiledFits Y Tryz.f4.params.toList (Tryz.f4.params.toList++wZ.plain.varTypes Y++Tryz.f4.resultTypes.toList))=true:=by kernel_rfl
theorem facts:joinedFacts Tryz.prog 4 Tryz.f4 wZ wB=true:=(aL (aL (aL (aL (aL (aL (aL (aL (aL (aL (aL (aL (aL (aL (aL (aL (aL (aL (aL (aL (aL (aL (aL (aL (aL (aL (aL (aL (aL (aL (aL j1 j2) j3) j4) j5) j6) j7) j8) j9) qO) qP) qQ) qT) qU) qV) qW) qX) qY) qZ) rF) rH) rI) rJ) rK) rM) rN) rO) rP) rQ) rR) rS) rT)
theorem t1:Y.funcNamed wB.func=S 4:=by kernel_rfl
theorem t3:Tryz.f4.isInstance Tryz.prog wB.origin wB.targs:=(of_decide_eq_true (by kernel_rfl))
theorem t4:Tryz.f4.isWrapper Tryz.prog wB.wrapper wB.mainSum:=(by unfold Func.isWrapper;first|(rw[Fp (by decide+kernel)];kernel_rfl)|(rw[Fn (by decide+kernel)];exact⟨rfl,rfl⟩))
theorem rU (v:Os) (f:v.Started) (H:Type) (enc:TypeId×Na→H):ReturnsInHanded {} Tryz.checked v 4 .any (wZ.pre6 enc Tryz.prog Tryz.f4 wB.domain false) (wZ.post enc Tryz.prog Tryz.f4 false true false false):=by
 refine returnsInHanded_of_change (C:=Tryz.checked) own f (by kernel_rfl) func4 (ChangeSpec.witness6 (enc:=enc) (C:=Tryz.checked) false ⟨#[],#[.agg #[.int .i64 0,.int .i64 0,.int .i64 0,.int .i64 0,.int .i64 0,.int .i64 0,.int .i64 0,.int .i64 0,.int .i64 0,.int .i64 0,.int .i64 0,.int .i64 0,.int .i64 0,.int .i64 0,.int .i64 0,.bool false],.slice N 0 0,.agg zeroCells45],[]⟩ 8 (by kernel_rfl) (by kernel_rfl) (by kernel_rfl) (by kernel_rfl)) ?_;intro W base a M gs j d g L _;have c:∀(h:Nat) t i,Tryz.f4.params[h]?=S t→a[h]?=S i→Na.okWide Tryz.prog W .any base t i:=d;have k:=g;obtain⟨bb,bv,h,P,rfl,aa,ab⟩:=g;have w:DataW.TrodAll enc Tryz.prog W 0 (fun _=>true) true Tryz.f4.params.toList a.toList M bb:=h;rw[Tryz.params4]at w c;obtain⟨x,ad,d0,ae,Q,q0,y,rfl,rfl,z,R⟩:=trodAll_cons w;obtain⟨A,an,d1,ar,T,q1,rfl,rfl,rfl,B,U⟩:=trodAll_cons R;obtain⟨D,av,d2,ba,V,q2,rfl,rfl,rfl,F,X⟩:=trodAll_cons U;obtain⟨rfl,rfl,rfl⟩:=trodAll_nil X;obtain rfl:a=#[x,A,D]:=by cases a;simp_all
 obtain⟨rfl,rfl⟩:=trodVars_none P;have G:=z;have l:∀i∈Q,i.block<W.heap.size:=by obtain⟨m,g⟩:=G;exact DataW.trod_lt m _ _ _ g
 have J:=B;have n:∀i∈T,i.block<W.heap.size:=by obtain⟨m,g⟩:=J;exact DataW.trod_lt m _ _ _ g
 have K:=F;have o:∀i∈V,i.block<W.heap.size:=by obtain⟨m,g⟩:=K;exact DataW.trod_lt m _ _ _ g
 obtain⟨bd,s,b,bm,bn,p,q,m,rl,re,pl,pe,i,hv,lg,bk,rfl⟩:=yX (c 0 31 x rfl rfl) z;obtain⟨br,r,u,xs,rfl,hl,hs,ha⟩:=yY (c 1 32 A rfl rfl) B;obtain⟨bs,rfl,hz⟩:=Kl (c 2 45 D rfl rfl) F;clear h d;refine(qN bd s b bm bn p q m rl re pl pe i hv lg bk br r u xs bs hl hs hz W ha).mono fun e W' ⟨d,bel⟩=>?_;subst d;exact⟨_,rfl,_,_,_,[],_,[],k,trodAll_mk1 (shut_bool underlying4 _),(trodAll_cons_mk (Nc.trod mL (by kernel_rfl) (of_decide_eq_true (by kernel_rfl)) G bel l) (trodAll_cons_mk (Nc.trod mL (by kernel_rfl) (of_decide_eq_true (by kernel_rfl)) J bel n) (trodAll_cons_mk (Nc.trod mL (by kernel_rfl) (of_decide_eq_true (by kernel_rfl)) K bel o) trodAll_mk0))),rfl,bel.frame _,fun d=>by cases d⟩
theorem rX:wB.holds Tryz.pinned (OpenSpec.ofChange wZ):=OpenClaim.holds_of_wide 4 Tryz.f4 rfl rfl rfl rfl rfl rfl rfl ⟨rfl,rfl,rfl,rfl,rfl⟩ rfl rfl rfl rfl rfl t1 func4 facts t3 t4 fun b a H enc _=>rU b a H enc
theorem proved:Rows.WholeCuredSaid:=rX
end law4
end
end Go.Proofs.YtlbgenenpheheaaGreat
