/- WholeTicks of the program cuirasstop holds for all arguments, as the given statement says; no further condition -/
import Derived.Test.YtlbgenenpheheaaGreatB7
import Derived.Test.YtlbgenenpheheaaGreatRows
set_option linter.unusedVariables false
set_option linter.unusedSimpArgs false
set_option maxHeartbeats 100000000
set_option maxRecDepth 100000
namespace Go.Proofs.YtlbgenenpheheaaGreat
open Go.Value renaming int→I
open Go.IntKind renaming i64→Z
open Go.Obj renaming cells→O
open Go.Ending renaming returned→E
open _root_.Go.Proofs.YtlbgenenpheheaaGreat.Rows renaming wholeTicksRow→wB,wholeTicksSpec→wZ
open _root_.Go.Proofs.Tryz renaming prog→Y
open _root_.Go.Proofs.Tryz
open _root_.Array renaming length_toList→Ot
open Go renaming World→Mz,Value→Na,Calls→Nb,undef→Nd,wpQuiet_step→Nh,wpQuiet_nil→Ni
open Go.RowKit renaming Below→Nc
open _root_.List renaming getD→Nf,getElem?_eq_getElem→Nu,length_map→Nw,length_append→Ny,getElem?_eq_some_iff→Ol,getElem?_map→Om
open _root_.Nat renaming lt_of_lt_of_le→Nr,zero_le→Nz
open _root_.Option renaming some→S,none→N
variable {W W' w:World} {X:Array Value} {a b l:Int} {i k n:Nat} {s:CtSt} {v:Value} {y:cQ}
section
open Go.RowKit Go.Shelf lin
theorem eA.ix_at (ok:eA s) (a:s.ld.c.has l):eC s.ld.c.r s.ld.c.s s.ld.c.b s.ld.c.d s.ld.c.c (s.ix l)=true:=by have h:=ok.rp.at ((ok.has l).2 a);have e:s.ld.rp.route l=s.ix l:=ok.ixr a;unfold aW.route at e h;obtain⟨b,c,d,f,g,_⟩:=ok.geo;rw[e,b,c,d,f,g]at h;exact h
theorem NR {x:aY} (b:lE x) (ok:cO (MSt.new x).ct):gV (MSt.new x).idl (MSt.new x).ct:=by
 have g:=wV b;have c:(MSt.new x).ct.ld.c=x:=by show(CtSt.wipe x 4096).ld.c=x;rw[g.ld];rfl
 intro l d;have a:=ok.rt.ix_at d;rw[c]at a ⊢;obtain⟨e,f,h⟩:=g.gh _ a;exact⟨e,by show(CtSt.wipe x 4096).dv.mark _≠1;rw[f];decide⟩
end
section
open Go.RowKit Go.Shelf lin
attribute [local go_sem] Oper.semAt_some cK Mh
attribute [local simp] Mf Mg
theorem Jb:max a b≤1↔a≤1∧b≤1:=by omega
theorem YX:∀(l:List dP) (p:Int×Bool),((l.foldl yU p).2=false∧(l.foldl yU p).1≤1)↔(p.2=false∧p.1≤1∧∀e∈l,NM e)
 |[],p=>by simp
 |e::l,p=>by
  rw[List.foldl_cons,YX l];unfold yU vE NM;simp only[List.mem_cons,forall_eq_or_imp];cases f:e.ast
  ·simp only[Bool.or_false,Bool.false_eq_true,if_false,Jb,true_and]
   constructor
   ·rintro⟨a,⟨b,c⟩,d⟩;exact⟨a,b,c,d⟩
   ·rintro⟨a,b,c,d⟩;exact⟨a,⟨b,c⟩,d⟩
  ·simp
theorem Je (d:cF):iZ d↔(lK d.accs).2=false∧(lK d.accs).1≤1:=by unfold lK;rw[YX];simp[iZ]
theorem O6 (d:cF):sR d=true↔iZ d:=by rw[Je];unfold sR;simp
end
section
open Go.RowKit Go.Shelf lin
attribute [local go_sem] Oper.semAt_some cK Mh
attribute [local simp] Mf Mg Ml Mu
def kR (l:List aN):List (List Na):=l.map fun a=>a.vals.toList
structure mH (w0:Mz) (col:Nat→Nat) (v:Na) (l:List aN) (W:Mz):Prop where
 s:bP 48 66 v (kR l) W
 o:∀g,v.ownBlock=S g→col g=0∧w0.heap.size<g
theorem mH.nil (w0:Mz) (col:Nat→Nat) (W:Mz):mH w0 col (.slice N 0 0) [] W:=⟨bP.nil 48 66 W,fun b a=>by cases a⟩
theorem mH.keeps {w0:Mz} {col:Nat→Nat} {l:List aN} (b:mH w0 col v l W) (a:aC W W'):mH w0 col v l W':=⟨b.s.keeps a,b.o⟩
theorem mH.stq {w0:Mz} {col a:Nat→Nat} {l:List aN} (e:mH w0 col v l W) (c:aS KM col W a W'):mH w0 a v l W':=⟨e.s.chg c.chg fun d b=>by rw[(e.o d b).1];exact jU,fun d b=>⟨(c.old d (e.s.lt d b)).trans (e.o d b).1,(e.o d b).2⟩⟩
theorem mH.slice {w0:Mz} {col:Nat→Nat} {l:List aN} (c:mH w0 col v l W):∃b a,v=.slice b l.length a:=by obtain⟨b,a,rfl⟩:=c.s.slice;exact⟨b,a,by unfold kR;rw[Nw]⟩
theorem dW.grown {col:Nat→Nat} {s:MSt} {a:Option Nat} (g:dW w X y col s n W) (c:W.grownBy W' a) (d:∀f,a=S f→col f=0∧w.heap.size<f):dW w X y col s n W':=by have h:aF (fun b=>a=S b) W W':=(aF.refl _ W).grown c fun i f=>.inl f;exact⟨⟨g.m.m.chg h fun b f=>by rw[(d b f).1];exact jU,g.m.ok,g.m.ex,g.m.z,sI g.m.k c fun i f=>by have:=(d i f).2;omega⟩,eS c g.c.1 (fun e=>by have:=(d _ e.symm).2;omega),g.c.2⟩
theorem mH.push {col:Nat→Nat} {s:MSt} {b:Mz} {v':Na} {l:List aN} {a:aN} (m:mH w col v l W) (f:dW w X y col s n W) (h:a.l.length=64) (g:aC W W') (i:W'.grownBy b v.ownBlock) (c:l.length=k) (j:b.ownsRow 0 48 66 v' (k+1) ((kR l).flatten++a.vals.toList)) (d:v'.ownBlock=v.ownBlock∨v'.ownBlock=S W'.heap.size):mH w col v' (l++[a]) b∧dW w X y col s n b:=by
 subst c;refine⟨⟨?_,fun o c=>?_⟩,(f.keeps g).grown i m.o⟩
 ·unfold kR
  rw[List.map_append];refine bP.push (W:=W) m.s ?_ ?_
  ·rw[Ot,aN.size h]
  ·rw[Nw];exact j
 ·rcases d with e|e
  ·exact m.o o (e▸c)
  ·rw[e]at c;have c:=Option.some.inj c;have p:=g.size;have q:=aB f.c.1;exact⟨f.m.m.top o (by omega),by omega⟩
theorem Did.len {s b:MSt} {x:Sp} {a:aN} (c:Did s x a b) (ok:dZ s):a.l.length=64:=by
 cases c with
 |rd c d e f=>exact uV (ok.ct.dv.dr.read_len _) _
 |_=>rfl
end
section
open Go.RowKit Go.Shelf lin
structure Tk (w:Mz) (X:Array Na) (ya:cQ) (ca:Nat→Nat) (sa:MSt) (yb:cQ) (cb:Nat→Nat) (sb:MSt) (n:Nat) (vx:Na) (lx:List aN) (vy:Na) (ly:List aN) (W:Mz):Prop where
 a:dW w X ya ca sa n W
 b:dW w X yb cb sb n W
 d:∀i,KM (ca i)→KM (cb i)→False
 x:bP 48 66 vx (kR lx) W
 y:bP 48 66 vy (kR ly) W
 xo:∀g,vx.ownBlock=S g→ca g=0∧cb g=0∧w.heap.size<g
 yo:∀g,vy.ownBlock=S g→ca g=0∧cb g=0∧w.heap.size<g
 xy:∀g,vx.ownBlock=S g→vy.ownBlock=S g→False
section
variable {w:World} {X:Array Value} {ya yb:cQ} {ca cb:Nat→Nat} {sa sb:MSt} {n:Nat} {vx vy:Value} {lx ly:List aN} {W W':World}
theorem Tk.swap (b:Tk w X ya ca sa yb cb sb n vx lx vy ly W):Tk w X yb cb sb ya ca sa n vy ly vx lx W:=⟨b.b,b.a,fun f c d=>b.d f d c,b.y,b.x,fun e a=>⟨(b.yo e a).2.1,(b.yo e a).1,(b.yo e a).2.2⟩,fun e a=>⟨(b.xo e a).2.1,(b.xo e a).1,(b.xo e a).2.2⟩,fun e c d=>b.xy e d c⟩
theorem Tk.keeps (b:Tk w X ya ca sa yb cb sb n vx lx vy ly W) (a:aC W W'):Tk w X ya ca sa yb cb sb n vx lx vy ly W':=⟨b.a.keeps a,b.b.keeps a,b.d,b.x.keeps a,b.y.keeps a,b.xo,b.yo,b.xy⟩
theorem Tk.up {n':Nat} (a:Tk w X ya ca sa yb cb sb n vx lx vy ly W) (b:n≤n'):Tk w X ya ca sa yb cb sb n' vx lx vy ly W:=⟨a.a.up b,a.b.up b,a.d,a.x,a.y,a.xo,a.yo,a.xy⟩
theorem dW.other {col a:Nat→Nat} (c:dW w X yb cb sb n W) (b:aS KM col W a W') (d:∀i,KM (col i)→KM (cb i)→False) (e:aC w W') (f:col w.heap.size=0):dW w X yb cb sb n W':=⟨⟨c.m.m.chg b.chg fun i g h=>d i g h,c.m.ok,c.m.ex,c.m.z,e⟩,b.at c.c.1 (by rw[f];exact jU),c.c.2⟩
def Kt (w:Mz) (X:Array Na) (ya:cQ) (sa:MSt) (yb:cQ) (cb:Nat→Nat) (sb:MSt) (n:Nat) (vx:Na) (lx:List aN) (vy:Na) (ly:List aN) (z:Sp) (ca:Nat→Nat) (W:Mz) (e:Ending) (W':Mz):Prop:=∃p ca' sa',e=E (.agg p.vals)∧(z.k≤3→kP p)∧Tk w X ya ca' sa' yb cb sb (n+5) vx lx vy ly W'∧Did sa z p sa'∧∀b o,W.heap[b]?=S o→ca b=0→W'.heap[b]?=S o∧ca' b=0
theorem Tk.doA (d:Tk w X ya ca sa yb cb sb n vx lx vy ly W) (l:n+5<bY) {z:Sp} (m:dJ z):Nb Y 11 #[ya.ar,.agg z.vals] W (Kt w X ya sa yb cb sb n vx lx vy ly z ca W):=by
 refine(d.a.do l m).mono ?_;rintro e W' ⟨r,h,i,rfl,o,j,p,c⟩;refine⟨r,h,i,rfl,o,⟨j,(d.b.other c d.d j.m.k d.a.c.2).up (by omega),fun q k g=>?_,d.x.chg c.chg fun f a=>by rw[(d.xo f a).1];exact jU,d.y.chg c.chg fun f a=>by rw[(d.yo f a).1];exact jU,fun f a=>⟨(c.old f (d.x.lt f a)).trans (d.xo f a).1,(d.xo f a).2⟩,fun f a=>⟨(c.old f (d.y.lt f a)).trans (d.yo f a).1,(d.yo f a).2⟩,d.xy⟩,p,fun b s a f=>⟨c.at a (by rw[f];exact jU),(c.old b (aB a)).trans f⟩⟩;by_cases a:q<W.heap.size
 ·rw[c.old q a]at k;exact d.d q k g
 ·rw[d.b.m.m.top q (by omega)]at g;exact jU g
theorem Tk.pushX (i:Tk w X ya ca sa yb cb sb n vx lx vy ly W) {p:aN} (l:p.l.length=64) {k:Nat} (a:lx.length=k) {f g:Mz} (m:aC W f) {v':Na} (h:f.grownBy g vx.ownBlock) (o:g.ownsRow 0 48 66 v' (k+1) ((kR lx).flatten++p.vals.toList)) (c:v'.ownBlock=vx.ownBlock∨v'.ownBlock=S f.heap.size):Tk w X ya ca sa yb cb sb n v' (lx++[p]) vy ly g:=by
 subst a;have a:=i.keeps m;have r:=aB a.a.c.1;refine⟨a.a.grown h fun d e=>⟨(i.xo d e).1,(i.xo d e).2.2⟩,a.b.grown h fun d e=>(i.xo d e).2,i.d,?_,?_,fun d b=>?_,i.yo,fun d b j=>?_⟩
 ·unfold kR
  rw[List.map_append];refine bP.push (W:=f) a.x ?_ ?_
  ·rw[Ot,aN.size l]
  ·rw[Nw];exact o
 ·exact a.y.same fun d e=>h.block d (a.y.lt d e) fun q=>i.xy d q.symm e
 ·rcases c with e|e
  ·exact i.xo d (e▸b)
  ·rw[e]at b;have b:=Option.some.inj b;exact⟨a.a.m.m.top d (by omega),a.b.m.m.top d (by omega),by omega⟩
 ·rcases c with e|e
  ·exact i.xy d (e▸b) j
  ·rw[e]at b;have b:=Option.some.inj b;have:=a.y.lt d j;omega
end
structure TI (x:aY) (sa sb:MSt) (lx ly E:List aN):Prop where
 ca:sa.ct.ld.c=x
 cb:sb.ct.ld.c=x
 g:sa.idl=sb.idl
 A:iZ sa.ct.dv→gV sa.idl sa.ct∧lx=E
 B:iZ sb.ct.dv→gV sb.idl sb.ct∧ly=E
 nx:lx.length=E.length
 ny:ly.length=E.length
 ix:∀a∈lx,kP a
 iy:∀a∈ly,kP a
theorem dJ.spok' {x:Sp} (a:dJ x):wT x:=⟨a.dl,a.db,a.ms,a.ln⟩
theorem TI.one {x:aY} {sa sb a:MSt} {lx ly E:List aN} {z:Sp} {p:aN} (e:TI x sa sb lx ly E) (c:dZ sa) (g:dJ z) (d:Did sa z p a) (i:4≤z.k):TI x a sb lx ly E:=by
 have h:a.idl=sa.idl:=by rw[d.idl];unfold wU;rw[Fn (by rintro⟨_,b,_⟩;omega)]
 refine⟨(d.c c.ct).trans e.ca,e.cb,h.trans e.g,fun f=>?_,e.B,e.nx,e.ny,e.ix,e.iy⟩;have b:=e.A (f.of (d.grw c.ct));exact⟨(d.calm c g.spok' b.1 f).1,b.2⟩
theorem TI.both {x:aY} {sa sb b c:MSt} {lx ly E:List aN} {z:Sp} {p q:aN} (f:TI x sa sb lx ly E) (g:dZ sa) (h:dZ sb) (k:dJ z) (d:Did sa z p b) (e:Did sb z q c):TI x b c lx ly E∧(z.k≤3→kP p→kP q→TI x b c (lx++[p]) (ly++[q]) (E++[rep x sa.idl z])):=by
 have l:=(d.c g.ct).trans f.ca;have n:=(e.c h.ct).trans f.cb;have o:b.idl=c.idl:=by rw[d.idl,e.idl,f.ca,f.cb,f.g]
 have u:=fun a=>f.A ((show iZ b.ct.dv from a).of (d.grw g.ct));have B:=fun a=>f.B ((show iZ c.ct.dv from a).of (e.grw h.ct));have i:=fun a=>d.calm g k.spok' (u a).1 a;have j:=fun a=>e.calm h k.spok' (B a).1 a;refine⟨⟨l,n,o,fun a=>⟨(i a).1,(u a).2⟩,fun a=>⟨(j a).1,(B a).2⟩,f.nx,f.ny,f.ix,f.iy⟩,fun r s t=>⟨l,n,o,fun a=>⟨(i a).1,?_⟩,fun a=>⟨(j a).1,?_⟩,?_,?_,fun v m=>?_,fun v m=>?_⟩⟩
 ·rw[(u a).2,(i a).2 r,f.ca]
 ·rw[(B a).2,(j a).2 r,f.cb,f.g]
 ·rw[Ny,Ny,f.nx];rfl
 ·rw[Ny,Ny,f.ny];rfl
 ·rcases List.mem_append.1 m with m|m
  ·exact f.ix v m
  ·rw[List.mem_singleton.1 m];exact s
 ·rcases List.mem_append.1 m with m|m
  ·exact f.iy v m
  ·rw[List.mem_singleton.1 m];exact t
theorem TI.new {x:aY} (a:x.small=true) (ok:cO (MSt.new x).ct):TI x (MSt.new x) (MSt.new x) [] [] []:=⟨vH a,vH a,rfl,fun _=>⟨NR (aY.small_ok a) ok,rfl⟩,fun _=>⟨NR (aY.small_ok a) ok,rfl⟩,rfl,rfl,fun c b=>(List.not_mem_nil b).elim,fun c b=>(List.not_mem_nil b).elim⟩
end
section
open Go.RowKit Go.Shelf lin
attribute [local go_sem] Oper.semAt_some cK Mh
attribute [local simp] Mf Mg Ml Mu
def vI:aN:=⟨0,0,ln0⟩
theorem ZH {l:List aN} (r:bP 48 66 v (kR l) W) (f:∀a∈l,kP a) (c:l.length=n) (b:i<n):∃k a,v=.slice (S ⟨k,0,N⟩) n a∧k<W.heap.size∧∀W',aC W W'→(Mc ⟨k,i*66,N⟩ 0 66 #[]).run Y W'=.ok (l.getD i vI).vals W':=by
 subst c;have c:(kR l).length=l.length:=by unfold kR;rw[Nw]
 have d:(kR l).getD i []=(l.getD i vI).vals.toList:=by unfold kR;rw[Nf,Nf,Om,Nu b];rfl
 have g:(l.getD i vI).vals.toList.length=66:=by rw[Ot];refine aN.size ?_;rw[Nf,Nu b];exact(f _ (List.getElem_mem b)).ll
 rcases r.cases with⟨_,m⟩|⟨k,a,e,h,_,_,o⟩
 ·rw[m]at c;simp at c;omega
 ·refine⟨k,a,by rw[e,c],h,fun W' p=>?_⟩
  have:=lL (P:=Y) W' k (i*66) (l.getD i vI).vals.toList (fun t s j=>by
   have q:t<66:=by have:=(Ol.1 j).1;omega
   rw[p.cells.1 k _ h,show i*66+t=66*i+t by omega]
   exact o i t s (by rw[c];exact b) q (by rw[d];exact j))
  rw[g,Array.toArray_toList]at this;exact this
def Ku (x:aY) (w1:Mz) (u5 u6:Na) (wx:Mz):Prop:=∃(ya:cQ) (ca:Nat→Nat) (yb:cQ) (cb:Nat→Nat) (wa wa':Mz),u5=ya.ar∧u6=yb.ar∧dL ya ca (MSt.new x) 4096 wa∧aC w1 wa∧(∀b,b<w1.heap.size→ca b=0)∧aC wa wa'∧dL yb cb (MSt.new x) 4096 wx∧aC wa' wx∧(∀b,b<wa'.heap.size→cb b=0)∧cO (MSt.new x).ct
theorem Kv (i:X.size=16) (b:∀W,Nb Y 10 #[.agg X] W fun e c=>e=E (.pointer N)∧Nc W.heap.size W c) (a:Option Addr) (g cap:Nat) (w:Mz):Nb Y 3 #[.agg X,.slice a g cap] w fun e c=>e=E (.bool true)∧Nc w.heap.size w c:=by
 have⟨o,d⟩:=Ex (w.alloc (O X 31));have h:aC w o:=by rw[d];exact aU
 have f:o.heap[w.heap.size]?=S (O X 31):=by rw[d];exact aG _ _ _ rfl
 have j:=aA b;have k:=aA fun W (c:aC o W)=>Lw (aE c f) 16 i;have l:=aA h;have s:=aB f;have m:=aA (pO o);clear h f b;go_in;go_upto_region 1 with fail;rw[←d];clear d;go_wp2_with fail;refine m.out.mono ?_;rintro e f ⟨rfl,b⟩;have n:=aA (aK l.out b);have p:w.heap.size<f.heap.size:=by have:=b.size;omega
 have d:=aA fun W (c:aC f W)=>k.out W (aK b c);clear b;go_wp2_with fail;refine bS (by kernel_rfl) (by kernel_rfl) ?_
 repeat
  with_reducible refine Nh fun K h=>?_
  go_simp
  try first
   |(apply Ei
     intro c b;obtain⟨q,r⟩:=b.cells;have t:=d.out _ b;go_simp
     first
      |(go_at_call 10;with_reducible exact b.call (j.out c))
      |rfl)
   |(with_reducible refine aQ ?_ ?_;first|decide|simp[Nd];done)
  refine h _ ?_;clear h K
 with_reducible refine Ni ?_
 intro W c;have b:=aA (aK n.out c);clear c;go_wp2_with fail;go_ret;exact⟨rfl,b.out⟩
theorem Kw {x:aY} (hx:x.small=true) (a:Option Addr) (d cap:Nat) (xs:Nat→Sp) (hs:∀t,dJ (xs t)) (w:Mz) (ha:mG a d xs w) (c:d≤maxLen):Nb Y 3 #[.agg x.vals,.slice a d cap] w fun e g=>e=.returned (.bool true)∧Nc w.heap.size w g:=by
 have⟨X,f⟩:=Ey x.vals;have cc:X.size=16:=by rw[←f];rfl
 have g:=aA fun W=>wY hx W;rw[f]at g ⊢;have dl:=aA f;clear f;have⟨dn,h⟩:=Ex (w.alloc (O X 31));have j:aC w dn:=by rw[h];exact aU
 have i:dn.heap[w.heap.size]?=S (O X 31):=by rw[h];exact aG _ _ _ rfl
 have A:=aA fun W (f:aC dn W)=>Lw (aE f i) 16 cc;have u:=aH j i;have hz:=aB i;have HA:=aA (pO dn);have ds:(d:Int)≤9223372036854775807:=by unfold maxLen at c;omega
 clear j i c;go_in;go_upto_region 1 with fail;rw[←h];clear h;go_wp2_with fail;refine HA.out.mono ?_;rintro e F ⟨rfl,c⟩;have K1:=aA (aK u.out.1 c);have i:w.heap.size<F.heap.size:=by have:=c.size;omega
 have v:=aA (aE c u.out.2);have h:=aA fun W (f:aC F W)=>A.out W (aK c f);clear c;go_upto_region 3 with fail;have G:=h.out F (K.refl F);have z:=h.out F.drew (Kd (K.refl F));go_cut [5,6] from 16 to 19 fun c f j=>Ku x F c f j
 case first=>
  go_region_with (first|(go_at_call 10;refine(g.out F.drew).mono ?_;rintro e c ⟨J,n,rfl,t,ok,f,y⟩;have s:=h.out c (aK (Kd (K.refl F)) f);unfold cQ.ar)|(go_at_call 10;refine(g.out c).mono ?_;rintro e H ⟨C,j,rfl,o,D,q,r⟩;unfold cQ.ar))
  all_goals go_wp2_with fail;go_meet;exact⟨J,n,C,j,c,c,rfl,rfl,t,aK (Kd (K.refl F)) f,y,K.refl c,o,q,r,ok⟩
 case rest=>
  obtain⟨ya,ca,yb,cb,wa,dz,rfl,rfl,f,n,o,c,q,y,j,ok⟩:=hcut;have r:=(dW.new hx K1.out v.out f ok n o).keeps (aK c y);have s:=dW.new hx (aK K1.out (aK n c)) (aE (aK n c) v.out) q ok y j
  have HT:Hid (Tk w X ya ca (MSt.new x) yb cb (MSt.new x) 4096 (.slice N 0 0) [] (.slice N 0 0) [] wc):=aA ⟨r,s,fun t C D=>(by
   by_cases M:t<wa.heap.size
   ·rw[j t (by have:=c.size;omega)]at D;exact jU D
   ·rw[f.top t (by omega)]at C;exact jU C),bP.nil 48 66 _,bP.nil 48 66 _,fun H e=>(by cases e),fun H e=>(by cases e),fun H e=>(by cases e)⟩
  have HI:=aA (TI.new hx ok);clear f n o c q y j r s G z g u A h HA v;unfold cQ.ar;by_cases dd:d≤80
  ·have bw:¬(d:Int)>80:=by omega
   go_wp2_with fail;obtain⟨i0,ad,ae,i,br⟩:=info_parts GK;go_loopw [7,8,33] (fun f g c wr=>∃(k m v:Nat) (a7:Option Addr) (c7:Nat) (a8:Option Addr) (c8:Nat) (ca:Nat→Nat) (sa:MSt) (cb:Nat→Nat) (sb:MSt) (lx ly E:List aN),k≤d∧c=I Z k∧f=.slice a7 m c7∧g=.slice a8 v c8∧lx.length=m∧ly.length=v∧m≤k∧v≤k∧Tk w X ya ca sa yb cb sb (4096+10*k) (.slice a7 m c7) lx (.slice a8 v c8) ly wr∧TI x sa sb lx ly E) fun _ _ c _=>d-(intOf c).toNat
   case atStart=>exact⟨0,0,0,N,0,N,0,ca,MSt.new x,cb,MSt.new x,[],[],[],Nz _,rfl,rfl,rfl,rfl,rfl,Nl,Nl,HT.out,HI.out⟩
   case round=>
    obtain⟨k,m,v,a7,c7,a8,c8,ca,sa,cb,sb,lx,ly,E,hk,rfl,rfl,rfl,hm,an,ea,dg,hT,hI⟩:=hrel;have c:=aH hT hI;have n:=aH hm an;by_cases cd:k<d
    ·obtain⟨b,eb,rfl,ec,LX⟩:=ha.load hs hT.a.m.k cd
     have y:=aA fun W (f:aC wr W)=>(hT.keeps f).doA (by unfold bY;omega) (hs k);have r:=Sp.size (hs k).dl;have ar:=Sp.one (xs k);have s:=Sp.c0 (xs k);have A:=aA (hs k);unfold cQ.ar at y;obtain⟨el,hS⟩:=Ey (xs k);rw[hS]at y LX r ar A s;have⟨ek,hV⟩:=Ey el.vals;rw[hV]at y LX r ar s;have HV:=aA hV;have⟨o,aa⟩:=Ey el.k;rw[aa]at s;have HK:=aA aa;have SP:=Mi (P:=Y) wr 45 zeroCells45 ek (by rw[r];kernel_rfl) (by rw[r];rfl) ar;have ed:(k:Int)<d:=by omega
     clear hT hI hV hS aa HT HI hm an;go_upto_region 10 with fail;have⟨W1,z⟩:=Ex (wr.alloc (O ek 45));rw[←z];have k1:aC wr W1:=by rw[z];exact Ka (K.refl wr)
     have b1:W1.heap[wr.heap.size]?=S (O ek 45):=by rw[z];exact aG _ _ _ rfl
     have LV:=Lw b1 75 r;have HD:=aA (y.out W1 k1);have cf:=aA b1;have zV:=aB b1;clear z k1 b1 y SP LX;go_wp2_with fail;refine HD.out.mono ?_;rintro e W2 ⟨p,av,ba,rfl,hp,bb,hd,bs⟩;obtain⟨b2,_⟩:=bs _ _ cf.out (c.out.1.a.m.m.top _ Nl);have ab:=hd.len c.out.1.a.m.ok;have C:p.vals.size=66:=aN.size ab;have f:=aN.one p;have T:=eP bb hd hp ab b2;have⟨bz,R⟩:=Ey p.vals;rw[R]at C f ⊢;have HA:=aA R;have SQ:=Mi (P:=Y) W2 48 zeroCells48 bz (by rw[C];kernel_rfl) (by rw[C];rfl) f;have ee:=aB b2;clear R bb hd bs hp ab b2 HD LV;go_upto_region 11 with fail;have⟨U,G⟩:=Ex (W2.alloc (O bz 48));rw[←G];have k3:aC W2 U:=by rw[G];exact Ka (K.refl W2)
     have b3:U.heap[W2.heap.size]?=S (O bz 48):=by rw[G];exact aG _ _ _ rfl
     have LA:=Lw b3 66 C;have L:=aE k3 T.out.2.2.2.2;have bv:=Cw L 0;rw[s]at bv;have ck:=aB L;have ef:=aB b3;have P3:=Hd3 k3 L (T.out.1.keeps k3);clear G k3 b3 L SQ;by_cases h3:o≤3
     ·have n4:(o==4)=false:=by simp;omega
      have n5:(o==5)=false:=by simp;omega
      have n6:(o==6)=false:=by simp;omega
      have n7:(o==7)=false:=by simp;omega
      have R:=P3.out.2.2.x.own;have cl:(kR lx).length=m:=by unfold kR;rw[Nw];exact n.out.1
      rw[cl]at R;have bu0:∀l,Hid (l=[(0,.agg bz)])→∀W,(Instr.buildSlice 36 1 l.toArray).run Y W=.ok (.slice (S ⟨W.heap.size,0,N⟩) 1 1) (W.alloc (O bz 48)):=fun l j W=>by rw[j.out];exact GD underlying36 ad ae (by rw[i];decide) (by rw[i];decide) (by rw[i];exact C) W
      simp[go_sem]at bu0;have LB:=aA (bu0 _ (aA rfl));clear bu0;have cm:=LB.out U;have cn:bz.toList.length=66:=by simpa using C
      go_upto_region 12 with fail;go_upto_region 13 with(at_builtin;refine wpList_append_own_at _ rfl _ _ 36 rfl 0 48 i0 _ 66 80 underlying36 ad ae i br (by kernel_rfl) (by decide) _ _ _ rfl (Mz.ownsRow.alloc R _) ⟨U.heap.size,0,N⟩ 1 1 bz.toList rfl (by rw[cn]) (Mz.news_of_block (heap_alloc_new U _)) (by rw[Array.all_eq_true']at f;simpa using f) (by unfold maxLen;omega) (by omega) (Nz _) ?_;intro v' w6 y G _ an;obtain⟨a6,c6,rfl⟩:=own_slice y;have H6:=Hd3 y G an;clear y G an);have bb:=Tk.pushX (k:=m) (p:=p) T.out.1 T.out.2.2.2.1 n.out.1 (aK P3.out.1 (K.alloc (K.refl U) (O bz 48))) H6.out.2.1 (by rw[HA.out];exact H6.out.1) H6.out.2.2;have b6:=eS H6.out.2.1 ((aV U (O bz 48) _ ck).trans P3.out.2.1) (fun e=>by have:=c.out.1.x.lt _ e.symm;omega);have bs:=Cw b6 0;rw[s]at bs;have L6:=Lw b6 75 r;have z6:=aB b6;have P6:=aH bb b6;have j:=aA (bb.swap.doA (by unfold bY;omega) A.out);rw[HV.out]at j;unfold cQ.ar at j;clear bb b6 cm LA bv R H6;go_wp2_with fail;refine j.out.mono ?_;rintro e H ⟨db,bd,bm,rfl,hq,M,t,q⟩;obtain⟨b7,_⟩:=q _ _ P6.out.2 (c.out.1.b.m.m.top _ Nl);have D:=t.len c.out.1.b.m.ok;have h:db.vals.size=66:=aN.size D;have f:=aN.one db;have J:=eP M t hq D b7;have⟨B,hB⟩:=Ey db.vals;rw[hB]at h f ⊢;have cp:=aA hB;have SQ:=Mi (P:=Y) H 48 zeroCells48 B (by rw[h];kernel_rfl) (by rw[h];rfl) f;have cu:=aB b7;clear hB M t q hq D b7 j L6 bs;go_upto_region 15 with fail;have⟨Q,g⟩:=Ex (H.alloc (O B 48));rw[←g];have V:aC H Q:=by rw[g];exact Ka (K.refl H)
      have b8:Q.heap[H.heap.size]?=S (O B 48):=by rw[g];exact aG _ _ _ rfl
      have eg:=Lw b8 66 h;have u:=aE V J.out.2.2.2.2;have bn:=Cw u 0;rw[s]at bn;have cv:=aB u;have eh:=aB b8;have P8:=aA V;have aa:=(J.out.1.keeps V).x.own;have bx:(kR ly).length=v:=by unfold kR;rw[Nw];exact n.out.2
      rw[bx]at aa;have bu0:∀l,Hid (l=[(0,.agg B)])→∀W,(Instr.buildSlice 36 1 l.toArray).run Y W=.ok (.slice (S ⟨W.heap.size,0,N⟩) 1 1) (W.alloc (O B 48)):=fun l j W=>by rw[j.out];exact GD underlying36 ad ae (by rw[i];decide) (by rw[i];decide) (by rw[i];exact h) W
      simp[go_sem]at bu0;have cx:=aA (bu0 _ (aA rfl));clear bu0;have ei:=cx.out Q;have cz:B.toList.length=66:=by simpa using h
      clear g V b8 u SQ;go_upto_region 16 with fail;go_wp2_with(at_builtin;refine wpList_append_own_at _ rfl _ _ 36 rfl 0 48 i0 _ 66 80 underlying36 ad ae i br (by kernel_rfl) (by decide) _ _ _ rfl (Mz.ownsRow.alloc aa _) ⟨Q.heap.size,0,N⟩ 1 1 B.toList rfl (by rw[cz]) (Mz.news_of_block (heap_alloc_new Q _)) (by rw[Array.all_eq_true']at f;simpa using f) (by unfold maxLen;omega) (by omega) (Nz _) ?_;intro v9 w9 z L _ ab;obtain⟨a9,c9,rfl⟩:=own_slice z;have H9:=Hd3 z L ab;clear z L ab);go_roundw
      case rel=>have j:=(Tk.pushX (k:=v) (p:=db) J.out.1 J.out.2.2.2.1 n.out.2 (aK P8.out (K.alloc (K.refl Q) (O B 48))) H9.out.2.1 (by rw[cp.out];exact H9.out.1) H9.out.2.2).swap;have g:=(TI.both c.out.2 c.out.1.a.m.ok c.out.1.b.m.ok A.out T.out.2.1 J.out.2.1).2 (by rw[HK.out];exact h3) (T.out.2.2.1 (by rw[HK.out];exact h3)) (J.out.2.2.1 (by rw[HK.out];exact h3));exact⟨k+1,m+1,v+1,a6,c6,a9,c9,av,ba,bd,bm,_,_,_,by omega,by go_num,rfl,rfl,by rw[Ny,n.out.1];rfl,by rw[Ny,n.out.2];rfl,by omega,by omega,j.up (by omega),g⟩
      case measure=>simp[intOf];omega
     ·by_cases h7:o≤7
      ·have j:Hid (∃(h:Nat→Nat) (g:MSt),Tk w X ya h g yb cb sb (4096+10*(k+1)) (.slice a7 m c7) lx (.slice a8 v c8) ly U∧TI x g sb lx ly E):=aA ⟨av,ba,P3.out.2.2.up (by omega),TI.one c.out.2 c.out.1.a.m.ok A.out T.out.2.1 (by rw[HK.out];omega)⟩
       have g:o=4∨o=5∨o=6∨o=7:=by omega
       rcases g with g|g|g|g
       all_goals
        subst g;go_wp2_with fail;go_roundw
        case rel=>have⟨h,g,q,t⟩:=j.out;exact⟨k+1,m,v,a7,c7,a8,c8,h,g,cb,sb,lx,ly,E,by omega,by go_num,rfl,rfl,n.out.1,n.out.2,by omega,by omega,q,t⟩
        case measure=>simp[intOf];omega
      ·have n4:(o==4)=false:=by simp;omega
       have n5:(o==5)=false:=by simp;omega
       have n6:(o==6)=false:=by simp;omega
       have n7:(o==7)=false:=by simp;omega
       have bx:=Lw P3.out.2.1 75 r;have j:=aA (P3.out.2.2.swap.doA (by unfold bY;omega) A.out);rw[HV.out]at j;unfold cQ.ar at j;go_wp2_with fail;refine j.out.mono ?_;rintro e H ⟨db,bd,bm,rfl,hq,M,t,q⟩;obtain⟨b7,_⟩:=q _ _ P3.out.2.1 (c.out.1.b.m.m.top _ Nl);have D:=t.len c.out.1.b.m.ok;have h:db.vals.size=66:=aN.size D;have f:=aN.one db;have J:=Hd3 M t b7;have⟨B,hB⟩:=Ey db.vals;rw[hB]at h f ⊢;have SQ:=Mi (P:=Y) H 48 zeroCells48 B (by rw[h];kernel_rfl) (by rw[h];rfl) f;have cu:=aB b7;clear hB M t q hq D b7 j bx;go_upto_region 15 with fail;have⟨Q,g⟩:=Ex (H.alloc (O B 48));rw[←g];have V:aC H Q:=by rw[g];exact Ka (K.refl H)
       have u:=aE V J.out.2.2;have bn:=Cw u 0;rw[s]at bn;have cv:=aB u;have P8:=aA V;clear g V u SQ;go_wp2_with fail;go_roundw
       case rel=>have g:=(TI.both c.out.2 c.out.1.a.m.ok c.out.1.b.m.ok A.out T.out.2.1 J.out.2.1).1;exact⟨k+1,m,v,a7,c7,a8,c8,av,ba,bd,bm,lx,ly,E,by omega,by go_num,rfl,rfl,n.out.1,n.out.2,by omega,by omega,((J.out.1.keeps P8.out).swap).up (by omega),g⟩
       case measure=>simp[intOf];omega
    ·have z:k=d:=by omega
     subst z;clear hT hI;have h:=aA fun W (f:aC wr W)=>GG c.out.1.a.m.ok c.out.1.a.m.ex (by unfold bY;omega) W (c.out.1.a.m.m.keeps f);have o:=aA fun W (f:aC wr W)=>GG c.out.1.b.m.ok c.out.1.b.m.ex (by unfold bY;omega) W (c.out.1.b.m.m.keeps f);have u:m=v:=by rw[←n.out.1,←n.out.2,c.out.2.nx,c.out.2.ny]
     subst u;have⟨T,q⟩:=Ey (sR sa.ct.dv);have⟨U,r⟩:=Ey (sR sb.ct.dv);rw[q]at h;rw[r]at o;have G:=aH q r;unfold cQ.ar at h o;clear q r HT HI;go_wp2_with fail;refine(h.out _ Kr).mono ?_;rintro e V1 ⟨rfl,g⟩;cases T
     ·go_wp2_with fail;refine(h.out _ g).mono ?_;rintro e H ⟨rfl,f⟩;have r:=aA (aK g f);clear g f;go_wp2_with fail;go_ret;exact⟨rfl,(c.out.1.keeps r.out).a.m.k⟩
     ·go_wp2_with fail
      refine(o.out _ g).mono ?_;rintro e H ⟨rfl,f⟩;have f:=aK g f;cases U
      ·go_wp2_with fail;refine(h.out _ f).mono ?_;rintro e s ⟨rfl,j⟩;have j:=aK f j;go_wp2_with fail;refine(o.out _ j).mono ?_;rintro e t ⟨rfl,q⟩;have r:=aA (aK j q);clear g f j q;go_wp2_with fail;go_ret;exact⟨rfl,(c.out.1.keeps r.out).a.m.k⟩
      ·have D:lx=ly:=((c.out.2.A ((O6 _).1 G.out.1)).2).trans ((c.out.2.B ((O6 _).1 G.out.2)).2).symm
       subst D;have A:=aA f;have u:((m:Int)==(m:Int))=true:=by simp
       clear g f;go_wp2_with fail;go_loopw [101] (fun f W=>∃t:Nat,t≤m∧f=I Z t∧aC H W) fun f _=>m-(intOf f).toNat
       case atStart=>exact⟨0,Nz _,rfl,Kr⟩
       case round=>
        obtain⟨t,M,rfl,s⟩:=hrel;have y:=aA (aK A.out s);have V:=aA s;clear s;by_cases j:t<m
        ·have aa:(t:Int)<m:=by omega
         obtain⟨g1,ab,s,C,J⟩:=ZH (c.out.1.keeps y.out).x c.out.2.ix n.out.1 j;obtain⟨g2,ar,z,D,L⟩:=ZH (c.out.1.keeps y.out).y c.out.2.iy n.out.2 j;injection s with s _ _;injection z with z _ _;subst s;subst z;have f:kP (lx.getD t vI):=c.out.2.ix _ (by rw[Nf,Nu (by rw[n.out.1];exact j)];exact List.getElem_mem _);have HEq:Hid (∀W,(Mj 10000 48 (.agg (lx.getD t vI).vals) (.agg (lx.getD t vI).vals)).run Y W=.ok true W):=aA (fun W=>by rw[yP f f W];simp);have q:=aA J;have r:=aA L;have⟨bz,R⟩:=Ey (lx.getD t vI).vals;rw[R]at HEq q r;clear J L f R;go_upto_region 23 with fail;refine bS (by kernel_rfl) (by kernel_rfl) ?_
         repeat
          with_reducible refine Nh fun K z=>?_
          go_simp
          try first
           |(apply Ei
             intro g f;obtain⟨J,L⟩:=f.cells;have Q:=q.out _ f;have s:=r.out _ f;have EE:=HEq.out g;have R:=Nr C f.size;have av:=Nr D f.size;go_simp
             first
              |(go_at_call 12;with_reducible exact f.call (trivial))
              |rfl)
           |(with_reducible refine aQ ?_ ?_;first|decide|simp[Nd];done)
          refine z _ ?_;clear z K
         with_reducible refine Ni ?_
         intro Q g;have K8:=aA (aK V.out g);clear g;go_wp2_with fail;go_roundw
         case rel=>exact⟨_,_,_,⟨t+1,by omega,by go_num,K8.out⟩,rfl,rfl,rfl⟩
         case measure=>simp[intOf];omega
        ·have C:t=m:=by omega
         subst C;go_wp2_with fail;go_ret;exact⟨rfl,(c.out.1.keeps y.out).a.m.k⟩
  ·have bw:(d:Int)>80:=by omega
   go_wp2_with fail;go_ret;exact⟨rfl,HT.out.a.m.k⟩
end
section
open Go.ChangeShapes Go.WideShapes Go.ChangeAt Go.RowKit Go.Shelf
namespace law3
theorem qN (r s b d c way h m j k l n g o lg:Int) (bk:Bool) (a:Option Addr) (f cap:Nat) (xs:Nat→Sp) (p:f≤maxLen) (q:∀i,dJ (xs i)) (W:Mz) (t:mG a f xs W):Nb Tryz.prog 3 #[.agg (mZ r s b d c way h m j k l n g o lg bk),.slice a f cap] W fun e i=>e=.returned (.bool true)∧Nc W.heap.size W i:=by
 cases v:oR r s b d c way h m j k l n g o lg with
 |false=>exact Kv rfl (fun w=>yW v w) a f cap W
 |true=>obtain⟨x,u,i,_⟩:=yV (bk:=bk) v;rw[←u];exact Kw i a f cap xs q W t p
theorem aL {a b:Bool} (c:a=true) (k:b=true):(a&&b)=true:=by rw[c,k];rfl
theorem j1:(wB.wf (OpenSpec.ofChange wZ))=true:=by kernel_rfl
theorem j2:(laidOutB Y)=true:=by kernel_rfl
theorem j3:(mapsRowed Y)=true:=by kernel_rfl
theorem j4:(Tryz.f3.params.all (Y.readableRec ·))=true:=by kernel_rfl
theorem j5:(namedTie Y wB.named wZ.vars)=true:=by kernel_rfl
theorem j6:((wB.stops==[]))=true:=by kernel_rfl
theorem j7:((Y.stops==[]))=true:=by kernel_rfl
theorem j8:((wB.knobs==[]))=true:=by kernel_rfl
theorem j9:((Y.stopKnobs==[]))=true:=by kernel_rfl
theorem qO:((wB.inPlace==Y.inPlace 3))=true:=by kernel_rfl
theorem qP:((wB.unfollowed==Y.unfollowed 3))=true:=by kernel_rfl
theorem qQ:((wB.recurses==Y.recurses 3))=true:=by kernel_rfl
theorem qT:((wB.named==Y.varsNamed 3))=true:=by kernel_rfl
theorem qU:((wB.maps==(Tryz.f3.params.toList++wZ.plain.varTypes Y).any (Y.mapsRec ·)))=true:=by kernel_rfl
theorem qV:((wB.ifaces==(Tryz.f3.params.toList++wZ.plain.varTypes Y).any (Y.ifacesRec ·)))=true:=by kernel_rfl
theorem qW:((wB.mapsOut==Y.mapsAmong Tryz.f3.resultTypes.toList))=true:=by kernel_rfl
theorem qX:((wB.loops==(Tryz.f3.params.toList++wZ.plain.varTypes Y).any (Y.loopsFrom ·)))=true:=by kernel_rfl
theorem qY:((wB.wideKeys==(Tryz.f3.params.toList++wZ.plain.varTypes Y++Tryz.f3.resultTypes.toList).any (Y.wideKeysFrom ·)))=true:=by kernel_rfl
theorem qZ:(wZ.vars.all (Y.varReadable ·))=true:=by kernel_rfl
theorem rF:(Tryz.f3.resultTypes.all fun t=>Y.readableRec t&&decide (t<Y.types.size))=true:=by kernel_rfl
theorem rH:((wB.ifacesOut==Tryz.f3.resultTypes.toList.any (Y.ifacesRec ·)))=true:=by kernel_rfl
theorem rI:((wB.loopsOut==Tryz.f3.resultTypes.toList.any (Y.loopsFrom ·)))=true:=by kernel_rfl
theorem rJ:((wB.plainKeys==Y.plainKeys))=true:=by kernel_rfl
theorem rK:(wB.shortTexts.isNone)=true:=by kernel_rfl
theorem rM:(Y.stopsHeard)=true:=by kernel_rfl
theorem rN:(Y.mayEnter)=true:=by kernel_rfl
theorem rO:((wB.lifted==Y.liftsFinal))=true:=by kernel_rfl
theorem rP:((Y.make==S wB.make))=true:=by kernel_rfl
theorem rQ:((wB.kinds==(if wB.domain.isEmpty then[]else Tryz.f3.params.toList.map fun t=>match Y.underlying t with|some (.int k)=>S k|_=>N)))=true:=by kernel_rfl
theorem rR:((wB.pinned==wB.pinnedBy))=true:=by kernel_rfl
theorem rS:((wB.veiled==(Tryz.f3.params.toList++wZ.plain.varTypes Y++Tryz.f3.resultTypes.toList).any (Y.veiledRec ·)))=true:=by kernel_rfl
theorem rT:(wB.veiledFits Y Tryz.f3.params.toList (Tryz.f3.params.toList++wZ.plain.varTypes Y++Tryz.f3.resultTypes.toList))=true:=by kernel_rfl
theorem facts:joinedFacts Tryz.prog 3 Tryz.f3 wZ wB=true:=(aL (aL (aL (aL (aL (aL (aL (aL (aL (aL (aL (aL (aL (aL (aL (aL (aL (aL (aL (aL (aL (aL (aL (aL (aL (aL (aL (aL (aL (aL (aL j1 j2) j3) j4) j5) j6) j7) j8) j9) qO) qP) qQ) qT) qU) qV) qW) qX) qY) qZ) rF) rH) rI) rJ) rK) rM) rN) rO) rP) rQ) rR) rS) rT)
theorem t1:Y.funcNamed wB.func=S 3:=by kernel_rfl
theorem t3:Tryz.f3.isInstance Tryz.prog wB.origin wB.targs:=(of_decide_eq_true (by kernel_rfl))
theorem t4:Tryz.f3.isWrapper Tryz.prog wB.wrapper wB.mainSum:=(by unfold Func.isWrapper;first|(rw[Fp (by decide+kernel)];kernel_rfl)|(rw[Fn (by decide+kernel)];exact⟨rfl,rfl⟩))
theorem rU (u:Os) (f:u.Started) (H:Type) (enc:TypeId×Na→H):ReturnsInHanded {} Tryz.checked u 3 .any (wZ.pre6 enc Tryz.prog Tryz.f3 wB.domain false) (wZ.post enc Tryz.prog Tryz.f3 false true false false):=by
 refine returnsInHanded_of_change (C:=Tryz.checked) own f (by kernel_rfl) func3 (ChangeSpec.witness6 (enc:=enc) (C:=Tryz.checked) false ⟨#[],#[.agg #[.int .i64 0,.int .i64 0,.int .i64 0,.int .i64 0,.int .i64 0,.int .i64 0,.int .i64 0,.int .i64 0,.int .i64 0,.int .i64 0,.int .i64 0,.int .i64 0,.int .i64 0,.int .i64 0,.int .i64 0,.bool false],.slice N 0 0],[]⟩ 8 (by kernel_rfl) (by kernel_rfl) (by kernel_rfl) (by kernel_rfl)) ?_;intro W base a G gs j d h F _;have c:∀(g:Nat) t i,Tryz.f3.params[g]?=S t→a[g]?=S i→Na.okWide Tryz.prog W .any base t i:=d;have k:=h;obtain⟨av,bn,g,J,rfl,aa,ab⟩:=h;have v:DataW.TrodAll enc Tryz.prog W 0 (fun _=>true) true Tryz.f3.params.toList a.toList G av:=g;rw[Tryz.params3]at v c;obtain⟨w,ad,d0,ae,K,q0,x,rfl,rfl,y,L⟩:=trodAll_cons v;obtain⟨z,an,d1,ar,M,q1,rfl,rfl,rfl,A,P⟩:=trodAll_cons L;obtain⟨rfl,rfl,rfl⟩:=trodAll_nil P;obtain rfl:a=#[w,z]:=by cases a;simp_all
 obtain⟨rfl,rfl⟩:=trodVars_none J;have B:=y;have l:∀h∈K,h.block<W.heap.size:=by obtain⟨m,i⟩:=B;exact DataW.trod_lt m _ _ _ i
 have D:=A;have n:∀h∈M,h.block<W.heap.size:=by obtain⟨m,i⟩:=D;exact DataW.trod_lt m _ _ _ i
 obtain⟨ba,s,b,bb,bd,o,p,m,Q,R,T,U,h,V,X,bk,rfl⟩:=yX (c 0 31 w rfl rfl) y;obtain⟨bm,q,r,xs,rfl,hl,hs,ha⟩:=yY (c 1 32 z rfl rfl) A;clear g d;refine(qN ba s b bb bd o p m Q R T U h V X bk bm q r xs hl hs W ha).mono fun e W' ⟨d,bel⟩=>?_;subst d;exact⟨_,rfl,_,_,_,[],_,[],k,trodAll_mk1 (shut_bool underlying4 _),(trodAll_cons_mk (Nc.trod mL (by kernel_rfl) (of_decide_eq_true (by kernel_rfl)) B bel l) (trodAll_cons_mk (Nc.trod mL (by kernel_rfl) (of_decide_eq_true (by kernel_rfl)) D bel n) trodAll_mk0)),rfl,bel.frame _,fun d=>by cases d⟩
theorem rX:wB.holds Tryz.pinned (OpenSpec.ofChange wZ):=OpenClaim.holds_of_wide 3 Tryz.f3 rfl rfl rfl rfl rfl rfl rfl ⟨rfl,rfl,rfl,rfl,rfl⟩ rfl rfl rfl rfl rfl t1 func3 facts t3 t4 fun b a H enc _=>rU b a H enc
theorem proved:Rows.WholeTicksSaid:=rX
end law3
end
end Go.Proofs.YtlbgenenpheheaaGreat
