/- What the six laws Whole.. of the program cuirasstop lean on, part 7: contracts of its functions and laws of what they compute; for all arguments that each theorem names -/
import Derived.Test.YtlbgenenpheheaaGreatB5
import Derived.Sort.CutIn
set_option linter.unusedVariables false
set_option linter.unusedSimpArgs false
set_option maxHeartbeats 100000000
set_option maxRecDepth 100000
namespace Go.Proofs.YtlbgenenpheheaaGreat
open Go.Value renaming int→I
open Go.IntKind renaming i64→Z
open Go.Obj renaming cells→O
open Go.Ending renaming returned→E
open Tryz renaming prog→Y
open Tryz
open _root_.Array renaming getElem?_eq_some_iff→Nz
open _root_.Bool renaming and_eq_true→Nq
open Go renaming World→Mr,Value→Ms,Calls→Mt,undef→Mv,bodyPost_ret→My,wpQuiet_step→Mz,wpQuiet_nil→Na,callsIn_wide→Nk,results_none→Nw,heap_setCell_same→Nx,results_cell_row→Oa,below_setRow→Ob
open Go.RowKit renaming Below→Mu
open Go.Value renaming oneCell'→Ni,ownBlock→Ny
open Go.World renaming putObj_heap_other→Ok
open _root_.List renaming getD→Mx,replicate→Nd,range→Nf,getElem?_eq_getElem→Nn,length_append→Nr,size_toArray→Nv,length_cons→Oc,length_set→Od,getElem?_eq_some_iff→Oe,getElem?_map→Of
open _root_.Nat renaming le_trans→Ng,lt_of_lt_of_le→Nj,zero_le→Ns,le_succ→Nu,mod_eq_of_lt→Og
open _root_.Option renaming some→S,none→N
variable {B D G g i j k n:Nat} {W W' w w':World} {a b d e l r:Int} {cw:Nat→Prop} {q:dK} {s s':CtSt} {t:aR} {x:aW}
section
open Go.RowKit Go.Shelf lin
attribute [local go_sem] Oper.semAt_some cK Mh
attribute [local simp] Mf Mg
def CtSt.put (s:CtSt) (i:Nat) (l:List Int) (p:Bool):CtSt:={s with dv:=s.dv.put i (cD s.ld.c.m l i p) (if p=true then 1 else 0)}
theorem XD {l:List Int} {a:List Int} {f:Nat} (c:aX f l) (b:l.length=f) (d:aX a.length a) (h:n*k+a.length≤f):aX f (lZ l n k a):=fun g e=>by
 rw[WV l n k a (by omega)];split
 ·exact d _ (by omega)
 ·exact c g e
theorem XE {l:List Int} (c:aX 64 l) (i:Nat) (p:Bool):∀a,a≤8→aX 72 (pG l i p a)
 |0,_=>xX
 |a+1,d=>by
  have e:eN (kM (wordV l a)++[hchk (wordV l a) (parN i) (flagN p)])=qH l i p a:=rfl;have b:aX (qH l i p a).length (qH l i p a):=by rw[←e,o8];exact FP (yG (wordV l a) (parN i) p) rfl
  exact XD (XE c i p a (by omega)) (CI l i p a (by omega)) b (by rw[MQ];omega)
theorem XF {l:List Int} (c:aX 64 l) (i:Nat) (p:Bool):∀a,a≤2→aX 72 (pH l i p a)
 |0,_=>xX
 |a+1,g=>by
  have d:(dI (dC l a)).length=32:=by rw[lH,iS]
  have f:bM (dI (dC l a)):=sM (yC c a (by omega)) (iS l a);have b:aX (qI l i p a).length (qI l i p a):=by have e:eN (gO (dI (dC l a)) (dM i p))=qI l i p a:=rfl;rw[←e,o8];exact FP (wQ d rfl f (qE _ _)) rfl
  exact XD (XF c i p a (by omega)) (CJ l i p a (by omega)) b (by rw[MR];omega)
theorem NB {m:Int} (b:fN m=true) {l:List Int} (a:aX 64 l) (i:Nat) (p:Bool):aX 72 (cD m l i p):=by
 unfold cD;split
 ·exact XE a i p 8 (by omega)
 ·exact XF a i p 2 (by omega)
theorem cO.put (ok:cO s) (i:Nat) {l:List Int} (h:aX 64 l) (p:Bool):cO (s.put i l p):=by
 refine⟨ok.ld,ok.dv.put i _ (CK _ _ _ _) (NB ok.ld.c.mode h i p),?_,ok.cur⟩;have r:=ok.geo
 have e:(s.dv.put i (cD s.ld.c.m l i p) (if p=true then 1 else 0)).dr.r=s.dv.dr.r∧(s.dv.put i (cD s.ld.c.m l i p) (if p=true then 1 else 0)).dr.s=s.dv.dr.s∧(s.dv.put i (cD s.ld.c.m l i p) (if p=true then 1 else 0)).dr.b=s.dv.dr.b∧(s.dv.put i (cD s.ld.c.m l i p) (if p=true then 1 else 0)).dr.d=s.dv.dr.d∧(s.dv.put i (cD s.ld.c.m l i p) (if p=true then 1 else 0)).dr.c=s.dv.dr.c∧(s.dv.put i (cD s.ld.c.m l i p) (if p=true then 1 else 0)).dr.m=s.dv.dr.m:=by
  obtain⟨a,b,c,d,f,g,_,_⟩:=wO s.dv.dr i;unfold cF.put bO.write;simp only;split
  ·exact⟨b,c,d,f,g,a⟩
  ·exact⟨b,c,d,f,g,a⟩
 obtain⟨a,b,c,d,f,g⟩:=e;obtain⟨j,k,m,n,o,q⟩:=r;exact⟨a.trans j,b.trans k,c.trans m,d.trans n,f.trans o,g.trans q⟩
theorem wR {col:Nat→Nat} (ok:cO s) (k:n<bY) (i:Nat) (l:List Int) (Q:l.length=64) (f:aX 64 l) (p:Bool) (m:eC s.dv.dr.r s.dv.dr.s s.dv.dr.b s.dv.dr.d s.dv.dr.c i=true) (w:Mr) (C:dB q col s n w):Mt Y 62 #[q.ar,I Z i,.agg (aD .u8 l),.bool p] w (VQ q s (n+1) col w fun a=>a=s.put i l p):=by
 have⟨X,j⟩:=Ex (w.alloc (O (aD .u8 l) 38));have o:aC w X:=by rw[j];exact aU
 have u:X.heap[w.heap.size]?=S (O (aD .u8 l) 38):=by rw[j];exact aG _ _ _ rfl
 have d:=C.keeps o;obtain⟨ab,h,_,_⟩:=d.row;have g:=d.led.row;have x:=aB h;have v:=aB g;have y:=h;unfold CtSt.row at h;unfold bH.row at g;have⟨z,G⟩:=iO h 0 2;simp at z G;have H:=Cw g 7;simp at H;have L:(aD .u8 l).size=64:=by rw[aP,Q]
 have J:Hid (∀W,aC X W→(Mc ⟨w.heap.size,0,N⟩ 0 64 #[]).run Y W=.ok (aD .u8 l) W):=aA fun W b=>Lw (aE b u) 64 L;have t:=aA fun W (b:aC X W)=>Ch s.ld.c.m ok.ld.c.mode l Q f i p W (d.cod.keeps b);have⟨U,a⟩:=Ey (cD s.ld.c.m l i p);have c:=CK s.ld.c.m l i p;rw[a]at t c;unfold eJ at t;have r:(aD .u8 U).size=72:=by rw[aP,c]
 have B:=nF d o ok k m f a;have A:(aD .u8 kD).size=(aD .u8 U).size:=by rw[r,aP,pC]
 have M:=aB u;unfold dK.ar;clear C d h g y o u ok k m f a;go_in;go_upto_region 1 with fail;rw[←j];clear j;refine co [0,1,2,3,4,5,6,7,8,9,10,11,12,13,14,15] 16 17 8 24 79 (aD .u8 kD) (by kernel_rfl) (by kernel_rfl) rfl (fun W=>BE W) rfl ?_;simp only[aM,d8]
 repeat
  with_reducible refine dS fun K b=>?_
  go_simp
  try first
   |(apply Ei
     intro h a;obtain⟨d,f⟩:=a.cells;have g:=J.out _ a;go_simp
     first
      |(go_at_call 100;with_reducible exact l9 (t.out _ a))
      |rfl)
  refine b _ ?_;clear b K
 with_reducible refine dR ?_
 refine⟨aD .u8 U,rfl,A,dG _ _,by decide,by simp[Act.put],?_,?_⟩
 ·intro a W;simp[go_sem,r]
 intro R C P u j;have aa:w.heap.size<R:=Nj M P;have⟨d,o,ok,k,m,f,a⟩:=B.out;have g:=d.keeps j;obtain⟨v5,h,_,_⟩:=g.row;have T:Hid (∀W,aC C W→(Mc ⟨R,0,N⟩ 0 72 #[]).run Y W=.ok (aD .u8 U) W):=aA fun W b=>Lw (aE b u) 72 r;have D:=aA fun W (b:aC C W)=>zx ok.dv k i U c W (g.dev.keeps b) m;have F:=aA fun W (b:aC C W)=>zy ok.dv k i U c W (g.dev.keeps b) m;have y:=aH g (Kc o j);clear z G H x v;have x:=aB h;have z:=aB u;unfold CtSt.row at h;have G:=Cw h 1;simp at G;clear d o ok k m f a g h u j J t;cases p
 ·go_wp2_with fail
  refine eK (by kernel_rfl) (lS [0,1,2,3,4,5] [] [6] (by kernel_rfl) ?_);simp only[aM,d8]
  repeat
   with_reducible refine dS fun K b=>?_
   go_simp
   try first
    |(apply Ei
      intro h a;obtain⟨d,f⟩:=a.cells;have g:=T.out _ a;go_simp
      rfl)
    |(with_reducible refine aQ ?_ ?_;first|decide|simp[Mv];done)
   refine b _ ?_;clear b K
  with_reducible refine dR ?_
  with_reducible refine eZ ?_
  intro H b;have t:=aA (D.out H b);have g:=aA b;clear b D F G x z;go_wp2_with fail;refine t.out.mono ?_;rintro e V ⟨rfl,h,j⟩;have J:=aH h j;clear h j;go_wp2_with fail;refine dT ?_;go_wp2_with fail;refine bodyPost_end (Nw rfl _ _ _) rfl ?_;have⟨h,j⟩:=J.out;have⟨d,o,ok,k,m,f,a⟩:=B.out;obtain⟨u,v⟩:=(y.out.1.keeps g.out).setDev h (Nu n) j;refine⟨_,_,_,rfl,u,?_,((aS.keeps y.out.2).trans (aS.keeps g.out)).trans (v.mono fun x b=>by unfold KC;omega),?_⟩
  ·have:=ok.put i f false;unfold CtSt.put at this;rw[a]at this;exact this
  ·unfold CtSt.put;rw[a];rfl
 ·go_wp2_with fail
  refine eK (by kernel_rfl) (lS [0,1,2,3,4,5] [] [6] (by kernel_rfl) ?_);simp only[aM,d8]
  repeat
   with_reducible refine dS fun K b=>?_
   go_simp
   try first
    |(apply Ei
      intro h a;obtain⟨d,f⟩:=a.cells;have g:=T.out _ a;go_simp
      rfl)
    |(with_reducible refine aQ ?_ ?_;first|decide|simp[Mv];done)
   refine b _ ?_;clear b K
  with_reducible refine dR ?_
  with_reducible refine eZ ?_
  intro H b;have t:=aA (F.out H b);have g:=aA b;clear b D F G x z;go_wp2_with fail;refine t.out.mono ?_;rintro e V ⟨rfl,h,j⟩;have J:=aH h j;clear h j;go_wp2_with fail;refine dT ?_;go_wp2_with fail;refine bodyPost_end (Nw rfl _ _ _) rfl ?_;have⟨h,j⟩:=J.out;have⟨d,o,ok,k,m,f,a⟩:=B.out;obtain⟨u,v⟩:=(y.out.1.keeps g.out).setDev h (Nu n) j;refine⟨_,_,_,rfl,u,?_,((aS.keeps y.out.2).trans (aS.keeps g.out)).trans (v.mono fun x b=>by unfold KC;omega),?_⟩
  ·have:=ok.put i f true;unfold CtSt.put at this;rw[a]at this;exact this
  ·unfold CtSt.put;rw[a];rfl
theorem cO.rd (ok:cO s) (i:Int):cO {s with dv:=s.dv.rd i}:=by obtain⟨a,b,c,d,e,f,_,_⟩:=wO s.dv.dr i;obtain⟨g,h,j,k,l,m⟩:=ok.geo;exact⟨ok.ld,ok.dv.rd i,⟨b.trans g,c.trans h,d.trans j,e.trans k,f.trans l,a.trans m⟩,ok.cur⟩
def CtSt.dec (s:CtSt) (i:Nat):List Int×Int×Int:=fZ s.ld.c.m (s.dv.dr.read i) i
def kH (s:CtSt) (i:Nat) (s':CtSt):Prop:=∃l,xW s.ld (s.dec i).2.1 l∧s'={s with dv:=s.dv.rd i,ld:=l}
def FQ (q:dK) (s:CtSt) (n:Nat) (i:Nat) (col:Nat→Nat) (w:Mr) (e:Ending) (w':Mr):Prop:=∃col' s',e=E (.tuple #[.agg (aD .u8 (s.dec i).1),.agg #[I Z (s.dec i).2.1,I Z (s.dec i).2.2]])∧dB q col' s' (n+2) w'∧cO s'∧aS KC col w col' w'∧kH s i s'
theorem uV {m:Int} {r:List Int} (a:r.length=72) (i:Nat):(fZ m r i).1.length=64:=by
 unfold fZ;simp only;split
 ·rfl
 ·exact(VV m r a i).1
theorem NC {col:Nat→Nat} (ok:cO s) (G:n+2<bY) (i:Nat) (ho:Int) (j:Nat) (y:j<s.ld.tk.rk.length) (z:eC s.dv.dr.r s.dv.dr.s s.dv.dr.b s.dv.dr.d s.dv.dr.c i=true) (w:Mr) (g:dB q col s n w):Mt Y 61 #[q.ar,.agg #[I Z i,I Z ho,I Z j]] w (FQ q s n i col w):=by
 have⟨ba,a⟩:=Ex (((w.alloc (O #[I Z i,I Z ho,I Z j] 139)).alloc (O (aD .u8 ln0) 38)).alloc (O #[I Z 0,I Z 0] 144));have v:aC w ba:=by rw[a];exact kS
 have b3:ba.heap[w.heap.size]?=S (O #[I Z i,I Z ho,I Z j] 139):=by rw[a,aV _ _ _ (by simp;omega),aV _ _ _ (by simp)];exact aG _ _ _ rfl
 have x:ba.heap[w.heap.size+1]?=S (O (aD .u8 ln0) 38):=by rw[a,aV _ _ _ (by simp)];exact aG _ _ _ (by simp)
 have k:ba.heap[w.heap.size+1+1]?=S (O #[I Z 0,I Z 0] 144):=by rw[a];exact aG _ _ _ (by simp)
 have o:=g.keeps v;have p:∀M,col (w.heap.size+M)=0:=fun M=>g.top _ (Nat.le_add_right _ _);have⟨ar,c⟩:=Ey (s.dv.dr.read i);have V:=ok.dv.dr.read_len i;have f:=ok.dv.dr.read_bts i;rw[c]at V f;have X:(aD .u8 ar).size=72:=by rw[aP,V]
 have HR:=aA fun W (r:aC ba W)=>Cm ok.dv (by omega) i W (o.dev.keeps r) z;rw[c]at HR;unfold eJ at HR;have HU:=aA (Ai o (Ai v (Ai b3 (Ai x (Ai k (Ai p (Ai ok (Ai G (Ai z (Ai y (Ai c f)))))))))));obtain⟨bd,d,_,_⟩:=o.row;have hz:=aB d;have B:=aB b3;unfold CtSt.row at d;have q1:=Cw d 1;simp at q1;have J:=Cw b3 0;simp at J;unfold dK.ar;clear g o d v b3 x k p ok G z y c f;go_in;go_upto_region 1 with fail;rw[gR,show aD .u8 (Nd 64 (0:Int))=aD .u8 ln0 from rfl,←a];clear a;go_cut [6] from 10 to 19 fun c a=>∃(bb:Nat) (c1:Nat→Nat),c=.pointer (S ⟨bb,0,N⟩)∧a.heap[bb]?=S (O (aD .u8 ar) 79)∧c1 bb=0∧w.heap.size+1+1<bb∧dB q c1 {s with dv:=s.dv.rd i} (n+1) a∧aS KC col w c1 a∧a.heap[w.heap.size]?=S (O #[I Z i,I Z ho,I Z j] 139)∧a.heap[w.heap.size+1]?=S (O (aD .u8 ln0) 38)∧a.heap[w.heap.size+1+1]?=S (O #[I Z 0,I Z 0] 144)∧∀M,M≤2→c1 (w.heap.size+M)=0
 case first=>
  refine eK (by kernel_rfl) (UH [0,1,2,3,4,5] 6 10 [7,8,9] [11,12] (by kernel_rfl) ?_);simp only[aM,d8]
  repeat
   with_reducible refine dS fun K d=>?_
   go_simp
   try first
    |(apply Ei
      intro c a;obtain⟨f,g⟩:=a.cells;go_simp
      rfl)
    |(with_reducible refine aQ ?_ ?_;first|decide|simp[Mv];done)
   refine d _ ?_;clear d K
  with_reducible refine dR ?_
  intro W r;have L:=aA r;clear q1 J hz B r;refine⟨?_,?_⟩
  ·skip
   with_reducible refine kZ fun T d=>?_
   go_simp;refine(HR.out W L.out).mono ?_;rintro e u ⟨rfl,H,A⟩;have SP:(Me ⟨u.heap.size,0,N⟩ (aD .u8 ar).toList 0).run Y (u.alloc (O zeroCells79 79))=.ok () (u.alloc (O (aD .u8 ar) 79)):=Mi u 79 _ (aD .u8 ar) (by rw[X];kernel_rfl) (by rw[X];kernel_rfl) (dG _ _);have H6:=aH H A;clear H A;go_simp;refine d _ _ trivial ?_;clear d T;with_reducible refine lX ?_
   repeat(
    with_reducible refine i9 fun K d=>?_
    go_simp;unfold gI;apply Ei
    ·intro c a;go_simp;exact⟨rfl,rfl⟩
    refine d _ ?_
    clear d K)
   with_reducible refine eZ ?_
   go_wp2_with fail;refine dT ?_;go_wp2_with fail;go_meet;focus have⟨H,A⟩:=H6.out;have⟨o,v,b3,x,k,p,ok,G,z,y,c,f⟩:=HU.out;have r:=L.out;obtain⟨g,a⟩:=(o.keeps r).setDev H (Nu n) A;have m:∀J,aC u (u.alloc J):=fun J=>K.alloc (K.refl u) J;have C:w.heap.size+1+1<u.heap.size:=Nj (Nj (aB k) r.size) A.size;have h:∀(M:Nat) (J:Obj),ba.heap[w.heap.size+M]?=S J→u.heap[w.heap.size+M]?=S J:=fun M J B=>a.at (aE r B) (by rw[p M];decide);exact⟨u.heap.size,_,rfl,aG _ _ _ rfl,g.top _ Nl,C,g.keeps (m _),(((aS.keeps v).trans (aS.keeps r)).trans (a.mono fun M B=>by unfold KC;omega)).trans (aS.keeps (m _)),aE (m _) (h 0 _ b3),aE (m _) (h 1 _ x),aE (m _) (h 2 _ k),fun M B=>(a.old _ (by have:=r.size;have:=aB k;omega)).trans (p M)⟩
  ·skip
   with_reducible refine kZ fun T d=>?_
   go_simp;refine d _ _ (Ka L.out) ?_;clear d T;with_reducible refine lX ?_
   intro W2 Q;with_reducible refine kZ fun T d=>?_
   go_simp;have m:aC ba W2:=aK (Ka L.out) Q;refine(HR.out W2 m).mono ?_;rintro e u ⟨rfl,H,A⟩;have⟨o,v,b3,x,k,p,ok,G,z,y,c,f⟩:=HU.out;obtain⟨g,a⟩:=(o.keeps m).setDev H (Nu n) A;have R:col W.heap.size=0:=o.top _ L.out.size;have bA:W2.heap[W.heap.size]?=S (O zeroCells79 79):=aE Q (aG _ _ _ rfl);have D:=a.at bA (by rw[R];decide);have F:=(a.old _ (aB bA)).trans R;have C:w.heap.size+1+1<W.heap.size:=Nj (aB k) L.out.size;have h:∀(M:Nat) (J:Obj),ba.heap[w.heap.size+M]?=S J→u.heap[w.heap.size+M]?=S J:=fun M J B=>a.at (aE m B) (by rw[p M];decide);have SP:=Sw D (aD .u8 ar) (by rw[X];kernel_rfl) (dG _ _);have aa:=aB D;have H6:=eQ g a D F h m;have HS:=aA C;clear H A o v b3 x k p ok G z y c f g a R bA D F h m Q C;go_simp;refine d _ _ trivial ?_;clear d T;with_reducible refine lX ?_
   repeat(
    with_reducible refine i9 fun K d=>?_
    go_simp;unfold gI;apply Ei
    ·intro c a;go_simp;exact⟨rfl,rfl⟩
    refine d _ ?_
    clear d K)
   with_reducible refine eZ ?_
   go_wp2_with fail;refine dT ?_;go_wp2_with fail;go_meet;focus have⟨g,a,D,F,h,m⟩:=H6.out;have⟨o,v,b3,x,k,p,ok,G,z,y,c,f⟩:=HU.out;have C:=HS.out;have U:=kO u W.heap.size (aD .u8 ar);exact⟨W.heap.size,_,rfl,Hw D _,F,C,g.chg U fun b r=>by subst r;rw[F];omega,(((aS.keeps v).trans (aS.keeps m)).trans (a.mono fun M B=>by unfold KC;omega)).loc _ (by omega) U,aJ U (h 0 _ b3) (by omega),aJ U (h 1 _ x) (by omega),aJ U (h 2 _ k) (by omega),fun M B=>(a.old _ (by have:=m.size;have:=aB k;omega)).trans (p M)⟩
 case rest=>
  obtain⟨bb,c1,rfl,T,tA,C,h,m,M,U,A,H⟩:=hcut;have⟨o,v,b3,x,k,p,ok,G,z,y,c,f⟩:=HU.out;have HD:=aA fun W (r:aC wc W)=>Cb s.ld.c.m ok.ld.c.mode ar V f i W (h.cod.keeps r);have⟨l',D⟩:=Ey (s.dec i).1;have⟨k',F⟩:=Ey (s.dec i).2.1;have⟨f',Q⟩:=Ey (s.dec i).2.2;have ab:l'.length=64:=by rw[←D];unfold CtSt.dec;rw[c];exact uV V i
  have g:fZ s.ld.c.m ar i=(l',k',f'):=by rw[←D,←F,←Q];unfold CtSt.dec;rw[c]
  rw[g]at HD;have R:(aD .u8 l').size=64:=by rw[aP,ab]
  have HV:=Hd3 D F Q;have L:=mI T tA C h m M U A H;have LR:Hid (∀W,aC wc W→(Mc ⟨bb,0,N⟩ 0 72 #[]).run Y W=.ok (aD .u8 ar) W):=aA fun W r=>Lw (aE r T) 72 X;obtain⟨bd,d,_,_⟩:=h.row;have a:=h.led.row;clear q1 J hz B;have hz:=aB d;have B:=aB M;have an:=aB a;have aa:=aB T;unfold CtSt.row at d;unfold bH.row at a;have⟨q0,q2⟩:=iO d 0 2;simp at q0 q2;have p7:=Cw a 7;simp at p7;have J:=Cw M 0;simp at J;clear o v b3 x k p ok G z y c f T tA C h m M U A H d a D F Q g HR;go_wp2_with fail;refine IC [0,1,2,3,4,5,6,7,8,9,10,11,12,13,14,15,16,17,18] 19 20 21 22 8 37 38 9 38 144 (aD .u8 ln0) #[I Z 0,I Z 0] (by kernel_rfl) (by kernel_rfl) (by decide) rfl (fun W=>FE W) rfl (fun W=>by kernel_rfl) rfl rfl ?_;simp only[aM,d8]
  repeat
   with_reducible refine dS fun K d=>?_
   go_simp
   try first
    |(apply Ei
      intro c a;obtain⟨f,g⟩:=a.cells;have ab:=LR.out _ a;go_simp
      first
       |(go_at_call 99;with_reducible exact l9 (HD.out _ a))
       |rfl)
   refine d _ ?_;clear d K
  with_reducible refine dR ?_
  refine⟨aD .u8 l',#[I Z k',I Z f'],rfl,rfl,by rw[R,aP];rfl,rfl,dG _ _,by simp[Ni],by decide,by simp[Act.put],?_,?_,?_⟩
  ·intro bb W;simp[go_sem,R]
  ·intro bb W;go_simp
  intro A8 A9 W5 ad ae D F r d;have⟨T,tA,C,h,m,M,U,A,H⟩:=L.out;have⟨o,v,b3,x,k,p,ok,G,z,y,c,f⟩:=HU.out;have av:w.heap.size+1+1<wc.heap.size:=aB A;have Q:c1 A8=0:=h.top _ ad;have z9:c1 A9=0:=h.top _ ae;have g:=ok.rd i;have u:=h.keeps d;have HN:=aA (FC g (show n+1<bY by omega) 1 k' f' i ho j (xW s.ld k') (fun bm W a=>yp ok.ld k' f' i ho j y W a) (fun l a=>by obtain⟨bm,l2,t,_,rfl,_⟩:=a;rfl) W5 u);have a:=aE d M;have H5:=eQ d F r Q z9 D;clear q0 q2 p7 J hz B an aa;have B:=aB a;have aa:=aB r;have L9:=Lw r 2 rfl;have⟨J,b1,b2⟩:=fM a;simp at J b1 b2;clear T tA C h m M U A H o v b3 x k p ok G z y c f av Q z9 g u a F r d HD LR;go_wp2_with fail;refine HN.out.mono ?_;rintro e u ⟨v6,v,s6,rfl,g,c,a,⟨G,f,rfl⟩⟩;clear J b1 b2 B aa L9;have⟨d,F,r,Q,z9,D⟩:=H5.out;have⟨T,tA,C,h,m,M,U,A,H⟩:=L.out;have x:=a.at (aE d U) (by rw[H 1 (by decide)];exact jS);have y:=a.at (aE d A) (by rw[H 2 (by decide)];exact jS);have z:=a.at F (by rw[Q];exact jS);have B:=a.at r (by rw[z9];exact jS);have k:v (w.heap.size+1)=0:=(a.old _ (aB (aE d U))).trans (H 1 (by decide));have o:v (w.heap.size+2)=0:=(a.old _ (aB (aE d A))).trans (H 2 (by decide));have p:w.heap.size+1+1<A8:=Nj (aB A) ad;obtain⟨L3,L4,L5⟩:=FD (n1:=64) (n2:=2) (R1:=w.heap.size+1) (aD .u8 l') z B R rfl (by have:=Nj (aB A) ae;omega);obtain⟨SX,SY,J⟩:=MN (c1:=aD .u8 l') (c2:=#[I Z k',I Z f']) (n1:=0) (n2:=0) x y (by rw[R,aP];rfl) rfl (dG _ _) (by simp[Ni]) (by omega);have x1:=aB x;have x2:=aB y;have H6:=pP g c a f d m k o;clear g c a f d F r Q z9 D T tA C h m M U A H x y z B k o p;go_wp2_with fail;go_region
  go_wp2_with fail;have⟨p,x,A⟩:=J.out;have⟨g,c,a,f,d,m,k,o⟩:=H6.out;have⟨D,F,Q⟩:=HV.out;refine My (CB (P:=Y) results61 _ _ (w.heap.size+1) 38 (aD .u8 l') (0,0) (.array 64 5) (w.heap.size+1+1) 144 #[I Z k',I Z f'] (0,0) _ rfl p (by kernel_rfl) rfl (by rw[R];kernel_rfl) rfl x underlying144 rfl (by kernel_rfl)) rfl ⟨v,_,by rw[D,F,Q],g.chg A (fun b r=>by rcases r with rfl|rfl;rw[k];omega;rw[o];omega),c,?_,G,by rw[F];exact f,rfl⟩;have h:=(m.trans (aS.keeps d)).trans a;exact⟨h.old,h.chg.next A fun b r=>.inr (by rcases r with rfl|rfl<;>omega)⟩
end
section
open lin
theorem Ef (a:List Int):aX 64 ((Nf 64).map (kC a)):=fun c b=>by refine⟨(a.getD (c/8) 0).toNat/256^(c%8)%256,?_,Nat.mod_lt _ (by decide)⟩;rw[show((Nf 64).map (kC a)).getD c 0=kC a c by simp[Mx,b]];rfl
theorem Eg {l:List Nat} (a:bM l) (i:Nat):bM (o7 l i).1:=by
 have c:bM (mE l (nW (gM l (dM i false)))):=by
  unfold mE;split
  ·refine a.xat _ ?_
   rw[CQ];refine(VG _ _ _ _ ?_).1;have e:(gM l (dM i false)).getD 0 0=gev (l++dM i false) (gexp 0):=yH l (dM i false) 0;rw[e];refine xQ (fun d b=>?_) _;rcases List.mem_append.1 b with f|f
   ·exact a d f
   ·exact qE i false d f
  ·exact a
 intro d b;exact c d (List.mem_of_mem_drop b)
theorem Eh {r:List Int} (a:r.length=72) (c:aX 72 r) (i:Nat):aX 64 (iD r i).1:=by
 have b:∀d,d<2→bM (fU r i d).1:=fun d e=>Eg (sM (N9 a c (show 36*d+36≤72 by omega)) (pX _ _ _ (by omega))) i;refine FP (fun f d=>?_) (by rw[Nr,tU a i 0 (by omega),tU a i 1 (by omega)]);rcases List.mem_append.1 d with e|e
 ·exact b 0 (by omega) f e
 ·exact b 1 (by omega) f e
theorem kI:aX 64 ln0:=fun b a=>⟨0,by unfold ln0;rw[Mx,List.getElem?_replicate];split<;>rfl,by decide⟩
theorem FT (m:Int) {r:List Int} (a:r.length=72) (b:aX 72 r) (i:Nat):aX 64 (fZ m r i).1:=by
 unfold fZ;simp only;split
 ·exact kI
 ·unfold mV
  split
  ·exact Ef _
  ·exact Eh a b i
end
section
open Go.RowKit Go.Shelf lin
attribute [local go_sem] Oper.semAt_some cK Mh
attribute [local simp] Mf Mg
theorem cO.at (ok:cO s) (a:s.ld.rp.has l):∃r t:Nat,s.ld.rp.route l=r∧s.ld.rp.t.rk l=t∧t<s.ld.tk.rk.length∧eC s.dv.dr.r s.dv.dr.s s.dv.dr.b s.dv.dr.d s.dv.dr.c r=true:=by have b:=ok.ld.rp.at a;have c:=ok.ld.geo;have d:=ok.geo;have e:=pZ ok.ld.rp.ok a;obtain⟨_,u,v,_⟩:=ok.ld.rp.ok.ph e.1;have w:=ok.ld.rp.rk a;have p:=oI b ok.ld.rp.ok.geo;have q:=ok.ld.rk;refine⟨(s.ld.rp.route l).toNat,(s.ld.rp.t.rk l).toNat,by omega,by omega,by omega,?_⟩;obtain⟨f,g,h,i,j,_,_⟩:=c;obtain⟨c,k,m,n,o,_⟩:=d;rw[c,k,m,n,o,←f,←g,←h,←i,←j,show(((s.ld.rp.route l).toNat:Nat):Int)=s.ld.rp.route l by omega];exact b
def CtSt.ix (s:CtSt) (l:Int):Nat:=(s.ld.rp.route l).toNat
def Readed (s:CtSt) (l:Int) (back:Bool) (s':CtSt):Prop:=∃s1,kH s (s.ix l) s1∧s'=if(s.dec (s.ix l)).2.1=1∧back=true then s1.put (s.ix l) (s.dec (s.ix l)).1 false else s1
def xH (q:dK) (s:CtSt) (n:Nat) (l:Int) (back:Bool) (col:Nat→Nat) (w:Mr) (e:Ending) (w':Mr):Prop:=∃col' s',e=E (.tuple #[.agg (aD .u8 (s.dec (s.ix l)).1),I Z (toldV (s.dec (s.ix l)).2.1)])∧dB q col' s' (n+3) w'∧cO s'∧aS KC col w col' w'∧Readed s l back s'
theorem kH.at (b:kH s i s') {j:Int} (a:eC s.dv.dr.r s.dv.dr.s s.dv.dr.b s.dv.dr.d s.dv.dr.c j=true):eC s'.dv.dr.r s'.dv.dr.s s'.dv.dr.b s'.dv.dr.d s'.dv.dr.c j=true:=by obtain⟨l,_,rfl⟩:=b;obtain⟨_,b,c,d,e,f,_,_⟩:=wO s.dv.dr i;show eC (s.dv.rd i).dr.r (s.dv.rd i).dr.s (s.dv.rd i).dr.b (s.dv.rd i).dr.d (s.dv.rd i).dr.c j=true;rw[show(s.dv.rd i).dr=(s.dv.dr.went i).2.2 from rfl,b,c,d,e,f];exact a
theorem ND {t1 t2:Nat} {z1 z2 c1 c2:Array Ms} (e:z1.size=c1.size) (f:z2.size=c2.size) (g:c1.all (·.oneCell')=true) (h:c2.all (·.oneCell')=true):∃a,(Me ⟨w.heap.size,0,N⟩ c1.toList 0).run Tryz.prog ((w.alloc (O z1 t1)).alloc (O z2 t2))=.ok () a∧(Me ⟨w.heap.size+1,0,N⟩ c2.toList 0).run Tryz.prog a=.ok () (a.setRow (w.heap.size+1) c2)∧
                                                                                                                                                 (a.setRow (w.heap.size+1) c2).heap[w.heap.size]?=S (O c1 t1)∧(a.setRow (w.heap.size+1) c2).heap[w.heap.size+1]?=S (O c2 t2)∧aC w (a.setRow (w.heap.size+1) c2):=by
 have a:((w.alloc (O z1 t1)).alloc (O z2 t2)).heap[w.heap.size]?=S (O z1 t1):=gQ rfl;have i:((w.alloc (O z1 t1)).alloc (O z2 t2)).heap[w.heap.size+1]?=S (O z2 t2):=aG _ _ _ (by simp);have c:=kO ((w.alloc (O z1 t1)).alloc (O z2 t2)) w.heap.size c1;have j:=Hw a c1;have d:=aJ c i (by omega);refine⟨_,Sw a c1 e g,Sw d c2 f h,aJ (kO _ _ _) j (by omega),Hw d _,?_⟩;have k:aC w ((w.alloc (O z1 t1)).alloc (O z2 t2)):=gH;exact(((aF.of_below k fun _=>False).next c fun b l=>.inr (by omega)).next (kO _ _ _) fun b l=>.inr (by omega)).below Nl fun _ l=>l.elim
theorem XG {col:Nat→Nat} (ok:cO s) (H:n+3<bY) (l:Int) (p:s.ld.rp.has l) (a:Bool) (w:Mr) (t:dB q col s n w):Mt Y 56 #[q.ar,I Z l,.bool a] w (xH q s n l a col w):=by
 obtain⟨Q,av,j,m,J,A⟩:=ok.at p;have h:s.ix l=Q:=by unfold CtSt.ix;omega
 unfold xH;rw[h];have⟨d,c⟩:=Ey (s.dec Q).1;have⟨k,f⟩:=Ey (s.dec Q).2.1;have⟨R,g⟩:=Ey (s.dec Q).2.2;have U:d.length=64:=by rw[←c];unfold CtSt.dec;exact uV (ok.dv.dr.read_len Q) Q
 have i:(aD .u8 d).size=64:=by rw[aP,U]
 have HB:Hid (aX 64 d):=aA (by rw[←c];unfold CtSt.dec;exact FT _ (ok.dv.dr.read_len Q) (ok.dv.dr.read_bts Q) Q);rw[c,f];have HV:=Hd3 c f g;have aa:Hid (∀o,Readed s l a o↔∃r,kH s Q r∧o=if k=1∧a=true then r.put Q d false else r):=aA (fun o=>by unfold Readed;rw[h,c,f]);clear c f g;have⟨ba,c⟩:=Ex (w.alloc (O (aD .u8 ln0) 38));have B:aC w ba:=by rw[c];exact aU
 have C:ba.heap[w.heap.size]?=S (O (aD .u8 ln0) 38):=by rw[c];exact aG _ _ _ rfl
 have D:col w.heap.size=0:=t.top _ Nl;have o:=t.keeps B;have HA:=aA (FG ok l p ba o);unfold CtSt.pl at HA;rw[j,m]at HA;generalize s.ld.rp.t.home l=F at*;have HU:=pP o B C D ok H J A;unfold dK.ar at*;clear t o B C D ok H J A p j m h;go_in;go_upto_region 1 with fail;rw[gR,show aD .u8 (Nd 64 (0:Int))=aD .u8 ln0 from rfl,←c];clear c;go_wp2_with fail;refine HA.out.mono ?_;rintro e m ⟨rfl,c⟩;have j:(Me ⟨m.heap.size,0,N⟩ [I Z Q,I Z F,I Z av] 0).run Y (m.alloc (O #[I Z 0,I Z 0,I Z 0] 139))=.ok () (m.alloc (O #[I Z Q,I Z F,I Z av] 139)):=Mi m 139 _ #[I Z Q,I Z F,I Z av] (by kernel_rfl) rfl (by simp[Ni]);have H1:=aA c;clear c;go_upto_region 4 with fail;have⟨o,B,C,D,ok,H,J,A⟩:=HU.out;have p:aC ba (m.alloc (O #[I Z Q,I Z F,I Z av] 139)):=Ka (aK (K.refl ba) H1.out);have L:(m.alloc (O #[I Z Q,I Z F,I Z av] 139)).heap[m.heap.size]?=S (O #[I Z Q,I Z F,I Z av] 139):=aG _ _ _ rfl;have tA:col m.heap.size=0:=o.top _ H1.out.size;have⟨W1,h⟩:=Ex (m.alloc (O #[I Z Q,I Z F,I Z av] 139));rw[←h]at p L;have L8:=Lw L 3 rfl;rw[←h];have HT:=aA (NC ok (show n+2<bY by omega) Q F av J A W1 (o.keeps p));unfold FQ at HT;have⟨c,f,g⟩:=HV.out;rw[c,f,g]at HT;have ab:=bT p L tA H1.out.size;clear h j o B C D ok H J A p L tA c f g;go_wp2_with fail;refine HT.out.mono ?_;rintro e h ⟨c2,s2,rfl,G,r,t,c⟩;have⟨o,B,C,D,ok,H,J,A⟩:=HU.out;have⟨p,L,tA,V⟩:=ab.out;have p6:=t.at (aE p C) (by rw[D];exact jS);have p8:=t.at L (by rw[tA];exact jS);have M:c2 w.heap.size=0:=(t.old _ (aB (aE p C))).trans D;obtain⟨W3,SX,SY,u,f,T⟩:=ND (w:=h) (t1:=38) (t2:=144) (z1:=aD .u8 ln0) (z2:=#[I Z 0,I Z 0]) (c1:=aD .u8 d) (c2:=#[I Z k,I Z R]) (by rw[i,aP];rfl) rfl (dG _ _) (by simp[Ni]);have⟨W4,ad⟩:=Ex (W3.setRow (h.heap.size+1) #[I Z k,I Z R]);rw[←ad]at SY u f T;have v:c2 h.heap.size=0:=G.top _ Nl;have x:c2 (h.heap.size+1)=0:=G.top _ (Nu _);have g:=aE T p6;have X:=aE T p8;have ar:m.heap.size<W4.heap.size:=aB X;have an:h.heap.size+1<W4.heap.size:=aB f;have bb:w.heap.size<h.heap.size:=aB p6;have y:=G.keeps T;have j:=((aS.keeps B).trans (aS.keeps p)).trans (t.trans (aS.keeps T));have ae:Hid (∀W,aC W4 W→(Mc ⟨h.heap.size,0,N⟩ 0 64 #[]).run Y W=.ok (aD .u8 d) W∧(Mc ⟨h.heap.size+1,0,N⟩ 0 2 #[]).run Y W=.ok #[I Z k,I Z R] W):=aA fun W z=>⟨Lw (aE z u) 64 i,Lw (aE z f) 2 rfl⟩;have f0:=Cw f 0;simp at f0;have z:=pP y r j c M g v x;have HX:=aH H (kH.at c A);clear HU HT ab L8 o B C D ok H J A p L tA V t p6 p8 G r c M j v x y H1 HA ad T;have A:=Cw X 0;simp at A;go_wp2_with fail;rw[gR,show aD .u8 (Nd 64 (0:Int))=aD .u8 ln0 from rfl,SX];clear SX;go_upto_region 5 with fail;go_cut [33] from 28 to 33 fun j c=>j=.bool (k==1&&a)∧c=W4
 case first=>
  by_cases c:k=1
  ·subst c;go_wp2_with fail;go_meet;exact⟨by simp_all,rfl⟩
  ·go_wp2_with fail;go_meet;exact⟨by simp_all,rfl⟩
 case rest=>
  obtain⟨rfl,rfl⟩:=hcut;go_upto_if 33 with fail;go_cut [] from 33 to 38 fun c=>∃(c3:Nat→Nat) (r:CtSt),dB q c3 r (n+3) c∧cO r∧aS KC col w c3 c∧Readed s l a r∧c.heap[w.heap.size]?=S (O (aD .u8 ln0) 38)∧c.heap[h.heap.size]?=S (O (aD .u8 d) 38)∧c.heap[h.heap.size+1]?=S (O #[I Z k,I Z R] 144)∧c3 w.heap.size=0
  case first=>
   cases D:(k==1&&a)
   ·go_wp2_with fail;go_meet;have⟨y,r,j,c,M,g,v,x⟩:=z.out;exact⟨c2,s2,y.mono (Nu _),r,j,(aa.out _).2 ⟨s2,c,by rw[Fn (by simp_all)]⟩,g,u,f,M⟩
   ·have B:=aA (wR z.out.2.1 (show n+2<bY by have:=HX.out.1;omega) Q d U HB.out false HX.out.2 wc z.out.1);obtain⟨G,_⟩:=ae.out wc Kr;go_wp2_with fail;refine B.out.mono ?_;rintro e H ⟨J,C,L,rfl,p,t,o,rfl⟩;go_wp2_with fail;go_meet;have⟨y,r,j,c,M,g,v,x⟩:=z.out;exact⟨C,_,p,t,j.trans o,(aa.out _).2 ⟨s2,c,by rw[Fp (by simp_all)]⟩,o.at g (by rw[M];exact jS),o.at u (by rw[v];exact jS),o.at f (by rw[x];exact jS),(o.old _ (aB g)).trans M⟩
  case rest=>
   obtain⟨c3,r,c,j,o,p,t,v,x,y⟩:=hcut;clear f0 A ae SY g X u f ar an HX z;have V:=aB t;have g:=aB v;have u:=aB x;obtain⟨f,B,C⟩:=FD (n1:=64) (n2:=2) (R1:=w.heap.size) (aD .u8 d) v x i rfl (by omega);have A:Hid (∀W,aC wc W→(Mc ⟨h.heap.size,0,N⟩ 0 64 #[]).run Y W=.ok (aD .u8 d) W∧(Mc ⟨h.heap.size+1,0,N⟩ 0 2 #[]).run Y W=.ok #[I Z k,I Z R] W):=aA fun W z=>⟨Lw (aE z v) 64 i,Lw (aE z x) 2 rfl⟩;have D:=eQ c j o p t y;clear c j o p t v x y f B C;go_wp2_with fail;refine eK (by kernel_rfl) (lS [0,1,2] [] [3,4] (by kernel_rfl) ?_);simp only[aM,d8]
   repeat
    with_reducible refine dS fun K f=>?_
    go_simp
    try first
     |(apply Ei
       intro j c;obtain⟨o,p⟩:=c.cells;have U:=A.out _ c;go_simp
       first
        |(go_at_call 92;with_reducible exact l9 (W0 k R j))
        |rfl)
     |(with_reducible refine aQ ?_ ?_;first|decide|simp[Mv];done)
    refine f _ ?_;clear f K
   with_reducible refine dR ?_
   with_reducible refine eZ ?_
   intro W z;have⟨c,j,o,p,t,y⟩:=D.out;have f:=aE z t;have x:=Sw f (aD .u8 d) (by rw[i,aP];rfl) (dG _ _);have v:=aB f;clear A V g u;go_wp2_with fail;refine dT ?_;go_wp2_with fail;have g:=kO W w.heap.size (aD .u8 d);refine My (iF (P:=Y) results56 _ _ w.heap.size 38 (aD .u8 d) (0,0) (.array 64 5) rfl (Hw f _) (by kernel_rfl) rfl (by rw[i];kernel_rfl)) rfl ⟨c3,r,rfl,(c.keeps z).chg g fun b u=>by subst u;rw[y];omega,j,(o.trans (aS.keeps z)).loc _ Nl g,p⟩
theorem Ej {col:Nat→Nat} (ok:cO s) (l:Int) (o:bel l (s.ld.rp.t.seen*s.ld.rp.t.c)=false) (k:Bool) (w:Mr) (B:dB q col s n w):Mt Y 56 #[q.ar,I Z l,.bool k] w fun e r=>e=E (.tuple #[.agg (aD .u8 ln0),I Z 30])∧Mu w.heap.size w r:=by
 have⟨A,i⟩:=Ex (w.alloc (O (aD .u8 ln0) 38));have c:aC w A:=by rw[i];exact aU
 have g:A.heap[w.heap.size]?=S (O (aD .u8 ln0) 38):=by rw[i];exact aG _ _ _ rfl
 have p:=B.keeps c;have t:=aA (WA ok l o A p);have u:=aH c g;unfold dK.ar at*;clear B p c g o;go_in;go_upto_region 1 with fail;rw[gR,show aD .u8 (Nd 64 (0:Int))=aD .u8 ln0 from rfl,←i];clear i;go_wp2_with fail;refine t.out.mono ?_;rintro e a ⟨rfl,d⟩;have⟨c,g⟩:=u.out;have j:(Me ⟨a.heap.size,0,N⟩ [I Z 0,I Z 0,I Z 0] 0).run Y (a.alloc (O #[I Z 0,I Z 0,I Z 0] 139))=.ok () (a.alloc (O #[I Z 0,I Z 0,I Z 0] 139)):=Mi a 139 _ #[I Z 0,I Z 0,I Z 0] (by kernel_rfl) rfl (by simp[Ni]);have h:aC w (a.alloc (O #[I Z 0,I Z 0,I Z 0] 139)):=Ka (aK c d);have b:(a.alloc (O #[I Z 0,I Z 0,I Z 0] 139)).heap[w.heap.size]?=S (O (aD .u8 ln0) 38):=aE (Ka d) g;have⟨v,f⟩:=Ex (a.alloc (O #[I Z 0,I Z 0,I Z 0] 139));rw[←f]at h b;have j:(Me ⟨a.heap.size,0,N⟩ [I Z 0,I Z 0,I Z 0] 0).run Y (a.alloc (O #[I Z 0,I Z 0,I Z 0] 139))=.ok () v:=by rw[f];exact j
 clear f;rename_i m;clear m;have x:=Sw b (aD .u8 ln0) rfl (dG _ _);have z:=aB b;have y:=aH h b;clear h b d c g;go_wp2_with fail;erw[x];go_wp2_with fail;have⟨h,b⟩:=y.out;exact My (iF (P:=Y) results56 _ _ w.heap.size 38 (aD .u8 ln0) (0,0) (.array 64 5) rfl (Hw b _) (by kernel_rfl) rfl (by kernel_rfl)) rfl ⟨rfl,Ob h Nl _⟩
theorem Ek {col:Nat→Nat} (ok:cO s) (y:n+3<bY) (l:Int) (k:s.ld.rp.has l) (w:Mr) (D:dB q col s n w):Mt Y 65 #[q.ar,I Z l] w (xH q s n l s.ld.c.back col w):=by
 have⟨F,c⟩:=Ex (w.alloc (O (aD .u8 ln0) 38));have g:aC w F:=by rw[c];exact aU
 have h:F.heap[w.heap.size]?=S (O (aD .u8 ln0) 38):=by rw[c];exact aG _ _ _ rfl
 have i:col w.heap.size=0:=D.top _ Nl;have d:=D.keeps g;have z:=aA (XG ok y l k s.ld.c.back F d);obtain⟨J,K,p,r,A,B⟩:=ok.at k;have t:(s.dec (s.ix l)).1.length=64:=by unfold CtSt.dec;exact uV (ok.dv.dr.read_len _) _
 obtain⟨L,f,_,_⟩:=d.row;have a:=d.led.row;have C:=aB f;have u:=aB a;unfold CtSt.row at f;unfold bH.row at a;have v:=Cw f 0;simp at v;have m:=Cw a 15;simp at m;have x:=Hd3 g h i;unfold dK.ar at*;unfold xH at*;generalize(s.dec (s.ix l)).1=o at*;generalize(s.dec (s.ix l)).2.1=G at*;have j:(aD .u8 o).size=64:=by rw[aP,t]
 clear D d f a g h k p r A B i;go_in;go_upto_region 1 with fail;rw[gR,show aD .u8 (Nd 64 (0:Int))=aD .u8 ln0 from rfl,←c];clear c;go_wp2_with fail;refine z.out.mono ?_;rintro e p ⟨r,A,rfl,c,d,a,f⟩;have⟨g,h,i⟩:=x.out;have k:=a.at h (by rw[i];exact jS);have H:=Sw k (aD .u8 o) (by rw[j,aP];rfl) (dG _ _);have D:=aB k;have B:=eP c d a f k;clear c d a f k v m g h i C u;go_wp2_with fail;have⟨c,d,a,f,k⟩:=B.out;have⟨g,h,i⟩:=x.out;have m:=kO p w.heap.size (aD .u8 o);have u:=(a.old _ (aB h)).trans i;exact My (iF (P:=Y) results65 _ _ w.heap.size 38 (aD .u8 o) (0,0) (.array 64 5) rfl (Hw k _) (by kernel_rfl) rfl (by rw[j];kernel_rfl)) rfl ⟨r,A,rfl,c.chg m fun b v=>by subst v;rw[u];omega,d,((aS.keeps g).trans a).loc _ Nl m,f⟩
theorem El {col:Nat→Nat} (ok:cO s) (l:Int) (j:bel l (s.ld.rp.t.seen*s.ld.rp.t.c)=false) (w:Mr) (t:dB q col s n w):Mt Y 65 #[q.ar,I Z l] w fun e a=>e=E (.tuple #[.agg (aD .u8 ln0),I Z 30])∧Mu w.heap.size w a:=by
 have⟨r,b⟩:=Ex (w.alloc (O (aD .u8 ln0) 38));have c:aC w r:=by rw[b];exact aU
 have d:r.heap[w.heap.size]?=S (O (aD .u8 ln0) 38):=by rw[b];exact aG _ _ _ rfl
 have f:=t.keeps c;have o:=aA (Ej ok l j s.ld.c.back r f);obtain⟨u,g,_,_⟩:=f.row;have a:=f.led.row;have p:=aB g;have i:=aB a;unfold CtSt.row at g;unfold bH.row at a;have k:=Cw g 0;simp at k;have h:=Cw a 15;simp at h;have m:=aH c d;unfold dK.ar at*;clear t f g a c d j;go_in;go_upto_region 1 with fail;rw[gR,show aD .u8 (Nd 64 (0:Int))=aD .u8 ln0 from rfl,←b];clear b;go_wp2_with fail;refine o.out.mono ?_;rintro e j ⟨rfl,a⟩;have⟨c,d⟩:=m.out;have b:=aE a d;have t:=Sw b (aD .u8 ln0) rfl (dG _ _);have g:=aB b;have f:=aH a b;clear a b k h c d p i;go_wp2_with fail;have⟨a,b⟩:=f.out;exact My (iF (P:=Y) results65 _ _ w.heap.size 38 (aD .u8 ln0) (0,0) (.array 64 5) rfl (Hw b _) (by kernel_rfl) rfl (by kernel_rfl)) rfl ⟨rfl,Ob (aK m.out.1 a) Nl _⟩
def NE (q:dK) (s:CtSt) (n:Nat) (col:Nat→Nat) (w:Mr) (R:CtSt→Prop) (e:Ending) (w':Mr):Prop:=∃v col' s',e=E (I Z v)∧dB q col' s' n w'∧cO s'∧aS KC col w col' w'∧R s'
def CTicked (s s':CtSt):Prop:=s'=s∨∃l,C9 s.ld l∧s'={s with ld:=l}
def CCleared (s s':CtSt):Prop:=∃l,wK s.ld l∧s'={s with ld:=l}
theorem C9.c {s l:bH} (a:C9 s l):l.c=s.c:=by obtain⟨b,t,rfl⟩:=a;rfl
theorem wK.c {s l:bH} (a:wK s l):l.c=s.c:=by unfold wK at a;subst a;rfl
theorem Em {col:Nat→Nat} (ok:cO s) (d:n<bY) (w:Mr) (g:dB q col s n w):Mt Y 38 #[q.ar] w (NE q s (n+1) col w (CTicked s)):=by
 have h:=aA (FC ok d 2 0 0 0 0 0 (C9 s.ld) (fun b W a=>yr ok.ld W a) (fun l a=>a.c) w g);obtain⟨x,b,_,_⟩:=g.row;have a:=g.led.row;have r:=aB b;have o:=aB a;unfold CtSt.row at b;unfold bH.row at a;have i:=Cw b 0;simp at i;have c:=Cw a 19;simp at c;have j:=aH g ok;have⟨v,f⟩:=Ey s.ld.time;rw[f]at c;unfold dK.ar at*;clear g b a f ok d;by_cases p:(1099511627776:Int)≤v
 ·skip
  go_in;go_wp2_with fail;go_ret;have⟨g,ok⟩:=j.out;exact⟨12,col,s,rfl,g.mono (Nu _),ok,aS.refl,.inl rfl⟩
 ·skip
  go_in;go_wp2_with fail;refine h.out.mono ?_;rintro e t ⟨u,g,k,rfl,a,b,d,f⟩;have m:=bT a b d f;clear a b d f;go_wp2_with fail;go_ret;have⟨a,b,d,f⟩:=m.out;exact⟨0,g,k,rfl,a,b,d,.inr f⟩
theorem En {col:Nat→Nat} (ok:cO s) (f:n<bY) (w:Mr) (i:dB q col s n w):Mt Y 39 #[q.ar] w (NE q s (n+1) col w (CCleared s)):=by have g:=aA fun W (b:aC w W)=>FC ok f 4 0 0 0 0 0 (wK s.ld) (fun c W a=>yq ok.ld W a) (fun l a=>a.c) W (i.keeps b);have j:=aA (UM w i.led.log);obtain⟨r,b,_,_⟩:=i.row;have a:=i.led.row;have k:=aB b;have d:=aB a;unfold CtSt.row at b;unfold bH.row at a;have h:=Cw b 0;simp at h;have c:=Cw a 18;simp at c;have m:=aH i ok;unfold dK.ar at*;clear i b a ok f;go_in;go_wp2_with fail;refine j.out.mono ?_;rintro e w0 ⟨rfl,a⟩;have i:=aA a;have f:=aA (g.out w0 a);clear a g h c k d;go_wp2_with fail;refine f.out.mono ?_;rintro e o ⟨p,g,h,rfl,a,b,c,d⟩;have k:=bT a b c d;clear a b c d;go_wp2_with fail;go_ret;have⟨a,b,c,d⟩:=k.out;exact⟨_,g,h,rfl,a,b,(aS.keeps i.out).trans c,d⟩
theorem tW {c:Array Ms} {t:TypeId} (d:W.heap[g]?=S (O c t)) (cs a:List Ms) (e:c.toList=cs++a):(Mc ⟨g,0,N⟩ 0 cs.length #[]).run Y W=.ok cs.toArray W:=by refine lL W g 0 cs fun f h b=>?_;rw[Nat.zero_add,Cw d f,←Array.getElem?_toList,e,List.getElem?_append_left (Oe.1 b).1];exact b
def CtSt.nextCur (s:CtSt):CtSt:={s with cur:=(s.cur+1)%(s.ld.rp.t.seen*s.ld.rp.t.c)}
theorem cO.nextCur (ok:cO s):cO s.nextCur:=by refine⟨ok.ld,ok.dv,ok.geo,?_⟩;obtain⟨a,b⟩:=eB ok.cur;show bel ((s.cur+1)%(s.ld.rp.t.seen*s.ld.rp.t.c)) (s.ld.rp.t.seen*s.ld.rp.t.c)=true;exact jO (Int.emod_nonneg _ (by omega)) (Int.emod_lt_of_pos _ (by omega))
theorem cO.lines (ok:cO s):0<s.ld.rp.t.seen*s.ld.rp.t.c∧s.ld.rp.t.seen*s.ld.rp.t.c<2^40:=by
 obtain⟨l,m⟩:=eB ok.cur;have a:=ok.ld.c.lay;obtain⟨c,d,e,f,g,h,i⟩:=ok.ld.geo;rw[←c,←d,←e,←f,←g,←h,←i]at a;obtain⟨b,n,o,p⟩:=eM a;have q:=nL (eE b).1;have r:=cM (eE b).1;refine⟨by omega,?_⟩;have j:s.ld.rp.t.seen≤1000000:=by unfold aR.seen;omega
 have k:0≤s.ld.rp.t.seen:=by unfold aR.seen;omega
 have:=Int.mul_le_mul j (show s.ld.rp.t.c≤64 by omega) (by omega) (by omega);omega
theorem Eo {col:Nat→Nat} (ok:cO s) (p:n+3<bY) (w:Mr) (v:dB q col s n w):Mt Y 36 #[q.ar] w (fun e d=>∃g b,e=E (.tuple #[I Z g,I Z b])∧∃a c,dB q a c (n+3) d∧cO c∧aS KC col w a d∧Readed s.nextCur s.cur true c):=by
 have d:=ok.nextCur;have hL:=ok.lines;obtain⟨c1,y⟩:=eB ok.cur;have z:=aA fun W=>EF ok.ld.c.lay rfl W;have A:=aA fun(a:Nat→Nat) W c=>XG (q:=q) (col:=a) (n:=n) d p s.cur ok.cur true W c;have C:(s.nextCur.dec (s.nextCur.ix s.cur)).1.length=64:=by unfold CtSt.dec;exact uV (d.dv.dr.read_len _) _
 have HT:Hid (∀n W,dB q col s n W→True):=aA fun _ _ _=>trivial;obtain⟨r,t,u,B,G,a6,H⟩:=ok.ld.geo;have h:(cU s.ld.c.r s.ld.c.s s.ld.c.b s.ld.c.d s.ld.c.c-s.ld.c.res)*s.ld.c.c=s.ld.rp.t.seen*s.ld.rp.t.c:=by unfold aR.seen;rw[r,t,u,B,G,H]
 rw[h]at z;obtain⟨an,g,⟨L,i,hl⟩,ho⟩:=v.row;have a:=v.led.row;have hz:=aB g;have ab:=aB a;unfold CtSt.row at g;unfold bH.row at a;have f:=fun ae=>Fw g ae;have⟨J,M⟩:=iO g 0 3;simp at J M;have⟨P,Q,R,T,U,V,X⟩:=x7 a;simp at P Q R T U V X;have m:Hid (∀W,aC w W→(Mc ⟨q.l.L,0,N⟩ 0 7 #[]).run Y W=.ok #[I Z s.ld.c.r,I Z s.ld.c.s,I Z s.ld.c.b,I Z s.ld.c.d,I Z s.ld.c.c,I Z s.ld.c.way,I Z s.ld.c.res] W):=aA fun W c=>tW (aE c a) [_,_,_,_,_,_,_] _ rfl;have HU:=aH v ok;unfold xH at A;generalize(s.nextCur.dec (s.nextCur.ix s.cur)).1=k at*;generalize(s.nextCur.dec (s.nextCur.ix s.cur)).2.1=k' at*;have j:(aD .u8 k).size=64:=by rw[aP,C]
 have⟨l,c⟩:=Ey (s.ld.rp.t.seen*s.ld.rp.t.c);rw[c]at hL z y;have D:=aA c;generalize F:s.cur=o at*;unfold dK.ar at*;clear v g a ok p d i hl ho r t u B G a6 H h c;have u:=m.out w Kr;have aa:l≠0:=by omega
 go_in;go_wp2_with fail;refine(z.out _).mono ?_;rintro e p ⟨rfl,d⟩;have⟨v,ok⟩:=HU.out;have i:=v.keeps d;obtain⟨v1,a,⟨L1,c,g⟩,h⟩:=i.row;have ad:=aB a;have f1:=fun ae=>Fw a ae;unfold CtSt.row at a;have H1:=eP d a c g h;have H:=Cw a 3;simp at H;clear v ok i a c g h d;go_upto_region 3 with fail;have⟨v,ok⟩:=HU.out;have⟨d,a,c,g,h⟩:=H1.out;have B:=dY q.X 3 p (I Z ((o+1)%l));have G:=(v.keeps d).setX (x:=(o+1)%l) (n':=n) (W':=p.setCell ⟨q.X,3,N⟩ (I Z ((o+1)%l))) (L:=L1) (v':=v1) (by rw[Hs 3 _ a];rfl) (c.chg B fun r i e=>by subst e;exact mR (c.row i) a (by decide)) g Nl (fun r i=>.inl (h r i)) (B.mono fun b _ i=>by subst i;exact .inl v.cX);have⟨W1,r⟩:=Ex (p.setCell ⟨q.X,3,N⟩ (I Z ((o+1)%l)));rw[←r]at G ⊢;obtain⟨i,t⟩:=G;have i:dB q (fX col p.heap.size W1.heap.size 7) s.nextCur n W1:=by unfold CtSt.nextCur;rw[F,D.out];exact i
 have G:=aA (A.out _ _ i);have H2:=aA ((aS.keeps d).trans (t.mono (K':=KC) fun ae hk=>by unfold KC;omega));clear v ok d a c g h B r i t A H J M P Q R T U V X m u f f1;go_wp2_with fail;refine G.out.mono ?_;rintro e h ⟨y,m,rfl,a,c,d,g⟩;have r:(Me ⟨h.heap.size,0,N⟩ (aD .u8 k).toList 0).run Y (h.alloc (O (aD .u8 (Nd 64 0)) 38))=.ok () (h.alloc (O (aD .u8 k) 38)):=Mi h 38 _ (aD .u8 k) (by rw[j];kernel_rfl) (by rw[j];kernel_rfl) (dG _ _);rw[←gR]at r;have t:=bT a c d g;clear a c d g;go_wp2_with fail;refine My (results_tmp2 rfl _ _ _) rfl ?_;have⟨a,c,d,g⟩:=t.out;have i:aC h (h.alloc (O (aD .u8 k) 38)):=Ka (K.refl h);exact⟨_,_,rfl,y,m,a.keeps i,c,(H2.out.trans d).trans (aS.keeps i),g⟩
def full64:Nat:=18446744073709551615
def Wrt (s:CtSt) (l:Int) (d:List Int) (x:Nat) (e:Int) (s':CtSt):Prop:=
 if x=full64 then e=0∧s'=s.put (s.ix l) d false
 else∃s1,kH s (s.ix l) s1∧e=toldV (s.dec (s.ix l)).2.1∧s'=if toldV (s.dec (s.ix l)).2.1=0 then s1.put (s.ix l) (fO (s.dec (s.ix l)).1 d (dO x)) false else s1.put (s.ix l) ln0 true
def G8 (q:dK) (s:CtSt) (n:Nat) (l:Int) (d:List Int) (x:Nat) (col:Nat→Nat) (w:Mr) (e:Ending) (w':Mr):Prop:=∃col' s' v,e=E (I Z v)∧dB q col' s' (n+3) w'∧cO s'∧aS KC col w col' w'∧Wrt s l d x v s'
theorem XQ {a b:List Int} (e:aX 64 a) (h:a.length=64) (f:aX 64 b) (c:List Nat):aX 64 (fO a b c):=fun g d=>by
 rw[QB a b c g (by omega)];split
 ·exact f g d
 ·exact e g d
def sP (b off:Nat) (d:List Int) (w:Mr):Prop:=b<w.heap.size∧∀i,i<64→w.cell? ⟨b,off+i,N⟩=S (.int .u8 (d.getD i 0))
theorem sP.keeps {b off:Nat} {d:List Int} (e:sP b off d w) (a:aC w w'):sP b off d w':=⟨Nj e.1 a.size,fun f c=>(a.cell (p:=⟨b,off+f,N⟩) e.1).trans (e.2 f c)⟩
theorem XR {col:Nat→Nat} (ok:cO s) (l:Int) (a:bel l (s.ld.rp.t.seen*s.ld.rp.t.c)=false) (b off cap:Nat) (d:List Int) (i:d.length=64) (x:Nat) (w:Mr) (g:dB q col s n w) (c:sP b off d w):Mt Y 67 #[q.ar,I Z l,.slice (S ⟨b,off,N⟩) 64 cap,.int .u64 x] w fun e f=>e=E (I Z 30)∧Mu w.heap.size w f:=by
 have v:=aA (WA ok l a w g);have j:(aD .u8 d).size=64:=by rw[aP,i]
 have t:=aA c;have i:=aA i;unfold dK.ar at*;clear g c a ok;go_in;go_upto_region 1 with fail;go_wp2_with fail;refine v.out.mono ?_;rintro e c ⟨rfl,f⟩;have⟨h,a⟩:=Ex (c.alloc (O #[I Z 0,I Z 0,I Z 0] 139));have g:aC w h:=by rw[a];exact Ka f
 have k:h.heap[c.heap.size]?=S (O #[I Z 0,I Z 0,I Z 0] 139):=by rw[a];exact aG _ _ _ rfl
 have A:(Me ⟨c.heap.size,0,N⟩ [I Z 0,I Z 0,I Z 0] 0).run Y (c.alloc (O #[I Z 0,I Z 0,I Z 0] 139))=.ok () h:=by rw[a];exact Mi c 139 _ #[I Z 0,I Z 0,I Z 0] (by kernel_rfl) rfl (by simp[Ni])
 clear a;have y:=aA (DY b off cap d i.out h (t.out.keeps g).1 (t.out.keeps g).2);have u:=Hd3 g k f.size;clear g k f;go_wp2_with fail;refine y.out.mono ?_;rintro e f ⟨rfl,g⟩;have k:(Me ⟨f.heap.size,0,N⟩ (aD .u8 d).toList 0).run Y (f.alloc (O (aD .u8 (Nd 64 0)) 38))=.ok () (f.alloc (O (aD .u8 d) 38)):=Mi f 38 _ (aD .u8 d) (by rw[j];kernel_rfl) (by rw[j];kernel_rfl) (dG _ _);rw[←gR]at k;have⟨o,a⟩:=Ex (f.alloc (O (aD .u8 d) 38));have p:o.heap[f.heap.size]?=S (O (aD .u8 d) 38):=by rw[a];exact aG _ _ _ rfl
 have r:aC h o:=by rw[a];exact Ka g
 have m:=g.size;rw[←a]at k;clear a;have a:o.heap[c.heap.size]?=S (O #[I Z 0,I Z 0,I Z 0] 139):=aE r u.out.2.1;have B:=aB a;have C:=aB p;have z:=bT r a p m;clear r a p m g;go_wp2_with fail;go_ret;exact⟨rfl,aK u.out.1 z.out.1⟩
theorem Fy {col:Nat→Nat} (ok:cO s) (l:Int) (a:s.ld.rp.has l) (b off cap:Nat) (d:List Int) (m:d.length=64) (w:Mr) (g:dB q col s n w) (c:sP b off d w):Mt Y 67 #[q.ar,I Z l,.slice (S ⟨b,off,N⟩) 64 cap,.int .u64 0] w fun e f=>e=E (I Z 30)∧Mu w.heap.size w f:=by
 have x:=aA (FG ok l a w g);unfold CtSt.pl at x;generalize s.ld.rp.route l=h at*;generalize s.ld.rp.t.home l=i at*;generalize s.ld.rp.t.rk l=j at*;have o:(aD .u8 d).size=64:=by rw[aP,m]
 have y:=aA c;have m:=aA m;unfold dK.ar at*;clear g c a ok;go_in;go_upto_region 1 with fail;go_wp2_with fail;refine x.out.mono ?_;rintro e c ⟨rfl,f⟩;have⟨k,a⟩:=Ex (c.alloc (O #[I Z h,I Z i,I Z j] 139));have g:aC w k:=by rw[a];exact Ka f
 have p:k.heap[c.heap.size]?=S (O #[I Z h,I Z i,I Z j] 139):=by rw[a];exact aG _ _ _ rfl
 have C:(Me ⟨c.heap.size,0,N⟩ [I Z h,I Z i,I Z j] 0).run Y (c.alloc (O #[I Z 0,I Z 0,I Z 0] 139))=.ok () k:=by rw[a];exact Mi c 139 _ #[I Z h,I Z i,I Z j] (by kernel_rfl) rfl (by simp[Ni])
 clear a;have A:=aA (DY b off cap d m.out k (y.out.keeps g).1 (y.out.keeps g).2);have z:=Hd3 g p f.size;clear g p f;go_wp2_with fail;refine A.out.mono ?_;rintro e f ⟨rfl,g⟩;have p:(Me ⟨f.heap.size,0,N⟩ (aD .u8 d).toList 0).run Y (f.alloc (O (aD .u8 (Nd 64 0)) 38))=.ok () (f.alloc (O (aD .u8 d) 38)):=Mi f 38 _ (aD .u8 d) (by rw[o];kernel_rfl) (by rw[o];kernel_rfl) (dG _ _);rw[←gR]at p;have⟨t,a⟩:=Ex (f.alloc (O (aD .u8 d) 38));have u:t.heap[f.heap.size]?=S (O (aD .u8 d) 38):=by rw[a];exact aG _ _ _ rfl
 have v:aC k t:=by rw[a];exact Ka g
 have r:=g.size;rw[←a]at p;clear a;have a:t.heap[c.heap.size]?=S (O #[I Z h,I Z i,I Z j] 139):=aE v z.out.2.1;have D:=aB a;have F:=aB u;have B:=bT v a u r;clear v a u r g;go_wp2_with fail;go_ret;exact⟨rfl,aK z.out.1 B.out.1⟩
theorem XS {col:Nat→Nat} (ok:cO s) (k:n+3<bY) (l:Int) (t:s.ld.rp.has l) (b off cap:Nat) (d:List Int) (m:d.length=64) (c:aX 64 d) (x:Nat) (M:x<2^64) (g:x=full64) (w:Mr) (G:dB q col s n w) (u:sP b off d w):Mt Y 67 #[q.ar,I Z l,.slice (S ⟨b,off,N⟩) 64 cap,.int .u64 x] w (G8 q s n l d x col w):=by
 obtain⟨L,P,h,j,o,f⟩:=ok.at t;have a:s.ix l=L:=by unfold CtSt.ix;omega
 have p:∀i,w.heap.size≤i→col i=0:=G.top;have z:=aA (FG ok l t w G);unfold CtSt.pl at z;rw[h,j]at z;generalize s.ld.rp.t.home l=r at*;have i:(aD .u8 d).size=64:=by rw[aP,m]
 have H:=aA u;have J:=aA (QK x M);have K:=mI G ok k c p a o f m;have m:=aA m;unfold dK.ar at*;clear G u t ok k h j o f a p c;have V:((x:Int)==0)=false:=by rw[g];decide
 rw[decide_eq_true (show x=18446744073709551615 from g)]at J;have B:=aA g;clear g;go_in;go_upto_region 1 with fail;go_wp2_with fail;refine z.out.mono ?_;rintro e g ⟨rfl,c⟩;have⟨t,a⟩:=Ex (g.alloc (O #[I Z L,I Z r,I Z P] 139));have f:aC w t:=by rw[a];exact Ka c
 have h:t.heap[g.heap.size]?=S (O #[I Z L,I Z r,I Z P] 139):=by rw[a];exact aG _ _ _ rfl
 have W:(Me ⟨g.heap.size,0,N⟩ [I Z L,I Z r,I Z P] 0).run Y (g.alloc (O #[I Z 0,I Z 0,I Z 0] 139))=.ok () t:=by rw[a];exact Mi g 139 _ #[I Z L,I Z r,I Z P] (by kernel_rfl) rfl (by simp[Ni])
 clear a;have Q:=aA (DY b off cap d m.out t (H.out.keeps f).1 (H.out.keeps f).2);have A:=Hd3 f h c.size;clear f h c;go_wp2_with fail;refine Q.out.mono ?_;rintro e h ⟨rfl,c⟩;have u:(Me ⟨h.heap.size,0,N⟩ (aD .u8 d).toList 0).run Y (h.alloc (O (aD .u8 (Nd 64 0)) 38))=.ok () (h.alloc (O (aD .u8 d) 38)):=Mi h 38 _ (aD .u8 d) (by rw[i];kernel_rfl) (by rw[i];kernel_rfl) (dG _ _);rw[←gR]at u;have⟨v,a⟩:=Ex (h.alloc (O (aD .u8 d) 38));have j:v.heap[h.heap.size]?=S (O (aD .u8 d) 38):=by rw[a];exact aG _ _ _ rfl
 have k:aC t v:=by rw[a];exact Ka c
 have f:=c.size;rw[←a]at u;clear a;have a:v.heap[g.heap.size]?=S (O #[I Z L,I Z r,I Z P] 139):=aE k A.out.2.1;have X:=aB a;have aa:=aB j;have y:=bT k a j f;clear k a j f c;have L2:=Lw y.out.2.2.1 64 i;have a:=y.out.2.1;have R:=Cw a 0;simp at R;clear a;have⟨G,ok,k,c,p,a,o,f,j⟩:=K.out;have T:=aA (wR ok (show n<bY by omega) L d j c false f v (G.keeps (aK A.out.1 y.out.1)));clear G ok k c p a o f j;go_wp2_with fail;refine(J.out _).mono ?_;rintro e w3 ⟨rfl,rfl⟩;go_wp2_with fail;refine T.out.mono ?_;rintro e w4 ⟨v4,U,s4,rfl,C,D,F,rfl⟩;go_wp2_with fail;go_ret;have⟨G,ok,k,c,p,a,o,f,j⟩:=K.out;exact⟨U,_,0,rfl,C.mono (by omega),D,(aS.keeps (aK A.out.1 y.out.1)).trans F,by unfold Wrt;rw[Fp B.out,a];exact⟨rfl,rfl⟩⟩
theorem Fz {col:Nat→Nat} (ok:cO s) (o:n+3<bY) (l:Int) (f:s.ld.rp.has l) (b off cap:Nat) (d:List Int) (F:d.length=64) (j:aX 64 d) (x:Nat) (hx:x<2^64) (h0:x≠0) (hf:x≠full64) (w:Mr) (aa:dB q col s n w) (i:sP b off d w):Mt Y 67 #[q.ar,I Z l,.slice (S ⟨b,off,N⟩) 64 cap,.int .u64 x] w (G8 q s n l d x col w):=by
 obtain⟨G,bb,a,c,y,t⟩:=ok.at f;have g:s.ix l=G:=by unfold CtSt.ix;omega
 have u:∀h,w.heap.size≤h→col h=0:=aa.top;have h:=aA (FG ok l f w aa);unfold CtSt.pl at h;rw[a,c]at h;generalize s.ld.rp.t.home l=H at*;have R:(aD .u8 d).size=64:=by rw[aP,F]
 have HD:=aA i;have HF:=aA (QK x hx);have HU:=mI aa ok o j u g y t F;have F:=aA F;unfold dK.ar at*;clear aa i f ok o a c y t g u j;have bm:((x:Int)==0)=false:=by simpa using h0
 rw[decide_eq_false (show¬x=18446744073709551615 from hf)]at HF;go_in;go_upto_region 1 with fail;go_wp2_with fail;refine h.out.mono ?_;rintro e J ⟨rfl,c⟩;have⟨W1,a⟩:=Ex (J.alloc (O #[I Z G,I Z H,I Z bb] 139));have f:aC w W1:=by rw[a];exact Ka c
 have g:W1.heap[J.heap.size]?=S (O #[I Z G,I Z H,I Z bb] 139):=by rw[a];exact aG _ _ _ rfl
 have bn:(Me ⟨J.heap.size,0,N⟩ [I Z G,I Z H,I Z bb] 0).run Y (J.alloc (O #[I Z 0,I Z 0,I Z 0] 139))=.ok () W1:=by rw[a];exact Mi J 139 _ #[I Z G,I Z H,I Z bb] (by kernel_rfl) rfl (by simp[Ni])
 clear a;have r:=aA (DY b off cap d F.out W1 (HD.out.keeps f).1 (HD.out.keeps f).2);have H1:=Hd3 f g c.size;clear f g c;go_wp2_with fail;refine r.out.mono ?_;rintro e D ⟨rfl,c⟩;have ab:(Me ⟨D.heap.size,0,N⟩ (aD .u8 d).toList 0).run Y (D.alloc (O (aD .u8 (Nd 64 0)) 38))=.ok () (D.alloc (O (aD .u8 d) 38)):=Mi D 38 _ (aD .u8 d) (by rw[R];kernel_rfl) (by rw[R];kernel_rfl) (dG _ _);rw[←gR]at ab;have⟨L,a⟩:=Ex (D.alloc (O (aD .u8 d) 38));have g:L.heap[D.heap.size]?=S (O (aD .u8 d) 38):=by rw[a];exact aG _ _ _ rfl
 have i:aC W1 L:=by rw[a];exact Ka c
 have f:=c.size;rw[←a]at ab;clear a;have a:L.heap[J.heap.size]?=S (O #[I Z G,I Z H,I Z bb] 139):=aE i H1.out.2.1;have br:=aB a;have bs:=aB g;have M:=bT i a g f;clear i a g f c;go_wp2_with fail;refine(HF.out _).mono ?_;rintro e w3 ⟨rfl,rfl⟩;have⟨aa,ok,o,j,u,g,y,t,C⟩:=HU.out;have f:aC w L:=aK H1.out.1 M.out.1;have v:=aa.keeps f;have L8:=Lw M.out.2.1 3 rfl;have X:=aA (NC ok (show n+2<bY by omega) G H bb y t L v);have⟨p,a⟩:=Ey (s.dec G).1;have⟨P,c⟩:=Ey (s.dec G).2.1;have⟨f',i⟩:=Ey (s.dec G).2.2;have z:p.length=64:=by rw[←a];unfold CtSt.dec;exact uV (ok.dv.dr.read_len G) G
 have ad:(aD .u8 p).size=64:=by rw[aP,z]
 have HB:Hid (aX 64 p):=aA (by rw[←a];unfold CtSt.dec;exact FT _ (ok.dv.dr.read_len G) (ok.dv.dr.read_bts G) G);unfold FQ at X;rw[a,c,i]at X;have T:Hid (∀k A,Wrt s l d x A k↔∃m,kH s G m∧A=toldV P∧k=if toldV P=0 then m.put G (fO p d (dO x)) false else m.put G ln0 true):=aA (fun k A=>by unfold Wrt;rw[Fn hf,g,a,c]);clear aa ok o j u g y t C v f a c i r h;go_wp2_with fail;refine X.out.mono ?_;rintro e w4 ⟨c4,s4,rfl,k,h,a,c⟩;have⟨aa,ok,o,j,u,g,y,t,C⟩:=HU.out;have f:aC w L:=aK H1.out.1 M.out.1;have i:=c.at t;have Q:=a.at M.out.2.1 (by rw[u _ H1.out.2.2];exact jS);have m:=a.at M.out.2.2.1 (by rw[u _ (Ng H1.out.1.size M.out.2.2.2)];exact jS);have A:=ND (w:=w4) (t1:=38) (t2:=144) (z1:=aD .u8 (Nd 64 0)) (z2:=#[I Z 0,I Z 0]) (c1:=aD .u8 p) (c2:=#[I Z P,I Z f']) (by rw[ad,aP];rfl) rfl (dG _ _) (by simp[Ni]);rw[←gR]at A;obtain⟨W5,SX,SY,U,v,r⟩:=A;have⟨W6,A⟩:=Ex (W5.setRow (w4.heap.size+1) #[I Z P,I Z f']);rw[←A]at SY U v r;clear A;have V:=aE r Q;have B:=aE r m;have an:=aB V;have bd:=aB v;have ae:=Lw v 2 rfl;have A:=aA (W0 P f' W6);have H6:=aA (Ai k (Ai h (Ai a (Ai c (Ai r (Ai V (Ai B (Ai U (Ai i (Ai o (Ai j f)))))))))));clear aa ok o j u g y t C f i Q m k h a c V B U v r L8 X;have⟨e',ar⟩:=Ey (toldV P);rw[ar]at A T;go_wp2_with fail;refine A.out.mono ?_;rintro e w7 ⟨rfl,g⟩;have⟨k,h,a,c,r,Q,m,U,i,o,j,f⟩:=H6.out;have t:=aK r g;have B:=k.keeps t;have C:=aE g Q;have u:=aE g m;have v:=aE g U;have an:=aB C;have g0:=Cw C 0;simp at g0;by_cases h1:e'=0
 ·subst h1
  have HP:=aA fun W (y:aC w7 W)=>wR h (show n+2<bY by omega) G (fO p d (dO x)) (by rw[uD];exact z) (XQ HB.out z j _) false i W (B.keeps y);have LL:Hid (∀W,aC w7 W→(Mc ⟨D.heap.size,0,N⟩ 0 64 #[]).run Y W=.ok (aD .u8 d) W∧(Mc ⟨w4.heap.size,0,N⟩ 0 64 #[]).run Y W=.ok (aD .u8 p) W):=aA fun W y=>⟨Lw (aE y u) 64 R,Lw (aE y v) 64 ad⟩;have av:Hid (∀w0,Mt Y 68 #[.agg (aD .u8 p),.agg (aD .u8 d),.int .u64 x] w0 fun e y=>e=E (.agg (aD .u8 (fO p d (dO x))))∧Mu w0.heap.size w0 y):=aA fun w0=>PH p d z F.out x hx w0;have H7:=bT a t c f;clear k h a c r Q m U i o j f t B C u v g A SX SY ae;go_wp2_with fail;refine eK (by kernel_rfl) (lS [0,1,2,3,4,5,6] [] [7] (by kernel_rfl) ?_);simp only[aM,d8]
  repeat
   with_reducible refine dS fun K c=>?_
   go_simp
   try first
    |(apply Ei
      intro y a;obtain⟨g,h⟩:=a.cells;have f:=LL.out _ a;go_simp
      first
       |(go_at_call 68;with_reducible exact l9 (av.out y))
       |rfl)
    |(with_reducible refine aQ ?_ ?_;first|decide|simp[Mv];done)
   refine c _ ?_;clear c K
  with_reducible refine dR ?_
  with_reducible refine eZ ?_
  intro W y;have ba:=aA (HP.out W y);have HW:=aA y;clear HP LL y;go_wp2_with fail;refine ba.out.mono ?_;rintro e w8 ⟨v8,c8,s8,rfl,V,X,aa,rfl⟩;go_wp2_with fail;refine dT ?_;go_wp2_with fail;go_ret;have⟨a,t,c,f⟩:=H7.out;exact⟨c8,_,0,rfl,V,X,((aS.keeps f).trans a).trans ((aS.keeps (aK t HW.out)).trans aa),(T.out _ _).2 ⟨s4,c,rfl,by simp⟩⟩
 ·have y:(e'==0)=false:=by simpa using h1
  have HP:=aA (wR h (show n+2<bY by omega) G ln0 rfl kI true i w7 B);have H7:=bT a t c f;clear k h a c r Q m U i o j f t B C u v g A SX SY ae;go_wp2_with fail;rw[gR];refine HP.out.mono ?_;rintro e w8 ⟨v8,c8,s8,rfl,V,X,aa,rfl⟩;go_wp2_with fail;go_ret;have⟨a,t,c,f⟩:=H7.out;exact⟨c8,_,e',rfl,V,X,((aS.keeps f).trans a).trans ((aS.keeps t).trans aa),(T.out _ _).2 ⟨s4,c,rfl,by rw[Fn h1]⟩⟩
theorem Ga {col:Nat→Nat} (ok:cO s) (l:Int) (a:bel l (s.ld.rp.t.seen*s.ld.rp.t.c)=false) (b off cap:Nat) (d:List Int) (c:d.length=64) (w:Mr) (h:dB q col s n w) (f:sP b off d w):Mt Y 66 #[q.ar,I Z l,.slice (S ⟨b,off,N⟩) 64 cap] w fun e g=>e=E (I Z 30)∧Mu w.heap.size w g:=by have g:=aA (XR ok l a b off cap d c full64 w h f);unfold dK.ar at*;clear h f a ok c;go_in;go_wp2_with fail;refine g.out.mono ?_;rintro e f ⟨rfl,a⟩;have c:=aA a;clear a;go_wp2_with fail;go_ret;exact⟨rfl,c.out⟩
theorem Gb {col:Nat→Nat} (ok:cO s) (h:n+3<bY) (l:Int) (a:s.ld.rp.has l) (b off cap:Nat) (d:List Int) (c:d.length=64) (f:aX 64 d) (w:Mr) (j:dB q col s n w) (g:sP b off d w):Mt Y 66 #[q.ar,I Z l,.slice (S ⟨b,off,N⟩) 64 cap] w (G8 q s n l d full64 col w):=by have i:=aA (XS ok h l a b off cap d c f full64 (by decide) rfl w j g);unfold dK.ar at*;clear j g a ok c f;go_in;go_wp2_with fail;refine i.out.mono ?_;rintro e o ⟨j,k,p,rfl,a,c,f,g⟩;have m:=bT a c f g;clear a c f g;go_wp2_with fail;go_ret;exact⟨j,k,p,rfl,m.out⟩
end
section
open Go.RowKit
theorem Ep {g c a d b:Int} (k:0≤g) (l:g<1024) (m:0≤c) (n:c<1024) (h:0≤a) (o:a<1024) (p:1≤d) (e:d≤1024) (q:1≤b) (f:b≤1024):0≤a*b∧a*b≤1048576∧0≤(a*b+c)*d∧(a*b+c)*d≤1074791424:=by have i:0≤a*b:=Int.mul_nonneg h (by omega);have r:a*b≤1024*1024:=Int.mul_le_mul (by omega) f (by omega) (by omega);have j:0≤(a*b+c)*d:=Int.mul_nonneg (by omega) (by omega);have s:(a*b+c)*d≤1049600*1024:=Int.mul_le_mul (by omega) e (by omega) (by omega);exact⟨i,by omega,j,by omega⟩
theorem FU (D B:Nat) (f c b g d t:Int) (u:0≤f) (v:f<1024) (x:0≤c) (y:c<1024) (z:0≤b) (A:b<1024) (C:1≤g) (l:g≤1024) (F:1≤d) (m:d≤1024)
 (w:Mr) (j:D<w.heap.size) (k:B<w.heap.size)
 (o:w.cell? ⟨D,0,N⟩=S (I Z f)) (c1:w.cell? ⟨D,1,N⟩=S (I Z c)) (c2:w.cell? ⟨D,2,N⟩=S (I Z b))
 (q:w.cell? ⟨B,0,N⟩=S (I Z g)) (r:w.cell? ⟨B,1,N⟩=S (I Z d)) (s:w.cell? ⟨B,2,N⟩=S (I Z t)):
 Mt Y 131 #[.slice (S ⟨D,0,N⟩) 3 3,.slice (S ⟨B,0,N⟩) 3 3] w fun e a=>e=E (I Z ((b*d+c)*g+f))∧Mu w.heap.size w a:=by
 obtain⟨G,H,J,K⟩:=Ep u v x y z A C l F m;go_in;go_wp2_with fail;go_loopw [5,6] (fun n a wr=>((a=I Z 2∧n=I Z 0)∨(a=I Z 1∧n=I Z b)∨(a=I Z 0∧n=I Z (b*d+c))∨(a=I Z (-1)∧n=I Z ((b*d+c)*g+f)))∧Mu w.heap.size w wr) fun _ a _=>(intOf a+1).toNat
 case atStart=>exact⟨.inl ⟨rfl,rfl⟩,Bl⟩
 case round=>
  obtain⟨h,a⟩:=hrel;have L:=(a.cell (p:=⟨D,0,N⟩) j).trans o;have M:=(a.cell (p:=⟨D,1,N⟩) j).trans c1;have P:=(a.cell (p:=⟨D,2,N⟩) j).trans c2;have Q:=(a.cell (p:=⟨B,0,N⟩) k).trans q;have R:=(a.cell (p:=⟨B,1,N⟩) k).trans r;have T:=(a.cell (p:=⟨B,2,N⟩) k).trans s;have i:=aA a;clear a o c1 c2 q r s;rcases h with⟨rfl,rfl⟩|⟨rfl,rfl⟩|⟨rfl,rfl⟩|⟨rfl,rfl⟩
  ·go_wp2_with fail
   go_quiet (fail)
   go_wp2_with fail;go_roundw
   case rel=>exact⟨.inr (.inl ⟨rfl,rfl⟩),i.out.trans ⟨rfl,rfl,rfl,Nl,fun _ _=>rfl⟩⟩
   case measure=>simp[intOf]
  ·go_wp2_with fail
   go_quiet (fail)
   go_wp2_with fail;go_roundw
   case rel=>exact⟨.inr (.inr (.inl ⟨rfl,rfl⟩)),i.out.trans ⟨rfl,rfl,rfl,Nl,fun _ _=>rfl⟩⟩
   case measure=>simp[intOf]
  ·go_wp2_with fail
   go_quiet (fail)
   go_wp2_with fail;go_roundw
   case rel=>exact⟨.inr (.inr (.inr ⟨rfl,rfl⟩)),i.out.trans ⟨rfl,rfl,rfl,Nl,fun _ _=>rfl⟩⟩
   case measure=>simp[intOf]
  ·go_wp2_with fail;go_ret;exact⟨rfl,i.out⟩
theorem Er (r s b d c way o rk bk rw C:Int) (D:way=0∨way=1∨way=2∨way=3) (p:dF r s b d c=true) (J:0≤o) (K:o<131072) (x:∀w,Mt Y 21 #[.agg #[I Z r,I Z s,I Z b,I Z d,I Z c],I Z (o*64)] w fun e a=>e=E (.tuple #[.agg #[I Z rk,I Z bk,I Z rw,I Z C],I Z 0])∧Mu w.heap.size w a)
 (q:0≤rk) (L:rk<r) (t:0≤bk) (F:bk<b) (m:0≤rw) (M:rw<d) (w:Mr):
 Mt Y 95 #[.agg #[I Z r,I Z s,I Z b,I Z d,I Z c],I Z way,I Z o] w fun e a=>e=E (.tuple #[I Z (nT way r b d rk bk rw),I Z 0])∧Mu w.heap.size w a:=by
 have G:=aA (IH (way:=way) p (by omega) (by omega));obtain⟨y,P,Q,u,R,z,T,U,V⟩:=cM p;obtain⟨H,W⟩:=PU t F (uB p).2.2.2.1 m (by omega);rcases D with rfl|rfl|rfl|rfl
 case' inl=>
  have n:nT 0 r b d rk bk rw=((rk)*b+(bk))*d+(rw):=by unfold nT;rw[Fp rfl];rw[Int.add_comm,Int.mul_comm d,Int.add_comm (bk),Int.mul_comm b]
  have v:=aA (fun A B w a f g h i j k l=>FU A B (rw) (bk) (rk) d b r m (by omega) t (by omega) q (by omega) z (by omega) u (by omega) w a f g h i j k l)
 case' inr.inl=>
  have n:nT 1 r b d rk bk rw=((rk)*d+(rw))*b+(bk):=by unfold nT;rw[Fn (by decide),Fp rfl];rw[Int.add_comm,Int.mul_comm b,Int.add_comm (rw),Int.mul_comm d]
  have v:=aA (fun A B w a f g h i j k l=>FU A B (bk) (rw) (rk) b d r t (by omega) m (by omega) q (by omega) u (by omega) z (by omega) w a f g h i j k l)
 case' inr.inr.inl=>
  have n:nT 2 r b d rk bk rw=((rw)*b+(bk))*r+(rk):=by unfold nT;rw[Fn (by decide),Fn (by decide),Fn (by decide)];rw[Int.add_comm,Int.mul_comm r,Int.add_comm (bk),Int.mul_comm b]
  have v:=aA (fun A B w a f g h i j k l=>FU A B (rk) (bk) (rw) r b d q (by omega) t (by omega) m (by omega) y (by omega) u (by omega) w a f g h i j k l)
 case' inr.inr.inr=>
  have n:nT 3 r b d rk bk rw=((rw)*b+(xb bk rw b))*r+(rk):=by unfold nT;rw[Fn (by decide),Fn (by decide),Fp rfl];rw[Int.add_comm,Int.mul_comm r,Int.add_comm (xb bk rw b),Int.mul_comm b]
  have v:=aA fun A B w a f g h i j k l=>FU A B (rk) (xb bk rw b) (rw) r b d q (by omega) H (by omega) m (by omega) y (by omega) u (by omega) w a f g h i j k l
 all_goals
  rw[n];have A:Hid (bits .xor .i64 bk (bits .and .i64 rw (b-1))=xb bk rw b):=rfl;have k:=aA x;clear x p n;go_in;go_wp2_with fail;refine(pY G.out _).mono ?_;rintro e X ⟨rfl,j⟩;obtain⟨i,p⟩:=iI j;have a:=GS j;go_wp2_with fail;refine(k.out _).mono ?_;rintro e g ⟨rfl,h⟩;obtain⟨f,l⟩:=iI h;have n:=Nj a h.size;have x:=aA (vK (mJ j) h);have g0:g.cell? ⟨w.heap.size,0,N⟩=S (I Z r):=by rw[f _ _ a,i _ _ (by simp)];simp[go_sem]
  have g1:g.cell? ⟨w.heap.size,1,N⟩=S (I Z s):=by rw[f _ _ a,i _ _ (by simp)];simp[go_sem]
  have g2:g.cell? ⟨w.heap.size,2,N⟩=S (I Z b):=by rw[f _ _ a,i _ _ (by simp)];simp[go_sem]
  have g3:g.cell? ⟨w.heap.size,3,N⟩=S (I Z d):=by rw[f _ _ a,i _ _ (by simp)];simp[go_sem]
  have g4:g.cell? ⟨w.heap.size,4,N⟩=S (I Z c):=by rw[f _ _ a,i _ _ (by simp)];simp[go_sem]
  clear i p f l j h a;have f:w.heap.size≠g.heap.size:=by omega
  have h:g.heap.size≠w.heap.size:=by omega
  go_wp2_with fail;try rw[A.out]
  refine(v.out (g.heap.size+1) (g.heap.size+1+1) _ (by simp) (by simp) (by simp[go_sem]) (by simp[go_sem]) (by simp[go_sem]) (by simp[go_sem]) (by simp[go_sem]) (by simp[go_sem])).mono ?_;rintro e i ⟨rfl,a⟩;go_wp2_with fail;go_ret2;exact⟨rfl,x.out.trans ((al a).mono (Nat.le_of_lt n))⟩
def XH (r s b d c way ph:Int):Prop:=iL r s b d c way=true∧0≤ph∧ph<131072∧eC r s b d c (ph*64)=true∧ph/16384<r
theorem Es (r s b d c way a:Int) (g:XH r s b d c way a) (w:Mr):Mt Y 95 #[.agg #[I Z r,I Z s,I Z b,I Z d,I Z c],I Z way,I Z a] w fun e f=>e=E (.tuple #[I Z (nT way r b d (a/16384) (a/1024%16) (a%1024)),I Z 0])∧Mu w.heap.size w f:=by
 obtain⟨j,k,l,f,h⟩:=g;have g:=DN r s b d c (a*64);rw[f]at g;unfold AL at g;have m:a*64/1048576=a/16384:=by omega
 have n:a*64/65536%16=a/1024%16:=by omega
 have o:a*64/64%1024=a%1024:=by omega
 unfold eC at f;simp only[Nq]at f;have i:=f.2;rw[m,n,o]at g i;obtain⟨p,q,_,t,u,v,x,_,_⟩:=oV i;obtain⟨_,w0,y⟩:=eE j;exact Er r s b d c way a _ _ _ _ (by omega) p k l g q h t u v x w
variable {P:Program}
def XJ (P:Program) (g:Nat) (lb:Array Ms) (xs:List (Array Ms)) (reads:Nat→Prop) (W:Mr):Prop:=
 ∀(l:Nat) (J:Nat→(Nat→Prop)→Mr→Prop) (Jx:(Nat→Prop)→Mr→Prop),¬reads l→
  (∀k O A B,J k O A→aF (fun b=>¬O b) A B→J k O B)→(∀O A B,Jx O A→aF (fun b=>¬O b) A B→Jx O B)→
  (∀k O A,J k O A→∀b,O b→b<A.heap.size)→(∀O A,Jx O A→∀b,O b→b<A.heap.size)→
  (∀k O x A m,xs[k]?=S x→J k O A→W.heap.size≤A.heap.size→YieldAt Fence.wide m P l x A fun e A'=>∃O':Nat→Prop,aF O A A'∧(∀b,O' b→O b∨A.heap.size≤b)∧((e=E (.bool true)∧J (k+1) O' A')∨(e=E (.bool false)∧Jx O' A')))→
  ∀O,J 0 O W→(∀b,O b→¬reads b)→
  Mt P g (#[.func (.yield l) #[] #[]]++lb) W fun e W'=>(∃v,e=E v)∧∃O',J xs.length O' W'∨Jx O' W'
def XK (I:Nat→(Nat→Prop)→Mr→Prop) (Ix:Code→(Nat→Prop)→Mr→Prop) (k:Nat) (O:Nat→Prop) (W:Mr):Exit→Act→Mr→Prop
 |.normal,_,W'=>∃O':Nat→Prop,aF O W W'∧(∀b,O' b→O b∨W.heap.size≤b)∧I k O' W'
 |.ret,_,W'=>∃O':Nat→Prop,aF O W W'∧(∀b,O' b→O b∨W.heap.size≤b)∧Ix .ret O' W'
 |.exit id,_,W'=>∃O':Nat→Prop,aF O W W'∧(∀b,O' b→O b∨W.heap.size≤b)∧Ix (.exit id) O' W'
 |.goto t,_,W'=>∃O':Nat→Prop,aF O W W'∧(∀b,O' b→O b∨W.heap.size≤b)∧Ix (.goto t) O' W'
 |.panic _,_,_=>False
 |.outgrown,_,_=>False
theorem Fc {assign body:Code} {ps:Array Tmp} {a:Act} {x:Array Ms} {m l k fn D:Nat} {I:Nat→(Nat→Prop)→Mr→Prop} {F:Code→(Nat→Prop)→Mr→Prop} {O:Nat→Prop}
 {f:LoopState→Option Code→Loop} (i:f=fun c d=>{state:=c,pending:=d,fn,tmps:=a.tmps,params:=ps,assign,body,defers:=D})
 (M:x.size=ps.size) (K:¬O l)
 (Q:∀k O d c,I k O d→aF (fun b=>¬O b) d c→I k O c) (B:∀h O d c,F h O d→aF (fun b=>¬O b) d c→F h O c)
 {W:Mr} (R:I k O W) (L:W.heap[l]?=S (.loop (f .ready N)))
 (v:assign.wpIn (Fence.wide.inRound l) m P (Exit.then (fun A d=>d=W∧∀c,aF (fun b=>b=l) W c→(∃g,c.heap[l]?=S (.loop g)∧g.defers=D)→I k O c→body.wpIn (Fence.wide.inRound l) m P (XK I F (k+1) O c) A c) fun _ _ _=>False) {tmps:=(ps.zip x).foldl (fun t (c,d)=>t.setIfInBounds c d) a.tmps,defers:=[]} W):
 YieldAt Fence.wide m P l x W fun e W'=>∃g:Nat→Prop,aF (fun b=>O b∨b=l) W W'∧(∀b,g b→O b∨W.heap.size≤b)∧((e=E (.bool true)∧I (k+1) g W'∧W'.heap[l]?=S (.loop (f .ready N)))∨(e=E (.bool false)∧∃h,F h g W'∧W'.heap[l]?=S (.loop (f .done (S h))))):=by
 have G:l<W.heap.size:=(Nz.1 L).1;have c:=run_yield (P:=P) (args:=x) L (by rw[i];exact M);rw[i]at c;refine⟨fn,_,assign,body,c,roundIn_of_wpIn trivial (wpIn_mono v ?_)⟩;clear c;rintro e A d j;cases e with
 |normal=>
  obtain⟨rfl,C⟩:=j;refine⟨_,run_beginRound L (by rw[i]),?_⟩;have H:(d.putObj l (.loop {f .ready N with state:=.busy})).heap[l]?=S (.loop {f .ready N with state:=.busy}):=Mr.putObj_heap_same G;have w:aF (fun b=>b=l) d (d.putObj l (.loop {f .ready N with state:=.busy})):=aF.putObj (cw:=fun b=>b=l) Cl (.inl rfl) _;have J:(d.putObj l (.loop {f .ready N with state:=.busy})).heap.size=d.heap.size:=by simp
  refine wpIn_mono (C _ w ⟨_,H,by rw[i]⟩ (Q _ _ _ _ R (w.mono fun b _ o p=>by subst o;exact K p))) ?_
  have y:∀(c:Option Code) (g:Nat→Prop) (n:Mr),aF O (d.putObj l (.loop {f .ready N with state:=.busy})) n→(∀b,g b→O b∨(d.putObj l (.loop {f .ready N with state:=.busy})).heap.size≤b)→
   (Instr.endRound l c).run P n=.ok (.bool c.isNone) (n.putObj l (.loop (f (if c.isNone then .ready else .done) c)))∧
   (n.putObj l (.loop (f (if c.isNone then .ready else .done) c))).heap[l]?=S (.loop (f (if c.isNone then .ready else .done) c))∧
   aF (fun b=>¬g b) n (n.putObj l (.loop (f (if c.isNone then .ready else .done) c)))∧
   aF (fun b=>O b∨b=l) d (n.putObj l (.loop (f (if c.isNone then .ready else .done) c)))∧(∀b,g b→O b∨d.heap.size≤b):=fun c g n h u=>by
   have j:=(h.block l (by rw[J];exact G) K).trans H;have:=run_endRound (P:=P) c j;rw[J]at u;rw[i]at this ⊢;refine⟨this,Mr.putObj_heap_same (Nz.1 j).1,(aF.putObj (cw:=fun b=>b=l) Cl (.inl rfl) _).mono (fun b _ o p=>?_),?_,u⟩
   ·subst o
    rcases u _ p with p|p
    ·exact K p
    ·omega
   ·rw[i]at w h;exact((w.mono fun _ _ p=>.inr p).trans (h.mono fun _ _ p=>.inl p)).putObj (.inl (.inr rfl)) _
  rintro e U n j;cases e with
  |normal=>obtain⟨g,h,u,o⟩:=j;obtain⟨z,p,q,r,s⟩:=y N g n h u;exact⟨_,_,z,g,r,s,.inl ⟨rfl,Q _ _ _ _ o q,p⟩⟩
  |ret=>obtain⟨g,h,u,o⟩:=j;obtain⟨z,p,q,r,s⟩:=y (S .ret) g n h u;exact⟨_,_,z,g,r,s,.inr ⟨rfl,.ret,B _ _ _ _ o q,p⟩⟩
  |exit id=>obtain⟨g,h,u,o⟩:=j;obtain⟨z,p,q,r,s⟩:=y (S (.exit id)) g n h u;exact⟨_,_,z,g,r,s,.inr ⟨rfl,.exit id,B _ _ _ _ o q,p⟩⟩
  |goto t=>obtain⟨g,h,u,o⟩:=j;obtain⟨z,p,q,r,s⟩:=y (S (.goto t)) g n h u;exact⟨_,_,z,g,r,s,.inr ⟨rfl,.goto t,B _ _ _ _ o q,p⟩⟩
  |panic T=>exact j.elim
  |outgrown=>exact j.elim
 |ret=>exact j.elim
 |exit id=>exact j.elim
 |goto t=>exact j.elim
 |panic T=>exact j.elim
 |outgrown=>exact j.elim
theorem Fd {g:Operand} {ps:Array Tmp} {assign body:Code} {Q:Exit→Act→Mr→Prop} {a:Act} {w:Mr} (n m:Nat)
 {gf:Nat} {lb:Array Ms} (K:a.eval g=.func (.func gf) #[] lb) (eg:∀args w,(callFunc gf args).run P w=.ok (.enter gf args) w)
 (xs:List (Array Ms)) (r:Nat→Prop) (j:∀b,r b→b<w.heap.size) (aa:∀q,Mu w.heap.size w q→XJ P gf lb xs r q) (ad:∀(k:Nat) bd,xs[k]?=S bd→bd.size=ps.size)
 (I:Nat→(Nat→Prop)→Mr→Prop) (C:Code→(Nat→Prop)→Mr→Prop)
 (T:∀k O x y,I k O x→aF (fun b=>¬O b) x y→I k O y) (F:∀J O x y,C J O x→aF (fun b=>¬O b) x y→C J O y)
 (bI:∀k O x,I k O x→∀b,O b→b<x.heap.size) (ae:∀J O x,C J O x→∀b,O b→b<x.heap.size)
 (L:Nat→Prop) (h0:I 0 L w) (an:∀b,L b→¬r b)
 (A:∀k O bd W,xs[k]?=S bd→w.heap.size+1<W.heap.size→¬O w.heap.size→¬O (w.heap.size+1)→I k O W→
  assign.wpIn (Fence.wide.inRound (w.heap.size+1)) m P (Exit.then (fun d f=>f=W∧∀c,aF (fun b=>b=w.heap.size+1) W c→(∃h,c.heap[w.heap.size+1]?=S (.loop h)∧h.defers=w.heap.size)→I k O c→body.wpIn (Fence.wide.inRound (w.heap.size+1)) m P (XK I C (k+1) O c) d c) fun _ _ _=>False) {tmps:=(ps.zip bd).foldl (fun t (c,s)=>t.setIfInBounds c s) a.tmps,defers:=[]} W)
 (M:∀O W,w.heap.size+1<W.heap.size→I xs.length O W→W.heap[w.heap.size]?=S (.deferred (S []))→Q .normal {a with defers:={target:=.collected w.heap.size,args:=#[]}::a.defers} W)
 (R:∀J O W,w.heap.size+1<W.heap.size→C J O W→W.heap[w.heap.size]?=S (.deferred (S []))→J.wpIn Fence.wide n P Q {a with defers:={target:=.collected w.heap.size,args:=#[]}::a.defers} W):
 (Code.rangeFunc g ps assign body).wpIn Fence.wide n P Q a w:=by
 refine wpIn_rangeFunc ?_;intro fn _;obtain⟨p,h⟩:∃p:LoopState→Option Code→Loop,p=fun c d=>{state:=c,pending:=d,fn,tmps:=a.tmps,params:=ps,assign,body,defers:=w.heap.size}:=⟨_,rfl⟩;have⟨q,v⟩:=Ey ((w.alloc (.deferred (S []))).alloc (.loop (p .ready N)));have ar:q.heap[w.heap.size+1]?=S (.loop (p .ready N)):=by rw[←v];have:=Mr.alloc_heap_new (w.alloc (.deferred (S []))) (.loop (p .ready N));rwa [Mr.size_alloc]at this
 have av:q.heap[w.heap.size]?=S (.deferred (S [])):=by rw[←v];exact(Mu.heap_alloc _ _ _ (by simp)).trans (Mr.alloc_heap_new w _)
 have bm:q.heap.size=w.heap.size+1+1:=by rw[←v];simp
 have U:Mu w.heap.size w q:=by rw[←v];exact((Mu.refl _ w).alloc Nl _).alloc (by simp) _
 have ba:I 0 L q:=T _ _ _ _ h0 (aF.of_below U _);have b0:=bI _ _ _ h0;refine⟨w.heap.size+1,[{target:=.collected w.heap.size,args:=#[]}],q,{target:=.fn (.func gf) lb,args:=#[.func (.yield (w.heap.size+1)) #[] #[]]},q,gf,#[.func (.yield (w.heap.size+1)) #[] #[]]++lb,q,?_,?_,?_,?_,fun d=>by simp[Fence.wide]at d,?_⟩
 ·rw[←v,h];exact run_enterLoop_outer _ _ _ _ _
 ·simp only[resolve,K];simp[go_sem]
 ·intro c _;trivial
 ·simp[invoke,go_sem,eg]
 ·refine Nk.2 ((aa q U (w.heap.size+1)
   (fun k O W=>∃c:Nat→Prop,(∀b,O b↔(c b∨b=w.heap.size∨b=w.heap.size+1))∧¬c w.heap.size∧¬c (w.heap.size+1)∧I k c W∧W.heap[w.heap.size+1]?=S (.loop (p .ready N))∧W.heap[w.heap.size]?=S (.deferred (S [])))
   (fun O W=>∃c:Nat→Prop,(∀b,O b↔(c b∨b=w.heap.size∨b=w.heap.size+1))∧¬c (w.heap.size+1)∧∃J,C J c W∧W.heap[w.heap.size+1]?=S (.loop (p .done (S J)))∧W.heap[w.heap.size]?=S (.deferred (S [])))
   (fun d=>by have:=j _ d;omega) ?_ ?_ ?_ ?_ ?_ (fun b=>L b∨b=w.heap.size∨b=w.heap.size+1) ⟨L,fun b=>Iff.rfl,fun d=>by have:=b0 _ d;omega,fun d=>by have:=b0 _ d;omega,ba,ar,av⟩ ?_).mono ?_)
  ·rintro k O x B ⟨c,e,z,l,i,f,o⟩ u;exact⟨c,e,z,l,T _ _ _ _ i (u.mono fun b _ s d=>s ((e b).2 (.inl d))),aJ u f fun d=>d ((e _).2 (.inr (.inr rfl))),aJ u o fun d=>d ((e _).2 (.inr (.inl rfl)))⟩
  ·rintro O x B ⟨c,e,l,J,i,f,o⟩ u;exact⟨c,e,l,J,F _ _ _ _ i (u.mono fun b _ s d=>s ((e b).2 (.inl d))),aJ u f fun d=>d ((e _).2 (.inr (.inr rfl))),aJ u o fun d=>d ((e _).2 (.inr (.inl rfl)))⟩
  ·rintro k O x ⟨c,e,z,l,i,f,o⟩ b s
   rcases(e b).1 s with d|rfl|rfl
   ·exact bI _ _ _ i b d
   ·exact aB o
   ·exact aB f
  ·rintro O x ⟨c,e,l,J,i,f,o⟩ b s
   rcases(e b).1 s with d|rfl|rfl
   ·exact ae _ _ _ i b d
   ·exact aB o
   ·exact aB f
  ·rintro k O bd W m' hx ⟨c,e,z,l,i,f,o⟩ _
   have x:=aB f;refine YieldAt.mono (DE (n:=m) (Fc (k:=k) (O:=c) h (ad _ _ hx) l T F i f (A k c bd W hx x z l i))) ?_;rintro e' y ⟨D,u,K,ab⟩;have V:y.heap[w.heap.size]?=S (.deferred (S [])):=aJ u o (fun d=>by rcases d with d|d;exact z d;omega);refine⟨fun b=>D b∨b=w.heap.size∨b=w.heap.size+1,u.mono fun b _ s=>(e b).2 (by rcases s with d|d;exact .inl d;exact .inr (.inr d)),fun b s=>?_,?_⟩
   ·rcases s with d|d
    ·rcases K b d with d|d
     ·exact .inl ((e b).2 (.inl d))
     ·exact .inr d
    ·exact .inl ((e b).2 (.inr d))
   have bb:¬D w.heap.size:=fun d=>by rcases K _ d with d|d;exact z d;omega
   have X:¬D (w.heap.size+1):=fun d=>by rcases K _ d with d|d;exact l d;omega
   rcases ab with⟨rfl,G,H⟩|⟨rfl,J,G,H⟩
   ·exact .inl ⟨rfl,D,fun b=>Iff.rfl,bb,X,G,H,V⟩
   ·exact .inr ⟨rfl,D,fun b=>Iff.rfl,X,J,G,H,V⟩
  ·rintro b (d|rfl|rfl) c
   ·exact an b d c
   ·have:=j _ c;omega
   ·have:=j _ c;omega
  ·rintro e u ⟨⟨s,rfl⟩,D,(⟨c,d,z,l,i,f,o⟩|⟨c,d,l,J,i,f,o⟩)⟩
   ·have x:=aB f;exact⟨N,_,by have:=run_endLoop (P:=P) f (by rw[h];simp);rw[h]at this;exact this,M c _ (by simpa using x) (T _ _ _ _ i (aF.putObj (cw:=fun b=>¬c b) Cl (.inl l) _)) ((Ok (by omega)).trans o)⟩
   ·have x:=aB f;exact⟨S J,_,by have:=run_endLoop (P:=P) f (by rw[h];simp);rw[h]at this;exact this,R J c _ (by simpa using x) (F _ _ _ _ i (aF.putObj (cw:=fun b=>¬c b) Cl (.inl l) _)) ((Ok (by omega)).trans o)⟩
end
section
open Go.RowKit Go.Shelf lin
theorem XI (ok:dA t) {k wh n:Int} (g:k=1→0≤wh∧wh<cU t.r t.s t.b t.d t.c) (h:k=2→0≤wh∧wh<t.r+t.s) (i:k=1∨k=2) (a:0≤n) (n1:n<t.cnt k):eC t.r t.s t.b t.d t.c (t.pos k wh n)=true:=by
 rcases i with rfl|rfl
 ·obtain⟨q,b⟩:=g rfl
  obtain⟨e,c,d,j,l,m,o,r⟩:=ok.ph q;have f:n<t.c:=n1;have p:t.pos 1 wh n=dD (t.sp (t.pr wh)) (t.pb wh) (t.pw wh) n:=by show t.lie wh*64+n=_;rw[ok.lie q];unfold dD;omega
  rw[p];exact wA (zJ ok.geo (ok.sp c d).1 (ok.sp c d).2.1 j l m o a f)
 ·obtain⟨q,b⟩:=h rfl;have c:=sE ok.geo;have f:n<kK t.r t.s t.b t.d t.c:=n1;exact wA (JR ok.geo q b a (by omega))
theorem cV.job_k (c:cV x) (a:x.k≠0):x.k=1∨x.k=2:=by
 rcases c.job with b|b|b
 ·exact absurd b.1 a
 ·exact .inl b.1
 ·exact .inr b.1
theorem cV.from_at (c:cV x) (b:x.k≠0):eC x.t.r x.t.s x.t.b x.t.d x.t.c (x.t.pos x.k x.f x.n)=true∧eC x.t.r x.t.s x.t.b x.t.d x.t.c (x.t.pos x.k x.g x.n)=true:=by
 have d:=c.nlt b;have h:=cM c.ok.geo
 have e:0≤x.n:=by
  rcases c.job with a|a|a
  ·exact absurd a.1 b
  ·exact a.2.1
  ·exact a.2.1
 refine⟨XI c.ok (fun f=>?_) (fun g=>?_) (c.job_k b) e d,XI c.ok (fun f=>?_) (fun g=>?_) (c.job_k b) e d⟩
 ·rcases c.job with a|a|a
  ·omega
  ·exact eB a.2.2.2.1
  ·omega
 ·rcases c.job with a|a|a
  ·omega
  ·omega
  ·have:=eB a.2.2.2.1;omega
 ·rcases c.job with a|a|a
  ·omega
  ·exact eB a.2.2.2.2.1
  ·omega
 ·rcases c.job with a|a|a
  ·omega
  ·omega
  ·have:=eB a.2.2.2.2.2;omega
def aW.srcH (x:aW):Int:=if x.k=2 then nT x.t.way x.t.r x.t.b x.t.d (x.t.pos x.k x.f x.n/64/16384) (x.t.pos x.k x.f x.n/64/1024%16) (x.t.pos x.k x.f x.n/64%1024)else x.f
def aW.srcR (x:aW):Int:=if x.k=2 then x.f else x.t.ph x.f/16384
theorem cV.srcR (c:cV x) (b:x.k≠0):0≤x.srcR∧x.srcR<x.t.r:=by
 unfold aW.srcR;rcases c.job with a|a|a
 ·exact absurd a.1 b
 ·obtain⟨e,d,f,g,h,i,j,l⟩:=c.ok.ph (eB a.2.2.2.1).1;have k:=cM c.ok.geo;rw[Fn (by omega)];omega
 ·rw[Fp a.1];exact eB a.2.2.2.1
theorem cV.back (d:cV x) (b:x.k=2):XH x.t.r x.t.s x.t.b x.t.d x.t.c x.t.way (x.t.pos x.k x.f x.n/64):=by
 have c:=d.nlt (by omega);have p:=cM d.ok.geo;have q:=sE d.ok.geo;rw[b]at c;have t:x.n<kK x.t.r x.t.s x.t.b x.t.d x.t.c:=c;rcases d.job with o|o|o
 ·omega
 ·omega
 obtain⟨f,u⟩:=eB o.2.2.2.1;have g:=JR (r:=x.t.r) (s:=x.t.s) (rk:=x.f) d.ok.geo f (by omega) o.2.1 (by omega);obtain⟨_,h,i,j,k,l,m,v,w⟩:=oV g;have a:x.t.pos x.k x.f x.n=dD x.f (x.n/x.t.c/x.t.d) (x.n/x.t.c%x.t.d) (x.n%x.t.c):=by unfold aR.pos tN;rw[Fp b]
 rw[a];have n:=zJ d.ok.geo h i j k l m (Int.le_refl 0) (show(0:Int)<x.t.c by omega);have e:dD x.f (x.n/x.t.c/x.t.d) (x.n/x.t.c%x.t.d) (x.n%x.t.c)/64*64=dD x.f (x.n/x.t.c/x.t.d) (x.n/x.t.c%x.t.d) 0:=by unfold dD;omega
 refine⟨(eM d.ok.right).1,?_,?_,by rw[e];exact wA n,?_⟩
 ·unfold dD;omega
 ·unfold dD;omega
 ·unfold dD;omega
end
section
open Go.RowKit Go.Shelf lin
attribute [local go_sem] Oper.semAt_some cK Mh
attribute [local simp] Mf Mg
theorem Et {col:Nat→Nat} (ok:cO s) (u:s.ld.rp.k≠0) (w:Mr) (p:dB q col s n w):Mt Y 58 #[q.ar,I Z (s.ld.rp.t.pos s.ld.rp.k s.ld.rp.f s.ld.rp.n)] w fun e b=>e=E (.agg #[I Z (s.ld.rp.t.pos s.ld.rp.k s.ld.rp.f s.ld.rp.n),I Z s.ld.rp.srcH,I Z s.ld.rp.srcR])∧Mu w.heap.size w b:=by
 have⟨ab,j⟩:=Ex (w.alloc (O #[I Z 0,I Z 0,I Z 0] 139));have h:aC w ab:=by rw[j];exact aU
 have f:ab.heap[w.heap.size]?=S (O #[I Z 0,I Z 0,I Z 0] 139):=by rw[j];exact aG _ _ _ rfl
 have m:=p.keeps h;have c:=ok.ld.rp;have⟨g,o⟩:=Ey s.ld.rp;have d:=m.led.rep;rw[o]at d c u ⊢;have F:=aA fun W (a:aC ab W)=>LH W (d.keeps a);have H:=aA fun W (a:aC ab W)=>KZ W (d.keeps a);have J:=aA fun W (a:aC ab W)=>lC (d.map.keeps a) W (K.refl W);have⟨G,i⟩:=Ey (g.t.pos g.k g.f g.n);have v:=aA fun(a:g.k=2)=>Es _ _ _ _ _ _ _ (c.back a);have L:=aA fun(r:0≤g.f) (z:g.f<cU g.t.r g.t.s g.t.b g.t.d g.t.c)=>RK (k:=g.f) c.ok r z rfl
 have t:=aA (show g.k=1→0≤g.f∧g.f<cU g.t.r g.t.s g.t.b g.t.d g.t.c from fun b=>by
  rcases c.job with a|a|a
  ·omega
  ·exact eB a.2.2.2.1
  ·omega)
 have ad:0≤G∧G<2^30:=by have:=oI (c.from_at u).1 c.ok.geo;rw[i]at this;omega
 have U:=c.job_k u;have V:=aA fun(r:0≤g.f)=>EG (k:=g.f) c.ok r;have⟨sh,a⟩:=Ey g.srcH;have⟨sr,b⟩:=Ey g.srcR;rw[i,a,b];rw[i]at v;unfold aW.srcH at a;unfold aW.srcR at b;rw[i]at a;have l:=aH a b;clear a b;obtain⟨av,b,_,_⟩:=m.row;have a:=m.led.row;have T:=aB b;have y:=aB a;have z:=aB f;unfold CtSt.row at b;unfold bH.row at a;have R:=Cw b 0;simp at R;have r:=Cw a 16;simp at r;have HU:=aH h f;unfold dK.ar dH.ar at*;clear p m c d b a h f i o;go_in;go_upto_region 1 with fail;rw[←j];clear j;refine IC [0,1,2,3,4,5,6,7,8,9,10,11,12,13,14,15,16] 17 18 19 20 5 18 63 6 27 25 #[I Z 0,I Z 0,I Z 0,I Z 0] #[I Z 0,I Z 0,I Z 0,I Z 0,I Z 0,I Z 0,I Z 0] (by kernel_rfl) (by kernel_rfl) (by decide) rfl (fun W=>by kernel_rfl) rfl (fun W=>by kernel_rfl) rfl rfl ?_;simp only[aM,d8]
 repeat
  with_reducible refine dS fun K c=>?_
  go_simp
  try first
   |(apply Ei
     intro b a;obtain⟨d,f⟩:=a.cells;go_simp
     first
      |(go_at_call 19;with_reducible exact l9 (F.out _ a))
      |(go_at_call 59;with_reducible exact l9 (H.out _ a))
      |(go_at_call 77;with_reducible exact l9 (J.out _ a))
      |rfl)
  refine c _ ?_;clear c K
 with_reducible refine dR ?_
 refine⟨#[I Z g.k,I Z g.f,I Z g.g,I Z g.n],#[I Z g.t.r,I Z g.t.s,I Z g.t.b,I Z g.t.d,I Z g.t.c,I Z g.t.way,I Z g.t.res],rfl,rfl,rfl,rfl,by simp[Ni],by simp[Ni],by decide,by simp[Act.put],?_,?_,?_⟩
 ·intro a W;go_simp
 ·intro a W;go_simp
 intro A5 A6 W5 ae an ar o p c;have⟨h,f⟩:=HU.out;have i:=aE c f;have A:=aB i;have B:=aB o;have C:=aB p;have n5:w.heap.size≠A5:=by have:=aB f;omega
 have n6:w.heap.size≠A6:=by have:=aB f;omega
 have⟨x,M⟩:=bQ o;simp at x M;have Q:=Cw p 5;simp at Q;have D:(Mc ⟨A6,0,N⟩ 0 5 #[]).run Y W5=.ok #[I Z g.t.r,I Z g.t.s,I Z g.t.b,I Z g.t.d,I Z g.t.c] W5:=tW p [_,_,_,_,_] _ rfl;have H5:=eP h c i o p;clear h f R r T y z c i o p F H J;rcases U with m|m
 ·have X:=v;clear v X;obtain⟨r,z⟩:=t.out m;obtain⟨p0,p1⟩:=V.out r;have aa:=aA fun W=>L.out r z W;have⟨a,b⟩:=l.out;rw[Fn (by omega)]at a b;rw[m]at x;generalize g.t.ph g.f=F at*;have l:=aH a b;clear L t r z u a b;go_wp2_with fail;refine(aa.out _).mono ?_;rintro e y ⟨rfl,d⟩;have⟨h,c,i,o,p⟩:=H5.out;have f:=aE d i;have j:=aE d o;have H:=aB f;have J:=aB j;have R:=Cw j 1;simp at R;have SP:(Me ⟨w.heap.size,0,N⟩ [I Z G,I Z g.f,I Z (F/16384)] 0).run Y y=.ok () (y.setRow w.heap.size #[I Z G,I Z g.f,I Z (F/16384)]):=Sw f #[I Z G,I Z g.f,I Z (F/16384)] rfl (by simp[Ni]);have T:=bT h c d f;clear h c d i f o p j x M Q D A B C;go_wp2_with fail;have⟨h,c,d,f⟩:=T.out;have⟨a,b⟩:=l.out;exact My (Oa (P:=Y) results58 _ _ w.heap.size 139 #[I Z G,I Z g.f,I Z (F/16384)] (0,0) _ rfl (Hw f _) underlying139 rfl (by kernel_rfl)) rfl ⟨by rw[←a,←b],Ob (aK (aK h c) d) Nl _⟩
 ·have z:=aA (v.out m);clear L t v u;have⟨a,b⟩:=l.out;rw[Fp m]at a b;rw[m]at x;generalize nT g.t.way g.t.r g.t.b g.t.d (G/64/16384) (G/64/1024%16) (G/64%1024)=r at*;have l:=aH a b;clear a b;go_wp2_with fail;refine(z.out _).mono ?_;rintro e y ⟨rfl,d⟩;have⟨h,c,i,o,p⟩:=H5.out;have f:=aE d i;have j:=aE d o;have H:=aB f;have J:=aB j;have R:=Cw j 1;simp at R;have SP:(Me ⟨w.heap.size,0,N⟩ [I Z G,I Z r,I Z g.f] 0).run Y y=.ok () (y.setRow w.heap.size #[I Z G,I Z r,I Z g.f]):=Sw f #[I Z G,I Z r,I Z g.f] rfl (by simp[Ni]);have T:=bT h c d f;clear h c d i f o p j x M Q D A B C;go_wp2_with fail;have⟨h,c,d,f⟩:=T.out;have⟨a,b⟩:=l.out;exact My (Oa (P:=Y) results58 _ _ w.heap.size 139 #[I Z G,I Z r,I Z g.f] (0,0) _ rfl (Hw f _) underlying139 rfl (by kernel_rfl)) rfl ⟨by rw[←a,←b],Ob (aK (aK h c) d) Nl _⟩
theorem kH.rp (c:kH s i s'):eF s.ld.rp s'.ld.rp:=by obtain⟨l,⟨d,b,t,a,rfl,_⟩,rfl⟩:=c;exact a
def CtSt.mvI (s:CtSt):Nat:=(s.ld.rp.t.pos s.ld.rp.k s.ld.rp.f s.ld.rp.n).toNat
def CtSt.mvO (s:CtSt):Nat:=(s.ld.rp.t.pos s.ld.rp.k s.ld.rp.g s.ld.rp.n).toNat
def qK (s s2:CtSt):Prop:=if s.ld.rp.t.usedB s.ld.rp.srcH=true then∃s1,kH s s.mvI s1∧s2=s1.put s.mvO (s.dec s.mvI).1 (decide (2≤(s.dec s.mvI).2.1))else s2=s.put s.mvO ln0 false
def Copied (s s':CtSt):Prop:=∃s2 l,qK s s2∧F5 s2.ld l∧s'={s2 with ld:=l}
theorem qK.rp {a:CtSt} (d:qK s a) (b:s.ld.rp.k≠0):a.ld.rp=s.ld.rp:=by
 unfold qK at d;split at d
 ·obtain⟨e,c,rfl⟩:=d;exact c.rp.busy b
 ·subst d;rfl
theorem cO.mv (ok:cO s) (e:s.ld.rp.k≠0):s.ld.rp.t.pos s.ld.rp.k s.ld.rp.f s.ld.rp.n=s.mvI∧s.ld.rp.t.pos s.ld.rp.k s.ld.rp.g s.ld.rp.n=s.mvO∧eC s.dv.dr.r s.dv.dr.s s.dv.dr.b s.dv.dr.d s.dv.dr.c s.mvI=true∧eC s.dv.dr.r s.dv.dr.s s.dv.dr.b s.dv.dr.d s.dv.dr.c s.mvO=true:=by
 obtain⟨a,b⟩:=ok.ld.rp.from_at e;have p:=oI a ok.ld.rp.ok.geo;have q:=oI b ok.ld.rp.ok.geo;have c:s.ld.rp.t.pos s.ld.rp.k s.ld.rp.f s.ld.rp.n=s.mvI:=by unfold CtSt.mvI;omega
 have d:s.ld.rp.t.pos s.ld.rp.k s.ld.rp.g s.ld.rp.n=s.mvO:=by unfold CtSt.mvO;omega
 rw[c]at a;rw[d]at b;obtain⟨f,g,h,i,j,_⟩:=ok.ld.geo;obtain⟨k,l,m,n,o,_⟩:=ok.geo;rw[k,l,m,n,o,←f,←g,←h,←i,←j];exact⟨c,d,a,b⟩
theorem Eu {col:Nat→Nat} (d:s.ld.rp.k=0) (w:Mr) (h:dB q col s n w):Mt Y 37 #[q.ar] w fun e a=>e=E (I Z 51)∧Mu w.heap.size w a:=by have f:=aA (uk d w h.led.rep);obtain⟨k,b,_,_⟩:=h.row;have a:=h.led.row;have j:=aB b;have i:=aB a;unfold CtSt.row at b;unfold bH.row at a;have g:=Cw b 0;simp at g;have c:=Cw a 16;simp at c;unfold dK.ar dH.ar at*;clear h b a d;go_in;go_wp2_with fail;refine f.out.mono ?_;rintro e d ⟨rfl,a⟩;have b:=aA a;clear a;go_wp2_with fail;go_ret;exact⟨rfl,b.out⟩
theorem Ev {col:Nat→Nat} (ok:cO s) (j:n+4<bY) (b:s.ld.rp.k≠0) (w:Mr) (M:dB q col s n w):Mt Y 37 #[q.ar] w (NE q s (n+4) col w (Copied s)):=by
 obtain⟨g,h,i,d⟩:=ok.mv b;have HN:=aA (ul ok.ld.rp b w M.led.rep);rw[g,h]at HN;have v:=aA fun W (a:aC w W)=>Et ok b W (M.keeps a);rw[g]at v;have HM:=aA fun W (a:aC w W)=>KZ W (M.led.rep.keeps a);have ae:=aA fun W (a:aC w W)=>ku ok.ld.rp.ok s.ld.rp.srcH W (M.led.rep.map.keeps a);obtain⟨r,j1⟩:=ok.ld.rp.srcR b;obtain⟨ar,m⟩:∃ar:Nat,s.ld.rp.srcR=ar:=⟨s.ld.rp.srcR.toNat,by omega⟩;have a:ar<s.ld.tk.rk.length:=by have:=ok.ld.rk;have:=ok.ld.geo.1;omega
 have HC:Hid (∀c,qK s c↔if s.ld.rp.t.usedB s.ld.rp.srcH=true then∃f,kH s s.mvI f∧c=f.put s.mvO (s.dec s.mvI).1 (decide (2≤(s.dec s.mvI).2.1))else c=s.put s.mvO ln0 false):=aA fun _=>Iff.rfl;obtain⟨bm,f,_,_⟩:=M.row;have c:=M.led.row;have u:=aB f;have o:=aB c;unfold CtSt.row at f;unfold bH.row at c;have HR:=aH f c;have p:=Cw f 0;simp at p;have k:=Cw c 16;simp at k;rw[m]at v;generalize s.mvI=ad at*;generalize s.mvO=bd at*;generalize s.ld.rp.srcH=x at*;generalize s.ld.rp.t.usedB x=us at*;have HU:=nF M ok j b a i d;unfold dK.ar dH.ar at*;clear M f c b ok j a i d g h r j1 m;go_in;go_wp2_with fail;refine HN.out.mono ?_;rintro e w1 ⟨rfl,a⟩;have H1:=aA a;have an:=aA (v.out w1 a);clear a;go_wp2_with fail;refine an.out.mono ?_;rintro e y ⟨rfl,d⟩;have a:=H1.out;have⟨W2,b⟩:=Ex (y.alloc (O #[I Z ad,I Z x,I Z ar] 139));have h:aC w W2:=by rw[b];exact Ka (aK a d)
 have i:W2.heap[y.heap.size]?=S (O #[I Z ad,I Z x,I Z ar] 139):=by rw[b];exact aG _ _ _ rfl
 have P:(Me ⟨y.heap.size,0,N⟩ [I Z ad,I Z x,I Z ar] 0).run Y (y.alloc (O #[I Z 0,I Z 0,I Z 0] 139))=.ok () W2:=by rw[b];exact Mi y 139 _ #[I Z ad,I Z x,I Z ar] (by kernel_rfl) rfl (by simp[Ni])
 have j:w.heap.size≤y.heap.size:=Ng a.size d.size;clear b;have⟨f,c⟩:=HR.out;have g:=aE h f;have b:=aE h c;have Q:=aB i;have R:=aB g;have z:=aB b;have x0:=Cw g 0;simp at x0;have C:=Cw b 16;simp at C;have z1:=Cw i 1;simp at z1;have H2:=Hd3 h i j;have J:=aA h;clear a d h i j f c g b p k u o;go_wp2_with fail;refine bS (by kernel_rfl) (by kernel_rfl) ?_
 repeat
  with_reducible refine Mz fun K b=>?_
  go_simp
  try first
   |(apply Ei
     intro f a;obtain⟨c,d⟩:=a.cells;go_simp
     first
      |(go_at_call 59;with_reducible exact a.call (HM.out _ (aK J.out a)))
      |(go_at_call 60;with_reducible exact a.call (ae.out _ (aK J.out a)))
      |rfl)
   |(with_reducible refine aQ ?_ ?_;first|decide|simp[Mv];done)
  refine b _ ?_;clear b K
 with_reducible refine Na ?_
 intro w3 D;go_upto_if 37 with fail;go_cut [] from 37 to 54 fun a=>∃(c3:Nat→Nat) (c:CtSt),dB q c3 c (n+3) a∧cO c∧aS KC col w c3 a∧qK s c
 case first=>
  have⟨M,ok,j,b,a,i,d⟩:=HU.out;have k3:aC w w3:=aK J.out D;have T:=M.keeps k3;have A:=aA D;clear D x0 C z1 Q R z P;cases us
  ·have HP:=aA (wR ok (show n<bY by omega) bd ln0 rfl kI false d w3 T);clear M ok j b a i d k3 T;go_wp2_with fail;rw[gR];refine HP.out.mono ?_;rintro e w4 ⟨f,c4,s4,rfl,p,r,c,rfl⟩;go_wp2_with fail;go_meet;exact⟨c4,_,p.mono (by omega),r,(aS.keeps (aK J.out A.out)).trans c,(HC.out _).2 (by simp)⟩
  ·have F:=aE A.out H2.out.2.1
   have av:=aB F;have L8:=Lw F 3 rfl;have U:=aA (NC ok (show n+2<bY by omega) ad x ar a i w3 T);have⟨L,k⟩:=Ey (s.dec ad).1;have⟨k',G⟩:=Ey (s.dec ad).2.1;have⟨f',V⟩:=Ey (s.dec ad).2.2;have X:L.length=64:=by rw[←k];unfold CtSt.dec;exact uV (ok.dv.dr.read_len ad) ad
   have o:(aD .u8 L).size=64:=by rw[aP,X]
   have HB:Hid (aX 64 L):=aA (by rw[←k];unfold CtSt.dec;exact FT _ (ok.dv.dr.read_len ad) (ok.dv.dr.read_bts ad) ad);unfold FQ at U;rw[k,G,V]at U;rw[k,G]at HC;clear M ok j b a i d k3 T F k G V;go_wp2_with fail;refine U.out.mono ?_;rintro e w4 ⟨c4,s4,rfl,p,r,c,m⟩;have⟨M,ok,j,b,a,i,d⟩:=HU.out;have aa:=m.at d;have v:=ND (w:=w4) (t1:=38) (t2:=144) (z1:=aD .u8 (Nd 64 0)) (z2:=#[I Z 0,I Z 0]) (c1:=aD .u8 L) (c2:=#[I Z k',I Z f']) (by rw[o,aP];rfl) rfl (dG _ _) (by simp[Ni]);rw[←gR]at v;obtain⟨W5,SX,SY,H,u,B⟩:=v;have⟨W6,ab⟩:=Ex (W5.setRow (w4.heap.size+1) #[I Z k',I Z f']);rw[←ab]at SY H u B;clear ab;have ba:=aB u;have bb:=Lw H 64 o;have g0:=Cw u 0;simp at g0;have HP:=aA (wR r (show n+2<bY by omega) bd L X HB.out (decide (2≤k')) aa W6 (p.keeps B));have H6:=Hd3 c B m;clear M ok j b a i d aa p r c m B H u L8 U;go_wp2_with fail;refine HP.out.mono ?_;rintro e w7 ⟨v7,c7,s7,rfl,f,g,h,rfl⟩;go_wp2_with fail;go_meet;have⟨c,B,m⟩:=H6.out;exact⟨c7,_,f,g,(((aS.keeps (aK J.out A.out)).trans c).trans (aS.keeps B)).trans h,(HC.out _).2 (by rw[Fp trivial];exact⟨s4,m,rfl⟩)⟩
 case rest=>
  obtain⟨c3,c,h,f,k,g⟩:=hcut;have⟨M,ok,j,b,a,i,d⟩:=HU.out;have m:c.ld.rp.k≠0:=by rw[g.rp b];exact b
  have o:=aA (FC f (show n+3<bY by omega) 3 0 0 0 0 0 (F5 c.ld) (fun r W p=>yt f.ld m W p) (fun l p=>by obtain⟨u,r,t,_,rfl⟩:=p;rfl) wc h);have A:=aH k g;clear M ok j b a i d m h f k g x0 C z1 Q R z P;unfold dK.ar at o;go_wp2_with fail;refine o.out.mono ?_;rintro e w7 ⟨v7,c7,s7,rfl,f,g,h,⟨b,a,rfl⟩⟩;have d:=bT f g h a;clear f g h a;go_wp2_with fail;go_ret;have⟨f,g,h,a⟩:=d.out;exact⟨_,c7,_,rfl,f,g,A.out.1.trans h,c,b,A.out.2,a,rfl⟩
def cfgB (r s b d c way res m rl re pl pe room hv lg:Int):Bool:=mN r s b d c way res&&(fN m&&(tQ rl re pl pe room hv&&(decide (1≤lg)&&decide (lg≤256))))
theorem NF (r s b d c way g m i j k l a n lg:Int) (bk:Bool) (w:Mr):Mt Y 52 #[.agg #[I Z r,I Z s,I Z b,I Z d,I Z c,I Z way,I Z g,I Z m,I Z i,I Z j,I Z k,I Z l,I Z a,I Z n,I Z lg,.bool bk]] w fun e o=>e=E (.bool (cfgB r s b d c way g m i j k l a n lg))∧Mu w.heap.size w o:=by
 have⟨D,h⟩:=Ex (w.alloc (O #[I Z r,I Z s,I Z b,I Z d,I Z c,I Z way,I Z g,I Z m,I Z i,I Z j,I Z k,I Z l,I Z a,I Z n,I Z lg,.bool bk] 31));have u:aC w D:=by rw[h];exact aU
 have f:D.heap[w.heap.size]?=S (O #[I Z r,I Z s,I Z b,I Z d,I Z c,I Z way,I Z g,I Z m,I Z i,I Z j,I Z k,I Z l,I Z a,I Z n,I Z lg,.bool bk] 31):=by rw[h];exact aG _ _ _ rfl
 unfold cfgB;have⟨F,p⟩:=Ey (mN r s b d c way g);have⟨G,q⟩:=Ey (fN m);have⟨y,t⟩:=Ey (tQ i j k l a n);rw[p,q,t];have H:=aA fun w=>JJ p w;have J:=aA fun w=>DP q w;have L:Hid (∀w,Mt Y 84 #[.agg #[I Z i,I Z j,I Z k,I Z l,I Z a,I Z n]] w fun e o=>e=E (.bool y)∧Mu w.heap.size w o):=aA (fun w=>by rw[←t];exact TZ i j k l a n w);have M:Hid (∀W,aC D W→(Mc ⟨w.heap.size,0,N⟩ 0 7 #[]).run Y W=.ok #[I Z r,I Z s,I Z b,I Z d,I Z c,I Z way,I Z g] W):=aA fun W o=>tW (aE o f) [_,_,_,_,_,_,_] _ rfl
 have z:Hid (∀W,aC D W→(Mc ⟨w.heap.size,8,N⟩ 0 6 #[]).run Y W=.ok #[I Z i,I Z j,I Z k,I Z l,I Z a,I Z n] W):=aA (fun W o=>lL W w.heap.size 8 [I Z i,I Z j,I Z k,I Z l,I Z a,I Z n] (fun v B x=>by
  rw[Cw (aE o f) (8+v)];have A:v<6:=(Oe.1 x).1;have:v=0∨v=1∨v=2∨v=3∨v=4∨v=5:=by omega
  rcases this with rfl|rfl|rfl|rfl|rfl|rfl<;>simpa using x))
 have o:=aH u f;have v:=M.out D (K.refl D);have R:=aB f;clear u f p q t;go_in;go_upto_region 1 with fail;rw[←h];clear h;go_wp2_with fail;refine(H.out _).mono ?_;rintro e P ⟨rfl,h⟩;have t:=z.out P h;have f:=aE h o.out.2;have u:=aB f;have⟨A,p⟩:=iO f 7 14;simp at A p;have B:=aA h;clear f h v;cases F
 ·go_wp2_with fail;go_ret;exact⟨rfl,aK o.out.1 B.out⟩
 ·go_wp2_with fail
  refine(J.out _).mono ?_;rintro e Q ⟨rfl,h⟩;have h:=aK B.out h;have v:=z.out Q h;have f:=aE h o.out.2;have x:=aB f;have q:=Cw f 14;simp at q;have C:=aA h;clear f h t A p u;cases G
  ·go_wp2_with fail;go_ret;exact⟨rfl,aK o.out.1 C.out⟩
  ·go_wp2_with fail
   refine(L.out _).mono ?_;rintro e A ⟨rfl,h⟩;have h:=aK C.out h;have f:=aE h o.out.2;have u:=aB f;have t:=Cw f 14;simp at t;have p:=aA h;clear f h v q x;cases y
   ·go_wp2_with fail;go_ret;exact⟨rfl,aK o.out.1 p.out⟩
   ·by_cases f:1≤lg
    ·go_wp2_with fail;all_goals go_ret;exact⟨by first|(simp_all;done)|(simp_all;omega),aK o.out.1 p.out⟩
    ·go_wp2_with fail;all_goals go_ret;exact⟨by first|(simp_all;done)|(simp_all;omega),aK o.out.1 p.out⟩
def aY.vals (x:aY):Array Ms:=#[I Z x.r,I Z x.s,I Z x.b,I Z x.d,I Z x.c,I Z x.way,I Z x.res,I Z x.m,I Z x.rl,I Z x.re,I Z x.pl,I Z x.pe,I Z x.room,I Z x.hv,I Z x.logn,.bool x.back]
theorem lE.cfgB {x:aY} (a:lE x):cfgB x.r x.s x.b x.d x.c x.way x.res x.m x.rl x.re x.pl x.pe x.room x.hv x.logn=true:=by unfold Go.Proofs.YtlbgenenpheheaaGreat.cfgB;rw[a.lay,a.mode,a.rules];have:=a.l1;have:=a.l2;simp;omega
def bH.new (x:aY):bH:=⟨x,⟨mO x.r x.s x.b x.d x.c x.way x.res,0,0,0,0⟩,dU.new x.rl x.re x.pl x.pe x.room x.hv x.r.toNat,[],0⟩
def tX (L a2 a3 b3 b4 c4 c5:Nat) (b:Nat):Nat:=if b=L then 1 else if a2≤b∧b<a3 then 2 else if b3≤b∧b<b4 then 3 else if c4≤b∧b<c5 then 4 else 0
theorem eU.new {x:aY} (g:lE x):eU (bH.new x):=by
 have h:=cM (eE (eM g.lay).1).1;refine⟨g,xn g.lay,?_,Ns _,⟨rfl,rfl,rfl,rfl,rfl,rfl,rfl⟩,⟨rfl,rfl,rfl,rfl,rfl,rfl⟩,?_⟩
 ·obtain⟨a,c,i,j,d,e⟩:=U4 g.rules
  have f:0<x.re:=by unfold lA oW at a;simp at a;omega
  refine⟨a,c,by show 1≤x.room;omega,by show x.room≤256;omega,d,e,fun k b=>?_,?_,fun k b=>(List.not_mem_nil b).elim,Ns _⟩
  ·have:k=(0,0):=List.eq_of_mem_replicate b;subst this;exact⟨Int.le_refl _,by show(0:Int)≤65536;decide,Int.le_refl _,f⟩
  ·show(Nd x.r.toNat ((0:Int),(0:Int))).length≤8;rw[List.length_replicate];omega
 ·show((Nd x.r.toNat ((0:Int),(0:Int))).length:Int)=x.r;rw[List.length_replicate];omega
theorem NG (j:Nat) (a:j<3):∀W,(Instr.index 210 (.agg #[I Z 0,I Z 0,I Z 0]) (I Z (j:Int))).run Y W=.ok (I Z 0) W:=by
 have:j=0∨j=1∨j=2:=by omega
 intro W;rcases this with rfl|rfl|rfl<;>kernel_rfl
theorem Ew {x:aY} (a:lE x) (w:Mr):Mt Y 88 #[.agg x.vals] w fun e c=>∃(q:fD) (col:Nat→Nat),e=E (.tuple #[.pointer (S ⟨q.L,0,N⟩),I Z 0])∧dV q col (bH.new x) c∧aC w c∧∀b,b<w.heap.size→col b=0:=by
 have⟨ae,g⟩:=Ex (w.alloc (O x.vals 31));have k:aC w ae:=by rw[g];exact aU
 have d:ae.heap[w.heap.size]?=S (O x.vals 31):=by rw[g];exact aG _ _ _ rfl
 unfold aY.vals at*;have c:=aA fun w=>NF x.r x.s x.b x.d x.c x.way x.res x.m x.rl x.re x.pl x.pe x.room x.hv x.logn x.back w;rw[a.cfgB]at c;have i:=cM (eE (eM a.lay).1).1;have j:=aA fun w=>xp a.lay w;obtain⟨D,h⟩:∃D:Nat,x.r=D:=⟨x.r.toNat,by omega⟩;have v:=aA fun w=>vo a.rules (show 1≤D by omega) (show D≤8 by omega) w;have T:=aA fun w=>xf x.logn a.l1 a.l2 w;have U:Hid (∀W,aC ae W→(Mc ⟨w.heap.size,0,N⟩ 0 16 #[]).run Y W=.ok #[I Z x.r,I Z x.s,I Z x.b,I Z x.d,I Z x.c,I Z x.way,I Z x.res,I Z x.m,I Z x.rl,I Z x.re,I Z x.pl,I Z x.pe,I Z x.room,I Z x.hv,I Z x.logn,.bool x.back] W):=aA fun W f=>Lw (aE f d) 16 rfl;have L7:Hid (∀W,aC ae W→(Mc ⟨w.heap.size,0,N⟩ 0 7 #[]).run Y W=.ok #[I Z x.r,I Z x.s,I Z x.b,I Z x.d,I Z x.c,I Z x.way,I Z x.res] W):=aA fun W f=>tW (aE f d) [_,_,_,_,_,_,_] _ rfl
 have L6:Hid (∀W:Mr,W.heap[w.heap.size]?=S (O #[I Z x.r,I Z x.s,I Z x.b,I Z x.d,I Z x.c,I Z x.way,I Z x.res,I Z x.m,I Z x.rl,I Z x.re,I Z x.pl,I Z x.pe,I Z x.room,I Z x.hv,I Z x.logn,.bool x.back] 31)→(Mc ⟨w.heap.size,8,N⟩ 0 6 #[]).run Y W=.ok #[I Z x.rl,I Z x.re,I Z x.pl,I Z x.pe,I Z x.room,I Z x.hv] W):=aA (fun W f=>lL W w.heap.size 8 [I Z x.rl,I Z x.re,I Z x.pl,I Z x.pe,I Z x.room,I Z x.hv] (fun l o m=>by
  rw[Cw f (8+l)];have n:l<6:=(Oe.1 m).1;have:l=0∨l=1∨l=2∨l=3∨l=4∨l=5:=by omega
  rcases this with rfl|rfl|rfl|rfl|rfl|rfl<;>simpa using m))
 have HU:=aH k d;have l:=U.out ae (K.refl ae);have R:=aB d;have HX:=aH a h;clear k d a i h;go_in;go_upto_region 1 with fail;rw[←g];clear g;go_wp2_with fail;refine(c.out _).mono ?_;rintro e B ⟨rfl,d⟩;have a:=d;have o:=U.out B a;have f:=aE a HU.out.2;have k:=aB f;have n:=(L7.out _ (K.alloc (K.alloc a (O #[I Z x.r,I Z x.s,I Z x.b,I Z x.d,I Z x.c,I Z x.way,I Z x.res,I Z x.m,I Z x.rl,I Z x.re,I Z x.pl,I Z x.pe,I Z x.room,I Z x.hv,I Z x.logn,.bool x.back,.pointer N,.pointer N,.pointer N,I Z 0] 109)) (O #[I Z 0,I Z 0,I Z 0] 210)));have K1:=aA a;clear a d f l;go_wp2_with fail;refine(j.out _).mono ?_;rintro e w3 ⟨p,rfl,t,g,l⟩;have⟨F,a⟩:=Ex ((B.alloc (O #[I Z x.r,I Z x.s,I Z x.b,I Z x.d,I Z x.c,I Z x.way,I Z x.res,I Z x.m,I Z x.rl,I Z x.re,I Z x.pl,I Z x.pe,I Z x.room,I Z x.hv,I Z x.logn,.bool x.back,.pointer N,.pointer N,.pointer N,I Z 0] 109)).alloc (O #[I Z 0,I Z 0,I Z 0] 210));rw[←a]at g l;have u:F.heap.size=B.heap.size+2:=by rw[a];simp
 have d:=aE g (show F.heap[B.heap.size]?=_ by rw[a,aV _ _ _ (by simp)];exact aG _ _ _ rfl);have f:=aE g (show F.heap[B.heap.size+1]?=_ by rw[a];exact aG _ _ _ (by simp));have bC:=aE g (show F.heap[w.heap.size]?=S (O #[I Z x.r,I Z x.s,I Z x.b,I Z x.d,I Z x.c,I Z x.way,I Z x.res,I Z x.m,I Z x.rl,I Z x.re,I Z x.pl,I Z x.pe,I Z x.room,I Z x.hv,I Z x.logn,.bool x.back] 31) by rw[a];exact aE (Ka (Ka K1.out)) HU.out.2);have h:aC w F:=by rw[a];exact Ka (Ka (aK HU.out.1 K1.out))
 have⟨L,m⟩:=Ex B.heap.size;have an:w.heap.size<L:=by rw[m];exact k
 rw[←m]at d f u ⊢;have H:=fun i=>Fw d i;have J:=fun i=>Fw f i;have M:=aB d;have P:=aB f;have y:=Cw d 16;simp at y;have A:=Cw f 0;simp at A;have C:=pP t g l d f bC h u;have HL:=aA m;clear t g l d f bC h u a m o n k c j;unfold dH.ar;go_upto_region 6 with fail;have⟨t,g,l,d,f,bC,h,u⟩:=C.out;have⟨z,s⟩:=Ex ((w3.setCell ⟨L,16,N⟩ (.pointer (S ⟨p.R,0,N⟩))).setCell ⟨L+1,0,N⟩ (I Z 0));have n:=dY L 16 w3 (.pointer (S ⟨p.R,0,N⟩));have i:=dY (L+1) 0 (w3.setCell ⟨L,16,N⟩ (.pointer (S ⟨p.R,0,N⟩))) (I Z 0);rw[←s]at i;have o:z.heap[L]?=S (O #[I Z x.r,I Z x.s,I Z x.b,I Z x.d,I Z x.c,I Z x.way,I Z x.res,I Z x.m,I Z x.rl,I Z x.re,I Z x.pl,I Z x.pe,I Z x.room,I Z x.hv,I Z x.logn,.bool x.back,.pointer (S ⟨p.R,0,N⟩),.pointer N,.pointer N,I Z 0] 109):=aJ i (by rw[Hs 16 _ d];rfl) (by omega);have j:z.heap[L+1]?=S (O #[I Z 0,I Z 0,I Z 0] 210):=by rw[s,Nx _ (L+1) 0 _ _ _ (aJ n f (by omega))];rfl
 have m:=aJ i (aJ n bC (by omega)) (by omega);have k:dE p (bH.new x).rp z:=(dE.chg t n fun b a e=>by have:=l b a;omega).chg i (fun b a e=>by have:=l b a;omega);have r:aC w z:=((((aF.of_below h fun _=>False).next (aF.of_below g fun _=>False) fun b a=>a.elim).next n fun b a=>.inr (by omega)).next i fun b a=>.inr (by omega)).below Nl fun _ a=>a.elim;have c:∀b,p.own b→L+2≤b∧b<z.heap.size:=fun b a=>⟨by have:=l b a;omega,k.lt a⟩;rw[←s];have LC:=L6.out z m;have a:=Cw m 0;simp at a;rw[HX.out.2]at a;have Q:=aB m;have X:=eQ k r c o j m;clear t g l d f bC h u s n i o j m k r c C H J M P y A R;go_wp2_with fail;refine(v.out _).mono ?_;rintro e V ⟨K,rfl,C,h⟩;have⟨k,r,c,o,j,m⟩:=X.out;have d:=aE h o;have f:=aE h j;have bC:=aE h m;have H:=fun i=>Fw d i;have J:=fun i=>Fw f i;have M:=aB d;have P:=aB f;have y:=aB j;have R:=Cw d 17;simp at R;have d1:=Cw f 1;simp at d1;have H4:=mI k r c d f bC C h y;clear k r c o j m d f bC C h X a LC v Q y;go_upto_region 7 with fail;have⟨k,r,c,d,f,bC,C,h,y⟩:=H4.out;have⟨v,A⟩:=Ex ((V.setCell ⟨L,17,N⟩ (.pointer (S ⟨K,0,N⟩))).setCell ⟨L+1,1,N⟩ (I Z 0));have n:=dY L 17 V (.pointer (S ⟨K,0,N⟩));have i:=dY (L+1) 1 (V.setCell ⟨L,17,N⟩ (.pointer (S ⟨K,0,N⟩))) (I Z 0);rw[←A]at i;have o:v.heap[L]?=S (O #[I Z x.r,I Z x.s,I Z x.b,I Z x.d,I Z x.c,I Z x.way,I Z x.res,I Z x.m,I Z x.rl,I Z x.re,I Z x.pl,I Z x.pe,I Z x.room,I Z x.hv,I Z x.logn,.bool x.back,.pointer (S ⟨p.R,0,N⟩),.pointer (S ⟨K,0,N⟩),.pointer N,I Z 0] 109):=aJ i (by rw[Hs 17 _ d];rfl) (by omega);have j:v.heap[L+1]?=S (O #[I Z 0,I Z 0,I Z 0] 210):=by rw[A,Nx _ (L+1) 1 _ _ _ (aJ n f (by omega))];rfl
 have m:=aJ i (aJ n bC (by omega)) (by omega);have g:aF (fun b=>b=L∨b=L+1) V v:=(n.mono fun b _ a=>.inl a).trans (i.mono fun b _ a=>.inr a);have s:dE p (bH.new x).rp v:=(k.keeps h).chg g (fun b a e=>by have:=c b a;omega);have t:gX K (fun b=>z.heap.size≤b∧b<v.heap.size) (bH.new x).tk v:=by refine gX.same (by have a:=C;unfold bH.new;rw[show x.r.toNat=D by have:=HX.out.2;omega];exact a) fun b a Q=>⟨g.block b a (by omega),Q,Nj a g.size⟩
 have u:aC w v:=(((aF.of_below r fun _=>False).next (aF.of_below h fun _=>False) fun b a=>a.elim).next g fun b a=>.inr (by omega)).below Nl fun _ a=>a.elim;have l:z.heap.size≤v.heap.size:=Ng h.size g.size;rw[←A];have a:=Cw m 14;simp at a;have Q:=aB m;have H7:=mI s t u c o j m l y;clear k r c d f bC C h A n i o j m g s t u H4 H J M P R d1 l y;go_wp2_with fail;refine(T.out _).mono ?_;rintro e X ⟨G,rfl,R,h⟩;have⟨s,t,u,c,o,j,m,l,y⟩:=H7.out;have d:=aE h o;have f:=aE h j;have H:=fun i=>Fw d i;have J:=fun i=>Fw f i;have M:=aB d;have P:=aB f;have z4:=aB j;have aa:=Cw d 18;simp at aa;have d2:=Cw f 2;simp at d2;have H5:=aA (Ai s (Ai t (Ai u (Ai c (Ai d (Ai f (Ai R (Ai h (Ai l (Ai y z4))))))))));clear s t u c o j m d f R h l y z4 H7 a T Q;go_upto_region 8 with fail;have⟨s,t,u,c,d,f,R,h,l,y,z4⟩:=H5.out;have⟨k,r⟩:=Ex ((X.setCell ⟨L,18,N⟩ (.pointer (S ⟨G,0,N⟩))).setCell ⟨L+1,2,N⟩ (I Z 0));have n:=dY L 18 X (.pointer (S ⟨G,0,N⟩));have i:=dY (L+1) 2 (X.setCell ⟨L,18,N⟩ (.pointer (S ⟨G,0,N⟩))) (I Z 0);rw[←r]at i;have o:k.heap[L]?=S (O #[I Z x.r,I Z x.s,I Z x.b,I Z x.d,I Z x.c,I Z x.way,I Z x.res,I Z x.m,I Z x.rl,I Z x.re,I Z x.pl,I Z x.pe,I Z x.room,I Z x.hv,I Z x.logn,.bool x.back,.pointer (S ⟨p.R,0,N⟩),.pointer (S ⟨K,0,N⟩),.pointer (S ⟨G,0,N⟩),I Z 0] 109):=aJ i (by rw[Hs 18 _ d];rfl) (by omega);have j:k.heap[L+1]?=S (O #[I Z 0,I Z 0,I Z 0] 210):=by rw[r,Nx _ (L+1) 2 _ _ _ (aJ n f (by omega))];rfl
 have g:aF (fun b=>b=L∨b=L+1) X k:=(n.mono fun b _ a=>.inl a).trans (i.mono fun b _ a=>.inr a);have T:dE p (bH.new x).rp k:=(s.keeps h).chg g (fun b a e=>by have:=c b a;omega);have ab:gX K (fun b=>z.heap.size≤b∧b<v.heap.size) (bH.new x).tk k:=(t.keeps h).same (fun b a Q=>⟨g.block b a (by omega),Q⟩);have ad:gY G (fun b=>v.heap.size≤b∧b<k.heap.size) (bH.new x).lg x.logn k:=gY.same R fun b a Q=>⟨g.block b a (by omega),Q,Nj a g.size⟩;have A:aC w k:=(((aF.of_below u fun _=>False).next (aF.of_below h fun _=>False) fun b a=>a.elim).next g fun b a=>.inr (by omega)).below Nl fun _ a=>a.elim;have C:v.heap.size≤k.heap.size:=Ng h.size g.size;rw[←r];have LE:=Lw j 3 rfl;have ar:=aB j
 have m:dV ({L:=L,p:=p,K:=K,G:=G}:fD) (tX L (L+2) z.heap.size z.heap.size v.heap.size v.heap.size k.heap.size) (bH.new x) k:=by
  refine⟨o,by unfold tX;rw[Fp rfl],T,fun b a=>?_,ab.mono fun b a=>?_,ad.mono fun b a=>?_,fun b a=>?_⟩
  ·have:=c b a;unfold tX;rw[Fn (by omega),Fp (by omega)]
  ·show tX _ _ _ _ _ _ _ b=3;unfold tX;rw[Fn (by omega),Fn (by omega),Fp a]
  ·show tX _ _ _ _ _ _ _ b=4;unfold tX;rw[Fn (by omega),Fn (by omega),Fn (by omega),Fp a]
  ·unfold tX;rw[Fn (by omega),Fn (by omega),Fn (by omega),Fn (by omega)]
 have Q:=eP m A y l C;clear s t u c d f R h l y z4 r n i o j g T ab ad A C m H J M P aa d2 H5;go_wp2_with fail;go_loopw [49] (fun a W=>∃i:Nat,i≤3∧a=I Z i∧W=k) fun a _=>3-(intOf a).toNat
 case atStart=>exact⟨0,by omega,rfl,rfl⟩
 case round=>
  obtain⟨i,d,rfl,rfl⟩:=hrel;have c:i=0∨i=1∨i=2∨i=3:=by omega
  rcases c with rfl|rfl|rfl|rfl
  ·go_wp2_with fail
   have a:∀W,(Instr.index 210 (.agg #[I Z 0,I Z 0,I Z 0]) (I Z 0)).run Y W=.ok (I Z 0) W:=NG 0 (by decide);rw[a];clear a;go_wp2_with fail;go_roundw
   case rel=>exact⟨1,by omega,by simp,trivial⟩
   case measure=>simp[intOf]
  ·go_wp2_with fail
   have a:∀W,(Instr.index 210 (.agg #[I Z 0,I Z 0,I Z 0]) (I Z 1)).run Y W=.ok (I Z 0) W:=NG 1 (by decide);rw[a];clear a;go_wp2_with fail;go_roundw
   case rel=>exact⟨2,by omega,by simp,trivial⟩
   case measure=>simp[intOf]
  ·go_wp2_with fail
   have a:∀W,(Instr.index 210 (.agg #[I Z 0,I Z 0,I Z 0]) (I Z 2)).run Y W=.ok (I Z 0) W:=NG 2 (by decide);rw[a];clear a;go_wp2_with fail;go_roundw
   case rel=>exact⟨3,by omega,by simp,trivial⟩
   case measure=>simp[intOf]
  ·go_wp2_with fail;refine My (results_tmp2 rfl _ _ _) rfl ?_;have⟨m,A,y,l,C⟩:=Q.out;exact⟨({L:=L,p:=p,K:=K,G:=G}:fD),_,rfl,m,A,fun b a=>by unfold tX;rw[Fn (by omega),Fn (by omega),Fn (by omega),Fn (by omega)]⟩
end
section
open Go.RowKit Go.Shelf
attribute [local go_sem] Oper.semAt_some
theorem Ez (r s b d c rk:Int) (w:Mr):Mt Y 130 #[.agg #[I Z r,I Z s,I Z b,I Z d,I Z c],I Z rk] w fun e a=>e=E (.func (.func 177) #[] #[.pointer (S ⟨w.heap.size,0,N⟩),.pointer (S ⟨w.heap.size+1,0,N⟩)])∧a=(w.alloc (O #[I Z r,I Z s,I Z b,I Z d,I Z c] 23)).alloc (O #[I Z rk] 3):=by go_in;go_wp2;go_ret;exact⟨rfl,rfl⟩
theorem Fa (r s b d c:Int) (w:Mr):Mt Y 90 #[.agg #[I Z r,I Z s,I Z b,I Z d,I Z c]] w fun e a=>e=E (.func (.func 129) #[] #[.pointer (S ⟨w.heap.size,0,N⟩)])∧a=w.alloc (O #[I Z r,I Z s,I Z b,I Z d,I Z c] 23):=by go_in;go_wp2;go_ret;exact⟨rfl,rfl⟩
def fV (b d c:Int):Nat:=b.toNat*(d.toNat*c.toNat)
def jG (r s b d c:Int):List Int:=if dF r s b d c=true then(Nf ((r+s).toNat*fV b d c)).map (fun k=>tK ((k/fV b d c:Nat):Int) d.toNat c.toNat (k%fV b d c))else[]
theorem Fb {s c:Int} (a:dF r s b d c=false):jG r s b d c=[]:=by unfold jG;rw[a];rfl
theorem yL {s c:Int} (a:dF r s b d c=true):(jG r s b d c).length=(r+s).toNat*fV b d c:=by unfold jG;rw[Fp a];simp
theorem CS {m:Nat} (a:k<n) (b:j<m):k*m+j<n*m:=Nj (Nat.add_lt_add_left b _) (by rw[←Nat.succ_mul];exact Nat.mul_le_mul_right _ a)
theorem NH {s c:Int} (i:dF r s b d c=true) (k j:Nat) (e:k<(r+s).toNat) (a:j<fV b d c):(jG r s b d c).getD (k*fV b d c+j) 0=tK (k:Nat) d.toNat c.toNat j:=by
 have f:=CS e a;unfold jG;rw[Fp i];have g:(k*fV b d c+j)/fV b d c=k:=by rw[Nat.mul_comm k,Nat.mul_add_div (by omega),Nat.div_eq_of_lt a,Nat.add_zero]
 have h:(k*fV b d c+j)%fV b d c=j:=by rw[Nat.mul_comm k,Nat.mul_add_mod,Og a]
 simp only[Mx,Of,List.getElem?_range f,Option.map_some,Option.getD_some];rw[g,h]
theorem NI {s c:Int} (a:dF r s b d c=true) (rk:Int):eY r s b d c rk 0 0 0=bel rk (r+s):=by obtain⟨e,f,g,h,i,j,k,l,m⟩:=cM a;rw[zK a,jO (Int.le_refl 0) (show 0<b by omega),jO (Int.le_refl 0) (show 0<d by omega),jO (Int.le_refl 0) (show 0<c by omega)];simp
def uW (W:Mr) (G lp:Nat) (r s b d c:Int) (w':Mr):Prop:=w'.heap[G]?=S (O #[I Z r,I Z s,I Z b,I Z d,I Z c] 23)∧w'.heap[W.heap.size]?=S (O #[.func (.yield lp) #[] #[]] 142)∧W.heap.size+1≤w'.heap.size
theorem uW.chg {e:Nat} {s c:Int} {A B:Mr} (h:uW W G e r s b d c A) (a:aF cw A B) (f:¬cw G) (g:¬cw W.heap.size):uW W G e r s b d c B:=⟨aJ a h.1 f,aJ a h.2.1 g,Ng h.2.2 a.size⟩
theorem NJ {P:Program} {F:Fence} {n:Nat} {fn:Func} {tmps:Array Ms} {R:Ending→Mr→Prop} {d:Nat}:∀(a:List Deferred) (W:Mr),gN d W a→
 (∀W':Mr,aF (fun b=>fQ b∈a) W W'→∃c,(results fn tmps).run P W'=.ok c W'∧R (E c) W')→LeavesInM F n P fn tmps R a .returning W
 |[],W,_,c=>c W Cl
 |o::a,W,h,c=>by obtain⟨m,rfl,k,e,f,g⟩:=h;refine⟨by simp,.inl ⟨_,_,rfl,run_takeDeferred e,?_⟩⟩;refine NJ a _ (g.same fun h l i j=>by rw[Ok (f h i)];exact j) fun W' h=>c W' ?_;exact aF.trans (aF.putObj (cw:=fun b=>fQ b∈fQ m::a) Cl (.inl (by simp)) _) (h.mono fun b _ i=>List.mem_cons_of_mem _ i)
theorem Fe {R:Mr→Prop} (T:Array Ms) (b:List Deferred) (W c:Mr) (d:gN W.heap.size c b) (f:∀a,aF (fun g=>fQ g∈b) c a→R a):bodyPostM Fence.wide 9 Y Tryz.f129 (fun e a=>(∃g,e=E g)∧R a) .ret {tmps:=T,defers:=b} c:=NJ b c d fun a g=>⟨_,Nw rfl _ _ _,⟨_,rfl⟩,f a g⟩
theorem XL {R:Mr→Prop} (T:Array Ms) (b:List Deferred) (W c:Mr) (d:gN W.heap.size c b) (f:∀a,aF (fun g=>fQ g∈b) c a→R a):bodyPostM Fence.wide 9 Y Tryz.f129 (fun e a=>(∃g,e=E g)∧R a) .normal {tmps:=T,defers:=b} c:=NJ b c d fun a g=>⟨_,Nw rfl _ _ _,⟨_,rfl⟩,f a g⟩
def sO (O:Nat→Prop) (G B:Nat) (ds:List Deferred):Prop:=¬O G∧¬O B∧∀D,fQ D∈ds→¬O D
theorem sO.grow {O f:Nat→Prop} {d:List Deferred} (j:sO O G B d) (e:∀b,f b→O b∨n≤b) (k:G<n) (l:B<n) (h:∀i,fQ i∈d→i<n):sO f G B d:=⟨fun c=>by rcases e _ c with a|a;exact j.1 a;omega,fun c=>by rcases e _ c with a|a;exact j.2.1 a;omega,fun i g c=>by rcases e _ c with a|a;exact j.2.2 i g a;have:=h i g;omega⟩
theorem sO.cons {O:Nat→Prop} {a:List Deferred} (h:sO O G B a) (d:¬O D):sO O G B (fQ D::a):=
 ⟨h.1,h.2.1,fun b f c=>by
   rcases List.mem_cons.1 f with e|e
   ·have:b=D:=by unfold fQ at e;injection e with g _;injection g
    subst this;exact d c
   ·exact h.2.2 b e c⟩
theorem Ff (G:Nat) (r s b d c:Int) (W:Mr) (h:W.heap[G]?=S (.cells #[I Z r,I Z s,I Z b,I Z d,I Z c] 23)):XJ Y 129 #[.pointer (S ⟨G,0,N⟩)] (mM (jG r s b d c)) (fun ck=>ck=G) W:=by
 intro F cl Jx m p i l o t O0 g j;have HY:=aA t;have z:=aA p;have av:=aA i;have bx:=aA l;have zG:=aB h;have H0:=aH g (show sO O0 G W.heap.size [] from⟨fun q=>j G q rfl,fun q=>by have:=l _ _ _ g _ q;omega,fun bv q=>by simp at q⟩);have⟨w0,a⟩:=Ex (W.alloc (.cells #[.func (.yield F) #[] #[]] 142));have f:aC W w0:=by rw[a];exact Bl.alloc Nl _
 have k:uW W G F r s b d c w0:=⟨aE f h,by rw[a];exact aG _ _ _ rfl,by rw[a];simp⟩;have J:=Hd3 k f h;clear t p i l o m g j h;refine(Nk (n:=9)).1 ?_;refine callsIn_of_wp_marks func129 rfl trivial ?_;simp only[ntmps129,Nv,Oc,List.length_nil,Nat.reduceAdd,Nat.reduceSub,Array.replicate_succ,Array.replicate_zero,List.push_toArray,List.append_toArray,List.nil_append,List.cons_append];gi_wp2_with fail;rw[←a];clear a k f;cases q:dF r s b d c
 ·have x:=sZ r s b d c 0 0 0 0
  rw[OL (by rw[q];simp)]at x;have HH:=aA x;have a:Hid (cl (mM (jG r s b d c)).length O0 w0):=by show cl _ _ w0;rw[Fb q,tJ];exact z.out _ _ _ _ H0.out.1 (aF.of_below J.out.2.1 _)
  have g:=J.out.1;have⟨g0,T,g2,v,g4⟩:=gZ g.1;simp at g0 T g2 v g4;clear g x q
  gi_loopw [3] (fun x wr=>x=I Z 0∧wr=w0) fun x _=>0
  case atStart=>exact⟨rfl,rfl⟩
  case round=>obtain⟨rfl,rfl⟩:=hrel;gi_wp2_with fail;refine⟨trivial,?_⟩;refine((Nk (n:=8)).2 (HH.out _)).mono ?_;rintro e j ⟨rfl,l⟩;have o:=aA l;clear l;gi_wp2_with fail;exact XL _ [] W _ trivial fun H l=>⟨O0,.inl (z.out _ _ _ _ (z.out _ _ _ _ a.out (aF.of_below o.out _)) (l.mono fun x _ q=>by simp at q))⟩
 ·refine wpIn_loop (fun a' H=>∃(A:Nat) (U:Nat→Prop) (u4 u5 u6 u7 u8 u9 X ba bb bd bm aa ab ad ae:Ms) (w:List Deferred),A≤(r+s).toNat∧uW W G F r s b d c H∧cl (A*fV b d c) U H∧gN W.heap.size H w∧sO U G W.heap.size w∧a'={tmps:=#[.func (.yield F) #[] #[],.pointer (S ⟨G,0,N⟩),.pointer (S ⟨W.heap.size,0,N⟩),I Z (A:Nat),u4,u5,u6,u7,u8,u9,X,ba,bb,bd,bm,aa,ab,ad,ae],defers:=w}) (fun a' _=>(r+s).toNat-(intOf (a'.tmps.getD 3 Mv)).toNat) ?start ?round
  case start=>exact⟨0,O0,Mv,Mv,Mv,Mv,Mv,Mv,Mv,Mv,Mv,Mv,Mv,Mv,Mv,Mv,Mv,[],by omega,J.out.1,by rw[Nat.zero_mul];exact z.out _ _ _ _ H0.out.1 (aF.of_below J.out.2.1 _),trivial,H0.out.2,rfl⟩
  case round=>
   rintro a' H ⟨A,U,u4,u5,u6,u7,u8,u9,X,ba,bb,bd,bm,aa,ab,ad,ae,w,hk,g,k,h,a,rfl⟩;have HT:=bT g k h a;have f:=bx.out _ _ _ k;have bz:=aA f;clear a f;have⟨g0,T,g2,v,g4⟩:=gZ g.1;simp at g0 T g2 v g4;have cc:=aB g.1;have x:=sZ r s b d c (A:Nat) 0 0 0;rw[NI q]at x;have V:=cM q;have HR:=aH q V;by_cases an:A<(r+s).toNat
   ·rw[jO (by omega) (show((A:Nat):Int)<r+s by omega)]at x
    have HH:=aA x;have p:=aA an;clear g k h x q V;gi_wp2_with fail;refine⟨trivial,?_⟩;refine((Nk (n:=8)).2 (HH.out _)).mono ?_;rintro e j ⟨rfl,l⟩;obtain⟨q0,q1⟩:=iI l;have cm:G<j.heap.size:=Nj cc l.size;have o:=aA l;clear l;gi_wp2_with fail;refine⟨trivial,?_⟩;refine((Nk (n:=8)).2 (Ez _ _ _ _ _ _ _)).mono ?_;rintro e u ⟨rfl,C⟩;have⟨g,k,h,a⟩:=HT.out;have ar:uW W G F r s b d c j:=g.chg (aF.of_below o.out fun _=>False) (fun q=>q) fun q=>q;have K:aC j u:=by rw[C];exact(Bl.alloc Nl _).alloc (by simp) _
    have B1:u.heap[j.heap.size]?=S (.cells #[I Z r,I Z s,I Z b,I Z d,I Z c] 23):=by rw[C,aV _ _ _ (by simp)];exact aG _ _ _ rfl
    have B2:u.heap[j.heap.size+1]?=S (.cells #[I Z (A:Nat)] 3):=by rw[C];exact aG _ _ _ (by simp)
    have L:u.heap.size=j.heap.size+1+1:=by rw[C];simp
    have M:uW W G F r s b d c u:=ar.chg (aF.of_below K fun _=>False) (fun q=>q) fun q=>q;have bn:gN W.heap.size j w:=h.chg (aF.of_below o.out fun _=>False) fun _ q=>q.elim;have t:gN W.heap.size u w:=bn.chg (aF.of_below K fun _=>False) fun _ q=>q.elim;have zW:W.heap.size<j.heap.size:=by have:=ar.2.2;omega
    have P:cl (A*fV b d c) U u:=z.out _ _ _ _ (z.out _ _ _ _ k ((aF.of_below o.out _))) (aF.of_below K _);have Q:∀D,j.heap.size≤D→¬U D:=fun D hz q=>by have:=bz.out D q;have:=o.out.size;omega
    have HX:=mI B1 B2 L M t zW P Q a;clear g k h ar K B1 B2 L M bn t C q0 q1 zW P Q a g0 T g2 v g4;gi_wp2_with fail;have⟨B1,B2,L,M,t,zW,P,Q,a⟩:=HX.out;have m:=HR.out;have br:=aA (J8 (show eY r s b d c (A:Nat) 0 0 0=true by rw[NI m.1];exact jO (by omega) (by have:=p.out;omega)))
    refine QZ 9 9 (gf:=177) (lb:=#[.pointer (S ⟨j.heap.size,0,N⟩),.pointer (S ⟨j.heap.size+1,0,N⟩)]) rfl (enters_of func177 (by kernel_rfl) rfl) (mM (sD r s b d c (A:Nat))) (fun x=>x=j.heap.size∨x=j.heap.size+1) (fun x e=>by rw[L];omega)
     (fun g f=>iz j.heap.size (j.heap.size+1) r s b d c (A:Nat) g (aE f B1) (aE f B2))
     (fun bn cn q=>by obtain⟨_,rfl⟩:=xI _ bn cn q;rfl)
     (fun x=>x<j.heap.size∨u.heap.size+1<x) (fun x f=>by rcases f with q|q;exact .inl ⟨by omega,fun q=>by omega⟩;exact .inr q)
     (fun bn bw=>∃U,uW W G F r s b d c bw∧cl (A*fV b d c+bn) U bw∧gN W.heap.size bw w∧sO U G W.heap.size w∧∀D,j.heap.size≤D→D≤u.heap.size+1→¬U D)
     (fun c' bw=>c'=.ret∧∃U,Jx U bw∧gN W.heap.size bw w∧sO U G W.heap.size w∧∀D,j.heap.size≤D→D≤u.heap.size+1→¬U D)
     (fun bn V _=>∃ck,bn<fV b d c∧ck=tK (A:Nat) d.toNat c.toNat bn∧V={tmps:=#[.func (.yield F) #[] #[],.pointer (S ⟨G,0,N⟩),.pointer (S ⟨W.heap.size,0,N⟩),I Z (A:Nat),I Z ck,.agg #[I Z r,I Z s,I Z b,I Z d,I Z c],I Z (A:Nat),.agg #[I Z (A:Nat),I Z 0,I Z 0,I Z 0],.bool true,u9,X,.agg #[I Z r,I Z s,I Z b,I Z d,I Z c],I Z (A:Nat),(.func (.func 177) #[] #[.pointer (S ⟨j.heap.size,0,N⟩),.pointer (S ⟨j.heap.size+1,0,N⟩)]),I Z ck,aa,ab,ad,ae],defers:=[]})
     (fun bn k B q l=>by
      obtain⟨U,y,C,h,i,f⟩:=q
      exact⟨U,y.chg l (fun q=>by omega) fun q=>by omega,z.out _ _ _ _ C (l.mono fun x _ q m=>f x (by omega) (by omega) m),h.same fun bv _ q v=>aJ l v fun m=>by have:=t.lt bv q;omega,i,f⟩)
     (fun c' k B q l=>by
      obtain⟨g,U,C,h,i,f⟩:=q
      exact⟨g,U,av.out _ _ _ C (l.mono fun x _ q m=>f x (by omega) (by omega) m),h.same fun bv _ q v=>aJ l v fun m=>by have:=t.lt bv q;omega,i,f⟩)
     (fun _ _ _ _ q _=>q) ⟨U,M,by rw[Nat.add_zero];exact P,t,a,fun D y _=>Q D y⟩ ?assign ?body ?done ?stop
    case assign=>intro bn cn bw q hU f;obtain⟨K,rfl⟩:=xI _ bn cn q;rw[br.out]at K;have y:=R0 (show eY r s b d c (A:Nat) 0 0 0=true by rw[NI HR.out.1];exact jO (by omega) (by have:=p.out;omega)) bn K;have g:=aH K y;clear K q y;generalize(sD r s b d c (A:Nat)).getD bn 0=ck at*;gi_wp2_with fail;refine⟨Cl,f,ck,g.out.1,g.out.2,?_⟩;go_simp
    case body=>
     rintro bn cn V bw q hU T ⟨U,g,k,h,a,f⟩ ⟨ck,K,y,rfl⟩;clear q T;have m1:=Cw g.2.1 0;simp at m1;have C:=CS p.out K;obtain⟨fn,tmps,assign,body,hy,cd⟩:=HY.out (A*fV b d c+bn) _ _ bw 8 (E5 _ _ (by rw[yL HR.out.1];exact C)) k (by have:=g.2.2;omega);rw[NH HR.out.1 A bn p.out K,←y]at hy;have HI:=eQ g k h a f hU;clear g k h a f C y hU;gi_wp2_with fail;refine cd.mono ?_;rintro e U3 ⟨O',i,l,⟨rfl,x⟩|⟨rfl,bs⟩⟩
     ·have R:=Hd3 i l x
      clear i l x;gi_wp2_with fail;have⟨g,k,h,a,f,hU⟩:=HI.out;have⟨i,l,x⟩:=R.out;have ar:=aB g.1;have cf:=g.2.2;refine⟨i.mono fun D _ hz=>?_,O',g.chg i a.1 a.2.1,x,h.same fun bv T q v=>aJ i v (a.2.2 bv q),a.grow l ar (by omega) fun bv q=>h.lt bv q,fun D y C m=>by rcases l D m with q|q;exact f D y C q;omega⟩;by_cases v:j.heap.size≤D
      ·by_cases q:D≤u.heap.size+1
       ·exact absurd hz (f D v q)
       ·exact .inr (by omega)
      ·exact .inl (by omega)
     ·have R:=Hd3 i l bs
      clear i l bs;gi_wp2_with fail;have⟨g,k,h,a,f,hU⟩:=HI.out;have⟨i,l,x⟩:=R.out;have ar:=aB g.1;have cf:=g.2.2;refine⟨i.mono fun D _ hz=>?_,rfl,O',x,h.same fun bv T q v=>aJ i v (a.2.2 bv q),a.grow l ar (by omega) fun bv q=>h.lt bv q,fun D y C m=>by rcases l D m with q|q;exact f D y C q;omega⟩;by_cases v:j.heap.size≤D
      ·by_cases q:D≤u.heap.size+1
       ·exact absurd hz (f D v q)
       ·exact .inr (by omega)
      ·exact .inl (by omega)
    case done=>
     rintro bw hD ⟨O1,g,k,h,i,f⟩ D;rw[tJ,br.out]at k;have R:=eQ g k h D i f;clear g k h D i f;have q:(A:Int)<8:=by have:=p.out;have:=m.2;omega
     gi_wp2_with fail;have⟨g,k,h,D,i,f⟩:=R.out;have l:(((A+1:Nat):Nat):Int)=(A:Int)+1:=by omega
     refine⟨⟨A+1,?_⟩,?_⟩
     ·rw[l];exact⟨O1,_,_,_,_,_,_,_,_,_,_,_,_,_,_,_,fQ u.heap.size::w,p.out,g,by rw[Nat.succ_mul];exact k,gN.cons t h Nl (by omega) D,i.cons (f _ (by omega) (by omega)),rfl⟩
     ·have:=p.out;simp[intOf];omega
    case stop=>rintro c' bw hD ⟨rfl,O1,y,h,i,f⟩ D;have R:=eP y h D i f;clear y h D i f;gi_wp2_with fail;have⟨y,h,D,i,f⟩:=R.out;exact Fe _ _ W _ (gN.cons t h Nl (by omega) D) fun H l=>⟨O1,.inr (av.out _ _ _ y (l.mono fun x _ q m=>(i.cons (f _ (by omega) (by omega))).2.2 x q m))⟩
   ·rw[show bel (A:Nat) (r+s)=false by unfold bel;rw[decide_eq_false (show¬((A:Nat):Int)<r+s by omega)];simp]at x
    have HH:=aA x;have p:=aA an;clear g k h x q V an;gi_wp2_with fail;refine⟨trivial,?_⟩;refine((Nk (n:=8)).2 (HH.out _)).mono ?_;rintro e j ⟨rfl,l⟩;have o:=aA l;clear l;gi_wp2_with fail;have⟨g,k,h,a⟩:=HT.out;have f:A=(r+s).toNat:=by have:=p.out;omega
    refine XL _ w W _ (h.chg (aF.of_below o.out fun _=>False) fun _ q=>q.elim) fun H l=>⟨U,.inl ?_⟩;show cl _ _ H;rw[tJ,yL HR.out.1,←f];exact z.out _ _ _ _ (z.out _ _ _ _ k (aF.of_below o.out _)) (l.mono fun x _ q m=>a.2.2 x q m)
end
section
open Go.RowKit Go.Shelf lin
attribute [local go_sem] Oper.semAt_some cK Mh
attribute [local simp] Mf Mg
def CtSt.new (x:aY):CtSt:=⟨bH.new x,cF.new x.r x.s x.b x.d x.c x.m,0⟩
def CtSt.wipe (x:aY) (k:Nat):CtSt:=((jG x.r x.s x.b x.d x.c).take k).foldl (fun s i=>s.put i.toNat ln0 false) (CtSt.new x)
def oQ (X:Nat) (cd:Nat→Prop) [DecidablePred cd] (o1 o2:Nat) (cl:Nat→Nat) (b:Nat):Nat:=if b=X then 5 else if cd b then 6 else if o1≤b∧b<o2 then 8 else cl b
theorem cO.new {x:aY} (b:lE x):cO (CtSt.new x):=by have a:=eM b.lay;have c:=cM (eE a.1).1;refine⟨eU.new b,iG.new (eE a.1).1 b.mode,⟨rfl,rfl,rfl,rfl,rfl,rfl⟩,?_⟩;show bel 0 ((cU x.r x.s x.b x.d x.c-x.res)*x.c)=true;exact jO (Int.le_refl _) (Int.mul_pos (by omega) (by omega))
theorem Fg {x:aY} (A:lE x) {g CX CH CC CF Cg:Nat} {p:fD} {h:Nat→Nat} {j i c:Mr} (C:g≤w.heap.size) (v:fH B (fun b=>g≤b) (cF.new x.r x.s x.b x.d x.c x.m) 0 w) (t:aC w j) (d:dV p h (bH.new x) i) (k:aC j i) (s:∀b,b<j.heap.size→h b=0)
 (e:kG CX CH CC CF Cg c) (m:∀b,b=CX∨b=CH∨b=CC∨b=CF∨b=Cg→i.heap.size≤b) (f:aC i c) (q:aC c W) (u:W.heap[c.heap.size]?=S (O #[.pointer (S ⟨p.L,0,N⟩),.pointer (S ⟨B,0,N⟩),.pointer (S ⟨CX,0,N⟩),I Z 0,.slice N 0 0] 106)):
 dB ({X:=c.heap.size,l:=p,B:=B,CX:=CX,CH:=CH,CC:=CC,CF:=CF,Cg:=Cg}:dK) (oQ c.heap.size (fun b=>b=CX∨b=CH∨b=CC∨b=CF∨b=Cg) g w.heap.size h) (CtSt.new x) 0 W:=by
 have D:=t.size;have F:=k.size;have G:=f.size;have H:=aB u;have y:∀b,i.heap.size≤b→h b=0:=d.top;have n:∀b,(b=CX∨b=CH∨b=CC∨b=CF∨b=Cg)→b<c.heap.size:=fun b a=>e.lt a;have o:∀b,W.heap.size≤b→oQ c.heap.size (fun b=>b=CX∨b=CH∨b=CC∨b=CF∨b=Cg) g w.heap.size h b=0:=fun b a=>by unfold oQ;rw[Fn (by omega),Fn fun r=>by have:=n b r;omega,Fn (by omega)];exact y b (by omega)
 refine⟨⟨.slice N 0 0,u,⟨[],bP.nil _ _ _,Nl⟩,fun r a=>by simp[Ny]at a⟩,by unfold oQ;rw[Fp rfl],?_,e.keeps q,fun b a=>?_,?_⟩
 ·refine d.same (fun b a J K=>⟨(aK f q).block b a,?_⟩) o;have z:j.heap.size≤b:=Nat.le_of_not_lt (fun r=>by have:=s b r;omega);unfold oQ;rw[Fn (by omega),Fn fun r=>by have:=m b r;omega,Fn (by omega)]
 ·unfold oQ;have:=n b a;rw[Fn (by omega),Fp a]
 ·refine v.same fun b a r=>⟨(aK t (aK k (aK f q))).block b a,?_⟩;have r:g≤b:=r;show oQ _ _ _ _ _ b=8;unfold oQ;rw[Fn (by omega),Fn fun r=>by have:=m b r;omega,Fp ⟨r,a⟩]
theorem XM {s c:Int} (h:dF r s b d c=true) (e:k<(jG r s b d c).length):eC r s b d c ((jG r s b d c).getD k 0)=true∧0≤(jG r s b d c).getD k 0:=by
 obtain⟨p,q,t,u,v,w,x,y,z⟩:=cM h;have A:=e;rw[yL h]at e;have f:0<fV b d c:=by unfold fV;exact Nat.mul_pos (by omega) (Nat.mul_pos (by omega) (by omega))
 have i:k/fV b d c<(r+s).toNat:=(Nat.div_lt_iff_lt_mul f).2 e;have g:k%fV b d c<fV b d c:=Nat.mod_lt _ f;have j:k=k/fV b d c*fV b d c+k%fV b d c:=by rw[Nat.mul_comm];exact(Nat.div_add_mod _ _).symm
 rw[j,NH h _ _ i g];have l:0<d.toNat*c.toNat:=Nat.mul_pos (by omega) (by omega);have m:k%fV b d c/(d.toNat*c.toNat)<b.toNat:=(Nat.div_lt_iff_lt_mul l).2 g;have n:k%fV b d c/c.toNat%d.toNat<d.toNat:=Nat.mod_lt _ (by omega);have o:k%fV b d c%c.toNat<c.toNat:=Nat.mod_lt _ (by omega);have a:=wA (zJ h (Int.natCast_nonneg (k/fV b d c)) (by omega) (Int.natCast_nonneg (k%fV b d c/(d.toNat*c.toNat))) (by omega) (Int.natCast_nonneg (k%fV b d c/c.toNat%d.toNat)) (by omega) (Int.natCast_nonneg (k%fV b d c%c.toNat)) (by omega));exact⟨a,(oI a h).1⟩
theorem XN {c:Int} (f:0≤a) (g:0≤b) (h:0≤c) (i:0≤d) (j:a*b*c*d≤4096):a.toNat*(b.toNat*(c.toNat*d.toNat))≤4096:=by
 have e:((a.toNat*(b.toNat*(c.toNat*d.toNat)):Nat):Int)=a*b*c*d:=by rw[Int.natCast_mul,Int.natCast_mul,Int.natCast_mul,Int.toNat_of_nonneg f,Int.toNat_of_nonneg g,Int.toNat_of_nonneg h,Int.toNat_of_nonneg i,←Int.mul_assoc,←Int.mul_assoc]
 rw[←e]at j;exact Int.ofNat_le.1 j
theorem Fh {K:Nat} {a:Ms} (w:Mr) (c:w.heap[B]?=S (O #[.pointer (S ⟨D,0,N⟩),.map (S G),.map (S K),a] 121)):Mt Y 26 #[.pointer (S ⟨B,0,N⟩)] w fun e b=>e=E (.pointer (S ⟨D,0,N⟩))∧Mu w.heap.size w b:=by have b:=Cw c 0;simp at b;clear c;go_in;go_wp2;go_ret;exact⟨rfl,Bl⟩
theorem Fi (x:aY) (k:Nat):(CtSt.wipe x k).ld=bH.new x:=by
 unfold CtSt.wipe;generalize(jG x.r x.s x.b x.d x.c).take k=a
 have:∀(a:List Int) (s:CtSt),(a.foldl (fun s b=>s.put b.toNat ln0 false) s).ld=s.ld:=fun a=>by
  induction a with
  |nil=>intro s;rfl
  |cons c a b=>intro s;rw[List.foldl_cons,b];rfl
 exact this a _
theorem Fj {x:aY} (a:k<(jG x.r x.s x.b x.d x.c).length):CtSt.wipe x (k+1)=(CtSt.wipe x k).put ((jG x.r x.s x.b x.d x.c).getD k 0).toNat ln0 false:=by unfold CtSt.wipe;rw[List.take_add_one,List.foldl_append,Nn a];simp[Mx,a]
def uX (x:aY) (q:dK) (c8:Nat→Nat) (G:Nat) (W8:Mr) (k:Nat) (O:Nat→Prop) (W:Mr):Prop:=∃col,dB q col (CtSt.wipe x k) k W∧cO (CtSt.wipe x k)∧(∀b,O b↔(b<G∨KC (col b)))∧(∀b,b≤G+1→col b=c8 b)∧aF (fun b=>G≤b∨KC (c8 b)) W8 W
theorem uX.chg {x:aY} {i:Nat→Nat} {c:Mr} (p:G<c.heap.size):∀n m o d,uX x q i G c n m o→aF (fun b=>¬m b) o d→uX x q i G c n m d:=by rintro n m o d ⟨h,r,ok,e,f,s⟩ g;refine⟨h,r.same (fun b a j k=>⟨g.block b a fun l=>l ((e b).2 (.inr ⟨j,k⟩)),rfl⟩) fun b a=>r.top b (Ng g.size a),ok,e,f,s.next g fun b a=>.inl (.inl (Nat.le_of_not_lt fun j=>a ((e b).2 (.inl j))))⟩
theorem uX.bd {x:aY} {d:Nat→Nat} {a:Mr} (l:G<a.heap.size):∀m j k,uX x q d G a m j k→∀b,j b→b<k.heap.size:=by
 rintro m j k ⟨i,n,ok,e,f,o⟩ b g;rcases(e b).1 g with c|c
 ·have:=o.size;omega
 ·exact Nat.lt_of_not_le fun h=>by have:=n.top b h;unfold KC at c;omega
theorem Fk {x:aY} (A:lE x) (B D:Nat) (w:Mr) (p:D≤w.heap.size) (R:fH B (fun b=>D≤b) (cF.new x.r x.s x.b x.d x.c x.m) 0 w):Mt Y 55 #[.agg x.vals,.pointer (S ⟨B,0,N⟩)] w fun e c=>∃(q:dK) (col:Nat→Nat),e=E (.tuple #[.pointer (S ⟨q.X,0,N⟩),I Z 0])∧q.B=B∧dB q col (CtSt.wipe x 4096) 4096 c∧cO (CtSt.wipe x 4096)∧Mu D w c∧∀b,b<D→col b=0:=by
 have⟨bv,d⟩:=Ex (w.alloc (.cells x.vals 31));have C:aC w bv:=by rw[d];exact aU
 have F:bv.heap[w.heap.size]?=S (.cells x.vals 31):=by rw[d];exact aG _ _ _ rfl
 have HO:=aA fun W=>Ew A W;unfold aY.vals at*;have bd:=aA fun w=>NF x.r x.s x.b x.d x.c x.way x.res x.m x.rl x.re x.pl x.pe x.room x.hv x.logn x.back w;rw[A.cfgB]at bd;have bm:Hid (∀W,aC bv W→(Mc ⟨w.heap.size,0,N⟩ 0 16 #[]).run Y W=.ok #[I Z x.r,I Z x.s,I Z x.b,I Z x.d,I Z x.c,I Z x.way,I Z x.res,I Z x.m,I Z x.rl,I Z x.re,I Z x.pl,I Z x.pe,I Z x.room,I Z x.hv,I Z x.logn,.bool x.back] W):=aA fun W f=>Lw (aE f F) 16 rfl;have L5:Hid (∀W,aC bv W→(Mc ⟨w.heap.size,0,N⟩ 0 5 #[]).run Y W=.ok #[I Z x.r,I Z x.s,I Z x.b,I Z x.d,I Z x.c] W):=aA fun W f=>tW (aE f F) [_,_,_,_,_] _ rfl;obtain⟨cf,a⟩:∃cf,∀W,aC w W→Mt Y 26 #[.pointer (S ⟨B,0,N⟩)] W (fun e c=>e=E (.pointer (S ⟨cf,0,N⟩))∧Mu W.heap.size W c)∧Mt Y 87 #[.pointer (S ⟨cf,0,N⟩)] W (fun e c=>e=E (.agg #[I Z x.r,I Z x.s,I Z x.b,I Z x.d,I Z x.c])∧Mu W.heap.size W c)∧Mt Y 69 #[.pointer (S ⟨cf,0,N⟩)] W (fun e c=>e=E (I Z x.m)∧Mu W.heap.size W c):=by obtain⟨cf,i,r,j,_,_,_,_,_,h,c,_⟩:=id R;obtain⟨k,m,o,_,_,_,_,_,g,_⟩:=c;refine⟨cf,fun W f=>⟨Fh W (aE f h),oq cf _ _ _ _ _ _ _ _ _ W (aE f g),(JX cf [] _ _ _ _ _ _ _ _ _ W (aE f g)).mono (fun e c H=>⟨H.1,H.2▸Bl⟩)⟩⟩
 have bn:=aA fun W f=>(a W f).1;have bw:=aA fun W f=>(a W f).2.1;have bx:=aA fun W f=>(a W f).2.2;have HU:=eP C F R p A;have i:=bm.out bv (K.refl bv);have hz:=aB F;clear C F A R p a;refine(Nk (n:=9)).1 ?_;refine callsIn_of_wp_marks func55 rfl trivial ?_;simp only[ntmps55,Nv,Oc,List.length_nil,Nat.reduceAdd,Nat.reduceSub,Array.replicate_succ,Array.replicate_zero,List.push_toArray,List.append_toArray,List.nil_append,List.cons_append]
 gi_upto_region 1 with fail
 rw[←d];clear d;gi_wp2_with fail;refine⟨trivial,?_⟩;refine((Nk (n:=8)).2 (bd.out _)).mono ?_;rintro e w1 ⟨rfl,a⟩;have h:Hid (aC bv w1):=aA a;have j:Hid (aC w w1):=aA (aK HU.out.1 a);clear a i;gi_wp2_with fail;refine wpIn_wide.2 ?_;go_wp2_with fail;refine bS (by kernel_rfl) (by kernel_rfl) ?_
 repeat
  with_reducible refine Mz fun K d=>?_
  go_simp
  try first
   |(apply Ei
     intro c a;obtain⟨i,m⟩:=a.cells;have f:=L5.out _ (aK h.out a);go_simp
     first
      |(go_at_call 26;with_reducible exact a.call (bn.out _ (aK j.out a)))
      |(go_at_call 87;with_reducible exact a.call (bw.out _ (aK j.out a)))
      |rfl)
   |(with_reducible refine aQ ?_ ?_;first|decide|simp[Mv];done)
  refine d _ ?_;clear d K
 with_reducible refine Na ?_
 intro w2 c;have f:Hid (aC bv w2):=aA (aK h.out c);have k:Hid (aC w w2):=aA (aK HU.out.1 f.out);have a:=aE f.out HU.out.2.1;have g:=aB a;have o:=Cw a 7;simp at o;clear a c;gi_wp2_with fail;refine wpIn_wide.2 ?_;go_wp2_with fail;refine bS (by kernel_rfl) (by kernel_rfl) ?_
 repeat
  with_reducible refine Mz fun K d=>?_
  go_simp
  try first
   |(apply Ei
     intro c a;obtain⟨i,m⟩:=a.cells;go_simp
     first
      |(go_at_call 26;with_reducible exact a.call (bn.out _ (aK k.out a)))
      |(go_at_call 69;with_reducible exact a.call (bx.out _ (aK k.out a)))
      |rfl)
   |(with_reducible refine aQ ?_ ?_;first|decide|simp[Mv];done)
  refine d _ ?_;clear d K
 with_reducible refine Na ?_
 intro w3 a;have K3:Hid (aC bv w3):=aA (aK f.out a);have c:=aE K3.out HU.out.2.1;have d:=aB c;have i:=bm.out w3 K3.out;clear c a o g h j f k;gi_wp2_with fail;refine⟨trivial,?_⟩;refine((Nk (n:=8)).2 (HO.out _)).mono ?_;rintro e w4 ⟨ql,cl,rfl,a,h,r⟩;have H4:=Hd3 a h r;clear a h r i d;gi_wp2_with fail;refine⟨trivial,?_⟩;refine((Nk (n:=8)).2 (Bf _)).mono ?_;rintro e k ⟨CX,CH,CC,CF,Cg,rfl,c,s,i⟩;have H5:=Hd3 c s i;clear c s i;gi_wp2_with fail;have⟨a,h,r⟩:=H4.out;have⟨c,s,i⟩:=H5.out;have⟨C,F,R,p,A⟩:=HU.out;have m:aC bv k:=aK K3.out (aK h i);have⟨J,d⟩:=Ex ((k.alloc (.cells #[.pointer (S ⟨ql.L,0,N⟩),.pointer (S ⟨B,0,N⟩),.pointer (S ⟨CX,0,N⟩),I Z 0,.slice N 0 0] 106)).alloc (.cells #[.pointer (S ⟨k.heap.size,0,N⟩)] 57));have j:aC k J:=by rw[d];exact gH
 have P:J.heap.size=k.heap.size+2:=by rw[d];simp
 have t:J.heap[k.heap.size]?=S (.cells #[.pointer (S ⟨ql.L,0,N⟩),.pointer (S ⟨B,0,N⟩),.pointer (S ⟨CX,0,N⟩),I Z 0,.slice N 0 0] 106):=by rw[d,aV _ _ _ (by simp)];exact aG _ _ _ rfl
 have b8:J.heap[k.heap.size+1]?=S (.cells #[.pointer (S ⟨k.heap.size,0,N⟩)] 57):=by rw[d];exact aG _ _ _ (by simp)
 have u:=L5.out J (aK m j);have g:=aE (aK m j) F;have o:=aB g;have v:=fun(W:Mr) (f:aC J W)=>Fg A p R (aK C K3.out) a h r c s i (aK j f) (aE f t);have H7:=eP v j P b8 m;rw[←d,u];clear a h r c s i C F R p A m j P t b8 g v d;go_simp;gi_wp2_with fail;refine⟨trivial,?_⟩;refine((Nk (n:=8)).2 (Fa _ _ _ _ _ _)).mono ?_;rintro e w8 ⟨rfl,t⟩;have H8:=aA t;clear u o t;gi_wp2_with fail;have⟨v,j,P,b8,m⟩:=H7.out;have t:=H8.out;have⟨C,F,R,p,A⟩:=HU.out;have d:dF x.r x.s x.b x.d x.c=true:=(eE (eM A.lay).1).1;have T:aC J w8:=by rw[t];exact aU
 have bG:w8.heap[J.heap.size]?=S (.cells #[I Z x.r,I Z x.s,I Z x.b,I Z x.d,I Z x.c] 23):=by rw[t];exact aG _ _ _ rfl
 have U:w8.heap.size=J.heap.size+1:=by rw[t];simp
 have⟨G,Q⟩:=Ex J.heap.size;rw[←Q]at bG U;have V:=v w8 T;have o:=aE T b8;have ab:=v J Kr
 have ar:Hid (oQ k.heap.size (fun b=>b=CX∨b=CH∨b=CC∨b=CF∨b=Cg) D w.heap.size cl (k.heap.size+1)=0):=aA (by
  have⟨a,h,r⟩:=H4.out;have⟨c,s,i⟩:=H5.out;have f:=i.size;have u:=h.size;have y:=(aK C K3.out).size;unfold oQ;rw[Fn (by omega),Fn fun H=>by have:=c.lt H;omega,Fn (by omega)]
  exact a.top _ (by omega))
 have av:Hid (∀b,b<D→oQ k.heap.size (fun b=>b=CX∨b=CH∨b=CC∨b=CF∨b=Cg) D w.heap.size cl b=0):=aA (fun b g=>by
  have⟨a,h,r⟩:=H4.out;have⟨c,s,i⟩:=H5.out;have f:=i.size;have u:=h.size;have y:=(aK C K3.out).size;unfold oQ;rw[Fn (by omega),Fn fun H=>by have:=s b H;omega,Fn (by omega)]
  exact r b (by omega))
 generalize oQ k.heap.size (fun b=>b=CX∨b=CH∨b=CC∨b=CF∨b=Cg) D w.heap.size cl=c8 at V ab ar av;have i:c8 G=0:=ab.top G (by omega);have r:c8 (G+1)=0:=V.top _ (by omega);have a:c8 (k.heap.size+1)=0:=ar.out;have c:∀b,b<D→c8 b=0:=av.out;have ba:=cO.new A;have aa:(jG x.r x.s x.b x.d x.c).length≤4096:=by rw[yL d];obtain⟨g,h,s,u,y,z,f⟩:=uB d;obtain⟨H,L,M,a4,a5,a6,a7,a8,a9⟩:=cM d;unfold fV;have:=XN (show 0≤x.r+x.s by omega) (show 0≤x.b by omega) (show 0≤x.d by omega) (show 0≤x.c by omega) f;exact this
 have bb:=aA aa;have y:w.heap.size≤G:=by rw[Q];exact(aK (aK C m) j).size
 have s:aC w w8:=aK (aK C m) (aK j T);have HY:=aA (Ai d (Ai U (Ai P (Ai o (Ai i (Ai r (Ai a (Ai c (Ai s (Ai Q (Ai p y)))))))))));rw[←Q]
 refine Fd 9 9 (gf:=129) (lb:=#[.pointer (S ⟨G,0,N⟩)]) rfl (enters_of func129 (by kernel_rfl) rfl) (mM (jG x.r x.s x.b x.d x.c)) (fun cm=>cm=G) (fun cm e=>by omega)
  (fun g f=>Ff G x.r x.s x.b x.d x.c g (aE f bG))
  (fun f cp hv=>by obtain⟨_,rfl⟩:=xI _ f cp hv;rfl)
  (uX x ({X:=k.heap.size,l:=ql,B:=B,CX:=CX,CH:=CH,CC:=CC,CF:=CF,Cg:=Cg}:dK) c8 G w8) (fun _ _ _=>False)
  (uX.chg (by omega)) (fun _ _ _ _ H _=>H) (uX.bd (by omega)) (fun _ _ _ H=>H.elim)
  (fun b=>b<G∨KC (c8 b)) ⟨c8,V,ba,fun b=>Iff.rfl,fun b _=>rfl,Cl⟩ (fun b g e=>by subst e;rcases g with H|H;omega;rw[i]at H;exact jS H) ?round ?done fun _ _ _ _ H _=>H.elim
 case round=>
  intro ck O cp W hv f n1 n2 hi;obtain⟨hj,rfl⟩:=xI _ ck cp hv;clear hv hi;have M:=XM d hj;have u:=Fj hj;have HK:=Hd3 hj M u;clear hj M u v j P b8 m t C F R p A d T bG U V o ab i r a c ba aa s Q y n1 n2;generalize(jG x.r x.s x.b x.d x.c).getD ck 0=cu at*;gi_wp2_with fail;refine⟨trivial,fun W2 ad bz cc=>?_⟩;obtain⟨col,hC,h,eO,f8,L⟩:=cc;have⟨d,U,P,o,i,r,a,c,s,Q,p,y⟩:=HY.out;have⟨hj,M,u⟩:=HK.out;have bt:=(L.block (k.heap.size+1) (by omega) (by rintro(H|H);omega;rw[a]at H;exact jS H)).trans o;have zt:=aB bt;have t0:=Cw bt 0;simp at t0;obtain⟨cm,rfl⟩:∃cm:Nat,cu=cm:=⟨cu.toNat,by omega⟩;have br:=h.geo;rw[Fi]at br;obtain⟨g1,g2,g3,g4,g5,g6⟩:=br;have H:eC (CtSt.wipe x ck).dv.dr.r (CtSt.wipe x ck).dv.dr.s (CtSt.wipe x ck).dv.dr.b (CtSt.wipe x ck).dv.dr.d (CtSt.wipe x ck).dv.dr.c (cm:Int)=true:=by rw[g1,g2,g3,g4,g5];exact M.1
  have bs:ck<bY:=by have:=bb.out;unfold bY;omega
  have HP:=aA (wR h bs cm ln0 rfl kI false H W2 hC);have H2:=bT eO f8 L ad;clear hC h eO f8 L d U P o i r a c s Q p y hj M u bt g1 g2 g3 g4 g5 g6 H bs ad bz;gi_wp2_with fail;refine⟨trivial,?_⟩;rw[gR];refine((Nk (n:=8)).2 HP.out).mono ?_;rintro e w9 ⟨v9,c9,s9,rfl,ae,an,z,rfl⟩;have H9:=Hd3 ae an z;clear ae an z;gi_wp2_with fail;have⟨ae,an,z⟩:=H9.out;have⟨eO,f8,L,ad⟩:=H2.out;have⟨hj,M,u⟩:=HK.out;have⟨d,U,P,o,i,r,a,c,s,Q,p,y⟩:=HY.out;have cn:=ad.size;rw[Int.toNat_natCast]at u;refine⟨fun b=>b<G∨KC (c9 b),z.chg.mono fun b _ g=>(eO b).2 (.inr g),fun b g=>?_,c9,by rw[u];exact ae,by rw[u];exact an,fun b=>Iff.rfl,fun b g=>(z.old b (by omega)).trans (f8 b g),L.next z.chg fun b g=>?_⟩
  ·rcases g with H|H
   ·exact .inl ((eO b).2 (.inl H))
   ·by_cases h:b<W2.heap.size
    ·rw[z.old b h]at H;exact .inl ((eO b).2 (.inr H))
    ·exact .inr (by omega)
  ·by_cases cd:b≤G+1
   ·rw[f8 b cd]at g;exact .inl (.inr g)
   ·exact .inl (.inl (by omega))
 case done=>
  intro O W f hi u;rw[tJ]at hi;obtain⟨col,hC,h,eO,f8,L⟩:=hi;have bt:=(L.block (k.heap.size+1) (by omega) (by rintro(H|H);omega;rw[a]at H;exact jS H)).trans o;have zt:=aB bt;have t0:=Cw bt 0;simp at t0;have M:=aB u;have H9:=eP hC h f8 L u;clear hC h eO f8 L bt u v j P b8 m t C F R p A d T bG U V o ab i r a c ba aa s Q y;gi_wp2_with fail;have⟨hC,h,f8,L,u⟩:=H9.out;have⟨d,U,P,o,i,r,a,c,s,Q,p,y⟩:=HY.out;refine⟨by simp,.inl ⟨_,_,rfl,run_takeDeferred u,?_⟩⟩;refine⟨_,results_tmp2 rfl _ _ _,?_⟩;have t:aF (fun b=>b=w8.heap.size) W (W.putObj w8.heap.size (.deferred N)):=aF.putObj (cw:=fun b=>b=w8.heap.size) Cl (.inl rfl) _;have j:col w8.heap.size=0:=by rw[f8 _ (by omega),U];exact r
  have m:CtSt.wipe x (jG x.r x.s x.b x.d x.c).length=CtSt.wipe x 4096:=by unfold CtSt.wipe;rw[List.take_of_length_le Nl,List.take_of_length_le bb.out]
  rw[m]at hC h
  have v:aF (fun b=>D≤b) w (W.putObj w8.heap.size (.deferred N)):=((aF.of_below s fun b=>D≤b).next L (fun b g=>.inl (by
   rcases g with H|H
   ·omega
   ·exact Nat.le_of_not_lt fun z=>by rw[c b z]at H;exact jS H))).next t fun b g=>.inl (by omega)
  exact⟨{X:=k.heap.size,l:=ql,B:=B,CX:=CX,CH:=CH,CC:=CC,CF:=CF,Cg:=Cg},col,rfl,rfl,(hC.chg t fun b g=>by subst g;rw[j];omega).mono bb.out,h,v.below p fun _ H=>H,fun b g=>(f8 b (by omega)).trans (c b g)⟩
structure cQ where
 Y:Nat
 I:Nat
 q:dK
structure MSt where
 ct:CtSt
 ideal:Int→Option (List Int)
 sc:Int
 st:Int
def cQ.ar (y:cQ):Ms:=.pointer (S ⟨y.Y,0,N⟩)
def MSt.row (s:MSt) (y:cQ) (vi vs:Ms):Array Ms:=#[.pointer (S ⟨y.q.B,0,N⟩),.pointer (S ⟨y.q.X,0,N⟩),.map (S y.I),vi,vs,I Z s.sc,I Z s.st]
structure dL (y:cQ) (col:Nat→Nat) (s:MSt) (n:Nat) (W:Mr):Prop where
 row:∃vi vs,W.heap[y.Y]?=S (O (s.row y vi vs) 93)∧(∃L,bP 152 10 vi L W∧L.length≤n)∧(∃L,bP 155 207 vs L W∧L.length≤n)∧(∀g,vi.ownBlock=S g→col g=11)∧∀g,vs.ownBlock=S g→col g=12
 cY:col y.Y=9
 ide:eT Y 3 y.I n (fun k=>(s.ideal k).map eJ) W
 cI:col y.I=10
 ct:dB y.q col s.ct n W
def MSt.new (x:aY):MSt:=⟨CtSt.wipe x 4096,fun _=>N,0,0⟩
theorem dL.top {y:cQ} {col:Nat→Nat} {s:MSt} (a:dL y col s n W):∀b,W.heap.size≤b→col b=0:=a.ct.top
theorem dL.same {y:cQ} {col c:Nat→Nat} {s:MSt} (j:dL y col s n W) (e:∀b,b<W.heap.size→1≤col b→col b≤12→W'.heap[b]?=W.heap[b]?∧c b=col b) (t:∀b,W'.heap.size≤b→c b=0):dL y c s n W':=by obtain⟨u,v,m,⟨w,f,k⟩,⟨x,g,l⟩,h,i⟩:=j.row;have o:=e y.Y (aB m) (by rw[j.cY];decide) (by rw[j.cY];decide);have p:=e y.I j.ide.lt (by rw[j.cI];decide) (by rw[j.cI];decide);have q:=fun d a=>e d (f.lt d a) (by rw[h d a];decide) (by rw[h d a];decide);have r:=fun d a=>e d (g.lt d a) (by rw[i d a];decide) (by rw[i d a];decide);exact⟨⟨u,v,o.1.trans m,⟨w,f.same fun d a=>(q d a).1,k⟩,⟨x,g.same fun d a=>(r d a).1,l⟩,fun d a=>(q d a).2.trans (h d a),fun d a=>(r d a).2.trans (i d a)⟩,o.2.trans j.cY,j.ide.same p.1,p.2.trans j.cI,j.ct.same (fun b a d z=>e b a d (by omega)) t⟩
theorem dL.keeps {y:cQ} {col:Nat→Nat} {s:MSt} (d:dL y col s n W) (c:aC W W'):dL y col s n W':=d.same (fun b a _ _=>⟨c.block b a,rfl⟩) fun b a=>d.top b (Ng c.size a)
theorem Fl {x:aY} (a:lE x) (w:Mr):Mt Tryz.prog 35 #[.agg x.vals] w fun e c=>∃(y:cQ) (col:Nat→Nat),e=E (.tuple #[y.ar,.int .i64 0])∧dL y col (MSt.new x) 4096 c∧cO (MSt.new x).ct∧Mu w.heap.size w c∧∀b,b<w.heap.size→col b=0:=by
 have⟨u,c⟩:=Ex (w.alloc (O x.vals 31));have g:aC w u:=by rw[c];exact aU
 have f:u.heap[w.heap.size]?=S (O x.vals 31):=by rw[c];exact aG _ _ _ rfl
 have d:=eE (eM a.lay).1;have l:=aA fun W=>zw d.1 a.mode W;have m:=aA fun B i W j h=>Fk a B i W j h;unfold aY.vals at*;have j:(Mc ⟨w.heap.size,0,N⟩ 0 5 #[]).run Tryz.prog u=.ok #[.int .i64 x.r,.int .i64 x.s,.int .i64 x.b,.int .i64 x.d,.int .i64 x.c] u:=tW f [_,_,_,_,_] _ rfl;have n:Hid (∀W,aC u W→(Mc ⟨w.heap.size,0,N⟩ 0 16 #[]).run Tryz.prog W=.ok #[.int .i64 x.r,.int .i64 x.s,.int .i64 x.b,.int .i64 x.d,.int .i64 x.c,.int .i64 x.way,.int .i64 x.res,.int .i64 x.m,.int .i64 x.rl,.int .i64 x.re,.int .i64 x.pl,.int .i64 x.pe,.int .i64 x.room,.int .i64 x.hv,.int .i64 x.logn,.bool x.back] W):=aA fun W h=>Lw (aE h f) 16 rfl;have k:=aB f;have i:=Cw f 7;simp at i;have p:=aH g f;clear g f a d;go_in;go_upto_region 1 with fail;rw[←c];clear c;go_wp2_with fail;refine(l.out _).mono ?_;rintro e r ⟨B,rfl,h,a⟩;have G:=n.out r a;have o:=aA (m.out B u.heap.size r a.size h);have C:=aB (aE a p.out.2);have v:=aA a;clear a j h i k;go_wp2_with fail;refine o.out.mono ?_;rintro e a ⟨q,col,rfl,rfl,h,c,d,i⟩;have z:=bT h c d i;clear h c d i;go_wp2_with fail;have A:(Instr.makeMap 89 N).run Tryz.prog a=.ok (.map (S a.heap.size)) (a.alloc (.map #[] 0)):=by kernel_rfl
 rw[A];go_simp;go_wp2_with fail;refine My (results_tmp2 rfl _ _ _) rfl ?_;have⟨h,c,d,i⟩:=z.out;have⟨g,f⟩:=p.out;have s:aC u a:=Mu.trans v.out d;have t:aC w a:=aK g s;have D:=t.size;have F:=s.size;refine⟨{Y:=a.heap.size+1,I:=a.heap.size,q:=q},fun b=>if b=a.heap.size then 10 else if b=a.heap.size+1 then 9 else col b,rfl,?_,c,Ka (Ka t),fun b j=>?_⟩
 ·refine⟨⟨.slice N 0 0,.slice N 0 0,aG _ _ _ (by simp),⟨[],bP.nil _ _ _,Ns _⟩,⟨[],bP.nil _ _ _,Ns _⟩,fun H k=>by simp[Ny]at k,fun H k=>by simp[Ny]at k⟩,by show(if a.heap.size+1=a.heap.size then 10 else if a.heap.size+1=a.heap.size+1 then 9 else _)=9;rw[Fn (by omega),Fp rfl],?_,by show(if a.heap.size=a.heap.size then 10 else _)=10;rw[Fp rfl],?_⟩
  ·exact((eT.made a Tryz.prog 3).keeps aU).mono (Ns _)
  ·refine h.same (fun b j k H=>⟨(aV _ _ _ (by simp;omega)).trans (aV _ _ _ j),?_⟩) fun b j=>?_
   ·show(if b=a.heap.size then 10 else if b=a.heap.size+1 then 9 else col b)=col b;rw[Fn (by omega),Fn (by omega)]
   ·simp at j;show(if b=a.heap.size then 10 else if b=a.heap.size+1 then 9 else col b)=0;rw[Fn (by omega),Fn (by omega)];exact h.top b (by omega)
 ·show(if b=a.heap.size then 10 else if b=a.heap.size+1 then 9 else col b)=0;rw[Fn (by omega),Fn (by omega)];exact i b (by have:=g.size;omega)
end
variable {y:cQ}
section
open Go.RowKit Go.Shelf lin
attribute [local go_sem] Oper.semAt_some
theorem CT {col:Nat→Nat} {s:MSt} (w:Mr) (d:dL y col s n w):Mt Y 15 #[y.ar] w fun e b=>e=E (.pointer (S ⟨y.q.X,0,N⟩))∧Mu w.heap.size w b:=by obtain⟨f,g,a,_⟩:=d.row;unfold MSt.row at a;have h:=aB a;have c:=Cw a 1;simp at c;unfold cQ.ar;clear d a;go_in;go_wp2;go_ret;exact⟨rfl,(by repeat first|exact Bl|assumption|refine Ka ?_|refine Ks ?_ (by first|exact Nl|simp<;>omega|omega)|refine Kd ?_|refine Kc ?_ (by assumption))⟩
theorem FV {col:Nat→Nat} {s:MSt} (w:Mr) (d:dL y col s n w):Mt Y 25 #[y.ar] w fun e b=>e=E (.pointer (S ⟨y.q.B,0,N⟩))∧Mu w.heap.size w b:=by obtain⟨f,g,a,_⟩:=d.row;unfold MSt.row at a;have h:=aB a;have c:=Cw a 0;simp at c;unfold cQ.ar;clear d a;go_in;go_wp2;go_ret;exact⟨rfl,(by repeat first|exact Bl|assumption|refine Ka ?_|refine Ks ?_ (by first|exact Nl|simp<;>omega|omega)|refine Kd ?_|refine Kc ?_ (by assumption))⟩
theorem Fm {col:Nat→Nat} (w:Mr) (h:dB q col s n w):Mt Y 32 #[q.ar] w fun e d=>e=E (.pointer (S ⟨q.l.G,0,N⟩))∧Mu w.heap.size w d:=by obtain⟨j,b,_,_⟩:=h.row;have a:=h.led.row;have i:=aB b;have g:=aB a;unfold CtSt.row at b;unfold bH.row at a;have f:=Cw b 0;simp at f;have c:=Cw a 18;simp at c;unfold dK.ar at*;clear h b a;go_in;go_wp2;go_ret;exact⟨rfl,(by repeat first|exact Bl|assumption|refine Ka ?_|refine Ks ?_ (by first|exact Nl|simp<;>omega|omega)|refine Kd ?_|refine Kc ?_ (by assumption))⟩
end
section
open Go.RowKit Go.Shelf lin
attribute [local go_sem] Oper.semAt_some cK Mh
attribute [local simp] Mf Mg
structure dZ (s:MSt):Prop where
 ct:cO s.ct
 ide:∀k l,s.ideal k=S l→l.length=64∧aX 64 l
def MSt.idl (s:MSt) (k:Int):List Int:=(s.ideal k).getD ln0
theorem dZ.len {s:MSt} (ok:dZ s) (k:Int):(s.idl k).length=64∧aX 64 (s.idl k):=by
 unfold MSt.idl;cases a:s.ideal k with
 |none=>exact⟨rfl,kI⟩
 |some l=>exact ok.ide k l a
theorem dZ.new {x:aY} (a:cO (MSt.new x).ct):dZ (MSt.new x):=⟨a,fun b l e=>by injection e⟩
end
section
open Go.RowKit Go.Shelf lin
def KM (k:Nat):Prop:=1≤k∧k≤12
theorem jU:¬KM 0:=by unfold KM;omega
theorem KC.km (a:KC k):KM k:=⟨a.1,Ng a.2 (by decide)⟩
theorem dL.setCt {col d:Nat→Nat} {s:MSt} {n':Nat} {c:CtSt} (v:dL y col s n W) (w:dB y.q d c n' W') (i:n≤n') (l:aS KC col W d W'):dL y d {s with ct:=c} n' W':=by obtain⟨x,z,m,⟨A,g,j⟩,⟨B,h,k⟩,o,p⟩:=v.row;have e:∀b,b<W.heap.size→9≤col b→W'.heap[b]?=W.heap[b]?∧d b=col b:=fun b e f=>⟨l.chg.block b e fun a=>by have:=a.2;omega,l.old b e⟩;have q:=e y.Y (aB m) (by rw[v.cY];decide);have r:=e y.I v.ide.lt (by rw[v.cI];decide);have t:=fun f a=>e f (g.lt f a) (by rw[o f a];decide);have u:=fun f a=>e f (h.lt f a) (by rw[p f a];decide);exact⟨⟨x,z,q.1.trans m,⟨A,g.same fun f a=>(t f a).1,Ng j i⟩,⟨B,h.same fun f a=>(u f a).1,Ng k i⟩,fun f a=>(t f a).2.trans (o f a),fun f a=>(u f a).2.trans (p f a)⟩,q.2.trans v.cY,(v.ide.same r.1).mono i,r.2.trans v.cI,w⟩
theorem dL.mono {col:Nat→Nat} {s:MSt} {n':Nat} (f:dL y col s n W) (a:n≤n'):dL y col s n' W:=by obtain⟨g,h,i,⟨j,b,c⟩,⟨k,d,e⟩,l,m⟩:=f.row;exact⟨⟨g,h,i,⟨j,b,Ng c a⟩,⟨k,d,Ng e a⟩,l,m⟩,f.cY,f.ide.mono a,f.cI,f.ct.mono a⟩
theorem dZ.setCt {s:MSt} (ok:dZ s) {c:CtSt} (a:cO c):dZ {s with ct:=c}:=⟨a,ok.ide⟩
theorem dL.chg {col:Nat→Nat} {s:MSt} (h:dL y col s n W) (c:aF cw W W') (d:∀b,cw b→¬KM (col b)):dL y col s n W':=h.same (fun b a e f=>⟨c.block b a fun g=>d b g ⟨e,f⟩,rfl⟩) fun b a=>h.top b (Ng c.size a)
theorem dL.setNums {col:Nat→Nat} {s:MSt} (o:dL y col s n W) (f:aF (fun r=>r=y.Y) W W') (t:∀c d,W.heap[y.Y]?=S (O (s.row y c d) 93)→W'.heap[y.Y]?=S (O (({s with sc:=a,st:=b}:MSt).row y c d) 93)):dL y col {s with sc:=a,st:=b} n W':=by obtain⟨c,d,i,⟨u,j,k⟩,⟨v,l,m⟩,p,q⟩:=o.row;have g:∀r,col r≠9→r≠y.Y:=fun r h e=>h (by rw[e];exact o.cY);refine⟨⟨c,d,t c d i,⟨u,j.chg f fun r h e=>g r (by rw[p r h];decide) e,k⟩,⟨v,l.chg f fun r h e=>g r (by rw[q r h];decide) e,m⟩,p,q⟩,o.cY,o.ide.chg f (g y.I (by rw[o.cI];decide)),o.cI,o.ct.chg f fun r h=>by subst h;rw[o.cY];omega⟩
theorem dL.setI {col:Nat→Nat} {s:MSt} {n':Nat} {v':Ms} {L:List (List Ms)} (p:dL y col s n W) (u:∀l e,W.heap[y.Y]?=S (O (s.row y l e) 93)→W'.heap[y.Y]?=S (O (s.row y v' e) 93)) (q:bP 152 10 v' L W') (v:L.length≤n') (d:n≤n')
 (f:∀g,v'.ownBlock=S g→col g=11∨W.heap.size≤g) (r:aF (fun b=>col b=9∨col b=11) W W'):
 dL y (fX col W.heap.size W'.heap.size 11) s n' W'∧aS KM col W (fX col W.heap.size W'.heap.size 11) W':=by
 have c:aS (fun h=>h=9∨h=11) col W (fX col W.heap.size W'.heap.size 11) W':=aS.up r _ _;have k:∀b,W'.heap.size≤b→fX col W.heap.size W'.heap.size 11 b=0:=fun b h=>xV (Ng r.size h) h;obtain⟨l,e,i,_,⟨w,j,m⟩,_,x⟩:=p.row;have t:=fun g a=>kN c (j.lt g a) (x g a) (by omega);refine⟨⟨⟨v',e,u l e i,⟨L,q,v⟩,⟨w,j.same fun g a=>(t g a).1,Ng m d⟩,fun g a=>?_,fun g a=>(t g a).2⟩,(c.old _ (aB i)).trans p.cY,(p.ide.same (kN c p.ide.lt p.cI (by omega)).1).mono d,(kN c p.ide.lt p.cI (by omega)).2,(p.ct.same (fun b h o z=>kN c h rfl (by omega)) k).mono d⟩,c.mono fun h o=>by unfold KM;omega⟩;have h:=q.lt g a;by_cases o:g<W.heap.size
 ·rw[nV o]
  rcases f g a with f|f
  ·exact f
  ·omega
 ·exact xT (by omega) h
theorem dL.setS {col:Nat→Nat} {s:MSt} {n':Nat} {v':Ms} {L:List (List Ms)} (p:dL y col s n W) (u:∀e l,W.heap[y.Y]?=S (O (s.row y e l) 93)→W'.heap[y.Y]?=S (O (s.row y e v') 93)) (q:bP 155 207 v' L W') (v:L.length≤n') (d:n≤n')
 (f:∀g,v'.ownBlock=S g→col g=12∨W.heap.size≤g) (r:aF (fun b=>col b=9∨col b=12) W W'):
 dL y (fX col W.heap.size W'.heap.size 12) s n' W'∧aS KM col W (fX col W.heap.size W'.heap.size 12) W':=by
 have c:aS (fun h=>h=9∨h=12) col W (fX col W.heap.size W'.heap.size 12) W':=aS.up r _ _;have k:∀b,W'.heap.size≤b→fX col W.heap.size W'.heap.size 12 b=0:=fun b h=>xV (Ng r.size h) h;obtain⟨e,l,i,⟨w,j,m⟩,_,x,_⟩:=p.row;have t:=fun g a=>kN c (j.lt g a) (x g a) (by omega);refine⟨⟨⟨e,v',u e l i,⟨w,j.same fun g a=>(t g a).1,Ng m d⟩,⟨L,q,v⟩,fun g a=>(t g a).2,fun g a=>?_⟩,(c.old _ (aB i)).trans p.cY,(p.ide.same (kN c p.ide.lt p.cI (by omega)).1).mono d,(kN c p.ide.lt p.cI (by omega)).2,(p.ct.same (fun b h o z=>kN c h rfl (by omega)) k).mono d⟩,c.mono fun h o=>by unfold KM;omega⟩;have h:=q.lt g a;by_cases o:g<W.heap.size
 ·rw[nV o]
  rcases f g a with f|f
  ·exact f
  ·omega
 ·exact xT (by omega) h
theorem dL.setIdeal {col:Nat→Nat} {s:MSt} {f:Int→Option (List Int)} (k:dL y col s n W) (m:eT Y 3 y.I (n+1) (fun l=>(f l).map eJ) W') (a:aF (fun b=>b=y.I) W W'):dL y col {s with ideal:=f} (n+1) W':=by have c:∀l,col l≠10→l≠y.I:=fun l d e=>d (by rw[e];exact k.cI);obtain⟨o,p,q,⟨r,g,u⟩,⟨t,h,v⟩,i,j⟩:=k.row;exact⟨⟨o,p,aJ a q (c _ (by rw[k.cY];decide)),⟨r,g.chg a fun l d=>c l (by rw[i l d];decide),by omega⟩,⟨t,h.chg a fun l d=>c l (by rw[j l d];decide),by omega⟩,i,j⟩,k.cY,m,k.cI,(k.ct.chg a fun l d=>by subst d;rw[k.cI];omega).mono (Nu n)⟩
end
section
open Go.RowKit Go.Shelf
theorem NL (a:x.k=0) (l:Int):x.route l=x.t.ix l:=by unfold aW.route aR.route;rw[Fn fun b=>by omega,Fn fun b=>by omega]
theorem FX (ok:dA t) (a:bel l (t.seen*t.c)=true):fK t.d t.c (t.ix l)=(t.pb (t.home l)*t.d+t.pw (t.home l))*t.c+l%t.c∧0≤fK t.d t.c (t.ix l):=by have c:=pZ ok a;have j:=cM ok.geo;have d:0≤l%t.c:=Int.emod_nonneg _ (by omega);have k:l%t.c<t.c:=Int.emod_lt_of_pos _ (by omega);obtain⟨e,f,g,b,m,h,n,q⟩:=ok.ph c.1;have i:=SW ok (ok.sp f g).1 b (by omega) h (by omega) d (show l%t.c<64 by omega);rw[BF ok a,i];refine⟨rfl,?_⟩;have o:0≤t.pb (t.home l)*t.d:=Int.mul_nonneg b (by omega);have p:0≤(t.pb (t.home l)*t.d+t.pw (t.home l))*t.c:=Int.mul_nonneg (by omega) (by omega);omega
theorem FY (k:x.k=1) (a:x.t.home l=x.f):x.route l=if l%x.t.c<x.n then x.t.pos 1 x.g (l%x.t.c)else x.t.ix l:=by unfold aW.route aR.route;rw[Fp ⟨k,a⟩]
theorem FZ (k:x.k=1) (b:x.t.home l≠x.f):x.route l=x.t.ix l:=by unfold aW.route aR.route;rw[Fn fun a=>b a.2,Fn fun a=>by omega]
theorem G0 (k:x.k=2) (a:x.t.rk l=x.f):x.route l=if fK x.t.d x.t.c (x.t.ix l)<x.n then x.t.pos 2 x.g (fK x.t.d x.t.c (x.t.ix l))else x.t.ix l:=by unfold aW.route aR.route;rw[Fn fun b=>by omega,Fp ⟨k,a⟩]
theorem G5 (k:x.k=2) (b:x.t.rk l≠x.f):x.route l=x.t.ix l:=by unfold aW.route aR.route;rw[Fn fun a=>by omega,Fn fun a=>b a.2]
theorem XO {y:aW} (ok:cV x) (c:eF x y) (a:x.has l):y.route l=x.route l∧y.has l:=by
 rcases c with rfl|⟨d,b,rfl⟩|⟨d,b,rfl⟩
 ·exact⟨rfl,a⟩
 ·refine⟨?_,a⟩
  have e:=cM ok.ok.geo;have f:0≤l%x.t.c:=Int.emod_nonneg _ (by omega);rw[NL b.1];by_cases c:x.t.home l=d
  ·exact(FY (x:=x.startP d) (l:=l) rfl c).trans (Fn (show¬l%x.t.c<0 by omega))
  ·exact FZ (x:=x.startP d) (l:=l) rfl c
 ·refine⟨?_,a⟩
  have e:=(FX ok.ok a).2;rw[NL b.1];by_cases c:x.t.rk l=d
  ·exact(G0 (x:=x.startR d) (l:=l) rfl c).trans (Fn (show¬fK x.t.d x.t.c (x.t.ix l)<0 by omega))
  ·exact G5 (x:=x.startR d) (l:=l) rfl c
theorem Fo (ok:cV x) (j:x.k≠0) (a:x.has l):x.route l≠x.t.pos x.k x.g x.n:=by
 intro e;have hh:=pZ ok.ok a;have k:=ok.eh a;have hb:=cM ok.ok.geo;have C:0≤l%x.t.c:=Int.emod_nonneg _ (by omega);have c1:l%x.t.c<x.t.c:=Int.emod_lt_of_pos _ (by omega);obtain⟨D,t,u,F,p4,G,p6,ad⟩:=ok.ok.ph k.1;have H:=ok.er a;rw[ok.form a]at e;obtain⟨c,d,f,m⟩:=sY H.1 F (by omega) G (by omega) C (show l%x.t.c<64 by omega);rw[e]at c d f m;rcases ok.job with⟨J,_⟩|⟨v,n,K,L,w,fg,fd,gd⟩|⟨g,n,K,L,fs,w⟩
 ·exact j J
 ·obtain⟨h,M⟩:=eB w
  obtain⟨P,y,z,Q,r4,R,r6,q2⟩:=ok.ok.ph h;have o:=ok.nlt j;have hc:x.t.cnt x.k=x.t.c:=by rw[v];rfl
  have T:=ok.ok.sp y z;have p:x.t.pos x.k x.g x.n=dD (x.t.sp (x.t.pr x.g)) (x.t.pb x.g) (x.t.pw x.g) x.n:=by unfold aR.pos;rw[Fn (by omega),ok.ok.lie h];unfold dD;omega
  obtain⟨j1,j2,j3,j4⟩:=sY T.1 Q (by omega) R (by omega) n (show x.n<64 by omega);rw[p]at c d f m;have U:x.er l=x.t.sp (x.t.pr (x.eh l)):=by unfold aW.er;rw[Fn fun aa=>by omega]
  have b:x.t.sp (x.t.pr (x.eh l))=x.t.sp (x.t.pr x.g):=by rw[←U,←c,j1]
  have V:=SZ ok t u y z b;have q:x.eh l=x.g:=by have A:=(nL ok.ok.geo).1;refine RJ ok.ok.geo x.t.way _ _ k.1 (by rw[←A];exact k.2) h (by rw[←A];exact M) ?_;show x.t.ph _=x.t.ph _;rw[D,P,V];omega
  unfold aW.eh at q;obtain⟨W,l0⟩:=BG ok.ok a;split at q
  ·rename_i ab;omega
  ·exact(ok.pg v).2.2 _ W q
 ·have o:=ok.nlt j
  have p:x.t.pos x.k x.g x.n=dD x.g (x.n/x.t.c/x.t.d) (x.n/x.t.c%x.t.d) (x.n%x.t.c):=by unfold aR.pos;rw[Fp g];rfl
  obtain⟨h,g2⟩:=ok.rg g;have X:0≤x.n/x.t.c:=Int.ediv_nonneg n (by omega);have m1:0≤x.n/x.t.c/x.t.d:=Int.ediv_nonneg X (by omega);have m2:0≤x.n/x.t.c%x.t.d:=Int.emod_nonneg _ (by omega);have m3:x.n/x.t.c%x.t.d<x.t.d:=Int.emod_lt_of_pos _ (by omega);have m4:0≤x.n%x.t.c:=Int.emod_nonneg _ (by omega);have m5:x.n%x.t.c<x.t.c:=Int.emod_lt_of_pos _ (by omega);have i:=sE ok.ok.geo
  have m6:x.n/x.t.c/x.t.d<x.t.b:=by
   have r:x.t.cnt x.k=kK x.t.r x.t.s x.t.b x.t.d x.t.c:=by rw[g];rfl
   rw[r,i.1]at o;exact Int.ediv_lt_of_lt_mul (by omega) (Int.ediv_lt_of_lt_mul (by omega) o)
  obtain⟨j1,j2,j3,j4⟩:=sY (show 0≤x.g by omega) m1 (by omega) m2 (by omega) m4 (show x.n%x.t.c<64 by omega);rw[p]at c d f m;have b:x.er l=x.g:=by omega
  unfold aW.er at b;split at b
  ·rename_i ab
   have B:=(FX ok.ok a).1;have s:x.eh l=x.t.home l:=by unfold aW.eh;rw[Fn fun aa=>by omega]
   rw[s]at d f;have b1:x.t.pb (x.t.home l)=x.n/x.t.c/x.t.d:=by omega
   have b2:x.t.pw (x.t.home l)=x.n/x.t.c%x.t.d:=by omega
   have b3:l%x.t.c=x.n%x.t.c:=by omega
   rw[b1,b2,b3]at B;have s1:=Int.ediv_mul_add_emod (x.n/x.t.c) x.t.d;have s2:=Int.ediv_mul_add_emod x.n x.t.c;rw[s1,s2]at B;omega
  ·exact K4 ok g t u b
theorem Fq (ok:cV x) (b:x.has l):(x.k=1→x.t.home l=x.f→l%x.t.c=x.n→x.route l=x.t.pos x.k x.f x.n)∧(x.k=2→x.t.rk l=x.f→fK x.t.d x.t.c (x.t.ix l)=x.n→x.route l=x.t.pos x.k x.f x.n∧x.route l=x.t.ix l):=by
 refine⟨fun g a c=>?_,fun d a c=>?_⟩
 ·unfold aW.route aR.route aR.pos;rw[Fp ⟨g,a⟩,Fn (by omega),Fn (by omega)];unfold aR.ix;rw[a,c]
 ·have e:x.route l=x.t.ix l:=by
   unfold aW.route aR.route;rw[Fn fun f=>by omega,Fp ⟨d,a⟩,Fn (by omega)]
  refine⟨?_,e⟩;have h:=pZ ok.ok b;have t:=cM ok.ok.geo;have i:0≤l%x.t.c:=Int.emod_nonneg _ (by omega);have j:l%x.t.c<x.t.c:=Int.emod_lt_of_pos _ (by omega);obtain⟨u,k,m,n,v,o,p,B⟩:=ok.ok.ph h.1;have f:=ok.rk b;rcases ok.job with⟨q,_⟩|⟨q,_⟩|⟨_,w,y,z,r,A⟩
  ·omega
  ·omega
  ·have s:=(ok.ok.sp k m).2.2.2 (by rw[←f,a];exact r);rw[e,BF ok.ok b,s,←f,a];unfold aR.pos;rw[Fp d,←c,(FX ok.ok b).1,JZ ok.ok n o p i j]
theorem Fr {y:aW} (ok:cV x) (o:x.k≠0) (p:tO x y) (j:x.has l):y.has l∧(y.route l=x.route l∨(x.route l=x.t.pos x.k x.f x.n∧y.route l=x.t.pos x.k x.g x.n)):=by
 have e:=Fq ok j;have hb:=cM ok.ok.geo;have C:0≤l%x.t.c:=Int.emod_nonneg _ (by omega);have D:l%x.t.c<x.t.c:=Int.emod_lt_of_pos _ (by omega);obtain⟨v,T⟩:=FX ok.ok j;have hn:=ok.nlt o;rcases p with⟨U,rfl⟩|⟨he,F⟩
 ·refine⟨j,?_⟩
  by_cases b:x.k=1
  ·by_cases a:x.t.home l=x.f
   ·have i:=FY (x:={x with n:=x.n+1}) (l:=l) b a
    by_cases d:l%x.t.c=x.n
    ·refine .inr ⟨e.1 b a d,i.trans ((Fp (show l%x.t.c<x.n+1 by omega)).trans ?_)⟩;rw[b];show x.t.pos 1 x.g (l%x.t.c)=_;rw[d]
    ·left
     rw[FY b a];by_cases h:l%x.t.c<x.n
     ·rw[Fp h];exact i.trans (Fp (show l%x.t.c<x.n+1 by omega))
     ·rw[Fn h];exact i.trans (Fn (show¬l%x.t.c<x.n+1 by omega))
   ·left;rw[FZ b a];exact FZ (x:={x with n:=x.n+1}) (l:=l) b a
  ·have c:x.k=2:=by rcases ok.job with p|p|p<;>omega
   by_cases a:x.t.rk l=x.f
   ·have i:=G0 (x:={x with n:=x.n+1}) (l:=l) c a
    by_cases d:fK x.t.d x.t.c (x.t.ix l)=x.n
    ·refine .inr ⟨(e.2 c a d).1,i.trans ((Fp (show fK x.t.d x.t.c (x.t.ix l)<x.n+1 by omega)).trans ?_)⟩;rw[c];show x.t.pos 2 x.g (fK x.t.d x.t.c (x.t.ix l))=_;rw[d]
    ·left
     rw[G0 c a];by_cases h:fK x.t.d x.t.c (x.t.ix l)<x.n
     ·rw[Fp h];exact i.trans (Fp (show fK x.t.d x.t.c (x.t.ix l)<x.n+1 by omega))
     ·rw[Fn h];exact i.trans (Fn (show¬fK x.t.d x.t.c (x.t.ix l)<x.n+1 by omega))
   ·left;rw[G5 c a];exact G5 (x:={x with n:=x.n+1}) (l:=l) c a
 ·have w:x.fin.has l:=by
   unfold aW.fin;split<;>exact j
  obtain⟨i,G⟩:=XO (ok.fin o) F w;refine⟨G,?_⟩;rw[i];have H:x.fin.k=0:=by unfold aW.fin;split<;>rfl
  rw[NL H];obtain⟨J,l0⟩:=BG ok.ok j;by_cases b:x.k=1
  ·have q:x.fin.t=x.t.retire x.f x.g:=by unfold aW.fin;rw[Fp b]
   have m:x.t.cnt x.k=x.t.c:=by rw[b];rfl
   have c:(x.t.retire x.f x.g).home l=if x.t.home l=x.f then x.g else x.t.home l:=by exact BC (f:=x.f) (g:=x.g) J
   have h:(x.t.retire x.f x.g).ix l=x.t.lie ((x.t.retire x.f x.g).home l)*64+l%x.t.c:=rfl;rw[q,h,c];by_cases a:x.t.home l=x.f
   ·rw[Fp a]
    have k:x.t.lie x.g*64+l%x.t.c=x.t.pos 1 x.g (l%x.t.c):=by unfold aR.pos;rw[Fn (by decide)]
    by_cases d:l%x.t.c=x.n
    ·right;refine⟨e.1 b a d,?_⟩;rw[k,d,b]
    ·left;rw[FY b a,Fp (by omega),k]
   ·left;rw[Fn a,FZ b a];rfl
  ·have c:x.k=2:=by rcases ok.job with p|p|p<;>omega
   have q:x.fin.t=x.t.putSpare x.f.toNat x.g:=by unfold aW.fin;rw[Fn b]
   obtain⟨_,n0,n1,z,fs,g1⟩:x.k=2∧0≤x.n∧x.n≤kK x.t.r x.t.s x.t.b x.t.d x.t.c∧bel x.f x.t.r=true∧x.t.spareB x.f=false∧bel (x.g-x.t.r) x.t.s=true:=by
    rcases ok.job with p|p|p
    ·omega
    ·omega
    ·exact p
   obtain⟨V,f2⟩:=eB z;have K:=pZ ok.ok j;obtain⟨q1,p1,p2,L,p4,M,P,aa⟩:=ok.ok.ph K.1;have r:=(ok.fin o).ok;have h:=BF r w;have s:=BF ok.ok j;rw[q]at h ⊢;have h:(x.t.putSpare x.f.toNat x.g).ix l=dD ((x.t.putSpare x.f.toNat x.g).sp (x.t.pr (x.t.home l))) (x.t.pb (x.t.home l)) (x.t.pw (x.t.home l)) (l%x.t.c):=h;have m:=ok.ok.spares;have t:x.f.toNat<x.t.spares.length:=by omega
   have hG:=ok.rg c
   have u:(x.t.putSpare x.f.toNat x.g).sp (x.t.pr (x.t.home l))=if x.t.pr (x.t.home l)=x.f then x.g else x.t.sp (x.t.pr (x.t.home l)):=by
    unfold aR.sp aR.spareV aR.spareB aR.putSpare;simp only[Od];rw[xN t];by_cases a:x.t.pr (x.t.home l)=x.f
    ·rw[Fp a,a,Fp rfl]
     have d:bel x.f x.t.spares.length=true:=by rw[m];exact z
     have:¬x.g=-1:=by omega
     simp[d,this]
    ·rw[Fn a,Fn (show¬x.f.toNat=(x.t.pr (x.t.home l)).toNat by omega)]
   rw[h,u];have A:=ok.rk j;by_cases a:x.t.rk l=x.f
   ·rw[Fp (by rw[←A];exact a)]
    have k:dD x.g (x.t.pb (x.t.home l)) (x.t.pw (x.t.home l)) (l%x.t.c)=x.t.pos 2 x.g (fK x.t.d x.t.c (x.t.ix l)):=by unfold aR.pos;rw[Fp rfl,v,JZ ok.ok L M P C D]
    by_cases d:fK x.t.d x.t.c (x.t.ix l)=x.n
    ·right;refine⟨(e.2 c a d).1,?_⟩;rw[k,d,c]
    ·left
     have W:x.t.cnt x.k=kK x.t.r x.t.s x.t.b x.t.d x.t.c:=by rw[c];rfl
     have B:=(sE ok.ok.geo).1
     have X:fK x.t.d x.t.c (x.t.ix l)<x.t.b*x.t.d*x.t.c:=by
      rw[v];have Q:x.t.pb (x.t.home l)*x.t.d+x.t.pw (x.t.home l)+1≤x.t.b*x.t.d:=by have:=Int.mul_le_mul_of_nonneg_right (show x.t.pb (x.t.home l)+1≤x.t.b by omega) (show 0≤x.t.d by omega);rw[Int.add_mul,Int.one_mul]at this;omega
      have R:=Int.mul_le_mul_of_nonneg_right Q (show 0≤x.t.c by omega);rw[Int.add_mul,Int.one_mul]at R;omega
     rw[G0 c a,Fp (by omega),k]
   ·left;rw[Fn (by rw[←A];exact a)];rw[G5 c a,s]
end
section
open Go.RowKit Go.Shelf lin
def NM (a:dP):Prop:=a.ast=false∧a.ex+(if a.mkd=true then 1 else 0)≤1
def iZ (t:cF):Prop:=∀a∈t.accs,NM a
def pI (a:dP):Prop:=0≤a.ex∧a.ex≤4096
def eX (t t':cF):Prop:=∃l,t'.accs=t.accs++l∧∀a∈l,pI a
theorem eX.refl (t:cF):eX t t:=⟨[],(List.append_nil _).symm,fun b a=>by cases a⟩
theorem eX.trans {a b c:cF} (g:eX a b) (k:eX b c):eX a c:=by obtain⟨l,g,d⟩:=g;obtain⟨m,k,e⟩:=k;exact⟨l++m,by rw[k,g,List.append_assoc],fun h f=>(List.mem_append.1 f).elim (d h) (e h)⟩
theorem iZ.of {t a:cF} (c:iZ a) (g:eX t a):iZ t:=by obtain⟨l,g,_⟩:=g;exact fun d b=>c d (by rw[g];exact List.mem_append_left _ b)
theorem eX.ex {t a:cF} (g:eX t a) (e:∀c∈t.accs,pI c):∀c∈a.accs,pI c:=by obtain⟨l,g,d⟩:=g;intro c b;rw[g]at b;exact(List.mem_append.1 b).elim (e c) (d c)
theorem Fs (m:Int) (a b:List Int):expV m a b≤2304:=S4 _ _ _ _ (by unfold iQ;split;decide;split<;>decide) _
theorem eX.rd (t:cF) (i:Int):eX t (t.rd i):=⟨[t.acs i],rfl,fun b a=>by
 have a:=List.mem_singleton.1 a;subst a;have:=Fs t.dr.m (t.dr.read i) (t.gh (t.dr.went i).1);unfold pI cF.acs;simp only
 omega⟩
theorem eX.put (t:cF) (i:Int) (l:List Int) (k:Int):eX t (t.put i l k):=⟨_,rfl,fun b a=>by
 have a:=List.mem_singleton.1 a;subst a;unfold pI
 simp⟩
theorem eX.inj (t:cF) (f:aZ):eX t (t.inj f):=eX.refl t
theorem Ft {t:cF} {i:Int} (f:iZ (t.rd i)):(t.dr.went i).1=i∧(t.dr.went i).2.1=false∧expV t.dr.m (t.dr.read i) (t.gh i)+(if t.mark i=1 then 1 else 0)≤1:=by
 obtain⟨b,a⟩:=f (t.acs i) (by unfold cF.rd;simp);unfold dP.ast cF.acs at b;simp only[Bool.or_eq_false_iff,decide_eq_false_iff_not,Decidable.not_not]at b;obtain⟨d,e⟩:=b;refine⟨e,d,?_⟩;unfold cF.acs at a;simp only[d,e,Bool.not_false,Bool.true_and,decide_eq_true_eq]at a;split<;>rename_i c
 ·rw[Fp c]at a;omega
 ·rw[Fn c]at a;omega
theorem CU (t:cF) (i:Int) (l:List Int) (k j:Int):(t.put i l k).gh j=if j=i then l else t.gh j:=by unfold cF.gh cF.put;simp only;split<;>rfl
theorem G6 (t:cF) (i:Int) (l:List Int) (k j:Int):(t.put i l k).mark j=if j=i then k else t.mark j:=by unfold cF.mark cF.put;simp only;split<;>rfl
theorem Fu (t:bO) (i:Int) (l:List Int):(t.write i l).r=t.r∧(t.write i l).s=t.s∧(t.write i l).b=t.b∧(t.write i l).d=t.d∧(t.write i l).c=t.c∧(t.write i l).m=t.m:=by
 obtain⟨a,b,c,d,e,f,_⟩:=wO t i;unfold bO.write;split
 ·exact⟨b,c,d,e,f,a⟩
 ·exact⟨b,c,d,e,f,a⟩
theorem xW.rp {s l:bH} {k:Int} (c:xW s k l):eF s.rp l.rp∧l.c=s.c:=by obtain⟨d,b,t,a,rfl,_⟩:=c;exact⟨a,rfl⟩
def aY.has (x:aY) (l:Int):Prop:=bel l ((cU x.r x.s x.b x.d x.c-x.res)*x.c)=true
theorem eU.has {s:bH} (ok:eU s) (l:Int):s.rp.has l↔s.c.has l:=by obtain⟨a,b,c,d,e,g,f⟩:=ok.geo;unfold aW.has aR.seen aY.has;rw[a,b,c,d,e,f]
structure eA (s:CtSt):Prop where
 rp:cV s.ld.rp
 geo:s.ld.rp.t.r=s.ld.c.r∧s.ld.rp.t.s=s.ld.c.s∧s.ld.rp.t.b=s.ld.c.b∧s.ld.rp.t.d=s.ld.c.d∧s.ld.rp.t.c=s.ld.c.c∧s.ld.rp.t.way=s.ld.c.way∧s.ld.rp.t.res=s.ld.c.res
 cf:lE s.ld.c
 dv:iG s.dv
 dg:s.dv.dr.r=s.ld.c.r∧s.dv.dr.s=s.ld.c.s∧s.dv.dr.b=s.ld.c.b∧s.dv.dr.d=s.ld.c.d∧s.dv.dr.c=s.ld.c.c∧s.dv.dr.m=s.ld.c.m
theorem cO.rt (ok:cO s):eA s:=⟨ok.ld.rp,ok.ld.geo,ok.ld.c,ok.dv,ok.geo⟩
theorem eA.has (ok:eA s) (l:Int):s.ld.rp.has l↔s.ld.c.has l:=by obtain⟨a,b,c,d,e,g,f⟩:=ok.geo;unfold aW.has aR.seen aY.has;rw[a,b,c,d,e,f]
theorem eA.put (ok:eA s) (i:Nat) {l:List Int} (a:aX 64 l) (p:Bool):eA (s.put i l p):=by obtain⟨b,c,d,e,f,g⟩:=Fu s.dv.dr i (cD s.ld.c.m l i p);obtain⟨h,j,k,m,n,o⟩:=ok.dg;exact⟨ok.rp,ok.geo,ok.cf,ok.dv.put i _ (CK _ _ _ _) (NB ok.cf.mode a i p),b.trans h,c.trans j,d.trans k,e.trans m,f.trans n,g.trans o⟩
theorem eA.starts (ok:eA s) {l:bH} (b:eF s.ld.rp l.rp) (a:l.c=s.ld.c) (x:Int):eA {s with ld:=l,cur:=x}:=by obtain⟨c,d,b3,e,f,g,h⟩:=M6 b;obtain⟨i,j,k,m,n,o,p⟩:=ok.geo;exact⟨b.ok ok.rp,by rw[a];exact⟨c.trans i,d.trans j,b3.trans k,e.trans m,f.trans n,g.trans o,h.trans p⟩,by rw[a];exact ok.cf,ok.dv,by rw[a];exact ok.dg⟩
theorem eA.rd (ok:eA s) (i:Int):eA {s with dv:=s.dv.rd i}:=by obtain⟨a,b,c,d,e,f,_⟩:=wO s.dv.dr i;obtain⟨g,h,j,k,l,m⟩:=ok.dg;exact⟨ok.rp,ok.geo,ok.cf,ok.dv.rd i,b.trans g,c.trans h,d.trans j,e.trans k,f.trans l,a.trans m⟩
theorem kH.rt (ok:eA s) (b:kH s i s'):eA s':=by obtain⟨l,a,rfl⟩:=b;exact(ok.rd i).starts a.rp.1 a.rp.2 s.cur
structure lI (s s':CtSt):Prop where
 c:s'.ld.c=s.ld.c
 ix:∀l,s.ld.c.has l→s'.ix l=s.ix l
theorem lI.refl (s:CtSt):lI s s:=⟨rfl,fun _ _=>rfl⟩
theorem lI.trans {a b c:CtSt} (e:lI a b) (k:lI b c):lI a c:=⟨k.c.trans e.c,fun l d=>(k.ix l (by rw[e.c];exact d)).trans (e.ix l d)⟩
theorem lI.put (s:CtSt) (i:Nat) (l:List Int) (p:Bool):lI s (s.put i l p):=⟨rfl,fun _ _=>rfl⟩
theorem lI.starts (ok:eA s) {l:bH} {d:cF} {x:Int} (c:eF s.ld.rp l.rp) (a:l.c=s.ld.c):lI s ⟨l,d,x⟩:=⟨a,fun e b=>by unfold CtSt.ix;rw[(XO ok.rp c ((ok.has e).2 b)).1]⟩
theorem kH.same (ok:eA s) (b:kH s i s'):lI s s'∧s'.dv=s.dv.rd i∧s'.cur=s.cur:=by obtain⟨l,a,rfl⟩:=b;exact⟨lI.starts ok a.rp.1 a.rp.2,rfl,rfl⟩
theorem eA.ixr (ok:eA s) (a:s.ld.c.has l):s.ld.rp.route l=s.ix l:=by have b:=oI (ok.rp.at ((ok.has l).2 a)) ok.rp.ok.geo;unfold CtSt.ix;omega
theorem eA.ix_inj (ok:eA s) {m:Int} (a:s.ld.c.has l) (b:s.ld.c.has m) (e:s.ix l=s.ix m):l=m:=ok.rp.inj ((ok.has l).2 a) ((ok.has m).2 b) (by rw[ok.ixr a,ok.ixr b,e])
def gV (g:Int→List Int) (s:CtSt):Prop:=∀l,s.ld.c.has l→s.dv.gh (s.ix l)=cD s.ld.c.m (g l) (s.ix l) false∧s.dv.mark (s.ix l)≠1
def wS (g:Int→List Int):Prop:=∀l,(g l).length=64∧aX 64 (g l)
def mF (g:Int→List Int) (l:Int) (d:List Int):Int→List Int:=fun k=>if k=l then d else g k
theorem Fv (g:Int→List Int) (l:Int):mF g l (g l)=g:=funext fun b=>by unfold mF;split;rename_i a;rw[a];rfl
theorem gV.took {g:Int→List Int} (ok:eA s) (f:gV g s) (c:kH s i s'):gV g s':=by
 obtain⟨b,d,_⟩:=c.same ok;intro l e;have a:s.ld.c.has l:=by rw[←b.c];exact e
 rw[b.ix l a,d,b.c];exact f l a
theorem gV.put {g:Int→List Int} (ok:eA s) (k:gV g s) (h:s.ld.c.has l) (d:List Int):gV (mF g l d) (s.put (s.ix l) d false):=by
 intro f b;have b:s.ld.c.has f:=b;have e:(s.put (s.ix l) d false).ix f=s.ix f:=rfl;have i:(s.put (s.ix l) d false).ld.c=s.ld.c:=rfl;have j:(s.put (s.ix l) d false).dv=s.dv.put (s.ix l) (cD s.ld.c.m d (s.ix l) false) 0:=rfl;rw[e,i,j,CU,G6];by_cases a:f=l
 ·subst a;rw[Fp rfl,Fp rfl];unfold mF;rw[Fp rfl];exact⟨rfl,by decide⟩
 ·have c:¬((s.ix f:Int)=s.ix l):=fun e=>a (ok.ix_inj b h (by omega));rw[Fn c,Fn c];unfold mF;rw[Fn a];exact k f b
theorem gV.free {g:Int→List Int} (k:gV g s) (f:∀l,s.ld.c.has l→s.ix l≠i) (d:List Int) (p:Bool):gV g (s.put i d p):=by intro c a;have a:s.ld.c.has c:=a;have e:(s.put i d p).ix c=s.ix c:=rfl;have h:(s.put i d p).ld.c=s.ld.c:=rfl;have j:(s.put i d p).dv=s.dv.put i (cD s.ld.c.m d i p) (if p=true then 1 else 0):=rfl;have b:¬((s.ix c:Int)=i):=fun e=>f c a (by omega);rw[e,h,j,CU,G6,Fn b,Fn b];exact k c a
theorem eA.m (ok:eA s):s.dv.dr.m=s.ld.c.m∧fN s.ld.c.m=true:=⟨ok.dg.2.2.2.2.2,ok.cf.mode⟩
theorem Fx (ok:eA s) {d:List Int} (a:d.length=64∧aX 64 d) (b:s.dv.gh i=cD s.ld.c.m d i false) (c:expV s.dv.dr.m (s.dv.dr.read i) (s.dv.gh i)≤1):(s.dec i).1=d∧((s.dec i).2.1=0∧s.dv.dr.read i=s.dv.gh i∨(s.dec i).2.1=1):=by obtain⟨e,f⟩:=ok.m;rw[e,b]at c;have:=(CR f a.1 a.2 (ok.dv.dr.read_len i) (ok.dv.dr.read_bts i) i).1 c;unfold CtSt.dec;rw[b];exact this
theorem yM {k:Int} (a:k=0∨k=1):toldV k=0:=by unfold toldV;rcases a with rfl|rfl<;>rfl
theorem G7 {g:Int→List Int} (ok:eA s) (a:gV g s) (gk:wS g) (b:s.ld.c.has l) (c:iZ (s.dv.rd (s.ix l))):(s.dec (s.ix l)).1=g l∧((s.dec (s.ix l)).2.1=0∧s.dv.dr.read (s.ix l)=s.dv.gh (s.ix l)∨(s.dec (s.ix l)).2.1=1):=by obtain⟨d,e,f⟩:=Ft c;exact Fx ok (gk l) (a l b).1 (by omega)
theorem CV {b:Bool} (ok:eA s) (a:Readed s l b s'):eX (s.dv.rd (s.ix l)) s'.dv:=by
 obtain⟨d,c,rfl⟩:=a;obtain⟨e,a,_⟩:=c.same ok;split
 ·rw[←a];exact eX.put _ _ _ _
 ·rw[a];exact eX.refl _
theorem NN {b:Bool} (ok:eA s) (a:Readed s l b s'):lI s s'∧s'.cur=s.cur:=by
 obtain⟨e,d,rfl⟩:=a;obtain⟨a,f,c⟩:=d.same ok;split
 ·exact⟨a.trans (lI.put _ _ _ _),c⟩
 ·exact⟨a,c⟩
theorem XP {g:Int→List Int} {b:Bool} (ok:eA s) (c:gV g s) (gk:wS g) (d:s.ld.c.has l) (f:Readed s l b s') (j:iZ s'.dv):gV g s'∧(s.dec (s.ix l)).1=g l∧toldV (s.dec (s.ix l)).2.1=0:=by
 obtain⟨e,k⟩:=G7 ok c gk d (j.of (CV ok f));refine⟨?_,e,yM (k.imp And.left id)⟩;obtain⟨m,a,rfl⟩:=f;have i:=(a.same ok).1;split
 ·have f:=c.took ok a
  have h:m.ld.c.has l:=by rw[i.c];exact d
  have:=f.put (a.rt ok) h (s.dec (s.ix l)).1;rw[e,Fv,i.ix l d]at this;rw[e];exact this
 ·exact c.took ok a
def CW (a d:List Int) (x:Nat):List Int:=if x=full64 then d else fO a d (dO x)
theorem XT {d:List Int} {x:Nat} (ok:eA s) (a:Wrt s l d x e s'):lI s s'∧s'.cur=s.cur:=by
 unfold Wrt at a;split at a
 ·rw[a.2];exact⟨lI.put _ _ _ _,rfl⟩
 ·obtain⟨f,c,_,rfl⟩:=a
  obtain⟨a,_,b⟩:=c.same ok;split
  ·exact⟨a.trans (lI.put _ _ _ _),b⟩
  ·exact⟨a.trans (lI.put _ _ _ _),b⟩
theorem XU {d:List Int} {x:Nat} (ok:eA s) (b:Wrt s l d x e s'):eX s.dv s'.dv:=by
 unfold Wrt at b;split at b
 ·rw[b.2];exact eX.put _ _ _ _
 ·obtain⟨c,a,_,rfl⟩:=b;obtain⟨_,b,_⟩:=a.same ok;refine(eX.rd s.dv (s.ix l)).trans ?_;rw[←b];split<;>exact eX.put _ _ _ _
theorem XV {g:Int→List Int} {d:List Int} {x:Nat} (ok:eA s) (b:gV g s) (gk:wS g) (a:s.ld.c.has l) (k:Wrt s l d x e s') (m:iZ s'.dv):gV (mF g l (CW (g l) d x)) s'∧e=0:=by
 unfold Wrt at k;unfold CW;split at k
 ·rename_i c;rw[Fp c,k.2];exact⟨b.put ok a d,k.1⟩
 ·rename_i c
  rw[Fn c];obtain⟨q,f,rfl,rfl⟩:=k;obtain⟨i,n,_⟩:=f.same ok;have h:iZ (s.dv.rd (s.ix l)):=by refine m.of ?_;rw[←n];split<;>exact eX.put _ _ _ _
  obtain⟨o,p⟩:=G7 ok b gk a h;have j:=yM (p.imp And.left id);rw[Fp j,o];refine⟨?_,j⟩;have:=(b.took ok f).put (f.rt ok) (l:=l) (by rw[i.c];exact a) (fO (g l) d (dO x))
  rwa [i.ix l a]at this
theorem XW (ok:dA t) {k:Int} (b:0≤k) (c:k<cU t.r t.s t.b t.d t.c) (d:k<t.seen+t.pages) (a:t.deadB k=false):t.usedB k=true:=by unfold aR.deadB at a;rw[jO b (by rw[ok.dead];exact c)]at a;unfold aR.usedB;rw[jO b d];simpa using a
theorem Gc (ok:cV x) (j:x.k≠0) (b:x.has l) (e:x.route l=x.t.pos x.k x.f x.n):x.t.usedB x.srcH=true:=by
 have a:=pZ ok.ok b;have V:=cM ok.ok.geo;obtain⟨q,W⟩:=BG ok.ok b;rcases ok.job with⟨r,_⟩|⟨s,k,t,f,u,X,fd,gd⟩|⟨c,k,t,f,fs,u⟩
 ·exact absurd r j
 ·unfold aW.srcH;rw[Fn (by omega)];obtain⟨g,m⟩:=eB f;exact XW ok.ok g m (ok.pf s) fd
 ·have n:x.eh l=x.t.home l:=by unfold aW.eh;rw[Fn fun d=>by omega]
  have o:=ok.nlt j;obtain⟨e1,v,w,y,p4,z,p6,aa⟩:=ok.ok.ph a.1;have A:=ok.er b;have B:0≤l%x.t.c:=Int.emod_nonneg _ (by omega);have c1:l%x.t.c<x.t.c:=Int.emod_lt_of_pos _ (by omega);rw[ok.form b,n]at e;obtain⟨C,D,F,G⟩:=sY A.1 y (by omega) z (by omega) B (show l%x.t.c<64 by omega);have H:x.t.pos x.k x.f x.n=dD x.f (x.n/x.t.c/x.t.d) (x.n/x.t.c%x.t.d) (x.n%x.t.c):=by unfold aR.pos;rw[Fp c];rfl
  obtain⟨g,m⟩:=eB f;have J:0≤x.n/x.t.c:=Int.ediv_nonneg k (by omega);have K:0≤x.n/x.t.c/x.t.d:=Int.ediv_nonneg J (by omega);have L:0≤x.n/x.t.c%x.t.d:=Int.emod_nonneg _ (by omega);have m3:x.n/x.t.c%x.t.d<x.t.d:=Int.emod_lt_of_pos _ (by omega);have M:0≤x.n%x.t.c:=Int.emod_nonneg _ (by omega);have m5:x.n%x.t.c<x.t.c:=Int.emod_lt_of_pos _ (by omega);have d:=sE ok.ok.geo
  have m6:x.n/x.t.c/x.t.d<x.t.b:=by
   have h:x.t.cnt x.k=kK x.t.r x.t.s x.t.b x.t.d x.t.c:=by rw[c];rfl
   rw[h,d.1]at o;exact Int.ediv_lt_of_lt_mul (by omega) (Int.ediv_lt_of_lt_mul (by omega) o)
  obtain⟨j1,j2,j3,j4⟩:=sY g K (by omega) L (by omega) M (show x.n%x.t.c<64 by omega);have p:=e;rw[H]at p;rw[p]at C D F G;have h:x.er l=x.f:=by omega
  have g0:=(ok.rg c).1
  have U:x.t.pr (x.t.home l)=x.f:=by
   unfold aW.er at h;split at h
   ·omega
   ·rw[n]at h
    obtain⟨R,T,P,Q⟩:=ok.ok.sp v w;cases i:x.t.spareB (x.t.pr (x.t.home l))with
    |true=>have:=(P i).1;omega
    |false=>have:=Q i;omega
  unfold aW.srcH;rw[Fp c,←e];have P:dD (x.er l) (x.t.pb (x.t.home l)) (x.t.pw (x.t.home l)) (l%x.t.c)/64/16384=x.t.pr (x.t.home l):=by unfold dD;omega
  have Q:dD (x.er l) (x.t.pb (x.t.home l)) (x.t.pw (x.t.home l)) (l%x.t.c)/64/1024%16=x.t.pb (x.t.home l):=by unfold dD;omega
  have R:dD (x.er l) (x.t.pb (x.t.home l)) (x.t.pw (x.t.home l)) (l%x.t.c)/64%1024=x.t.pw (x.t.home l):=by unfold dD;omega
  rw[P,Q,R];have T:=(nL ok.ok.geo).1;have i:=JN ok.ok.geo x.t.way (x.t.home l) a.1 (by rw[←T];exact a.2.1);unfold aR.pr aR.pb aR.pw;rw[i];exact XW ok.ok a.1 a.2.1 a.2.2 (ok.ld _ q)
theorem G9 {b:CtSt} {l:bH} (ok:eA s) (c:s.ld.rp.k≠0) (g:b.ld.rp=s.ld.rp) (h:b.ld.c=s.ld.c) (a:F5 b.ld l) {k:Int} (i:s.ld.c.has k):l.c=s.ld.c∧((l.rp.route k).toNat=s.ix k∨(s.ix k=s.mvI∧(l.rp.route k).toNat=s.mvO∧s.ld.rp.t.usedB s.ld.rp.srcH=true)):=by
 obtain⟨m,n,t,a,rfl⟩:=a;rw[g]at a;have d:=(ok.has k).2 i;refine⟨h,?_⟩;rcases(Fr ok.rp c a d).2 with e|⟨f,j⟩
 ·left;show(m.route k).toNat=_;rw[e];rfl
 ·right
  refine⟨?_,?_,Gc ok.rp c d f⟩
  ·unfold CtSt.ix CtSt.mvI;rw[f]
  ·show(m.route k).toNat=_;unfold CtSt.mvO;rw[j]
theorem eA.free (ok:eA s) (a:s.ld.rp.k≠0) (b:s.ld.c.has l):s.ix l≠s.mvO:=by have e:=Fo ok.rp a ((ok.has l).2 b);have c:=ok.ixr b;have d:=oI (ok.rp.from_at a).2 ok.rp.ok.geo;unfold CtSt.mvO;omega
theorem Gd (ok:eA s) (b:Copied s s'):eX s.dv s'.dv:=by
 obtain⟨d,l,a,e,rfl⟩:=b;unfold qK at a;split at a
 ·obtain⟨f,b,rfl⟩:=a;obtain⟨_,c,_⟩:=b.same ok;refine(eX.rd s.dv s.mvI).trans ?_;rw[←c];exact eX.put _ _ _ _
 ·subst a;exact eX.put _ _ _ _
theorem gV.ld {g:Int→List Int} {l:bH} {x:Int} (f:gV g s) (c:l.c=s.ld.c) (d:∀b,s.ld.c.has b→(l.rp.route b).toNat=s.ix b):gV g {s with ld:=l,cur:=x}:=by
 intro b a;have a:s.ld.c.has b:=by rw[←c];exact a
 have e:({s with ld:=l,cur:=x}:CtSt).ix b=s.ix b:=d b a;rw[e];show s.dv.gh _=cD l.c.m _ _ _∧_;rw[c];exact f b a
theorem Ge {g:Int→List Int} (ok:eA s) (f:s.ld.rp.k≠0) (n:gV g s) (gk:wS g) (y:Copied s s') (z:iZ s'.dv):gV g s':=by
 obtain⟨F,l,b,i,rfl⟩:=y;have q:=b.rp f;unfold qK at b;split at b
 ·rename_i u
  obtain⟨h,v,rfl⟩:=b;obtain⟨d,A,_⟩:=v.same ok;have e:=n.took ok v;have j:iZ (s.dv.rd s.mvI):=by refine z.of ?_;show eX (s.dv.rd s.mvI) (h.dv.put _ _ _);rw[←A];exact eX.put _ _ _ _
  intro o a;have c:l.c=s.ld.c:=by obtain⟨G,B,t,r,rfl⟩:=i;exact d.c
  have a:s.ld.c.has o:=by rw[←c];exact a
  obtain⟨_,p⟩:=G9 ok f q d.c i a;show(h.dv.put s.mvO (cD h.ld.c.m (s.dec s.mvI).1 s.mvO (decide (2≤(s.dec s.mvI).2.1))) (if(decide (2≤(s.dec s.mvI).2.1))=true then 1 else 0)).gh ((l.rp.route o).toNat:Nat)=cD l.c.m (g o) (l.rp.route o).toNat false∧(h.dv.put s.mvO (cD h.ld.c.m (s.dec s.mvI).1 s.mvO (decide (2≤(s.dec s.mvI).2.1))) (if(decide (2≤(s.dec s.mvI).2.1))=true then 1 else 0)).mark ((l.rp.route o).toNat:Nat)≠1;rw[CU,G6,c];rcases p with p|⟨w,C,_⟩
  ·have x:¬((((l.rp.route o).toNat:Nat):Int)=(s.mvO:Int)):=by
    have:=ok.free f a;omega
   rw[Fn x,Fn x,p];have:=e o (by rw[d.c];exact a);rw[d.ix o a,d.c]at this;exact this
  ·rw[C,Fp rfl,Fp rfl,←w]
   rw[←w]at j;obtain⟨D,k⟩:=G7 ok n gk a j
   have m:decide (2≤(s.dec (s.ix o)).2.1)=false:=by
    rw[decide_eq_false_iff_not];rcases k with k|k
    ·have:=k.1;omega
    ·omega
   rw[D,m,d.c];exact⟨rfl,by decide⟩
 ·rename_i u
  subst b;have e:gV g (s.put s.mvO ln0 false):=n.free (fun o a=>ok.free f a) _ _;have c:l.c=s.ld.c:=by obtain⟨G,B,t,r,rfl⟩:=i;rfl
  refine e.ld (l:=l) c fun o a=>?_;rcases(G9 ok f rfl rfl i a).2 with y|y
  ·exact y
  ·exact absurd y.2.2 u
structure Sp where
 k:Int
 ln:Int
 dt:List Int
 ms:Nat
 f:aZ
 deriving DecidableEq
structure wT (x:Sp):Prop where
 dl:x.dt.length=64
 db:aX 64 x.dt
 ms:x.ms<2^64
 ln:bN x.ln
def Sp.vals (x:Sp):Array Ms:=#[I Z x.k,I Z x.ln]++aD .u8 x.dt++#[.int .u64 x.ms]++x.f.cells.toArray
def dQ:aZ:=⟨0,0,0,0,0,0,0,0⟩
def aZ.own (f:aZ):aZ:=
 if f.k=1 then{f with ch:=0,vl:=0}
 else if f.k=2 then{f with ch:=0}
 else if f.k=3 then{f with c:=0,bt:=0}
 else if f.k=4 then{f with d:=0,bt:=0}
 else if f.k=5 then{f with b:=0,d:=0,c:=0,bt:=0}
 else if f.k=6 then{f with ch:=0,bt:=0,vl:=0}
 else{dQ with k:=f.k}
def Sp.bare (x:Sp):Sp:=
 if x.k=1 then⟨1,x.ln,ln0,0,dQ⟩
 else if x.k=2 then⟨2,x.ln,x.dt,0,dQ⟩
 else if x.k=3 then⟨3,x.ln,x.dt,x.ms,dQ⟩
 else if x.k=8 then⟨8,0,ln0,0,x.f.own⟩
 else⟨x.k,0,ln0,0,dQ⟩
def Sp.okB (x:Sp):Bool:=decide (1≤x.k∧x.k≤8)&&(decide (x=x.bare)&&(decide (x.k≠8)||decide (1≤x.f.k∧x.f.k≤7)))
structure aN where
 e:Int
 n:Int
 l:List Int
 deriving DecidableEq
def aN.vals (a:aN):Array Ms:=#[I Z a.e,I Z a.n]++aD .u8 a.l
def MSt.wr (s:MSt) (l:Int) (d:List Int) (x:Nat):Int→Option (List Int):=fun k=>if k=l then S (fO (s.idl l) d (dO x))else s.ideal k
inductive Did:MSt→Sp→aN→MSt→Prop
 |bad {s:MSt} {x:Sp}:x.okB=false→Did s x ⟨60,0,ln0⟩ s
 |no {s:MSt} {x:Sp} {t:Int}:x.okB=true→x.k≤3→(¬s.ct.ld.c.has x.ln∨x.k=3∧x.ms=0)→Did s x ⟨30,0,ln0⟩ {s with st:=t}
 |rd {s:MSt} {x:Sp} {t:Int} {c:CtSt}:x.okB=true→x.k=1→s.ct.ld.c.has x.ln→Readed s.ct x.ln s.ct.ld.c.back c→Did s x ⟨toldV (s.ct.dec (s.ct.ix x.ln)).2.1,0,(s.ct.dec (s.ct.ix x.ln)).1⟩ {s with ct:=c,st:=t}
 |wr {s:MSt} {x:Sp} {t:Int} {c:CtSt} {e:Int}:x.okB=true→x.k=2→s.ct.ld.c.has x.ln→Wrt s.ct x.ln x.dt full64 e c→Did s x ⟨e,0,ln0⟩ {s with ct:=c,ideal:=s.wr x.ln x.dt full64,st:=t}
 |ma {s:MSt} {x:Sp} {t:Int} {c:CtSt} {e:Int}:x.okB=true→x.k=3→s.ct.ld.c.has x.ln→x.ms≠0→Wrt s.ct x.ln x.dt x.ms e c→Did s x ⟨e,0,ln0⟩ {s with ct:=c,ideal:=s.wr x.ln x.dt x.ms,st:=t}
 |sc {s:MSt} {x:Sp} {t u:Int} {c:CtSt} {e n:Int}:x.okB=true→x.k=4→Readed s.ct.nextCur s.ct.cur true c→Did s x ⟨e,n,ln0⟩ {s with ct:=c,sc:=u,st:=t}
 |idle {s:MSt} {x:Sp} {t:Int}:x.okB=true→x.k=5→s.ct.ld.rp.k=0→Did s x ⟨51,0,ln0⟩ {s with st:=t}
 |cp {s:MSt} {x:Sp} {t:Int} {c:CtSt} {e:Int}:x.okB=true→x.k=5→s.ct.ld.rp.k≠0→Copied s.ct c→Did s x ⟨e,0,ln0⟩ {s with ct:=c,st:=t}
 |tk {s:MSt} {x:Sp} {t:Int} {c:CtSt} {e:Int}:x.okB=true→x.k=6→CTicked s.ct c→Did s x ⟨e,0,ln0⟩ {s with ct:=c,st:=t}
 |cl {s:MSt} {x:Sp} {t:Int} {c:CtSt} {n:Int}:x.okB=true→x.k=7→CCleared s.ct c→Did s x ⟨0,n,ln0⟩ {s with ct:=c,st:=t}
 |inj {s:MSt} {x:Sp} {t:Int} {e:Int}:x.okB=true→x.k=8→Did s x ⟨e,0,ln0⟩ {s with ct:={s.ct with dv:=s.ct.dv.inj x.f},st:=t}
theorem CTicked.rp {c:CtSt} (a:CTicked s c):c.ld.rp=s.ld.rp∧c.ld.c=s.ld.c∧c.dv=s.dv∧c.cur=s.cur:=by
 rcases a with rfl|⟨l,⟨b,t,rfl⟩,rfl⟩
 ·exact⟨rfl,rfl,rfl,rfl⟩
 ·exact⟨rfl,rfl,rfl,rfl⟩
theorem CCleared.rp {c:CtSt} (a:CCleared s c):c.ld.rp=s.ld.rp∧c.ld.c=s.ld.c∧c.dv=s.dv∧c.cur=s.cur:=by obtain⟨l,rfl,rfl⟩:=a;exact⟨rfl,rfl,rfl,rfl⟩
theorem XX (s:MSt) (l:Int) (d:List Int) (x:Nat) (c:CtSt) (a b:Int):(⟨c,s.wr l d x,a,b⟩:MSt).idl=mF s.idl l (fO (s.idl l) d (dO x)):=by
 funext k;unfold MSt.idl MSt.wr mF;by_cases e:k=l
 ·simp only[Fp e,Option.getD_some];rfl
 ·simp only[Fn e]
theorem dZ.gok {s:MSt} (ok:dZ s):wS s.idl:=fun l=>ok.len l
instance (c:aY) (l:Int):Decidable (c.has l):=inferInstanceAs (Decidable (_=true))
def wU (c:aY) (g:Int→List Int) (x:Sp):Int→List Int:=if x.okB=true∧(x.k=2∨x.k=3∧x.ms≠0)∧c.has x.ln then mF g x.ln (fO (g x.ln) x.dt (dO (if x.k=2 then full64 else x.ms)))else g
def rep (c:aY) (g:Int→List Int) (x:Sp):aN:=if x.okB=true then(if c.has x.ln∧¬(x.k=3∧x.ms=0)then(if x.k=1 then⟨0,0,g x.ln⟩else⟨0,0,ln0⟩)else⟨30,0,ln0⟩)else⟨60,0,ln0⟩
theorem Did.idl {s h:MSt} {x:Sp} {a:aN} (c:Did s x a h):h.idl=wU s.ct.ld.c s.idl x:=by
 unfold wU;cases c with
 |bad c=>rw[Fn fun g=>by rw[c]at g;exact absurd g.1 (by decide)]
 |no c b d=>
  rw[Fn]
  ·rfl
  ·rintro⟨_,f,e⟩
   rcases d with d|d
   ·exact d e
   ·omega
 |rd c b e j=>rw[Fn fun g=>by omega];rfl
 |wr c b e k=>rw[Fp ⟨c,.inl b,e⟩,Fp b,XX]
 |ma c b e f k=>rw[Fp ⟨c,.inr ⟨b,f⟩,e⟩,Fn (by omega),XX]
 |sc c b j=>rw[Fn fun g=>by omega];rfl
 |idle c b f=>rw[Fn fun g=>by omega];rfl
 |cp c b f i=>rw[Fn fun g=>by omega];rfl
 |tk c b i=>rw[Fn fun g=>by omega];rfl
 |cl c b i=>rw[Fn fun g=>by omega];rfl
 |inj c b=>rw[Fn fun g=>by omega];rfl
theorem Gf (b:Copied s s'):s'.ld.c=s.ld.c:=by
 obtain⟨c,l,a,⟨g,d,t,e,rfl⟩,rfl⟩:=b;unfold qK at a;split at a
 ·obtain⟨f,⟨l,b,rfl⟩,rfl⟩:=a;exact b.rp.2
 ·subst a;rfl
theorem eA.nextCur (ok:eA s):eA s.nextCur:=⟨ok.rp,ok.geo,ok.cf,ok.dv,ok.dg⟩
theorem cO.curL (ok:cO s):s.ld.c.has s.cur:=(ok.ld.has _).1 ok.cur
theorem Did.c {s g:MSt} {x:Sp} {a:aN} (ok:cO s.ct) (d:Did s x a g):g.ct.ld.c=s.ct.ld.c:=by
 cases d with
 |bad d=>rfl
 |no d b j=>rfl
 |rd d b h e=>exact(NN ok.rt e).1.c
 |wr d b h f=>exact(XT ok.rt f).1.c
 |ma d b h i f=>exact(XT ok.rt f).1.c
 |sc d b e=>exact(NN ok.rt.nextCur e).1.c
 |idle d b i=>rfl
 |cp d b i c=>exact Gf c
 |tk d b c=>exact c.rp.2.1
 |cl d b c=>exact c.rp.2.1
 |inj d b=>rfl
theorem Did.grw {s g:MSt} {x:Sp} {a:aN} (ok:cO s.ct) (d:Did s x a g):eX s.ct.dv g.ct.dv:=by
 cases d with
 |bad d=>exact eX.refl _
 |no d b j=>exact eX.refl _
 |rd d b h e=>exact(eX.rd _ _).trans (CV ok.rt e)
 |wr d b h f=>exact XU ok.rt f
 |ma d b h i f=>exact XU ok.rt f
 |sc d b e=>exact(eX.rd s.ct.nextCur.dv _).trans (CV ok.rt.nextCur e)
 |idle d b i=>exact eX.refl _
 |cp d b i c=>exact Gd ok.rt c
 |tk d b c=>rw[c.rp.2.2.1];exact eX.refl _
 |cl d b c=>rw[c.rp.2.2.1];exact eX.refl _
 |inj d b=>exact eX.refl _
theorem XY {g:Int→List Int} {c:CtSt} (h:gV g s) (b:c.ld.rp=s.ld.rp∧c.ld.c=s.ld.c∧c.dv=s.dv∧c.cur=s.cur):gV g c:=by
 obtain⟨d,a,f,_⟩:=b;intro l b;rw[a]at b;have e:c.ix l=s.ix l:=by unfold CtSt.ix;rw[d]
 rw[e,a,f];exact h l b
theorem CY {a d:List Int} (c:a.length=64) (e:d.length=64):fO a d (dO full64)=d:=by
 refine FO (n:=64) (by rw[uD];exact c) e fun f b=>?_;rw[QB _ _ _ _ (by omega),Fp];refine(ft _ _).2 ⟨b,?_⟩;have:∀g:Fin 64,full64.testBit g.val=true:=by decide+kernel
 exact this ⟨f,b⟩
theorem Did.calm {s m:MSt} {x:Sp} {a:aN} (ok:dZ s) (t:wT x) (d:gV s.idl s.ct) (i:Did s x a m) (j:iZ m.ct.dv):gV m.idl m.ct∧(x.k≤3→a=rep s.ct.ld.c s.idl x):=by
 have gk:=ok.gok;rw[i.idl];unfold wU rep;cases i with
 |bad i=>rw[Fn fun q=>by rw[i]at q;exact absurd q.1 (by decide),Fn (by rw[i];decide)];exact⟨d,fun _=>rfl⟩
 |no i c g=>
  rw[Fn,Fp i,Fn]
  ·exact⟨d,fun _=>rfl⟩
  ·rintro⟨f,k⟩
   rcases g with g|g
   ·exact g f
   ·exact k g
  ·rintro⟨_,f,k⟩
   rcases g with g|g
   ·exact g k
   ·omega
 |rd i c b o=>rw[Fn fun q=>by omega,Fp i,Fp ⟨b,by omega⟩,Fp c];obtain⟨f,k,u⟩:=XP ok.ct.rt d gk b o j;rw[k,u];exact⟨f,fun _=>rfl⟩
 |wr i c b p=>rw[Fp ⟨i,.inl c,b⟩,Fp c,Fp i,Fp ⟨b,by omega⟩,Fn (by omega)];obtain⟨f,rfl⟩:=XV ok.ct.rt d gk b p j;unfold CW at f;rw[Fp rfl]at f;rw[CY (gk x.ln).1 t.dl];exact⟨f,fun _=>rfl⟩
 |ma i c b n p=>
  rw[Fp ⟨i,.inr ⟨c,n⟩,b⟩,Fn (by omega),Fp i,Fp ⟨b,by omega⟩,Fn (by omega)];obtain⟨f,rfl⟩:=XV ok.ct.rt d gk b p j
  have e:CW (s.idl x.ln) x.dt x.ms=fO (s.idl x.ln) x.dt (dO x.ms):=by
   unfold CW;split
   ·rename_i v;rw[v,CY (gk x.ln).1 t.dl]
   ·rfl
  rw[e]at f;exact⟨f,fun _=>rfl⟩
 |sc i c o=>rw[Fn fun q=>by omega];have r:gV s.idl s.ct.nextCur:=fun l b=>d l b;exact⟨(XP ok.ct.rt.nextCur r gk ok.ct.curL o j).1,fun _=>by omega⟩
 |idle i c n=>rw[Fn fun q=>by omega];exact⟨d,fun _=>by omega⟩
 |cp i c n h=>rw[Fn fun q=>by omega];exact⟨Ge ok.ct.rt n d gk h j,fun _=>by omega⟩
 |tk i c h=>rw[Fn fun q=>by omega];exact⟨XY d h.rp,fun _=>by omega⟩
 |cl i c h=>rw[Fn fun q=>by omega];exact⟨XY d h.rp,fun _=>by omega⟩
 |inj i c=>rw[Fn fun q=>by omega];exact⟨fun l b=>d l b,fun _=>by omega⟩
def fI (t:bO):Prop:=t.lasts=[]∧t.coming=[]
theorem fI.went {t:bO} (a:fI t) (i:Int):t.went i=(i,false,t):=by unfold bO.went;rw[a.2]
theorem fI.read {t:bO} (a:fI t) (i:Int):t.read i=t.at i:=by unfold bO.read;rw[a.went];simp only[Bool.false_eq_true,if_false];unfold bO.look;rw[a.1];rfl
theorem fI.rd {t:cF} (a:fI t.dr) (i:Int):(t.rd i).dr=t.dr:=by show(t.dr.went i).2.2=_;rw[a.went]
theorem fI.put {t:cF} (a:fI t.dr) (i:Int) (l:List Int) (k:Int):(t.put i l k).dr=t.dr.put i l:=by show t.dr.write i l=_;unfold bO.write;rw[a.went];simp only[Bool.false_eq_true,if_false]
theorem uY (t:bO) (j:Int) (l:List Int) (k:Int):(t.put j l).at k=if k=j then l else t.at k:=by unfold bO.at bO.put;simp only;split<;>rfl
theorem fI.inj {t:bO} (b:fI t) {f:aZ} (a:f.k=1):fI (t.inj f).2:=by
 unfold bO.inj;rw[Fp a];split
 ·exact b
 ·exact b
theorem kH.qui (b:kH s i s') (q:fI s.dv.dr):s'.dv.dr=s.dv.dr:=by obtain⟨l,a,rfl⟩:=b;exact q.rd i
theorem pJ (q:fI s.dv.dr) (i:Nat) (l:List Int) (p:Bool):(s.put i l p).dv.dr=s.dv.dr.put i (cD s.ld.c.m l i p):=q.put _ _ _
theorem NO {b:Bool} (d:Readed s l b s') (q:fI s.dv.dr):fI s'.dv.dr:=by
 obtain⟨c,a,rfl⟩:=d;have e:=a.qui q;split
 ·rw[pJ (by rw[e];exact q),e];exact q
 ·rw[e];exact q
theorem XZ {d:List Int} {x:Nat} (b:Wrt s l d x e s') (q:fI s.dv.dr):fI s'.dv.dr:=by
 unfold Wrt at b;split at b
 ·rw[b.2,pJ q];exact q
 ·obtain⟨c,a,_,rfl⟩:=b;have e:=a.qui q;split<;>(rw[pJ (by rw[e];exact q),e];exact q)
theorem Gg (c:Copied s s') (q:fI s.dv.dr):fI s'.dv.dr:=by
 obtain⟨b,l,a,d,rfl⟩:=c;show fI b.dv.dr;unfold qK at a;split at a
 ·obtain⟨f,c,rfl⟩:=a;have e:=c.qui q;rw[pJ (by rw[e];exact q),e];exact q
 ·subst a;rw[pJ q];exact q
theorem Did.qui {s g:MSt} {x:Sp} {a:aN} (d:Did s x a g) (j:x.k=8→x.f.k=1) (q:fI s.ct.dv.dr):fI g.ct.dv.dr:=by
 cases d with
 |bad d=>exact q
 |no d b k=>exact q
 |rd d b h e=>exact NO e q
 |wr d b h f=>exact XZ f q
 |ma d b h i f=>exact XZ f q
 |sc d b e=>exact NO e q
 |idle d b i=>exact q
 |cp d b i c=>exact Gg c q
 |tk d b c=>rw[show fI (MSt.ct _).dv.dr↔fI s.ct.dv.dr by show fI (CtSt.dv _).dr↔_;rw[c.rp.2.2.1]];exact q
 |cl d b c=>rw[show fI (MSt.ct _).dv.dr↔fI s.ct.dv.dr by show fI (CtSt.dv _).dr↔_;rw[c.rp.2.2.1]];exact q
 |inj d b=>exact q.inj (j b)
def CZ (m:Int) (i:Nat) (r:List Int):Option (List Int)→Prop
 |some d=>r=cD m d i false
 |none=>(∃d,(d.length=64∧aX 64 d)∧expV m r (cD m d i false)=2)∨r=cD m ln0 i true
def gB (o:Int→Option (List Int)) (s:CtSt):Prop:=fI s.dv.dr∧∀l,s.ld.c.has l→CZ s.ld.c.m (s.ix l) (s.dv.dr.at (s.ix l)) (o l)
def yN (o:Int→Option (List Int)):Prop:=∀l d,o l=S d→d.length=64∧aX 64 d
def qL (o:Int→Option (List Int)) (l:Int) (d:Option (List Int)):Int→Option (List Int):=fun k=>if k=l then d else o k
theorem Y0 (o:Int→Option (List Int)) (l:Int):qL o l (o l)=o:=funext fun b=>by unfold qL;split;rename_i a;rw[a];rfl
theorem Gh {m:Int} (r:List Int) (c:Nat):expN m n r r c=0:=by
 have g:∀(a:List Int) f,diffN a a f=0:=fun a f=>by
  rw[N8]
  induction f with
  |zero=>rfl
  |succ f d=>unfold dN;rw[d,Nat.xor_self,show popc 0=0 by decide+kernel]
 have h:∀(a:List Int) f,unlN a a f=0:=fun a f=>by
  induction f with
  |zero=>rfl
  |succ f d=>unfold unlN;rw[d];simp
 have:=(yI (m:=m) (n:=n) (a:=r) (b:=r) (e:=0) c).2 (fun f d=>by
  unfold unlV;split
  ·rw[g];exact Nl
  ·rw[h];exact Nl)
 omega
theorem NP (m:Int) (r:List Int):expV m r r=0:=Gh r _
theorem D0 {o:Int→Option (List Int)} (ok:eA s) (p:gB o s) (j:yN o) (k:s.ld.c.has l):(∀i,o l=S i→(s.dec (s.ix l)).1=i∧((s.dec (s.ix l)).2.1=0∨(s.dec (s.ix l)).2.1=1))∧(o l=N→(s.dec (s.ix l)).1=ln0∧((s.dec (s.ix l)).2.1=2∨(s.dec (s.ix l)).2.1=3)):=by
 obtain⟨r,p⟩:=p;have a:=p l k;obtain⟨q,d⟩:=ok.m;have m:s.dv.dr.read (s.ix l)=s.dv.dr.at (s.ix l):=r.read _;have b:=ok.dv.dr.read_len (s.ix l);have c:=ok.dv.dr.read_bts (s.ix l);unfold CtSt.dec;rw[m]at b c ⊢;refine⟨fun i h=>?_,fun n=>?_⟩
 ·rw[h]at a;obtain⟨e,f⟩:=j l i h;have a:s.dv.dr.at (s.ix l)=cD s.ld.c.m i (s.ix l) false:=a;have:=(CR d e f b c (s.ix l)).1 (by rw[a,NP];exact Ns _);exact⟨this.1,this.2.imp And.left id⟩
 ·rw[n]at a
  rcases a with⟨i,⟨e,f⟩,g⟩|g
  ·have:=(CR d e f b c (s.ix l)).2 g;exact⟨this.1,.inr this.2⟩
  ·rw[g];have:=Ee d (l:=ln0) rfl kI (s.ix l);exact⟨this.1,.inl this.2⟩
theorem gB.took {o:Int→Option (List Int)} (ok:eA s) (f:gB o s) (c:kH s i s'):gB o s':=by
 obtain⟨b,g,_⟩:=c.same ok;have e:=c.qui f.1;refine⟨by rw[e];exact f.1,fun l d=>?_⟩;have a:s.ld.c.has l:=by rw[←b.c];exact d
 rw[b.ix l a,e,b.c];exact f.2 l a
theorem gB.put {o:Int→Option (List Int)} (ok:eA s) (j:gB o s) (g:s.ld.c.has l) (d:List Int) (p:Bool) (h:p=true→d=ln0):gB (qL o l (if p=true then N else S d)) (s.put (s.ix l) d p):=by
 have c:=pJ j.1 (s.ix l) d p;refine⟨by rw[c];exact j.1,fun f b=>?_⟩;have b:s.ld.c.has f:=b;show CZ s.ld.c.m (s.ix f) ((s.put (s.ix l) d p).dv.dr.at (s.ix f)) _;rw[c,uY];by_cases a:f=l
 ·subst a
  rw[Fp rfl];unfold qL;rw[Fp rfl];cases p with
  |true=>rw[Fp rfl,h rfl];exact .inr rfl
  |false=>rw[Fn (by decide)];rfl
 ·have i:¬((s.ix f:Int)=s.ix l):=fun e=>a (ok.ix_inj b g (by omega));rw[Fn i];unfold qL;rw[Fn a];exact j.2 f b
theorem gB.free {o:Int→Option (List Int)} (h:gB o s) (f:∀l,s.ld.c.has l→s.ix l≠i) (d:List Int) (p:Bool):gB o (s.put i d p):=by have b:=pJ h.1 i d p;refine⟨by rw[b];exact h.1,fun c a=>?_⟩;have a:s.ld.c.has c:=a;show CZ s.ld.c.m (s.ix c) ((s.put i d p).dv.dr.at (s.ix c)) _;have g:¬((s.ix c:Int)=i):=fun e=>f c a (by omega);rw[b,uY,Fn g];exact h.2 c a
theorem Gi {o:Int→Option (List Int)} {l:bH} {x:Int} (f:gB o s) (c:l.c=s.ld.c) (d:∀b,s.ld.c.has b→(l.rp.route b).toNat=s.ix b):gB o {s with ld:=l,cur:=x}:=by
 refine⟨f.1,fun b a=>?_⟩;have a:s.ld.c.has b:=by rw[←c];exact a
 have e:({s with ld:=l,cur:=x}:CtSt).ix b=s.ix b:=d b a;rw[e];show CZ l.c.m _ _ _;rw[c];exact f.2 b a
theorem Y1 {o:Int→Option (List Int)} {c:CtSt} (g:gB o s) (d:c.ld.rp=s.ld.rp∧c.ld.c=s.ld.c∧c.dv=s.dv∧c.cur=s.cur):gB o c:=by
 obtain⟨f,a,b,_⟩:=d;refine⟨by rw[b];exact g.1,fun l d=>?_⟩;rw[a]at d;have e:c.ix l=s.ix l:=by unfold CtSt.ix;rw[f]
 rw[e,a,b];exact g.2 l d
theorem NQ {o:Int→Option (List Int)} {b:Bool} (ok:eA s) (k:gB o s) (h:yN o) (d:s.ld.c.has l) (i:Readed s l b s'):gB o s':=by
 obtain⟨f,j⟩:=D0 ok k h d;obtain⟨m,a,rfl⟩:=i;have g:=(a.same ok).1;split
 ·rename_i n
  cases c:o l with
  |none=>rcases(j c).2 with e|e<;>omega
  |some p=>have:=(k.took ok a).put (a.rt ok) (l:=l) (by rw[g.c];exact d) (s.dec (s.ix l)).1 false (fun e=>by cases e);rw[g.ix l d,Fn (by decide),(f p c).1,←c,Y0]at this;rw[(f p c).1];exact this
 ·exact k.took ok a
theorem Y2 {o:Int→Option (List Int)} {d:List Int} {x:Nat} (ok:eA s) (q:gB o s) (m:yN o) (a:s.ld.c.has l) (b:Wrt s l d x e s'):(x=full64→e=0∧gB (qL o l (S d)) s')∧(x≠full64→(∀c,o l=S c→e=0∧gB (qL o l (S (fO c d (dO x)))) s')∧(o l=N→e≠0∧gB o s')):=by
 unfold Wrt at b;refine⟨fun i=>?_,fun i=>?_⟩
 ·rw[Fp i]at b;obtain⟨rfl,rfl⟩:=b;exact⟨rfl,q.put ok a d false fun e=>by cases e⟩
 ·rw[Fn i]at b
  obtain⟨r,f,rfl,rfl⟩:=b;obtain⟨n,p⟩:=D0 ok q m a;have g:=(f.same ok).1;refine⟨fun c h=>?_,fun h=>?_⟩
  ·obtain⟨k,j⟩:=n c h;have b:=yM j;rw[Fp b,k];refine⟨b,?_⟩;have:=(q.took ok f).put (f.rt ok) (l:=l) (by rw[g.c];exact a) (fO c d (dO x)) false (fun e=>by cases e);rw[g.ix l a,Fn (by decide)]at this;exact this
  ·obtain⟨k,j⟩:=p h
   have b:toldV (s.dec (s.ix l)).2.1≠0:=by unfold toldV;rcases j with e|e<;>rw[e]<;>decide
   rw[Fn b];refine⟨b,?_⟩;have:=(q.took ok f).put (f.rt ok) (l:=l) (by rw[g.c];exact a) ln0 true fun _=>rfl;rw[g.ix l a,Fp rfl,←h,Y0]at this;exact this
theorem Gk {o:Int→Option (List Int)} (ok:eA s) (f:s.ld.rp.k≠0) (x:gB o s) (y:yN o) (m:Copied s s'):gB o s':=by
 obtain⟨J,l,b,g,rfl⟩:=m;have n:=b.rp f;unfold qK at b;split at b
 ·rename_i r
  obtain⟨z,u,rfl⟩:=b;obtain⟨e,K,_⟩:=u.same ok;have c:=x.took ok u;have d:l.c=s.ld.c:=by obtain⟨L,A,t,p,rfl⟩:=g;exact e.c
  have v:=pJ c.1 s.mvO (s.dec s.mvI).1 (decide (2≤(s.dec s.mvI).2.1));refine⟨by show fI (CtSt.dv _).dr;rw[v];exact c.1,fun i a=>?_⟩;have a:s.ld.c.has i:=by rw[←d];exact a
  obtain⟨_,j⟩:=G9 ok f n e.c g a;show CZ l.c.m (l.rp.route i).toNat ((z.put s.mvO (s.dec s.mvI).1 (decide (2≤(s.dec s.mvI).2.1))).dv.dr.at ((l.rp.route i).toNat:Nat)) _;rw[d,v,uY];rcases j with j|⟨B,C,_⟩
  ·have D:¬((((l.rp.route i).toNat:Nat):Int)=(s.mvO:Int)):=by
    have:=ok.free f a;omega
   rw[Fn D,j];have:=c.2 i (by rw[e.c];exact a);rw[e.ix i a,e.c]at this;exact this
  ·rw[C,Fp rfl,←B,e.c]
   obtain⟨F,G⟩:=D0 ok x y a;cases w:o i with
   |some M=>
    obtain⟨k,H⟩:=F M w;have h:decide (2≤(s.dec (s.ix i)).2.1)=false:=by rw[decide_eq_false_iff_not];omega
    rw[k,h];rfl
   |none=>
    obtain⟨k,H⟩:=G w;have q:decide (2≤(s.dec (s.ix i)).2.1)=true:=by rw[decide_eq_true_eq];omega
    rw[k,q];exact .inr rfl
 ·rename_i r
  subst b;have c:gB o (s.put s.mvO ln0 false):=x.free (fun i a=>ok.free f a) _ _;have d:l.c=s.ld.c:=by obtain⟨L,A,t,p,rfl⟩:=g;rfl
  refine Gi (l:=l) c d fun i a=>?_;rcases(G9 ok f rfl rfl g a).2 with x|x
  ·exact x
  ·exact absurd x.2.2 r
end
end Go.Proofs.YtlbgenenpheheaaGreat
