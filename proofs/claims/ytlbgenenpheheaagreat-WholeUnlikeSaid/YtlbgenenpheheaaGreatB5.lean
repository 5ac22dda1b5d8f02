/- What the six laws Whole.. of the program cuirasstop lean on, part 6: contracts of its functions and laws of what they compute; for all arguments that each theorem names -/
import Derived.Test.YtlbgenenpheheaaGreatB4
import Derived.BigRegionIn
set_option linter.unusedVariables false
set_option linter.unusedSimpArgs false
set_option maxHeartbeats 100000000
set_option maxRecDepth 100000
namespace Go.Proofs.YtlbgenenpheheaaGreat
open Go.Value renaming int→I
open Go.IntKind renaming i64→Z
open Go.Obj renaming cells→O
open Go.Ending renaming returned→E
open Tryz renaming prog→Y
open Tryz
open _root_.Array renaming length_toList→Oj
open Go renaming World→Mr,Value→Ms,Calls→Mt,undef→Mv,bodyPost_ret→My,wpQuiet_step→Mz,wpQuiet_nil→Na,callsIn_wide→Nk,results_none→Nw,heap_setCell_same→Nx,results_cell_row→Oa,below_setRow→Ob
open Go.RowKit renaming Below→Mu
open Go.Value renaming slice→Nh,oneCell'→Ni,ownBlock→Ny
open _root_.List renaming getD→Mx,replicate→Nd,range→Nf,getElem?_eq_getElem→Nn,length_map→Np,length_append→Nr,size_toArray→Nv,length_cons→Oc,length_set→Od,getElem?_eq_some_iff→Oe,getElem?_map→Of
open _root_.Nat renaming le_trans→Ng,lt_of_lt_of_le→Nj,zero_le→Ns,le_succ→Nu,mod_eq_of_lt→Og
open _root_.Option renaming some→S,none→N
variable {B C D F G H g i j k n:Nat} {P:Program} {W W' w w':World} {b:Int} {cw:Nat→Prop} {o:Obj} {v:Value}
section
open Go.RowKit Go.Shelf lin
attribute [local go_sem] Oper.semAt_some
def hsA:Nat→List Nat×List Int
 |0=>(Nd 74 0,Nd 256 0)
 |i+1=>((hsA i).1,(hsA i).2.set i (-1))
def hsB:Nat→List Nat×List Int
 |0=>hsA 256
 |j+1=>yA (hsB j) (64+j) (2^j)
def CD:Nat→List Nat×List Int
 |0=>hsB 8
 |j+1=>yA (CD j) j ((nX 3).getD j 0)
def hsI (j:Nat):Nat:=if 56+j<64 then 56+j else 64+j
def wN:Nat→List Nat×List Int
 |0=>CD 56
 |j+1=>yA (wN j) (hsI j) ((nX 5).getD j 0)
def pF:List Nat×List Int:=wN 10
theorem VK:(nX 3).length=56∧(nX 5).length=56:=by decide+kernel
theorem VL (k:Nat):bM (nX k):=fun b a=>by have:=List.mem_range.1 (List.mem_filter.1 a).1;exact this
theorem F9 {v:Array Ms} (c:(nX k).length=n) (b:(nZ k)[j]?=S v):j<n∧v=#[.int .u8 ((nX k).getD j 0:Nat)]:=by have a:=(Oe.1 b).1;unfold nZ at a b;rw[Np]at a;rw[Of,Nn a]at b;refine⟨by omega,?_⟩;rw[Mx,Nn a];injection b with b;exact b.symm
theorem CE (W:Mr) (b:Nat) (u:Ms):aF (fun a=>a=b) W (W.setCell ⟨b,0,N⟩ u):=aF.setCell (cw:=fun a=>a=b) Cl (p:=⟨b,0,N⟩) (.inl rfl) u
def hsP (j:Nat):Nat:=if j≤8 then 56+j else 64+j
theorem At (w:Mr):Mt Tryz.prog 126 #[] w fun e w'=>e=E (.pointer (S ⟨w.heap.size,0,N⟩))∧gC w.heap.size pF w'∧Mu w.heap.size w w':=by
 have hz:=aA (show zeroCells283=(y6 (hsA 0)).toArray by kernel_rfl);refine(Nk (n:=9)).1 ?_;refine callsIn_of_wp_marks func126 rfl trivial ?_;simp only[ntmps126,Nv,Oc,List.length_nil,Nat.reduceAdd,Nat.reduceSub,Array.replicate_succ,Array.replicate_zero,List.push_toArray,List.append_toArray,List.nil_append,List.cons_append];gi_wp2_with fail;obtain⟨w1,a⟩:∃W,W=(w.alloc (O zeroCells283 283)).alloc (O #[.pointer (S ⟨w.heap.size,0,N⟩)] 217):=⟨_,rfl⟩;rw[←a];have j:gC w.heap.size (hsA 0) w1:=⟨by rw[a,hz.out];exact(d7.made _ _ _).keeps aU,by rfl,by rfl⟩;have o:w1.heap[w.heap.size+1]?=S (O #[.pointer (S ⟨w.heap.size,0,N⟩)] 217):=by rw[a];exact aG _ _ _ (by simp)
 have l:aC w w1:=by rw[a];exact gH
 clear a
 gi_loopw [9] (fun s W=>∃h:Nat,h≤256∧s=I Z h∧gC w.heap.size (hsA h) W∧aF (fun b=>b=w.heap.size) w1 W) fun s _=>256-(intOf s).toNat
 case atStart=>exact⟨0,by omega,rfl,j,Cl⟩
 case round=>
  obtain⟨h,i,rfl,d,c⟩:=hrel;by_cases a:h<256
  ·have m:(h:Int)<256:=by omega
   have f:=Cw (aJ c o (by omega)) 0;simp at f;have x:=d.whose a;have q:=d.1.frozen (74+h);have r:=d.lt;have g:=d.setWhose a (-1);generalize(hsA h).2.getD h 0=bd at x;have k:=aH g c;clear d g c j;gi_wp2_with fail;go_roundw
   case rel=>exact⟨h+1,by omega,by go_num,k.out.1,aF.setCell (cw:=fun b=>b=w.heap.size) k.out.2 (p:=⟨w.heap.size,74+h,N⟩) (.inl rfl) _⟩
   case measure=>simp[intOf];omega
  ·have x:h=256:=by omega
   have bm:¬(h:Int)<256:=by omega
   rw[x]at d;have m:=aA d;have g:=c;obtain⟨wu,rfl⟩:∃k,k=wr:=⟨_,rfl⟩;clear d c j x i a;gi_wp2_with fail
   gi_loopw [18] (fun s W=>∃M:Nat,M≤8∧s=I Z M∧gC w.heap.size (hsB M) W∧aF (fun b=>b=w.heap.size) w1 W) fun s _=>8-(intOf s).toNat
   case atStart=>exact⟨0,by omega,rfl,m.out,g⟩
   case round=>
    obtain⟨M,r,rfl,d,c⟩:=hrel;by_cases a:M<8
    ·have v:(M:Int)<8:=by omega
     have f:=Cw (aJ c o (by omega)) 0;simp at f
     have t:2^M<256:=by
      have:∀M:Fin 8,2^M.val<256:=by decide
      exact this ⟨M,a⟩
     have z:=F8 (64+M) (2^M) (by omega) t wr d
     have i:((2^M:Nat):Int)=2^M%256:=by
      have:∀M:Fin 8,((2^M.val:Nat):Int)=2^M.val%256:=by decide
      exact this ⟨M,a⟩
     rw[show((64+M:Nat):Int)=64+(M:Int) by omega,i]at z;replace z:=aA z;have u:=aA c;clear d c i;gi_wp2_with fail;refine⟨trivial,?_⟩;refine((Nk (n:=8)).2 z.out).mono ?_;rintro e B ⟨rfl,k,j⟩;have q:=aH k (u.out.trans j);clear k j f;gi_wp2_with fail;go_roundw
     case rel=>exact⟨M+1,by omega,by go_num,q.out.1,q.out.2⟩
     case measure=>simp[intOf];omega
    ·have f:M=8:=by omega
     have bn:¬(M:Int)<8:=by omega
     rw[f]at d;obtain⟨P,rfl⟩:∃k,k=wr:=⟨_,rfl⟩;have k:w.heap.size+1<P.heap.size:=aB (aJ c o (by omega));have q:=bT d c (aJ c o (by omega)) (((aF.of_below l fun _=>False).next c fun b i=>.inr (by have i:b=w.heap.size:=i;omega)).below Nl fun h i=>i.elim);clear d c g m o l f r a;gi_wp2_with fail;refine⟨trivial,?_⟩;refine((Nk (n:=8)).2 (VI 8 3 _)).mono ?_;rintro e Q ⟨rfl,f⟩;have⟨d,c,o,t⟩:=q.out;have⟨a,i⟩:=Ex P.heap.size;have y:Q.heap[P.heap.size]?=S (O #[I Z 0] 3):=by rw[f];rw[aV _ _ _ (by first|rfl|simp<;>omega|omega),aV _ _ _ (by first|rfl|simp<;>omega|omega)];exact aG _ _ _ (by first|rfl|simp<;>omega|omega)
     have l:Q.heap[P.heap.size+1]?=S (O #[I Z 8] 3):=by rw[f];rw[aV _ _ _ (by first|rfl|simp<;>omega|omega)];exact aG _ _ _ (by first|rfl|simp<;>omega|omega)
     have m:Q.heap[P.heap.size+1+1]?=S (O #[I Z 3] 3):=by rw[f];exact aG _ _ _ (by first|rfl|simp<;>omega|omega)
     have g:aC P Q:=by rw[f];exact kS
     have j:Q.heap.size=P.heap.size+3:=by rw[f];simp
     rw[←i]at y l m j;have bb:w.heap.size+1<a:=by omega
     obtain⟨J,r⟩:∃H,H=Q.heap.size:=⟨_,rfl⟩;have br:J=a+3:=by omega
     have HX:=eQ (d.keeps g) (aE g o) (Kc t g) y l m;simp only[Mr.size_alloc];rw[←i];clear f j y l m g d c o t i k q;gi_wp2_with fail;have⟨D,t,F,y,l,m⟩:=HX.out;have l3:=VK.1
     refine vV 9 9 (gf:=206) (lb:=#[.pointer (S ⟨a+1+1,0,N⟩),.pointer (S ⟨a+1,0,N⟩)]) rfl (enters_of func206 (by kernel_rfl) rfl) (nZ 3) (fun h=>h=a+1∨h=a+1+1) (fun h e=>by rw[←r];omega)
      (fun d c=>VJ (a+1) (a+1+1) 3 (by omega) d (aE c l) (aE c m))
      (fun u d c=>by obtain⟨_,rfl⟩:=F9 l3 c;rfl)
      (fun h=>h=w.heap.size∨h=a) (fun h i=>by rw[←r];omega)
      (fun u W=>gC w.heap.size (CD u) W∧W.heap[a]?=S (O #[I Z (u:Nat)] 3)∧aF (fun h=>h=w.heap.size∨h=a) Q W)
      (fun _ _=>False)
      (fun u X v i c=>?keep1) (fun _ _ _ i _=>i) ⟨D,y,Cl⟩ ?round1 ?done1 fun _ _ _ i _=>i.elim
     case keep1=>obtain⟨f,d,g⟩:=i;rw[←r]at c;exact⟨f.chg c (by omega),aJ c d (by omega),g.next c fun h i=>.inr (by omega)⟩
     case round1=>
      intro u bx W hx hW i;obtain⟨hk,rfl⟩:=F9 l3 hx;have T:=aA (show CD (u+1)=yA (CD u) u ((nX 3).getD u 0) from rfl);have y8:=(VL 3).get u;generalize(nX 3).getD u 0=bd at*;clear hW hx;gi_wp2_with fail;refine⟨Cl,i,fun o C V x=>?_⟩;clear i V;obtain⟨f,d,g⟩:=x;have U:=Cw (aJ g t (by omega)) 0;have A:=Cw d 0;simp at U A;have z:=aA (F8 u bd (by omega) y8 o f);have v:=aH d g;clear f d g D y l m F t C;gi_wp2_with fail;refine⟨trivial,?_⟩;refine((Nk (n:=8)).2 z.out).mono ?_;rintro e B ⟨rfl,k,j⟩;have c:=aJ j v.out.1 (by omega);have n1:=Cw c 0;have n2:=Fw c 0;have nz:=aB c;simp at n1;have HR:=Hd3 k j c;clear k j c U A;obtain⟨e1,aa⟩:wrap64 ((u:Int)+1)=(u:Int)+1∧IntKind.i64.wrap ((u:Int)+1)=(u:Int)+1:=⟨IntWalk.wrap64_in _ ⟨by omega,by omega⟩,IntWalk.i64_in _ ⟨by omega,by omega⟩⟩;gi_wp2_with fail;clear e1 aa;have⟨k,j,c⟩:=HR.out;have q:aF (fun h=>h=w.heap.size∨h=a) o (B.setCell ⟨a,0,N⟩ (I Z ((u:Int)+1))):=aF.setCell (cw:=fun h=>h=w.heap.size∨h=a) (j.mono fun b _ i=>.inl i) (p:=⟨a,0,N⟩) (.inl (.inr rfl)) _;refine⟨q,?_,?_,v.out.2.trans q⟩
      ·rw[T.out];exact k.chg (cw:=fun b=>b=a) (CE B a _) (by omega)
      ·exact Hs 0 _ c
     case done1=>
      rintro ba k ⟨f,d,g⟩ j;rw[←r]at k j;have eL:(nZ 3).length=56:=by unfold nZ;rw[Np,l3]
      rw[eL]at f d;have c:=aJ g t (by omega);have o:aC w ba:=((aF.of_below F fun _=>False).next g fun h i=>.inr (by rcases i with i|i<;>omega)).below Nl fun h i=>i.elim;have q:=eP f d c o j;have ae:J+1<ba.heap.size:=k;have an:=aA r;clear f d g c o j F y l m D t HX k r;gi_wp2_with fail;refine⟨trivial,?_⟩;refine((Nk (n:=8)).2 (VI 8 5 _)).mono ?_;rintro e R ⟨rfl,i⟩;have⟨f,d,c,o,j⟩:=q.out;have l:R.heap[ba.heap.size]?=S (O #[I Z 8] 3):=by rw[i];rw[aV _ _ _ (by first|rfl|simp<;>omega|omega)];exact aG _ _ _ (by first|rfl|simp<;>omega|omega)
      have m:R.heap[ba.heap.size+1]?=S (O #[I Z 5] 3):=by rw[i];exact aG _ _ _ (by first|rfl|simp<;>omega|omega)
      have g:aC ba R:=by rw[i];exact gH
      have r:R.heap.size=ba.heap.size+2:=by rw[i];simp
      obtain⟨K,k⟩:∃t,t=ba.heap.size:=⟨_,rfl⟩;obtain⟨H4,y⟩:∃H,H=R.heap.size:=⟨_,rfl⟩;have bs:H4=K+2:=by omega
      rw[←k]at l m;have HX:=nF (f.keeps g) (aE g d) (aE g c) (Kc o g) l m (aE g j);have ae:J+1<K:=by omega
      rw[←k];clear i r g f d c o j l m q k;gi_wp2_with fail;have⟨r,D,t,k3,l,m,F⟩:=HX.out;have l5:=VK.2
      refine vV 9 9 (gf:=206) (lb:=#[.pointer (S ⟨K+1,0,N⟩),.pointer (S ⟨K,0,N⟩)]) rfl (enters_of func206 (by kernel_rfl) rfl) (nZ 5) (fun h=>h=K∨h=K+1) (fun h e=>by rw[←y];omega)
       (fun d c=>VJ K (K+1) 5 (by omega) d (aE c l) (aE c m))
       (fun u d c=>by obtain⟨_,rfl⟩:=F9 l5 c;rfl)
       (fun h=>h=w.heap.size∨h=a) (fun h i=>by rw[←y];omega)
       (fun u W=>u≤10∧gC w.heap.size (wN u) W∧W.heap[a]?=S (O #[I Z (hsP u:Nat)] 3)∧aF (fun h=>h=w.heap.size∨h=a) R W)
       (fun B W=>B=.exit 6∧gC w.heap.size (wN 10) W∧aF (fun h=>h=w.heap.size∨h=a) R W)
       (fun u X v i c=>?keep2) (fun B X v i c=>?keepx) ⟨by omega,r,D,Cl⟩ ?round2 ?done2 ?stop2
      case keep2=>obtain⟨g0,f,d,g⟩:=i;rw[←y]at c;exact⟨g0,f.chg c (by omega),aJ c d (by omega),g.next c fun h i=>.inr (by omega)⟩
      case keepx=>obtain⟨g0,f,g⟩:=i;rw[←y]at c;exact⟨g0,f.chg c (by omega),g.next c fun h i=>.inr (by omega)⟩
      case done2=>
       rintro v u ⟨g0,_⟩ c;have eL:(nZ 5).length=56:=by unfold nZ;rw[Np,l5]
       omega
      case round2=>
       intro u bx W hx hW i;obtain⟨hk,rfl⟩:=F9 l5 hx;have T:=aA (show wN (u+1)=yA (wN u) (hsI u) ((nX 5).getD u 0) from rfl);have y8:=(VL 5).get u;generalize(nX 5).getD u 0=bd at*;clear hW hx;gi_wp2_with fail;refine⟨Cl,i,fun o C V x=>?_⟩;clear i V;obtain⟨g0,f,d,g⟩:=x;have U:=Cw (aJ g t (by omega)) 0;simp at U;by_cases ar:u=10
       ·subst ar;have L:hsP 10=74:=rfl;rw[L]at d;have A:=Cw d 0;simp at A;have v:=aH f g;clear f d g C L r D t k3 l m F;gi_wp2_with fail;exact⟨Cl,rfl,v.out⟩
       by_cases h8:u=8
       ·subst h8
        have L:hsP 8=64:=rfl;rw[L]at d;have G:hsI 8=72:=rfl;rw[G]at T;have A:=Cw d 0;have f1:=Fw d 0;have z1:=aB d;have zc:=aB (aJ g t (by omega));simp at A;have x:aF (fun h=>h=w.heap.size∨h=a) o (o.setCell ⟨a,0,N⟩ (I Z 72)):=(CE o a _).mono (fun b _ i=>.inr i);have V:(o.setCell ⟨a,0,N⟩ (I Z 72)).heap[a]?=S (O #[I Z 72] 3):=Hs 0 _ d;have i:gC w.heap.size (wN 8) (o.setCell ⟨a,0,N⟩ (I Z 72)):=f.chg (CE o a _) (by omega);have z:=aA (F8 72 bd (by omega) y8 (o.setCell ⟨a,0,N⟩ (I Z 72)) i);have v:=Hd3 V x g;clear f d g C L G r D t k3 l m F x V i;gi_wp2_with fail;refine⟨trivial,?_⟩;refine((Nk (n:=8)).2 z.out).mono ?_;rintro e B ⟨rfl,k,j⟩;have c:=aJ j v.out.1 (by omega);have n1:=Cw c 0;have n2:=Fw c 0;have nz:=aB c;simp at n1;have HR:=Hd3 k j c;clear k j c U A f1 z1 zc;gi_wp2_with fail;have⟨k,j,c⟩:=HR.out;have q:aF (fun h=>h=w.heap.size∨h=a) o (B.setCell ⟨a,0,N⟩ (I Z 73)):=aF.setCell (cw:=fun h=>h=w.heap.size∨h=a) (v.out.2.1.trans (j.mono fun b _ i=>.inl i)) (p:=⟨a,0,N⟩) (.inl (.inr rfl)) _;refine⟨q,by omega,?_,?_,v.out.2.2.trans q⟩
        ·rw[T.out];exact k.chg (CE B a _) (by omega)
        ·exact Hs 0 (I Z 73) c
       ·obtain⟨ab,L,G,ad,av,bv,bw⟩:∃ab,hsP u=ab∧hsI u=ab∧hsP (u+1)=ab+1∧ab<74∧ab≠64∧ab≠74:=by
         unfold hsP hsI;by_cases i:u<8
         ·rw[Fp (by omega),Fp (by omega),Fp (by omega)];exact⟨_,rfl,rfl,by omega,by omega,by omega,by omega⟩
         ·have:u=9:=by omega
          subst this;exact⟨73,rfl,rfl,rfl,by omega,by omega,by omega⟩
        rw[L]at d;rw[G]at T;have HQ:=aA (show((hsP (u+1):Nat):Int)=(ab:Int)+1 by rw[ad];omega);have A:=Cw d 0;simp at A;have t1:((ab:Int)==64)=false:=by simp;omega
        have t2:((ab:Int)==74)=false:=by simp;omega
        have z:=aA (F8 ab bd av y8 o f);have v:=Hd3 d (aF.refl (fun h=>h=w.heap.size∨h=a) o) g;clear f d g C L G ad r D t k3 l m F;gi_wp2_with fail;refine⟨trivial,?_⟩;refine((Nk (n:=8)).2 z.out).mono ?_;rintro e B ⟨rfl,k,j⟩;have c:=aJ j v.out.1 (by omega);have n1:=Cw c 0;have n2:=Fw c 0;have nz:=aB c;simp at n1;have HR:=Hd3 k j c;clear k j c U A;obtain⟨e1,aa⟩:wrap64 ((ab:Int)+1)=(ab:Int)+1∧IntKind.i64.wrap ((ab:Int)+1)=(ab:Int)+1:=⟨IntWalk.wrap64_in _ ⟨by omega,by omega⟩,IntWalk.i64_in _ ⟨by omega,by omega⟩⟩;gi_wp2_with fail;clear e1 aa;have⟨k,j,c⟩:=HR.out;have q:aF (fun h=>h=w.heap.size∨h=a) o (B.setCell ⟨a,0,N⟩ (I Z ((ab:Int)+1))):=aF.setCell (cw:=fun h=>h=w.heap.size∨h=a) (v.out.2.1.trans (j.mono fun b _ i=>.inl i)) (p:=⟨a,0,N⟩) (.inl (.inr rfl)) _;refine⟨q,by omega,?_,?_,v.out.2.2.trans q⟩
        ·rw[T.out];exact k.chg (CE B a _) (by omega)
        ·rw[HQ.out];exact Hs 0 _ c
      case stop2=>
       rintro B v u ⟨rfl,f,g⟩ c;rw[←y]at u c;have j:=aJ g t (by omega);have x:=Cw j 0;simp at x;have A:=aB j;have k:aC w v:=((aF.of_below k3 fun _=>False).next g fun h i=>.inr (by rcases i with i|i<;>omega)).below Nl fun h i=>i.elim
       have q:∀d,fQ d∈[fQ J]→d≠H4:=fun d i=>by
        have:d=J:=by simpa[fQ]using i
        omega
       have d:gN (w.heap.size+1) v [fQ H4,fQ J]:=⟨H4,rfl,by omega,c,q,J,rfl,by omega,aJ g F (by omega),by simp,trivial⟩;have z:=Hd3 f k d;have o:=aH y an.out;clear f g j k d r D t k3 l m F c HX;gi_wp2_with fail;have⟨f,k,d⟩:=z.out;rw[←o.out.1,←o.out.2];refine uR [fQ H4,fQ J] v d fun W' c hk=>⟨_,results_tmp rfl _ _ _,rfl,f.chg c (by show¬w.heap.size+1≤w.heap.size;omega),?_⟩;exact k.trans (c.below k.size (fun h i=>by have i:w.heap.size+1≤h:=i;omega))
def hcol (i:Nat):Nat:=pF.1.getD i 0
theorem Au:pF.1.all (·<256)=true:=by decide+kernel
theorem yB (i:Nat):hcol i<256:=(show bM pF.1 from fun b a=>by simpa using List.all_eq_true.1 Au b a).get i
def mT (l:List Nat):Nat:=l.foldl (fun s i=>s^^^hcol i) 0
theorem VM (l:List Nat) (i:Nat):mT (l++[i])=mT l^^^hcol i:=by unfold mT;rw[List.foldl_append];rfl
theorem MF (l:List Nat):mT l<256:=by
 unfold mT
 have:∀(l:List Nat) s,s<256→l.foldl (fun s b=>s^^^hcol b) s<256:=by
  intro l;induction l with
  |nil=>intro s c;exact c
  |cons b l a=>intro s c;exact a _ (lQ c (yB b))
 exact this l 0 (by decide)
def hchk (d a p:Nat):Nat:=(mT (dO d)^^^(if a=1 then hcol 72 else 0))^^^(if p=1 then hcol 73 else 0)
theorem FA (d a p:Nat):hchk d a p<256:=by
 unfold hchk;refine lQ (lQ (MF _) ?_) ?_
 ·split;exact yB _;decide
 ·split;exact yB _;decide
attribute [irreducible] hcol
theorem VN (d a p:Nat) (b:d<2^64) (ha:a≤1) (hp:p≤1) (w:Mr) (h:gC H pF w):Mt Tryz.prog 143 #[.pointer (S ⟨H,0,N⟩),.int .u64 d,I .i64 a,I .i64 p] w fun e c=>e=E (.int .u8 (hchk d a p:Nat))∧Mu w.heap.size w c:=by
 have HH:=aA h;have HD:=aA b;have u:=h.lt;have q:Hid (∀W f,aC w W→f<74→W.cell? ⟨H,f,N⟩=S (.int .u8 (hcol f:Nat))):=aA (fun W f L j=>by have:=(h.keeps L).col j;unfold hcol;exact this);clear h b;refine(Nk (n:=9)).1 ?_;refine callsIn_of_wp_marks func143 rfl trivial ?_;simp only[ntmps143,Nv,Oc,List.length_nil,Nat.reduceAdd,Nat.reduceSub,Array.replicate_succ,Array.replicate_zero,List.push_toArray,List.append_toArray,List.nil_append,List.cons_append];gi_wp2_with fail;refine⟨trivial,?_⟩;refine((Nk (n:=8)).2 (PD (d:Int) _)).mono ?_;rintro e K ⟨rfl,b⟩;have C:K.heap[w.heap.size]?=S (O #[.pointer (S ⟨H,0,N⟩)] 217):=by rw[b];rw[aV _ _ _ (by first|rfl|simp<;>omega|omega),aV _ _ _ (by first|rfl|simp<;>omega|omega)];exact aG _ _ _ (by first|rfl|simp<;>omega|omega)
 have L:K.heap[w.heap.size+1]?=S (O #[.int .u8 0] 5):=by rw[b];rw[aV _ _ _ (by first|rfl|simp<;>omega|omega)];exact aG _ _ _ (by first|rfl|simp<;>omega|omega)
 have B:K.heap[w.heap.size+1+1]?=S (O #[.int .u64 d] 39):=by rw[b];exact aG _ _ _ (by first|rfl|simp<;>omega|omega)
 have c:aC w K:=by rw[b];exact kS
 have j:K.heap.size=w.heap.size+3:=by rw[b];simp
 have⟨G,Q⟩:=Ex K.heap.size;have eG:G=w.heap.size+3:=by omega
 have HX:=bT c C L B;simp only[Mr.size_alloc];clear b j c C L B;gi_wp2_with fail;have⟨V,C,L,B⟩:=HX.out
 refine J7 9 9 (gf:=158) (lb:=#[.pointer (S ⟨w.heap.size+1+1,0,N⟩)]) rfl (enters_of func158 (by kernel_rfl) rfl) (nK d) (fun f=>f=w.heap.size+1+1) (fun f=>f=w.heap.size+1+1) (fun f e=>by rw[←Q];omega) (fun f e=>by rw[←Q];omega)
  (fun c b=>(PC _ d HD.out c (aB (aE b B)) (by rw[Cw (aE b B) 0];rfl) (Fw (aE b B) 0)).two)
  (fun o c b=>by obtain⟨f,_,rfl⟩:=DG d o c b;rfl)
  (fun f=>f=w.heap.size+1) (fun f e=>by rw[←Q];omega)
  (fun o W=>W.heap[w.heap.size]?=S (O #[.pointer (S ⟨H,0,N⟩)] 217)∧W.heap[w.heap.size+1]?=S (O #[.int .u8 (mT ((dO d).take o):Nat)] 5)∧Mu w.heap.size w W)
  (fun _ _=>False) (fun o X R h r=>?keep1) (fun _ _ _ h _=>h) ⟨C,L,V⟩ ?round1 ?done1 fun _ _ _ _ h _=>h.elim
 case keep1=>obtain⟨c,g,b⟩:=h;rw[←Q]at r;exact⟨aJ r c (by omega),aJ r g (by omega),b.trans (r.below b.size fun f h=>by omega)⟩
 case round1=>
  intro lp o ad W F hl P j;obtain⟨f,i,rfl⟩:=DG d o ad F;have M:=PG d o f i;have R:=aA (PE i);clear P F i;gi_wp2_with fail;refine⟨Cl,j,fun m r t v=>?_⟩;clear j t r;obtain⟨c,g,b⟩:=v;have k:=Cw c 0;have l:=Cw g 0;have x:=Fw g 0;have y:=aB g;have m2:=q.out m f b (by omega);have z:H<m.heap.size:=Nj u b.size;simp at k l;have aa:(f:Int)<74:=by omega
  have A:=MF ((dO d).take o);have J:=yB f;have T:=aA (VM ((dO d).take o) f);generalize mT ((dO d).take o)=s at*;generalize hcol f=ab at*;have D:=u8_xor_nat s ab A J;have U:=Hd3 c g b;clear c g b V C L B A J;gi_wp2_with fail
  gi_region
  all_goals have⟨c,g,b⟩:=U.out;have h:aF (fun f=>f=w.heap.size+1) m (m.setCell ⟨w.heap.size+1,0,N⟩ (.int .u8 ((s^^^ab:Nat):Int))).drew:=(aF.setCell (cw:=fun f=>f=w.heap.size+1) Cl (p:=⟨w.heap.size+1,0,N⟩) (.inl rfl) _).drew;refine⟨h,aJ h c (by omega),?_,(Ks b (by show w.heap.size≤w.heap.size+1;omega)).drew⟩;rw[R.out,T.out];exact Hs 0 _ g
 case done1=>
  rintro U M f ⟨c,g,b⟩ i;have eL:(nK d).length=(dO d).length:=PF d;rw[eL,List.take_length]at g;rw[←Q]at f;have t:=bT c g b i;have A:=MF (dO d);generalize v:mT (dO d)=s at*;have T:=aA v;have k:=Cw c 0;have l:=Cw g 0;have x:=Fw g 0;simp at k l;have y:=aB g;have P:=q.out M 72 b (by omega);have m:=q.out M 73 b (by omega);have z:H<M.heap.size:=Nj u b.size;have F:=yB 72;have J:=yB 73;have o:w.heap.size<M.heap.size:=by omega
  have aa:w.heap.size+3≤U:=by omega
  have ab:=aA f;clear V C L B c g b i v f;rcases(show a=0∨a=1 by omega)with rfl|rfl<;>rcases(show p=0∨p=1 by omega)with rfl|rfl
  ·gi_wp2_with fail;have⟨c,g,b,i⟩:=t.out;refine uR [fQ U] _ (⟨U,rfl,by omega,i,by simp,trivial⟩:gN (w.heap.size+2) _ [fQ U]) fun W' r L=>⟨_,results_tmp rfl _ _ _,?_,b.trans (r.below b.size (fun f h=>by have h:w.heap.size+2≤f:=h;omega))⟩;have v:=T.out;unfold hchk;rw[v];simp
  ·gi_wp2_with fail
   have D:=u8_xor_nat s (hcol 73) A J
   gi_region
   all_goals
    have⟨c,g,b,i⟩:=t.out;have h:aF (fun f=>f=w.heap.size+1) M (M.setCell ⟨w.heap.size+1,0,N⟩ (.int .u8 ((s^^^hcol 73:Nat):Int))).drew:=(aF.setCell (cw:=fun f=>f=w.heap.size+1) Cl (p:=⟨w.heap.size+1,0,N⟩) (.inl rfl) _).drew;replace c:=aJ h c (by omega);replace i:=aJ h i (by omega);have f:(M.setCell ⟨w.heap.size+1,0,N⟩ (.int .u8 ((s^^^hcol 73:Nat):Int))).drew.heap[w.heap.size+1]?=S (O #[.int .u8 ((s^^^hcol 73:Nat):Int)] 5):=Hs 0 _ g;replace b:Mu w.heap.size w (M.setCell ⟨w.heap.size+1,0,N⟩ (.int .u8 ((s^^^hcol 73:Nat):Int))).drew:=(Ks b (by show w.heap.size≤w.heap.size+1;omega)).drew;have t:=bT c f b i;clear k l x y P m z D g h o;generalize(M.setCell ⟨w.heap.size+1,0,N⟩ (.int .u8 ((s^^^hcol 73:Nat):Int))).drew=R at*;have B:s^^^hcol 73<256:=lQ A J;generalize j:s^^^hcol 73=V at*;have C:=aA j;have k:=Cw c 0;have l:=Cw f 0;have x:=Fw f 0;simp at k l;have y:=aB f;have m:=q.out R 73 b (by omega);have z:H<R.heap.size:=Nj u b.size;have o:w.heap.size<R.heap.size:=by omega
    clear c f b i j;gi_wp2_with fail;have⟨c,g,b,i⟩:=t.out;refine uR [fQ U] _ (⟨U,rfl,by omega,i,by simp,trivial⟩:gN (w.heap.size+2) _ [fQ U]) fun W' r L=>⟨_,results_tmp rfl _ _ _,?_,b.trans (r.below b.size (fun f h=>by have h:w.heap.size+2≤f:=h;omega))⟩;have v:=T.out;unfold hchk;rw[v];simp[C.out]
  ·gi_wp2_with fail
   have D:=u8_xor_nat s (hcol 72) A F
   gi_region
   all_goals
    have⟨c,g,b,i⟩:=t.out;have h:aF (fun f=>f=w.heap.size+1) M (M.setCell ⟨w.heap.size+1,0,N⟩ (.int .u8 ((s^^^hcol 72:Nat):Int))).drew:=(aF.setCell (cw:=fun f=>f=w.heap.size+1) Cl (p:=⟨w.heap.size+1,0,N⟩) (.inl rfl) _).drew;replace c:=aJ h c (by omega);replace i:=aJ h i (by omega);have f:(M.setCell ⟨w.heap.size+1,0,N⟩ (.int .u8 ((s^^^hcol 72:Nat):Int))).drew.heap[w.heap.size+1]?=S (O #[.int .u8 ((s^^^hcol 72:Nat):Int)] 5):=Hs 0 _ g;replace b:Mu w.heap.size w (M.setCell ⟨w.heap.size+1,0,N⟩ (.int .u8 ((s^^^hcol 72:Nat):Int))).drew:=(Ks b (by show w.heap.size≤w.heap.size+1;omega)).drew;have t:=bT c f b i;clear k l x y P m z D g h o;generalize(M.setCell ⟨w.heap.size+1,0,N⟩ (.int .u8 ((s^^^hcol 72:Nat):Int))).drew=R at*;have B:s^^^hcol 72<256:=lQ A F;generalize j:s^^^hcol 72=V at*;have C:=aA j;have k:=Cw c 0;have l:=Cw f 0;have x:=Fw f 0;simp at k l;have y:=aB f;have m:=q.out R 73 b (by omega);have z:H<R.heap.size:=Nj u b.size;have o:w.heap.size<R.heap.size:=by omega
    clear c f b i j;gi_wp2_with fail;have⟨c,g,b,i⟩:=t.out;refine uR [fQ U] _ (⟨U,rfl,by omega,i,by simp,trivial⟩:gN (w.heap.size+2) _ [fQ U]) fun W' r L=>⟨_,results_tmp rfl _ _ _,?_,b.trans (r.below b.size (fun f h=>by have h:w.heap.size+2≤f:=h;omega))⟩;have v:=T.out;unfold hchk;rw[v];simp[C.out]
  ·gi_wp2_with fail
   have D:=u8_xor_nat s (hcol 72) A F
   gi_region
   all_goals
    have⟨c,g,b,i⟩:=t.out;have h:aF (fun f=>f=w.heap.size+1) M (M.setCell ⟨w.heap.size+1,0,N⟩ (.int .u8 ((s^^^hcol 72:Nat):Int))).drew:=(aF.setCell (cw:=fun f=>f=w.heap.size+1) Cl (p:=⟨w.heap.size+1,0,N⟩) (.inl rfl) _).drew;replace c:=aJ h c (by omega);replace i:=aJ h i (by omega);have f:(M.setCell ⟨w.heap.size+1,0,N⟩ (.int .u8 ((s^^^hcol 72:Nat):Int))).drew.heap[w.heap.size+1]?=S (O #[.int .u8 ((s^^^hcol 72:Nat):Int)] 5):=Hs 0 _ g;replace b:Mu w.heap.size w (M.setCell ⟨w.heap.size+1,0,N⟩ (.int .u8 ((s^^^hcol 72:Nat):Int))).drew:=(Ks b (by show w.heap.size≤w.heap.size+1;omega)).drew;have t:=bT c f b i;clear k l x y P m z D g h o;generalize(M.setCell ⟨w.heap.size+1,0,N⟩ (.int .u8 ((s^^^hcol 72:Nat):Int))).drew=R at*;have B:s^^^hcol 72<256:=lQ A F;generalize j:s^^^hcol 72=V at*;have C:=aA j;have k:=Cw c 0;have l:=Cw f 0;have x:=Fw f 0;simp at k l;have y:=aB f;have m:=q.out R 73 b (by omega);have z:H<R.heap.size:=Nj u b.size;have o:w.heap.size<R.heap.size:=by omega
    clear c f b i j;gi_wp2_with fail;have D:=u8_xor_nat V (hcol 73) B J
    gi_region
    all_goals
     have⟨c,g,b,i⟩:=t.out;have h:aF (fun f=>f=w.heap.size+1) R (R.setCell ⟨w.heap.size+1,0,N⟩ (.int .u8 ((V^^^hcol 73:Nat):Int))).drew:=(aF.setCell (cw:=fun f=>f=w.heap.size+1) Cl (p:=⟨w.heap.size+1,0,N⟩) (.inl rfl) _).drew;replace c:=aJ h c (by omega);replace i:=aJ h i (by omega);have f:(R.setCell ⟨w.heap.size+1,0,N⟩ (.int .u8 ((V^^^hcol 73:Nat):Int))).drew.heap[w.heap.size+1]?=S (O #[.int .u8 ((V^^^hcol 73:Nat):Int)] 5):=Hs 0 _ g;replace b:Mu w.heap.size w (R.setCell ⟨w.heap.size+1,0,N⟩ (.int .u8 ((V^^^hcol 73:Nat):Int))).drew:=(Ks b (by show w.heap.size≤w.heap.size+1;omega)).drew;have t:=bT c f b i;clear k l x y m z D g h o;generalize(R.setCell ⟨w.heap.size+1,0,N⟩ (.int .u8 ((V^^^hcol 73:Nat):Int))).drew=P at*;have B:V^^^hcol 73<256:=lQ B J;generalize j:V^^^hcol 73=q2 at*;have D:=aA j;have k:=Cw c 0;have l:=Cw f 0;have x:=Fw f 0;simp at k l;have y:=aB f;have m:=q.out P 73 b (by omega);have z:H<P.heap.size:=Nj u b.size;have o:w.heap.size<P.heap.size:=by omega
     clear c f b i j;gi_wp2_with fail;have⟨c,g,b,i⟩:=t.out;refine uR [fQ U] _ (⟨U,rfl,by omega,i,by simp,trivial⟩:gN (w.heap.size+2) _ [fQ U]) fun W' r L=>⟨_,results_tmp rfl _ _ _,?_,b.trans (r.below b.size (fun f h=>by have h:w.heap.size+2≤f:=h;omega))⟩;have v:=T.out;unfold hchk;rw[v];simp[C.out,D.out]
def o6 (s:Nat):Int:=pF.2.getD s 0
theorem MG:∀s:Fin 256,-1≤o6 s.val∧o6 s.val<74:=by decide+kernel
def iY (s:Nat):Int×Int:=if s=0 then(0,-1)else if o6 s=-1 then(4,-1)else if o6 s=72 then(3,-1)else if o6 s=73 then(2,-1)else(1,o6 s)
theorem Av (d c a p:Nat) (f:d<2^64) (g:c<256) (h:a≤1) (i:p≤1) (w:Mr) (l:gC H pF w):Mt Y 239 #[.pointer (S ⟨H,0,N⟩),.int .u64 d,.int .u8 c,I Z a,I Z p] w fun e b=>e=E (.int .u8 (hchk d a p^^^c:Nat))∧Mu w.heap.size w b:=by have j:=aA (VN d a p f h i w l);have k:=FA d a p;generalize hchk d a p=s at*;have m:=u8_xor_nat s c k g;clear l;go_in;go_wp2_with fail;refine j.out.mono ?_;rintro e l ⟨rfl,b⟩;go_wp2_with fail;go_ret;exact⟨rfl,b⟩
theorem Aw (s:Nat) (a:s<256) (w:Mr) (c:gC H pF w):Mt Y 238 #[.pointer (S ⟨H,0,N⟩),.int .u8 s] w fun e b=>e=E (.tuple #[I Z (iY s).1,I Z (iY s).2])∧w=b:=by
 have h:=c.whose a;have k:=c.lt;have hsI:(s:Int)<256:=by omega
 obtain⟨i,j⟩:=MG ⟨s,a⟩;simp only at i j;have b:pF.2.getD s 0=o6 s:=rfl;rw[b]at h;unfold iY;generalize o6 s=g at*;clear c b;by_cases b:s=0
 ·subst b;rw[Fp rfl];go_in;go_wp2;go_ret2;exact⟨rfl,rfl⟩
 have l:((s:Int)==0)=false:=by simp;omega
 rw[Fn b];by_cases c:g=-1
 ·subst c;rw[Fp rfl];go_in;go_wp2;go_ret2;exact⟨rfl,rfl⟩
 have t1:(g==-1)=false:=by simp;omega
 rw[Fn c];by_cases d:g=72
 ·subst d;rw[Fp rfl];go_in;go_wp2;go_ret2;exact⟨rfl,rfl⟩
 have m:(g==72)=false:=by simp;omega
 rw[Fn d];by_cases f:g=73
 ·subst f;rw[Fp rfl];go_in;go_wp2;go_ret2;exact⟨rfl,rfl⟩
 have t3:(g==73)=false:=by simp;omega
 rw[Fn f];go_in;go_wp2;go_ret2;exact⟨rfl,rfl⟩
def oO (d:Nat) (k pl:Int):Nat:=if k=1∧pl<64 then d^^^2^pl.toNat else d
theorem Ay (d c a:Nat) (r:d<2^64) (m:c<256) (t:a≤1) (w:Mr) (q:gC H pF w):Mt Y 213 #[.pointer (S ⟨H,0,N⟩),.int .u64 d,.int .u8 c,I Z a] w fun e b=>e=E (.tuple #[.int .u64 (oO d (iY (hchk d a 0^^^c)).1 (iY (hchk d a 0^^^c)).2:Nat),I Z (iY (hchk d a 0^^^c)).1,I Z (iY (hchk d a 0^^^c)).2])∧Mu w.heap.size w b:=by
 have u:=aA (Av d c a 0 r m t (by omega) w q);have o:=lQ (FA d a 0) m;generalize hchk d a 0^^^c=s at*;have p:=aA fun b (g:aC w b)=>Aw s o b (q.keeps g);have h:(iY s).1=1→0≤(iY s).2:=by obtain⟨f,g⟩:=MG ⟨s,o⟩;simp only at f g;unfold iY;intro b;split at b;cases b;split at b;simp at b;split at b;simp at b;split at b;simp at b;rw[Fn (by assumption),Fn (by assumption),Fn (by assumption),Fn (by assumption)];simp only;omega
 generalize iY s=b at*;obtain⟨v,k⟩:=b;simp only at p h ⊢;clear q;go_in;go_wp2_with fail;refine u.out.mono ?_;rintro e x ⟨rfl,b⟩;have j:=aA b;clear b;go_wp2_with fail;refine(p.out _ j.out).mono ?_;rintro e y ⟨rfl,rfl⟩;have b:=aA j.out;by_cases g:v=1
 ·subst g
  obtain⟨n,q⟩:∃n:Nat,k=n:=⟨k.toNat,by have:=h rfl;omega⟩;subst q;by_cases l:n<64
  ·have f:(n:Int)<64:=by omega
   have i:Hid (oO d 1 n=d^^^2^n):=aA (by unfold oO;rw[Fp ⟨rfl,f⟩,Int.toNat_natCast]);clear h
   have q:bits .xor .u64 (d:Int) (IntKind.u64.wrap (2^n))=((d^^^2^n:Nat):Int):=by
    have h:2^n<2^64:=Nat.pow_lt_pow_right (by omega) l
    have g:IntKind.u64.wrap (2^n)=((2^n:Nat):Int):=by
     rw[IntKind.wrap_u64];have e:(2:Int)^n=((2^n:Nat):Int):=by simp
     rw[e];generalize 2^n=z at*;omega
    rw[g];exact bits_xor_u64_nat d (2^n) (by omega) (by omega)
   go_wp2_with fail;refine My (results_tmp3 rfl _ _ _) rfl ⟨?_,b.out⟩;rw[i.out];rfl
  ·have f:¬(n:Int)<64:=by omega
   have i:Hid (oO d 1 n=d):=aA (by unfold oO;rw[Fn fun q=>f q.2]);clear h;go_wp2_with fail;refine My (results_tmp3 rfl _ _ _) rfl ⟨?_,b.out⟩;rw[i.out];rfl
 ·have t1:(v==1)=false:=by simpa using g
  have i:Hid (oO d v k=d):=aA (by unfold oO;rw[Fn fun q=>g q.1]);clear h;go_wp2_with fail;refine My (results_tmp3 rfl _ _ _) rfl ⟨?_,b.out⟩;rw[i.out];rfl
def flagN (b:Bool):Nat:=if b=true then 1 else 0
theorem MH (b:Bool) (w:Mr):Mt Y 144 #[.bool b] w fun e a=>e=E (I Z (flagN b:Nat))∧w=a:=by
 cases b
 ·go_in;go_wp2;go_ret;exact⟨rfl,rfl⟩
 ·go_in;go_wp2;go_ret;exact⟨rfl,rfl⟩
def kM (x:Nat):List Nat:=(Nf 8).map fun i=>x/256^i%256
theorem tT (x:Nat):(kM x).length=8:=by simp[kM]
theorem Ba (x:Nat):bM (kM x):=fun b a=>by obtain⟨c,_,rfl⟩:=List.mem_map.1 a;exact Nat.mod_lt _ (by decide)
theorem Bb (x:Nat) (a:k<8):(kM x).take (k+1)=(kM x).take k++[x/256^k%256]:=by rw[List.take_add_one];congr 1;unfold kM;rw[Of,List.getElem?_range a];rfl
theorem Bc (x:Nat) (o:x<2^64) (w:Mr):Mt Y 142 #[.int .u64 x] w fun e a=>∃b,e=E b∧a.ownsRow w.heap.size 5 1 b 8 (aT (kM x))∧aC w a:=by
 obtain⟨p,i,j,k,l⟩:=info_parts lO;go_in;go_wp2_with fail;go_loopw [0,3,4] (fun b c a W=>∃(d:Nat) (y:Option Addr) (z:Nat),d≤8∧a=I Z d∧c=.slice y d z∧b=.int .u64 (x/256^d:Nat)∧W.ownsRow w.heap.size 5 1 (.slice y d z) d (aT ((kM x).take d))∧aC w W) fun _ _ a _=>8-(intOf a).toNat
 case atStart=>exact⟨0,N,0,by omega,rfl,rfl,by simp,Mr.ownsRow_nil _ _ _ _,Kr⟩
 case round=>
  obtain⟨d,y,z,B,rfl,rfl,rfl,g,c⟩:=hrel;by_cases m:d<8
  ·have u:(d:Int)<8:=by omega
   have q:=aA (Bb x m);have C:x/256^d<2^64:=Nat.lt_of_le_of_lt (Nat.div_le_self _ _) o;have r:=aA (show x/256^(d+1)=x/256^d/256 by rw[Nat.pow_succ,Nat.div_div_eq_div_mul]);generalize x/256^d=A at*;have D:IntKind.u8.wrap (A:Int)=((A%256:Nat):Int):=by rw[IntKind.wrap_u8];omega
   have v:=c.size;have h:=aH g c;clear g c;go_wp2_with(at_builtin;refine wpList_append_own_at _ rfl _ _ 158 rfl w.heap.size 5 p _ 1 1 underlying158 i j k l rfl (by decide) _ _ _ rfl (Mr.ownsRow.alloc h.out.1 _) ⟨wr.heap.size,0,N⟩ 1 1 [.int .u8 (A%256:Nat)] rfl rfl (cell_one_new _ _ _) (by simp[Ni]) (by unfold maxLen;omega) (by omega) (by simp;omega) ?_;intro F G a b _ f;obtain⟨s,t,rfl⟩:=own_slice a;have n:=aH a b;clear a b f);go_wp2_with fail;refine⟨⟨d+1,s,t,by omega,by go_num,rfl,?_,?_,?_⟩,?_⟩
   ·rw[r.out];exact congrArg _ (by omega)
   ·rw[q.out,xS];exact n.out.1
   ·exact sI (Ka h.out.2) n.out.2 (fun g c=>(Mr.ownsRow.lt h.out.1 g c).1)
   ·simp[intOf];omega
  ·have a:d=8:=by omega
   subst a;go_wp2_with fail;go_ret;exact⟨_,rfl,g,c⟩
def numL (l:List Nat):Nat:=l.foldr (fun a n=>a+256*n) 0
def numK (l:List Nat) (k:Nat):Nat:=numL (l.take k)
theorem Bd (l:List Nat) (a:Nat):numL (l++[a])=numL l+256^l.length*a:=by
 induction l with
 |nil=>simp[numL]
 |cons b l c=>show b+256*numL (l++[a])=(b+256*numL l)+_;rw[c,Oc,Nat.pow_succ,Nat.mul_add,Nat.mul_comm (256^l.length) 256,Nat.mul_assoc];omega
theorem MI {l:List Nat} (d:bM l):numL l<256^l.length:=by
 induction l with
 |nil=>simp[numL]
 |cons b l a=>have e:=d b (by simp);have f:=a fun g c=>d g (by simp[c]);show b+256*numL l<_;rw[Oc,Nat.pow_succ];omega
theorem VO (a b k:Nat) (c:a<2^k):a|||2^k*b=a+2^k*b:=by rw[Nat.or_comm,Nat.add_comm,Nat.two_pow_add_eq_or_of_lt c]
theorem Be (l:List Nat) (f:l.length=8) (q:bM l) (v:Ms) (w:Mr) (r:iW v l w):Mt Y 214 #[v] w fun e a=>e=E (.int .u64 (numL l:Nat))∧w=a:=by
 rcases r with⟨_,s⟩|⟨F,x,y,rfl,b,a,A,k⟩
 ·rw[s]at f;simp at f
 rw[f];have c:=aH f q;clear b a;go_in;go_wp2_with fail;go_loopw [3,8] (fun d b W=>∃a:Nat,a≤8∧b=I Z a∧d=.int .u64 (numK l a:Nat)∧w=W) fun _ b _=>8-(intOf b).toNat
 case atStart=>exact⟨0,by omega,rfl,by simp[numK,numL],rfl⟩
 case round=>
  obtain⟨a,B,rfl,rfl,b⟩:=hrel;subst b;by_cases d:a<8
  ·have z:(a:Int)<8:=by omega
   have t:=k a (by rw[c.out.1];exact d);have⟨i,g⟩:=Ey (l.getD a 0);have C:i<256:=by rw[←g];exact c.out.2.get a
   rw[g]at t;have b:(l.take a).length=a:=by rw[List.length_take,c.out.1];omega
   have m:numK l a<256^a:=by have:=MI (l:=l.take a) fun j h=>c.out.2 j (List.mem_of_mem_take h);rw[b]at this;exact this
   have o:numK l (a+1)=numK l a+256^a*i:=by unfold numK;rw[List.take_add_one,Nn (by rw[c.out.1];exact d)];show numL (l.take a++[_])=_;rw[Bd,b,←g,Mx,Nn (by rw[c.out.1];exact d)];rfl
   have u:=aA o;generalize numK l a=n at*;clear k g o b;go_wp2_with fail;have h:256^a=2^(8*a):=by rw[Nat.pow_mul]
   have D:2^(8*a)*256≤2^64:=by rw[show(256:Nat)=2^8 from rfl,←Nat.pow_add];exact Nat.pow_le_pow_right (by omega) (by omega)
   have p:=u.out;rw[h]at m p
   have j:bits .or .u64 (n:Int) (IntKind.u64.wrap ((i:Int)*2^(8*a)))=((numK l (a+1):Nat):Int):=by
    have k:(2:Int)^(8*a)=((2^(8*a):Nat):Int):=by simp
    have b:=VO n i (8*a) m;rw[p,k,IntKind.wrap_u64];generalize 2^(8*a)=g at*;have o:i*g<2^64:=by have:i*g≤255*g:=Nat.mul_le_mul_right _ (by omega);omega
    rw[←Int.natCast_mul,show((i*g:Nat):Int)%18446744073709551616=((i*g:Nat):Int) by omega,u64_or_nat n (i*g) (by omega) (by omega),Nat.mul_comm i g,b]
   refine⟨⟨a+1,by omega,by go_num,by rw[j],trivial⟩,?_⟩;simp[intOf];omega
  ·have b:a=8:=by omega
   subst b;have b:Hid (numK l 8=numL l):=aA (by unfold numK;rw[List.take_of_length_le (by rw[c.out.1];exact Nl)]);go_wp2_with fail;go_ret;exact⟨by rw[←b.out];rfl,rfl⟩
structure kG (X H C F g:Nat) (W:Mr):Prop where
 row:W.heap[X]?=S (O #[.pointer (S ⟨H,0,N⟩),.pointer (S ⟨C,0,N⟩)] 224)
 hs:gC H pF W
 rs:mA C F g W
theorem kG.same {X:Nat} (c:kG X H C F g W) (a:∀b,b=X∨b=H∨b=C∨b=F∨b=g→W'.heap[b]?=W.heap[b]?):kG X H C F g W':=⟨(a X (by simp)).trans c.row,⟨c.hs.1.same (a H (by simp)),c.hs.2⟩,c.rs.same (a C (by simp)) (a F (by simp)) (a g (by simp))⟩
theorem kG.lt {X:Nat} (a:kG X H C F g W) {b:Nat} (c:b=X∨b=H∨b=C∨b=F∨b=g):b<W.heap.size:=by
 rcases c with rfl|rfl|rfl|rfl|rfl
 ·exact aB a.row
 ·exact a.hs.lt
 ·exact a.rs.lt.1
 ·exact a.rs.lt.2.1
 ·exact a.rs.lt.2.2
theorem kG.keeps {X:Nat} (d:kG X H C F g W) (a:aC W W'):kG X H C F g W':=d.same fun b c=>a.block b (d.lt c)
theorem Bf (w:Mr):Mt Y 89 #[] w fun e j=>∃X H C s r:Nat,e=E (.pointer (S ⟨X,0,N⟩))∧kG X H C s r j∧(∀b,b=X∨b=H∨b=C∨b=s∨b=r→w.heap.size≤b)∧Mu w.heap.size w j:=by go_in;go_wp2_with fail;refine(At _).mono ?_;rintro e l ⟨rfl,f,d⟩;have m:=aH f d;clear f d;go_wp2_with fail;refine(qw _).mono ?_;rintro e n ⟨rfl,g,a⟩;have o:=aH g a;have p:=aA (ss n g);clear g a;go_wp2_with fail;refine p.out.mono ?_;rintro e k ⟨C,r,rfl,h,c3,t,c⟩;have q:=aH h c;clear h c;go_wp2_with fail;go_ret;have⟨f,d⟩:=m.out;have⟨g,a⟩:=o.out;have⟨h,c⟩:=q.out;have u:=d.size;have v:=a.size;have x:=c.size;have i:=K.alloc (K.refl k) (O #[.pointer (S ⟨w.heap.size,0,N⟩),.pointer (S ⟨C,0,N⟩)] 224);exact⟨k.heap.size,w.heap.size,C,l.heap.size,r,rfl,⟨aG _ _ _ rfl,((f.keeps a).keeps c).keeps i,h.keeps i⟩,fun b y=>by omega,Kc (Kc (Kc d a) c) i⟩
def dM (i:Nat) (p:Bool):List Nat:=[i%256,i/256%256,if p=true then i/65536%128+128 else i/65536%128]
theorem qE (i:Nat) (p:Bool):bM (dM i p):=fun b a=>by unfold dM at a;simp at a;split at a<;>omega
theorem Bg (i:Nat) (w:Mr):Mt Y 159 #[I Z i] w fun e a=>e=E (.agg #[.int .u8 (i%256:Nat),.int .u8 (i/256%256:Nat),.int .u8 (i/65536%128:Nat)])∧Mu w.heap.size w a:=by have:=JV (i:Int) w;rw[show((i%256:Nat):Int)=(i:Int)%256 by omega,show((i/256%256:Nat):Int)=(i:Int)/256%256 by omega,show((i/65536%128:Nat):Int)=(i:Int)/65536%128 by omega];exact this
theorem VP (i:Nat) (p:Bool) (w:Mr):Mt Y 145 #[I Z i,.bool p] w fun e s=>e=E (.agg (aT (dM i p)).toArray)∧Mu w.heap.size w s:=by
 have o:=aA fun w=>Bg i w;unfold dM;have y:i/65536%128<128:=Nat.mod_lt _ (by decide);generalize i%256=z at*;generalize i/256%256=b at*;generalize i/65536%128=q at*;cases p
 ·go_in;go_wp2_with fail;refine(o.out _).mono ?_;rintro e f ⟨rfl,c⟩;have a:=aE c (show(w.alloc (O #[.int .u8 0,.int .u8 0,.int .u8 0] 243)).heap[w.heap.size]?=_ from aG _ _ _ rfl);have⟨g,h,j⟩:=fM a;have t:=fun d=>Fw a d;have u:=aB a;simp at g h j;have k:=aH a (Kc aU c);clear a c;go_wp2_with fail;have⟨a,l⟩:=k.out;have d:∀(r:Obj) (c m n:Ms),((((f.setCell ⟨w.heap.size,0,N⟩ c).setCell ⟨w.heap.size,1,N⟩ m).setCell ⟨w.heap.size,2,N⟩ n).alloc r).heap[w.heap.size]?=S (O #[c,m,n] 243)∧Mu w.heap.size w ((((f.setCell ⟨w.heap.size,0,N⟩ c).setCell ⟨w.heap.size,1,N⟩ m).setCell ⟨w.heap.size,2,N⟩ n).alloc r):=fun r c m n=>⟨have v:=Nx _ _ 2 _ _ n (Nx _ _ 1 _ _ m (Hs 0 c a));(aV _ _ _ (aB v)).trans v,Ka (Ks (Ks (Ks l Nl) Nl) Nl)⟩;refine My (Oa (P:=Y) results145 _ _ w.heap.size 243 #[.int .u8 z,.int .u8 b,.int .u8 q] (0,0) (.array 3 5) rfl (d _ _ _ _).1 (by kernel_rfl) rfl (by kernel_rfl)) rfl ⟨rfl,(d _ _ _ _).2⟩
 ·have x:bits .or .u8 (q:Int) 128=((q+128:Nat):Int):=by
   have a:=u8_or_nat q 128 (by omega) (by omega);have c:q|||128=q+128:=by have:=VO q 1 7 (by omega);simpa using this
   rw[c]at a;exact a
  go_in;go_wp2_with fail;refine(o.out _).mono ?_;rintro e f ⟨rfl,c⟩;have a:=aE c (show(w.alloc (O #[.int .u8 0,.int .u8 0,.int .u8 0] 243)).heap[w.heap.size]?=_ from aG _ _ _ rfl);have⟨g,h,j⟩:=fM a;have t:=fun d=>Fw a d;have u:=aB a;simp at g h j;have k:=aH a (Kc aU c);clear a c;go_wp2_with fail;have⟨a,l⟩:=k.out;have d:∀(r:Obj) (c m n:Ms),((((f.setCell ⟨w.heap.size,0,N⟩ c).setCell ⟨w.heap.size,1,N⟩ m).setCell ⟨w.heap.size,2,N⟩ n).alloc r).heap[w.heap.size]?=S (O #[c,m,n] 243)∧Mu w.heap.size w ((((f.setCell ⟨w.heap.size,0,N⟩ c).setCell ⟨w.heap.size,1,N⟩ m).setCell ⟨w.heap.size,2,N⟩ n).alloc r):=fun r c m n=>⟨have v:=Nx _ _ 2 _ _ n (Nx _ _ 1 _ _ m (Hs 0 c a));(aV _ _ _ (aB v)).trans v,Ka (Ks (Ks (Ks l Nl) Nl) Nl)⟩;refine My (Oa (P:=Y) results145 _ _ w.heap.size 243 #[.int .u8 z,.int .u8 b,.int .u8 ((q+128:Nat):Int)] (0,0) (.array 3 5) rfl (d _ _ _ _).1 (by kernel_rfl) rfl (by kernel_rfl)) rfl ⟨rfl,(d _ _ _ _).2⟩
def parN (i:Nat):Nat:=Go.Proofs.YtlbgenenpheheaaGreat.popc (i%8388608)%2
theorem VR (i:Nat) (w:Mr):Mt Y 139 #[I Z i] w fun e a=>e=E (I Z (parN i:Nat))∧w=a:=by have:=JU (i:Int) (i%8388608) (by omega) w;unfold parN;rw[show((Go.Proofs.YtlbgenenpheheaaGreat.popc (i%8388608)%2:Nat):Int)=((Go.Proofs.YtlbgenenpheheaaGreat.popc (i%8388608):Nat):Int)%2 by omega];exact this
theorem VS (i:Nat):parN i≤1:=by unfold parN;omega
def qF (k:Int):Int:=if k=0 then 0 else if k=1 then 1 else if k=2 then 2 else 3
def oP (l:List Nat) (i:Nat):Nat×Int:=(oO (numL (l.take 8)) (iY (hchk (numL (l.take 8)) (parN i) 0^^^l.getD 8 0)).1 (iY (hchk (numL (l.take 8)) (parN i) 0^^^l.getD 8 0)).2,qF (iY (hchk (numL (l.take 8)) (parN i) 0^^^l.getD 8 0)).1)
theorem Bi {X:Nat} (l:List Nat) (a:l.length=9) (c:bM l) (i:Nat) (v:Ms) (w:Mr) (D:kG X H C F g w) (d:iW v l w):Mt Y 183 #[.pointer (S ⟨X,0,N⟩),v,I Z i] w fun e b=>e=E (.tuple #[.int .u64 (oP l i).1,I Z (oP l i).2])∧Mu w.heap.size w b:=by
 rcases id d with⟨_,r⟩|⟨P,m,f,rfl,s,n,L,o⟩
 ·rw[r]at a;simp at a
 rw[a]at s d ⊢;have h:=MI (l:=l.take 8) fun q j=>c q (List.mem_of_mem_take j);rw[List.length_take,a]at h;have h:numL (l.take 8)<2^64:=h;have t:=c.get 8;have u:=aA fun b (k:aC w b)=>Be (l.take 8) (by rw[List.length_take,a];rfl) (fun q j=>c q (List.mem_of_mem_take j)) (.slice (S ⟨P,m,N⟩) 8 f) b ((iW.take (l:=l) (by rw[a];exact d) (by rw[a];omega)).keeps k);have x:=aA fun w=>VR i w;have y:=o 8 (by omega);have z:=VS i;unfold oP;generalize numL (l.take 8)=J at*;generalize l.getD 8 0=M at*;generalize parN i=q at*;have j:=aA fun b (k:aC w b)=>Ay (H:=H) J M q h t z b (D.hs.keeps k);generalize iY (hchk J q 0^^^M)=b at*;obtain⟨k,A⟩:=b;simp only at j ⊢;generalize oO J k A=Q at*;have p:=Cw D.row 0;simp at p;have B:=aB D.row;have G:(8:Int)≤f:=by omega
 clear D d o n c a;go_in;go_wp2_with fail;refine bS (by kernel_rfl) (by kernel_rfl) ?_
 repeat
  with_reducible refine Mz fun K c=>?_
  go_simp
  try first
   |(apply Ei
     intro b a;obtain⟨d,n⟩:=a.cells;go_simp
     first
      |(go_at_call 214;with_reducible exact a.same (u.out _ a))
      |(go_at_call 139;with_reducible exact a.same (x.out _))
      |(go_at_call 213;with_reducible exact a.call (j.out _ a))
      |rfl)
   |(with_reducible refine aQ ?_ ?_;decide)
  refine c _ ?_;clear c K
 with_reducible refine Na ?_
 intro n a;have b:=aA (show Mu w.heap.size w n from a);clear a p B y;by_cases a:k=0
 ·subst a;go_wp2_with fail;go_ret2;exact⟨rfl,b.out⟩
 have p:(k==0)=false:=by simpa using a
 by_cases c:k=1
 ·subst c;go_wp2_with fail;go_ret2;exact⟨rfl,b.out⟩
 have t1:(k==1)=false:=by simpa using c
 by_cases d:k=2
 ·subst d;go_wp2_with fail;go_ret2;exact⟨rfl,b.out⟩
 have y:(k==2)=false:=by simpa using d
 have o:=aA (show qF k=3 by unfold qF;rw[Fn a,Fn c,Fn d]);clear a c d;go_wp2_with fail;go_ret2;exact⟨by rw[o.out];rfl,b.out⟩
def jK (l:List Int) (k:Nat):Int:=(l.take k).foldl max 0
def jF (l:List Int) (k:Nat):Nat:=((l.take k).filter (·==1)).length
def fS (l:List Int):Int×Int:=(jK l l.length,if jK l l.length=1 then(jF l l.length:Nat)else 0)
theorem VT {l:List Int} (a:k<l.length):l.take (k+1)=l.take k++[l.getD k 0]:=by rw[List.take_add_one,Mx,Nn a];rfl
theorem Bm {l:List Int} (a:k<l.length):jK l (k+1)=max (jK l k) (l.getD k 0):=by unfold jK;rw[VT a,List.foldl_append];rfl
theorem Bn {l:List Int} (a:k<l.length):jF l (k+1)=jF l k+flagN (l.getD k 0==1):=by
 unfold jF flagN;rw[VT a,List.filter_append,Nr];congr 1;by_cases e:l.getD k 0=1
 ·rw[e];rfl
 ·have:(l.getD k 0==1)=false:=by simpa using e
  rw[this,List.filter_cons_of_neg (by simpa using this)];rfl
theorem Bo (l:List Int) (k:Nat):jF l k≤k:=by unfold jF;exact Ng (List.length_filter_le _ _) (by rw[List.length_take];omega)
theorem Bp (l:List Int) (hl:l.length≤100) (a:∀v∈l,bN v) (q cap:Nat) (w:Mr) (hq:q<w.heap.size) (c:∀j,j<l.length→w.cell? ⟨q,j,N⟩=S (I Z (l.getD j 0))):Mt Y 138 #[.slice (S ⟨q,0,N⟩) l.length cap] w fun e d=>e=E (.agg #[I Z (fS l).1,I Z (fS l).2])∧Mu w.heap.size w d:=by
 have⟨n,d⟩:=Ey l.length;have T:=aA d;rw[d]at hl c ⊢;have HC:=aA c;clear c d a;go_in;go_wp2_with fail;obtain⟨m,a⟩:∃W,W=(w.alloc (O #[I Z 0,I Z 0] 144)).alloc (O #[I Z 0,I Z 0] 144):=⟨_,rfl⟩;rw[←a];have U:m.heap[w.heap.size]?=S (O #[I Z 0,I Z 0] 144):=by rw[a];rw[aV _ _ _ (by first|rfl|simp<;>omega|omega)];exact aG _ _ _ (by first|rfl|simp<;>omega|omega)
 have V:m.heap[w.heap.size+1]?=S (O #[I Z (jK l 0),I Z (jF l 0:Nat)] 144):=by rw[a];exact aG _ _ _ (by first|rfl|simp<;>omega|omega)
 have X:aC w m:=by rw[a];exact gH
 have⟨B,c⟩:=Ex (w.heap.size+1);have ab:w.heap.size<B:=by omega
 rw[←c]at V ⊢;clear a c;go_loopw [8] (fun s W=>∃k:Nat,k≤n∧s=I Z k∧W.heap[B]?=S (O #[I Z (jK l k),I Z (jF l k:Nat)] 144)∧aF (fun b=>b=B) m W) fun s _=>n-(intOf s).toNat
 case atStart=>exact⟨0,by omega,rfl,V,Cl⟩
 case round=>
  obtain⟨k,hk,rfl,g,x⟩:=hrel;have d:aC w wr:=((aF.of_below X fun _=>False).next x fun b a=>.inr (by have a:b=B:=a;omega)).below Nl fun i a=>a.elim;by_cases o:k<n
  ·have ad:(k:Int)<n:=by omega
   have c1:=(d.cells.1 q _ hq).trans (HC.out k o);have qz:=Nj hq d.size;have C:=aH (Bm (l:=l) (k:=k) (by rw[T.out];exact o)) (Bn (l:=l) (k:=k) (by rw[T.out];exact o));have hf:=Bo l k;generalize jK l k=R at*;generalize jF l k=f at*;generalize l.getD k 0=v at*;have⟨D,F⟩:=bQ g;have mf:=fun j=>Fw g j;have mz:=aB g;simp at D F;have G:=Hd3 g x d;clear g x d U X;rcases(show(v≤R∧max R v=R)∨(¬v≤R∧max R v=v) by omega)with⟨aa,H⟩|⟨aa,H⟩;focus have a:(wr.setCell ⟨B,0,N⟩ (I Z R)).heap[B]?=S (O #[I Z R,I Z (f:Nat)] 144):=Hs 0 _ G.out.1;have c:aF (fun b=>b=B) m (wr.setCell ⟨B,0,N⟩ (I Z R)):=aF.setCell (cw:=fun b=>b=B) G.out.2.1 (p:=⟨B,0,N⟩) (.inl rfl) _;have h:=aH a c;have r:=aA fun w=>MH (v==1) w;clear a c;go_wp2_with fail;have⟨a,c⟩:=h.out;have J:=Cw a 1;have nz:=aB a;simp at J;generalize wr.setCell ⟨B,0,N⟩ (I Z R)=W1 at*
   rotate_left
   focus have a:(wr.setCell ⟨B,0,N⟩ (I Z v)).heap[B]?=S (O #[I Z v,I Z (f:Nat)] 144):=Hs 0 _ G.out.1;have c:aF (fun b=>b=B) m (wr.setCell ⟨B,0,N⟩ (I Z v)):=aF.setCell (cw:=fun b=>b=B) G.out.2.1 (p:=⟨B,0,N⟩) (.inl rfl) _;have h:=aH a c;have r:=aA fun w=>MH (v==1) w;clear a c;go_wp2_with fail;have⟨a,c⟩:=h.out;have J:=Cw a 1;have nz:=aB a;simp at J;generalize wr.setCell ⟨B,0,N⟩ (I Z v)=W1 at*
   all_goals
    clear D F mf mz c1 qz a c;obtain⟨A,hy⟩:∃A,flagN (v==1)=A:=⟨_,rfl⟩;have y1:A≤1:=by rw[←hy];unfold flagN;split;exact Nl;exact Ns _
    have t:=C.out;rw[hy]at r t;have C:=aA t;clear t hy;obtain⟨e1,L⟩:=EM (i:=f) (k:=A) (j:=f+A) (by omega) (by omega) rfl;rw[show((f+A:Nat):Int)=(f:Int)+A from by omega]at e1 L;refine uK _ (by kernel_rfl) (by kernel_rfl) rfl ?_;simp only[List.dropLast]
    repeat
     with_reducible refine Mz fun K c=>?_
     go_simp
     try first
      |(apply Ei
        intro d a;obtain⟨g,t⟩:=a.cells;go_simp
        first
         |(go_at_call 144;with_reducible exact a.same (r.out _))
         |rfl)
      |(with_reducible refine aQ ?_ ?_;decide)
     refine c _ ?_;clear c K
    with_reducible refine Na ?_
    intro w9 u;have⟨a,c⟩:=h.out;have y:=aE u a;have q1:=Cw y 1;have qf:=Fw y 1;have qz:=aB y;simp at q1;have M:aF (fun b=>b=B) m (w9.setCell ⟨B,1,N⟩ (I Z ((f:Int)+A))):=aF.setCell (cw:=fun b=>b=B) (c.trans (aF.of_below u _)) (p:=⟨B,1,N⟩) (.inl rfl) _;have Q:(w9.setCell ⟨B,1,N⟩ (I Z ((f:Int)+A))).heap[B]?=S (O #[I Z (jK l (k+1)),I Z (jF l (k+1):Nat)] 144):=by rw[C.out.1,C.out.2,H,show((f+A:Nat):Int)=(f:Int)+A by omega];exact Hs 1 _ y
    have z:=aH Q M;clear a c y M Q J nz u e1 L;go_wp2_with fail;go_roundw
    case rel=>exact⟨k+1,by omega,by go_num,z.out.1,z.out.2⟩
    case measure=>simp[intOf];omega
  ·have t:k=n:=by omega
   have h:Hid (fS l=(jK l k,if jK l k=1 then((jF l k:Nat):Int)else 0)):=aA (by unfold fS;rw[T.out,t]);have G:¬(k:Int)<n:=by omega
   have a:=aJ x U (by omega);have z:=aH a d;have⟨D,F⟩:=bQ g;have mf:=fun j=>Fw g j;have mz:=aB g;have⟨y,C⟩:=bQ a;have H:=fun j=>Fw a j;have J:=aB a;simp at D F y C;generalize jK l k=R at*;generalize jF l k=f at*;have u:B≠w.heap.size:=by omega
   clear g x d U a X V;have g:∀(W:Mr) (v A:Int),W.heap[w.heap.size]?=S (O #[I Z 0,I Z 0] 144)→((W.setCell ⟨w.heap.size,0,N⟩ (I Z v)).setCell ⟨w.heap.size,1,N⟩ (I Z A)).heap[w.heap.size]?=S (O #[I Z v,I Z A] 144):=fun W v A a=>Nx _ _ 1 _ _ _ (Hs 0 _ a);by_cases r:R=1
   ·have c:=h.out;rw[Fp r]at c;subst r;have h:=aA c;clear c;go_wp2_with fail;have⟨a,d⟩:=z.out;refine My (Oa (P:=Y) results138 _ _ w.heap.size 144 #[I Z 1,I Z (f:Int)] (0,0) _ rfl (g _ _ _ a) underlying144 rfl (by kernel_rfl)) rfl ⟨?_,Ks (Ks d Nl) Nl⟩;have c:=h.out;rw[c];simp
   ·have c:(R==1)=false:=by simpa using r
    go_wp2_with fail;have⟨a,d⟩:=z.out;refine My (Oa (P:=Y) results138 _ _ w.heap.size 144 #[I Z R,I Z 0] (0,0) _ rfl (g _ _ _ ((Ho (by show w.heap.size≠B;omega)).trans a)) underlying144 rfl (by kernel_rfl)) rfl ⟨?_,Ks (Ks (Ks d (by show w.heap.size≤B;omega)) Nl) Nl⟩;rw[h.out,Fn r]
end
section
open Go.RowKit Go.Shelf
attribute [local go_sem] Oper.semAt_some cK
structure dK where
 X:Nat
 B:Nat
 CX:Nat
 CH:Nat
 CC:Nat
 CF:Nat
 Cg:Nat
 l:fD
structure CtSt where
 ld:bH
 dv:cF
 cur:Int
def dK.ar (q:dK):Ms:=.pointer (S ⟨q.X,0,N⟩)
def CtSt.row (s:CtSt) (q:dK) (v:Ms):Array Ms:=#[.pointer (S ⟨q.l.L,0,N⟩),.pointer (S ⟨q.B,0,N⟩),.pointer (S ⟨q.CX,0,N⟩),I Z s.cur,v]
structure cO (s:CtSt):Prop where
 ld:eU s.ld
 dv:iG s.dv
 geo:s.dv.dr.r=s.ld.c.r∧s.dv.dr.s=s.ld.c.s∧s.dv.dr.b=s.ld.c.b∧s.dv.dr.d=s.ld.c.d∧s.dv.dr.c=s.ld.c.c∧s.dv.dr.m=s.ld.c.m
 cur:s.ld.rp.has s.cur
structure dB (q:dK) (col:Nat→Nat) (s:CtSt) (n:Nat) (W:Mr):Prop where
 row:∃v,W.heap[q.X]?=S (O (s.row q v) 106)∧(∃L,bP 150 6 v L W∧L.length≤n)∧∀g,v.ownBlock=S g→col g=7
 cX:col q.X=5
 led:dV q.l col s.ld W
 cod:kG q.CX q.CH q.CC q.CF q.Cg W
 cC:∀b,b=q.CX∨b=q.CH∨b=q.CC∨b=q.CF∨b=q.Cg→col b=6
 dev:fH q.B (fun b=>col b=8) s.dv n W
theorem dB.same {q:dK} {col d:Nat→Nat} {s:CtSt} (f:dB q col s n W) (e:∀b,b<W.heap.size→1≤col b→col b≤8→W'.heap[b]?=W.heap[b]?∧d b=col b) (m:∀b,W'.heap.size≤b→d b=0):dB q d s n W':=by obtain⟨r,h,⟨t,i,o⟩,c⟩:=f.row;have j:=e q.X (aB h) (by rw[f.cX];decide) (by rw[f.cX];decide);have k:=fun g a=>e g (i.lt g a) (by rw[c g a];decide) (by rw[c g a];decide);have l:=fun b a=>e b (f.cod.lt a) (by rw[f.cC b a];decide) (by rw[f.cC b a];decide);refine⟨⟨r,j.1.trans h,⟨t,i.same fun g a=>(k g a).1,o⟩,fun g a=>(k g a).2.trans (c g a)⟩,j.2.trans f.cX,f.led.same (fun b a g p=>e b a g (by omega)) m,f.cod.same fun b a=>(l b a).1,fun b a=>(l b a).2.trans (f.cC b a),f.dev.same fun b a c=>?_⟩;have c:col b=8:=c;have:=e b a (by rw[c];decide) (by rw[c];decide);exact⟨this.1,this.2.trans c⟩
theorem dB.top {q:dK} {col:Nat→Nat} {s:CtSt} (a:dB q col s n W):∀b,W.heap.size≤b→col b=0:=a.led.top
theorem dB.chg {q:dK} {col:Nat→Nat} {s:CtSt} (h:dB q col s n W) (c:aF cw W W') (d:∀b,cw b→¬(1≤col b∧col b≤8)):dB q col s n W':=h.same (fun b a e f=>⟨c.block b a fun g=>d b g ⟨e,f⟩,rfl⟩) fun b a=>h.top b (Ng c.size a)
theorem dB.keeps {q:dK} {col:Nat→Nat} {s:CtSt} (b:dB q col s n W) (a:aC W W'):dB q col s n W':=b.chg (aF.of_below a fun _=>False) fun _ b=>b.elim
theorem dB.mono {q:dK} {col:Nat→Nat} {s:CtSt} {n':Nat} (a:dB q col s n W) (b:n≤n'):dB q col s n' W:=by obtain⟨g,c,⟨h,d,e⟩,f⟩:=a.row;exact⟨⟨g,c,⟨h,d,Ng e b⟩,f⟩,a.cX,a.led,a.cod,a.cC,a.dev.mono (fun _ a=>a) b⟩
theorem kN {K:Nat→Prop} {c a:Nat→Nat} {b:Nat} (d:aS K c w a w') (e:b<w.heap.size) (f:c b=k) (g:¬K k):w'.heap[b]?=w.heap[b]?∧a b=k:=⟨d.chg.block b e (by rw[f];exact g),(d.old b e).trans f⟩
theorem dB.setLed {q:dK} {col a:Nat→Nat} {s:CtSt} {l:bH} (k:dB q col s n W) (o:dV q.l a l W') (d:aS KL col W a W'):dB q a {s with ld:=l} n W':=by obtain⟨r,f,⟨t,g,p⟩,e⟩:=k.row;have h:=kN d (aB f) k.cX (by unfold KL;omega);have i:=fun m c=>kN d (g.lt m c) (e m c) (by unfold KL;omega);have j:=fun b c=>kN d (k.cod.lt c) (k.cC b c) (by unfold KL;omega);exact⟨⟨r,h.1.trans f,⟨t,g.same fun m c=>(i m c).1,p⟩,fun m c=>(i m c).2⟩,h.2,o,k.cod.same fun b c=>(j b c).1,fun b c=>(j b c).2,k.dev.same fun b c e=>kN d c e (by unfold KL;omega)⟩
theorem dB.setDev {q:dK} {col:Nat→Nat} {s:CtSt} {n':Nat} {d:cF} (p:dB q col s n W) (r:fH q.B (fun b=>col b=8∨W.heap.size≤b) d n' W') (g:n≤n') (i:aF (fun b=>col b=8) W W'):dB q (fX col W.heap.size W'.heap.size 8) {s with dv:=d} n' W'∧aS (fun a=>a=8) col W (fX col W.heap.size W'.heap.size 8) W':=by
 have e:aS (fun a=>a=8) col W (fX col W.heap.size W'.heap.size 8) W':=aS.up i _ _;have f:∀b,W'.heap.size≤b→fX col W.heap.size W'.heap.size 8 b=0:=fun b a=>xV (Ng i.size a) a;obtain⟨v,j,⟨w,k,t⟩,c⟩:=p.row;have l:=kN e (aB j) p.cX (by decide);have m:=fun h a=>kN e (k.lt h a) (c h a) (by decide);have o:=fun b a=>kN e (p.cod.lt a) (p.cC b a) (by decide);refine⟨⟨⟨v,l.1.trans j,⟨w,k.same fun h a=>(m h a).1,Ng t g⟩,fun h a=>(m h a).2⟩,l.2,p.led.same (fun b a h u=>kN e a rfl (by omega)) f,p.cod.same fun b a=>(o b a).1,fun b a=>(o b a).2,r.same fun b a c=>⟨rfl,?_⟩⟩,e⟩;by_cases h:b<W.heap.size
 ·rw[nV h]
  rcases c with c|c
  ·exact c
  ·omega
 ·exact xT (by omega) a
theorem dB.setX {q:dK} {col:Nat→Nat} {s:CtSt} {n':Nat} {v':Ms} {L:List (List Ms)} {x:Int} (f:dB q col s n W) (p:W'.heap[q.X]?=S (O (({s with cur:=x}:CtSt).row q v') 106)) (j:bP 150 6 v' L W') (r:L.length≤n') (g:n≤n')
 (c:∀o,v'.ownBlock=S o→col o=7∨W.heap.size≤o) (k:aF (fun b=>col b=5∨col b=7) W W'):
 dB q (fX col W.heap.size W'.heap.size 7) {s with cur:=x} n' W'∧aS (fun a=>a=5∨a=7) col W (fX col W.heap.size W'.heap.size 7) W':=by
 have d:aS (fun a=>a=5∨a=7) col W (fX col W.heap.size W'.heap.size 7) W':=aS.up k _ _;have e:∀b,W'.heap.size≤b→fX col W.heap.size W'.heap.size 7 b=0:=fun b a=>xV (Ng k.size a) a;obtain⟨u,h,_,_⟩:=f.row;have l:=fun b a=>kN d (f.cod.lt a) (f.cC b a) (by omega);refine⟨⟨⟨v',p,⟨L,j,r⟩,fun o m=>?_⟩,(d.old _ (aB h)).trans f.cX,f.led.same (fun b a i t=>kN d a rfl (by omega)) e,f.cod.same fun b a=>(l b a).1,fun b a=>(l b a).2,(f.dev.same fun b a c=>kN d a c (by omega)).mono (fun _ f=>f) g⟩,d⟩;have a:=j.lt o m;by_cases i:o<W.heap.size
 ·rw[nV i]
  rcases c o m with c|c
  ·exact c
  ·omega
 ·exact xT (by omega) a
def KC (k:Nat):Prop:=1≤k∧k≤8
theorem jS:¬KC 0:=by unfold KC;omega
def VQ (q:dK) (s:CtSt) (n:Nat) (col:Nat→Nat) (w:Mr) (R:CtSt→Prop) (e:Ending) (w':Mr):Prop:=∃v col' s',e=E v∧dB q col' s' n w'∧cO s'∧aS KC col w col' w'∧R s'
theorem Bh:(Y.info? 150).map (fun a=>(a.zero,a.size,a.bytes))=S (S (.agg #[I Z 0,I Z 0,I Z 0,I Z 0,I Z 0,I Z 0]),6,48):=by kernel_rfl
end
variable {q:dK} {s:CtSt}
section
open Go.RowKit Go.Shelf
attribute [local go_sem] Oper.semAt_some cK
theorem cO.withLed (ok:cO s) {l:bH} (a:eU l) (b:l.c=s.ld.c):cO {s with ld:=l}:=by obtain⟨c,d,e,f,g,o,h⟩:=a.geo;obtain⟨i,j,b3,k,m,p,n⟩:=ok.ld.geo;refine⟨a,ok.dv,by rw[show({s with ld:=l}:CtSt).ld.c=s.ld.c from b];exact ok.geo,?_⟩;have q:=ok.cur;unfold aW.has aR.seen at q ⊢;show bel s.cur ((cU l.rp.t.r l.rp.t.s l.rp.t.b l.rp.t.d l.rp.t.c-l.rp.t.res)*l.rp.t.c)=true;rw[c,d,e,f,g,h,b,←i,←j,←b3,←k,←m,←n];exact q
theorem FB {ops:Array Oper} {Q:Exit→Act→Mr→Prop} {o:Oper} {b:List Oper} {a:Act} (d:if Region.wanted o (yielded ops a.tmps)=true then Oper.wp P o a w (wpList P ops Q b) Q else wpList P ops Q b (a.put o.dst Mv) w):wpList P ops Q (o::b) a w:=by
 unfold wpList;by_cases c:Region.wanted o (yielded ops a.tmps)=true
 ·rw[Fp c]at d ⊢;exact .inl d
 ·rw[Fn c]at d ⊢;exact d
theorem KL.kc (a:KL k):KC k:=⟨a.1,Ng a.2 (by decide)⟩
theorem FC {col:Nat→Nat} (ok:cO s) (hn:n<bY) (o p r t u v:Int) (R:bH→Prop)
 (d:∀(c:Nat→Nat) (W:Mr),dV q.l c s.ld W→Mt Y 103 #[q.l.ar,.agg #[I Z o,I Z p,I Z r,I Z t,I Z u,I Z v]] W (lF q.l s.ld c W R)) (i:∀l,R l→l.c=s.ld.c) (w:Mr) (V:dB q col s n w):
 Mt Y 63 #[q.ar,.agg #[I Z o,I Z p,I Z r,I Z t,I Z u,I Z v]] w (VQ q s (n+1) col w fun a=>∃l,R l∧a={s with ld:=l}):=by
 obtain⟨i0,bn,br,bs,bv⟩:=info_parts Bh;have⟨ck,f⟩:=Ex (w.alloc (O #[I Z o,I Z p,I Z r,I Z t,I Z u,I Z v] 150));have L:aC w ck:=by rw[f];exact aU
 have y:ck.heap[w.heap.size]?=S (O #[I Z o,I Z p,I Z r,I Z t,I Z u,I Z v] 150):=by rw[f];exact aG _ _ _ rfl
 have X:col w.heap.size=0:=V.top _ Nl;have h:=V.keeps L;have HU:=eQ h L y X ok hn;have HP:=aH d i;obtain⟨cl,a,⟨cc,g,j⟩,k⟩:=h.row;obtain⟨av,P,rfl⟩:=g.slice;have HV:=bT a g j k;have hz:=aB a;have ab:=aB y;unfold CtSt.row at a;have q4:=Cw a 4;simp at q4;have⟨b0,b1,b2,b3,b4,b5⟩:=oC y;simp at b0 b1 b2 b3 b4 b5;have⟨m,z⟩:=Ey cc.length;rw[z]at HV q4;unfold dK.ar;clear V ok L y X h a g j k d i;have HM:=aA z;clear z;go_in;go_upto_region 1 with fail;rw[←f];clear f;refine vO [0] [1,2,3,4] [5] [6] [7,8,9,10] (by kernel_rfl) (by kernel_rfl) ?_;simp only[aM,d8]
 repeat(
  with_reducible refine i9 fun K a=>?_
  go_simp;unfold gI;apply Ei
  ·intro i f;go_simp;exact⟨rfl,rfl⟩
  refine a _ ?_
  clear a K)
 with_reducible refine eZ ?_
 repeat(
  with_reducible refine i9 fun K a=>?_
  go_simp;unfold gI;apply Ei
  ·intro i f;obtain⟨g,h⟩:=f.cells;go_simp;exact⟨rfl,rfl⟩
  refine a _ ?_
  clear a K)
 with_reducible refine eZ ?_
 repeat
  with_reducible refine Mz fun K a=>?_
  go_simp
  try first
   |(apply Ei
     intro i f;obtain⟨g,h⟩:=f.cells;go_simp
     rfl)
   |(with_reducible refine aQ ?_ ?_;first|decide|simp[Mv];done)
  refine a _ ?_;clear a K
 with_reducible refine Na ?_
 intro M F;with_reducible refine kZ fun d a=>?_
 go_simp;refine a _ _ (Ka F) ?_;clear a d;with_reducible refine lX ?_
 have⟨i,B,Q,C⟩:=HV.out;have⟨h,L,y,X,ok,_⟩:=HU.out;have z:=HM.out;have f:aC ck (M.alloc (O #[I Z o,I Z p,I Z r,I Z t,I Z u,I Z v] 150)):=Ka F;have T:(M.alloc (O #[I Z o,I Z p,I Z r,I Z t,I Z u,I Z v] 150)).ownsRow 0 150 6 (.slice av m P) m cc.flatten:=by have:=(B.keeps f).own;rw[z]at this;exact this
 have H:=aE f i;have b9:=aE f y;have D:∀ae,(Nh av m P).ownBlock=S ae→ae≠q.X:=fun ae U e=>by subst e;exact mR (B.row U) i (by decide)
 have J:∀ae,(Nh av m P).ownBlock=S ae→ae≠w.heap.size:=fun ae U e=>by have:=C ae U;rw[e,X]at this;cases this
 have bz:w.heap.size<M.heap.size:=Nj (aB y) F.size;have cd:q.X<M.heap.size:=Nj (aB i) F.size;have cf:m+1≤1000000:=by unfold bY at hn;omega
 have HS:=eQ H b9 D J f z;refine FB ?_;refine step_append_lies _ (by rfl) (.tmp 8) (.tmp 10) 104 (by rfl) 0 150 i0 _ 6 48 underlying104 bn br bs bv (by rfl) (by decide) (.slice av m P) m cc.flatten (by rfl) T ⟨M.heap.size,0,N⟩ 1 1 [I Z o,I Z p,I Z r,I Z t,I Z u,I Z v] (by rfl) (by rfl) (Mr.news_of_block (heap_alloc_new M _)) (by simp[Ni]) (by decide) (by unfold maxLen;omega) (by omega) (Ns _) _ rfl ?_;intro A d w8 g a j aa;have k:=eS a H fun e=>D _ e.symm rfl;have b8:=eS a b9 fun e=>J _ e.symm rfl;have f8:=fun G=>Fw k G;have bw:=aB k;have bm:=aB b8;have G:=k;unfold CtSt.row at G;have⟨r0,r4⟩:=iO G 0 4;simp at r0 r4;clear G;have H8:=eQ k b8 g a j aa;clear i B Q C h L y X ok f T H b9 D J z k b8 g a j F hz ab q4 b0 b1 b2 b3 b4 b5;go_wp2_with fail;rw[cK];have⟨k,b8,g,a,j,aa⟩:=H8.out;have⟨H,b9,D,J,f,z⟩:=HS.out;have⟨i,B,Q,C⟩:=HV.out;have⟨h,L,y,X,ok,_⟩:=HU.out;have an:=h.keeps f;have T:=dY q.X 4 w8 (.slice (S ⟨A,0,N⟩) (m+1) d)
 have ar:¬A=q.X:=by
  rcases j with V|V
  ·exact D A V
  ·rw[V];simp;omega
 have ba:bP 150 6 (.slice (S ⟨A,0,N⟩) (m+1) d) (cc++[[I Z o,I Z p,I Z r,I Z t,I Z u,I Z v]]) (w8.setCell ⟨q.X,4,N⟩ (.slice (S ⟨A,0,N⟩) (m+1) d)):=(bP.push (x:=[I Z o,I Z p,I Z r,I Z t,I Z u,I Z v]) (B.keeps f) rfl (by rw[z];exact g)).chg T fun ae U e=>ar (by rw[←e];simpa[Ny]using U);have bb:aF (fun b=>col b=5∨col b=7) (M.alloc (O #[I Z o,I Z p,I Z r,I Z t,I Z u,I Z v] 150)) (w8.setCell ⟨q.X,4,N⟩ (.slice (S ⟨A,0,N⟩) (m+1) d)):=(aF.grown Cl a fun G F=>.inl (.inr (C G F))).trans (T.mono fun b _ F=>by subst F;exact .inl h.cX);have F:(w8.setCell ⟨q.X,4,N⟩ (.slice (S ⟨A,0,N⟩) (m+1) d)).heap[q.X]?=S (O (({s with cur:=s.cur}:CtSt).row q (.slice (S ⟨A,0,N⟩) (m+1) d)) 106):=by rw[Hs 4 _ k];rfl
 obtain⟨G,ad⟩:=an.setX F ba (by rw[Nr,z];simp;exact Q) (Nu n) (fun ae U=>by
  have e:A=ae:=by simpa[Ny]using U
  subst e;rcases j with V|V
  ·exact .inl (C _ V)
  ·exact .inr (by rw[V];exact Nl)) bb
 have U:=aJ T b8 (by have:=aB i;intro e;rw[←e]at i;exact absurd (Option.some.inj (i.symm.trans y)) (by simp));have⟨W1,ae⟩:=Ex (w8.setCell ⟨q.X,4,N⟩ (.slice (S ⟨A,0,N⟩) (m+1) d));have⟨c1,bd⟩:=Ex (fX col (M.alloc (O #[I Z o,I Z p,I Z r,I Z t,I Z u,I Z v] 150)).heap.size (w8.setCell ⟨q.X,4,N⟩ (.slice (S ⟨A,0,N⟩) (m+1) d)).heap.size 7);rw[←bd,←ae]at G ad;rw[←ae]at F U ⊢;have V:aS KC col w c1 W1:=((aS.keeps L).trans (aS.keeps f)).trans (ad.mono fun ab hk=>by unfold KC;omega);have HF:=Hd3 G V ok;have HA:=aA fun W (hW:aC W1 W)=>HP.out.1 c1 W (G.led.keeps hW);have bx:=aB F;have ab:=aB U;unfold CtSt.row at F;clear r0 r4 f8 bw bm;have q0:=Cw F 0;simp at q0;have⟨b0,b1,b2,b3,b4,b5⟩:=oC U;simp at b0 b1 b2 b3 b4 b5;clear k b8 g a j H b9 D J f z i B Q C h L y X ok an T ar ba bb G ad ae bd V F U;go_wp2_with fail;refine eK (by kernel_rfl) (lS [0,1,2,3,4] [] [5] (by kernel_rfl) ?_);simp only[aM,d8]
 repeat
  with_reducible refine dS fun K a=>?_
  go_simp
  try first
   |(apply Ei
     intro i f;obtain⟨g,h⟩:=f.cells;go_simp
     rfl)
   |(with_reducible refine aQ ?_ ?_;first|decide|simp[Mv];done)
  refine a _ ?_;clear a K
 with_reducible refine dR ?_
 with_reducible refine eZ ?_
 intro k a;have j:=aA (HA.out k a);have i:=aA a;clear a HA q0 b0 b1 b2 b3 b4 b5 bx ab;go_wp2_with fail;refine j.out.mono ?_;rintro e C ⟨D,y,z,rfl,g,h,a,f⟩;have B:=bT g h a f;clear g h a f;go_wp2_with fail;refine dT ?_;go_wp2_with fail;refine bodyPost_end (Nw rfl _ _ _) rfl ?_;have⟨g,h,a,f⟩:=B.out;have⟨G,V,ok⟩:=HF.out;exact⟨_,y,_,rfl,(G.keeps i.out).setLed g a,ok.withLed h (HP.out.2 _ f),(V.trans (aS.keeps i.out)).trans (a.mono fun ab hk=>hk.kc),z,f,rfl⟩
end
section
open Go.RowKit Go.Shelf lin
attribute [local go_sem] Oper.semAt_some Mh
attribute [local simp] Mf Mg
def mU (x:Int×Int×Nat):Int:=if x.1=0 then 0 else if x.1=1 then 1 else if x.1=2∧x.2.1=38∧x.2.2=128 then 2 else 3
def o7 (l:List Nat) (i:Nat):List Nat×Int:=((mE l (nW (gM l (dM i false)))).drop 4,mU (nW (gM l (dM i false))))
theorem Bj (W:Mr):(zeroValue 248).run Y W=.ok (.agg (aD .u8 (Nd 32 0))) W:=by kernel_rfl
theorem Bk {X:Nat} (l:List Nat) (c:l.length=36) (z:bM l) (i:Nat) (v:Ms) (w:Mr) (J:kG X H C F g w) (t:iW v l w):Mt Y 185 #[.pointer (S ⟨X,0,N⟩),v,I .i64 i] w fun e a=>e=E (.tuple #[.agg (aT (o7 l i).1).toArray,I .i64 (o7 l i).2])∧Mu w.heap.size w a:=by
 rcases id t with⟨_,R⟩|⟨L,d,o,rfl,U,aa,V,A⟩
 ·rw[R]at c;simp at c
 rw[c]at U t ⊢;have B:=aA fun w=>VP i false w;have p:=aA fun a (k:aC w a)=>Al (C:=C) (F:=F) (g:=g) l (dM i false) c rfl z (qE i false) a (J.rs.keeps k);have m:((mE l (nW (gM l (dM i false)))).drop 4).length=32:=by rw[List.length_drop];unfold mE;split;rw[BM,c];rw[c]
 unfold o7;generalize nW (gM l (dM i false))=M at*;have⟨y,n⟩:=Ex (aT ((mE l M).drop 4)).toArray;have b:y.size=32:=by rw[n,Nv,fC,m]
 have q:y.all (·.oneCell')=true:=by rw[n];exact wF _
 simp only;rw[←n]at p ⊢;have⟨an,u⟩:=Ex (aT (dM i false)).toArray;have⟨ae,r⟩:=Ex (aT l).toArray;rw[←u]at B;rw[←u,←r]at p;obtain⟨x,j,f⟩:=M;simp only at p ⊢;have ab:ae.size=36:=by rw[r,Nv,fC,c]
 have D:Hid (∀a,aC w a→a.cell? ⟨X,1,N⟩=S (.pointer (S ⟨C,0,N⟩))∧(Mc ⟨L,d,N⟩ 0 36 #[]).run Y a=.ok ae a):=aA (fun a k=>by
  refine⟨by rw[Cw (J.keeps k).row 1];rfl,?_⟩;rw[r]
  have:=lL (P:=Y) a L d (aT l) (fun G M h=>by
   have s:=(Oe.1 h).1;rw[fC]at s;rw[kL l s]at h
   rw[←h];exact(k.cells.1 L _ V).trans (A G s))
  rw[fC,c]at this;exact this)
 have AA:∀W,(Instr.arrayAt 352 (.slice (S ⟨L,d,N⟩) 36 o)).run Y W=.ok (.pointer (S ⟨L,d,N⟩)) W:=fun W=>Go.run_arrayAt W 352 5 36 _ 36 o (by kernel_rfl) Nl;have ad:=aB J.row;have x0:=(D.out w Kr).1;obtain⟨Q,s⟩:=Ex (aD .u8 (Nd 32 0));have HZ:=aA (fun W=>show(zeroValue 248).run Y W=.ok (.agg Q) W by rw[s];exact Bj W);have G:=aA (show Q.size=32 by rw[s];rfl);have LL:Hid (∀a,aC (w.alloc (O Q 248)) a→(Mc ⟨L,d,N⟩ 0 36 #[]).run Y a=.ok ae a):=aA fun a k=>(D.out a (Kc aU k)).2;have h:aC w (w.alloc (O Q 248)):=aU;clear J t A n u r m z c;go_in;go_wp2_with fail;rw[DZ,←s];clear s;refine IC [0,1,2,3,4,5,6,7,8,9,10,11,12] 13 14 15 16 8 21 248 9 22 349 Q #[I .i64 0,I .i64 0,.int .u8 0] (by kernel_rfl) (by kernel_rfl) (by decide) rfl HZ.out rfl (fun W=>by kernel_rfl) rfl rfl ?_;simp only[aM,d8]
 repeat
  with_reducible refine dS fun K m=>?_
  go_simp
  try first
   |(apply Ei
     intro a c;obtain⟨n,r⟩:=c.cells;have s:=LL.out _ c;go_simp
     first
      |(go_at_call 145;with_reducible exact l9 (B.out _))
      |(go_at_call 215;with_reducible exact l9 (p.out _ (cH h c)))
      |rfl)
   |(with_reducible refine aQ ?_ ?_;decide)
  refine m _ ?_;clear m K
 with_reducible refine dR ?_
 refine⟨y,#[I .i64 x,I .i64 j,.int .u8 f],rfl,rfl,by rw[b,G.out],rfl,q,by simp[Ni],by decide,by simp[Act.put],?_,?_,?_⟩
 ·intro c W;simp[go_sem,b]
 ·intro c W;go_simp
 intro A8 A9 A n r s t u c;have m:=aE c (show(w.alloc (O Q 248)).heap[w.heap.size]?=_ from aG _ _ _ rfl);have⟨b0,b1,b2⟩:=fM u;simp at b0 b1 b2;have LM:=Lw t 32 b;have SM:=Sw m y (by rw[b,G.out]) q;have z:=aH (Hw m y) (Ob (cH h c) Nl y);clear t u c h m n r s
 have c:∀(T:Array Ms) (M:Int),T.getD 6 Mv=.pointer (S ⟨w.heap.size,0,N⟩)→T.getD 7 Mv=I .i64 M→mU (x,j,f)=M→
  bodyPost Y Tryz.f185 (fun e a=>e=E (.tuple #[.agg y,I .i64 (mU (x,j,f))])∧Mu w.heap.size w a) .ret {tmps:=T,defers:=[]} (A.setRow w.heap.size y):=fun T M h m n=>by
  refine My (lin.iF results185 T _ w.heap.size 248 y (0,0) (.array 32 5) h z.out.1 (by kernel_rfl) rfl (by rw[b];kernel_rfl)) rfl ⟨?_,z.out.2⟩;rw[m,n]
 by_cases h:x=0
 ·subst h;go_wp2_with fail;exact c _ 0 rfl rfl rfl
 have u:(x==0)=false:=by simpa using h
 by_cases r:x=1
 ·subst r;go_wp2_with fail;exact c _ 1 rfl rfl rfl
 have t1:(x==1)=false:=by simpa using r
 by_cases s:x=2
 ·subst s
  by_cases t:j=38
  ·subst t
   by_cases s:f=128
   ·subst s;go_wp2_with fail;exact c _ 2 rfl rfl rfl
   ·have m:mU (2,38,f)=3:=by unfold mU;simp[s]
    have J:((f:Int)==128)=false:=by simp;omega
    have n:=aA m;clear m s;go_wp2_with fail;exact c _ 3 rfl rfl n.out
  ·have m:mU (2,j,f)=3:=by unfold mU;simp[t]
   have J:(j==38)=false:=by simpa using t
   have n:=aA m;clear m t;go_wp2_with fail;exact c _ 3 rfl rfl n.out
 have m:(x==2)=false:=by simpa using s
 have n:=aA (show mU (x,j,f)=3 by unfold mU;rw[Fn h,Fn r,Fn fun J=>s J.1]);clear h r s;go_wp2_with fail;exact c _ 3 rfl rfl n.out
def dI (l:List Int):List Nat:=l.map Int.toNat
def eN (l:List Nat):List Int:=l.map Int.ofNat
theorem lH (l:List Int):(dI l).length=l.length:=Np _
theorem o8 (l:List Nat):(eN l).length=l.length:=Np _
theorem CG (l:List Int) (j:Nat):(dI l).getD j 0=(l.getD j 0).toNat:=by unfold dI;rw[Mx,Of,Mx];cases l[j]?<;>rfl
theorem sM {l:List Int} (h:aX n l) (e:l.length=n):bM (dI l):=fun i b=>by obtain⟨j,c,rfl⟩:=List.mem_map.1 b;obtain⟨f,d,rfl⟩:=List.getElem_of_mem c;obtain⟨m,a,g⟩:=h f (by omega);rw[Mx,Nn d]at a;have a:l[f]=(m:Int):=a;rw[a];omega
theorem iU.rd {l:List Int} (a:iU v l W) (d:aX l.length l):iW v (dI l) W:=by obtain⟨k,b,c,rfl,e,f,g⟩:=a;refine .inr ⟨k,b,c,by rw[lH],by rw[lH];exact e,trivial,f,fun i a=>?_⟩;rw[lH]at a;obtain⟨m,h,j⟩:=d i a;rw[g i a,CG,h,Int.toNat_natCast]
theorem MJ (l:List Nat):(aT l).toArray=aD .u8 (eN l):=by unfold aT aD eN;rw[List.map_map];rfl
def gU (r:List Int) (i k:Nat):Nat×Int:=oP (dI (cG r 9 k)) i
def fU (r:List Int) (i k:Nat):List Nat×Int:=o7 (dI (cG r 36 k)) i
def jE (r:List Int) (i:Nat):List Int×List Int:=((Nf 64).map (kC ((Nf 8).map fun k=>((gU r i k).1:Int))),(Nf 8).map fun k=>(gU r i k).2)
def iD (r:List Int) (i:Nat):List Int×List Int:=(eN ((fU r i 0).1++(fU r i 1).1),(Nf 2).map fun k=>(fU r i k).2)
theorem Bq {d:Nat} (a:d<2^64) {k b:Int} (c:0≤b∨k≠1):oO d k b<2^64:=by
 unfold oO;split
 ·rename_i e;exact Nat.xor_lt_two_pow a (Nat.pow_lt_pow_right (by decide) (by omega))
 ·exact a
theorem Br:pF.2.length=256:=by decide+kernel
theorem Bs (s:Nat):0≤(iY s).2∨(iY s).1≠1:=by
 unfold iY;split
 ·right;decide
 split
 ·right;decide
 split
 ·right;decide
 split
 ·right;decide
 ·rename_i c a d f
  left;show 0≤o6 s;by_cases b:s<256
  ·have:=(MG ⟨s,b⟩).1;have a:¬o6 s=-1:=a;have e:o6 (⟨s,b⟩:Fin 256).val=o6 s:=rfl;omega
  ·have e:o6 s=0:=by
    unfold o6;rw[Mx,List.getElem?_eq_none (by rw[Br];omega)];rfl
   omega
theorem VU {r:List Int} (e:r.length=72) (c:aX 72 r) (i k:Nat) (f:k<8):(gU r i k).1<2^64:=by have b:=pX r 9 k (by omega);have a:=MI (l:=(dI (cG r 9 k)).take 8) fun g d=>sM (BD c 9 k (by omega)) b g (List.mem_of_mem_take d);rw[List.length_take,lH,b]at a;have a:numL ((dI (cG r 9 k)).take 8)<2^64:=a;unfold gU oP;refine Bq a (Bs _)
theorem Bt (l:List Int) (k:Nat) (y:Int):(aD .u64 l).setIfInBounds k (.int .u64 y)=aD .u64 (l.set k y):=by unfold aD;rw[List.setIfInBounds_toArray,List.map_set]
theorem MK {a:Type} (f:Nat→a) (k:Nat):(Nf (k+1)).map f=(Nf k).map f++[f k]:=by rw[List.range_succ,List.map_append];rfl
def ML (w:Mr) (lk:List Int×List Int) (e:Ending) (w':Mr):Prop:=∃v,e=E (.tuple #[.agg (aD .u8 lk.1),v])∧eV w' w.heap.size v lk.2∧Mu w.heap.size w w'
theorem Bu {X:Nat} (r:List Int) (a:r.length=72) (f:aX 72 r) (i:Nat) (w:Mr) (c:kG X H C F g w):Mt Y 137 #[.pointer (S ⟨X,0,N⟩),I Z 1,.agg (aD .u8 r),I Z i] w (ML w (jE r i)):=by
 obtain⟨i0,aa,ab,ad,ae⟩:=info_parts AY;have HC:=aA c;have v:=aH a f;have rz:(aD .u8 r).size=72:=by rw[aP,a]
 clear c a f;go_in;go_wp2_with fail;rw[gR];have a:(#[I .u64 0,I .u64 0,I .u64 0,I .u64 0,I .u64 0,I .u64 0,I .u64 0,I .u64 0]:Array Ms)=aD .u64 (eW (fun t=>((gU r i t).1:Int)) 8 0):=by rw[DU];rfl
 rw[a];clear a;obtain⟨w0,a⟩:∃W,W=((w.alloc (O (aD .u8 r) 79)).alloc (O (aD .u8 (Nd 64 0)) 38)).alloc (O (aD .u64 (eW (fun t=>((gU r i t).1:Int)) 8 0)) 302):=⟨_,rfl⟩;rw[←a];have c:w0.heap[w.heap.size]?=S (O (aD .u8 r) 79):=by rw[a,aV _ _ _ (by simp;omega),aV _ _ _ (by simp)];exact aG _ _ _ rfl
 have d:w0.heap[w.heap.size+1]?=S (O (aD .u8 (Nd 64 0)) 38):=by rw[a,aV _ _ _ (by simp)];exact aG _ _ _ (by simp)
 have f:w0.heap[w.heap.size+1+1]?=S (O (aD .u64 (eW (fun t=>((gU r i t).1:Int)) 8 0)) 302):=by rw[a];exact aG _ _ _ (by simp)
 have k0:aC w w0:=by rw[a];exact kS
 have s0:w0.heap.size=w.heap.size+3:=by rw[a];simp
 have V:=Hd3 c d f;clear a c d f;go_loopw [10,21] (fun c a W=>∃(m:Nat) (bd:Option Addr) (bm:Nat),m≤8∧a=I Z m∧c=.slice bd m bm∧eV W (w.heap.size+3) (.slice bd m bm) ((Nf m).map fun t=>(gU r i t).2)∧aC w W∧W.heap[w.heap.size]?=S (O (aD .u8 r) 79)∧W.heap[w.heap.size+1]?=S (O (aD .u8 (Nd 64 0)) 38)∧W.heap[w.heap.size+1+1]?=S (O (aD .u64 (eW (fun t=>((gU r i t).1:Int)) 8 m)) 302)∧w.heap.size+3≤W.heap.size) fun _ a _=>8-(intOf a).toNat
 case atStart=>exact⟨0,N,0,by omega,rfl,rfl,Mr.ownsRow_nil _ _ _ _,k0,V.out.1,V.out.2.1,V.out.2.2,by omega⟩
 case round=>
  obtain⟨m,bd,bm,hk,rfl,rfl,h,a,x,j,k,an⟩:=hrel;by_cases o:m<8
  ·have ar:(m:Int)<8:=by omega
   have av:(m:Int)<jA 1:=ar;have u:=pX r 9 m (by rw[v.out.1];omega);have y:=BD v.out.2 9 m (by omega);have HW:=aA fun w=>xG r v.out.1 1 9 m rfl av w;have B:=aA fun(bb:Ms) (c:Mr) (d:aC w c) (f:iU bb (cG r 9 m) c)=>Bi (X:=X) (H:=H) (C:=C) (F:=F) (g:=g) (dI (cG r 9 m)) (by rw[lH];exact u) (sM y u) i bb c (HC.out.keeps d) (f.rd (by rw[u];exact y));have hx:=VU v.out.1 v.out.2 i m o;have HU:=aH (QH (fun t=>((gU r i t).1:Int)) 8 m o) (MK (fun t=>(gU r i t).2) m);have z:=aA o;have L0:=Lw x 72 rz;have G:=eQ h a x j k an;replace B:Hid (∀(bb:Ms) (c:Mr),aC w c→iU bb (cG r 9 m) c→Mt Y 183 #[.pointer (S ⟨X,0,N⟩),bb,I Z i] c fun e d=>e=E (.tuple #[.int .u64 (gU r i m).1,I Z (gU r i m).2])∧Mu c.heap.size c d):=B;generalize gU r i m=bs at*;obtain⟨D,y2⟩:=bs;simp only at B HU hx;have bn:w.heap.size+1+1<wr.heap.size:=aB k;clear h a x j k u y o;go_wp2_with fail;refine(HW.out _).mono ?_;rintro e J ⟨bb,rfl,hv,c⟩;have k1:=Kc G.out.2.1 c;have ba:=aA (B.out bb J k1 hv);have G1:=aH k1 c;clear hv c k1 L0;go_wp2_with fail;refine ba.out.mono ?_;rintro e L ⟨rfl,M⟩;have⟨h,a,x,j,k,_⟩:=G.out;have d:aC wr L:=Kc G1.out.2 M;have A:=h.keeps d;unfold eV at A;rw[Np,List.length_range]at A;have P:=aE d x;have Q:=aE d j;have q:=aE d k;have c2:=Cw q m;have f2:=Fw q m;have z2:=aB q;obtain⟨R,T⟩:∃R,(aD .u64 (eW (fun t=>((gU r i t).1:Int)) 8 m))[m]?=S R:=⟨_,Array.getElem?_eq_getElem (by rw[aP,tF];exact z.out)⟩;rw[T]at c2;have s:aF (fun b=>b=w.heap.size+1+1) L (L.setCell ⟨w.heap.size+1+1,m,N⟩ (.int .u64 (D:Int))):=aF.setCell (cw:=fun b=>b=w.heap.size+1+1) Cl (p:=⟨w.heap.size+1+1,m,N⟩) (.inl rfl) _;have f:=(h.keeps d).chg s (fun g n=>by have n:g=w.heap.size+1+1:=n;omega);unfold eV at f;rw[Np,List.length_range]at f;have G2:=eP f (K.set (Kc a d) (p:=⟨w.heap.size+1+1,m,N⟩) (by show w.heap.size≤w.heap.size+1+1;omega) (.int .u64 (D:Int))) (aJ s P (by omega)) (aJ s Q (by omega)) (Hs m (.int .u64 (D:Int)) q);rw[Bt,HU.out.1]at G2;have br:=Ng d.size s.size;clear h a x j k d A P Q q T M f;go_upto_region 9 with fail;clear c2 f2 z2 s;generalize L.setCell ⟨w.heap.size+1+1,m,N⟩ (.int .u64 (D:Int))=bv at*;go_wp2_with(at_builtin;refine wpList_append_own_at _ rfl _ _ 54 rfl (w.heap.size+3) 3 i0 _ 1 8 underlying54 aa ab ad ae rfl (by decide) _ _ _ rfl (Mr.ownsRow.alloc G2.out.1 _) ⟨bv.heap.size,0,N⟩ 1 1 [I Z y2] rfl rfl (cell_one_new _ _ _) (by simp[Ni]) (by unfold maxLen;omega) (by omega) (by simp;omega) ?_;intro v' w6 l n _ U;obtain⟨a6,c6,rfl⟩:=own_slice l;have H6:=aH l n;clear l n U);go_roundw
   case rel=>
    have⟨q,s,h,j,k⟩:=G2.out;have c:∀o,(Nh bd m bm).ownBlock=S o→w.heap.size+3≤o:=fun o d=>(Mr.ownsRow.lt q o d).1;have a:=H6.out.2;have f:=a.size;refine⟨m+1,a6,c6,by have:=z.out;omega,by go_num,rfl,?_,sI (Ka s) a fun o d=>Ng (by omega) (c o d),?_,?_,?_,?_⟩
    ·unfold eV;rw[Np,List.length_range,HU.out.2,List.map_append];exact H6.out.1
    ·exact eS a ((aV _ _ _ (aB h)).trans h) (fun e=>by have:=c _ e.symm;omega)
    ·exact eS a ((aV _ _ _ (aB j)).trans j) (fun e=>by have:=c _ e.symm;omega)
    ·exact eS a ((aV _ _ _ (aB k)).trans k) (fun e=>by have:=c _ e.symm;omega)
    ·simp at f;omega
   case measure=>have:=z.out;simp[intOf];omega
  ·have c:m=8:=by omega
   subst c;clear o;rw[IV]at k;have⟨o,c⟩:=Ex ((Nf 8).map fun t=>((gU r i t).1:Int));have q:o.length=8:=by rw[c];rfl
   have u:=aA fun w=>ia o q (fun t d=>⟨(gU r i t).1,by rw[c];simp[Mx,d],VU v.out.1 v.out.2 i t d⟩) w;rw[←c]at k;have y:Hid ((jE r i).1=(Nf 64).map (kC o)):=aA (by rw[c];rfl);have z:Hid ((jE r i).2=(Nf 8).map fun t=>(gU r i t).2):=aA rfl;have⟨d,f⟩:=Ex ((Nf 64).map (kC o));unfold QS at u;rw[←f]at u y;have l:d.length=64:=by rw[f];simp
   have A:=Lw k 8 (by rw[aP,q]);have G:=Hd3 h a j;have D:=aB j;have z2:=aB k;have B:(aD .u8 d).size=64:=by rw[aP,l]
   clear h a x j k c f;go_wp2_with fail;refine(u.out _).mono ?_;rintro e J ⟨rfl,c⟩;have⟨h,a,j⟩:=G.out;have k:=aE c j;have x:=Sw k (aD .u8 d) (by rw[aP,aP,l];simp) (dG _ _);have s:aF (fun b=>b=w.heap.size+1) J (J.setRow (w.heap.size+1) (aD .u8 d)):=⟨rfl,rfl,rfl,by simp[Mr.setRow],fun b _ f=>So f⟩;have f:=(h.keeps c).chg s (fun g n=>by have n:g=w.heap.size+1:=n;omega);have n:=Hd3 (Hw k (aD .u8 d)) f (Ob (Kc a c) (by omega:w.heap.size≤w.heap.size+1) (aD .u8 d));clear h a j k s f c A;go_wp2_with fail;refine My (lin.iF results137 _ _ (w.heap.size+1) 38 (aD .u8 d) (0,0) (.array 64 5) rfl n.out.1 (by kernel_rfl) rfl (by rw[B];kernel_rfl)) rfl ⟨.slice bd 8 bm,?_,?_,n.out.2.2⟩
   ·rw[y.out];rfl
   ·rw[z.out];exact n.out.2.1.mono (by omega)
theorem tU {r:List Int} (b:r.length=72) (i k:Nat) (c:k<2):(fU r i k).1.length=32:=by
 unfold fU o7;simp only;have a:=pX r 36 k (by omega);rw[List.length_drop];unfold mE;split
 ·rw[BM,lH,a]
 ·rw[lH,a]
theorem Bv {r:List Int} (g:r.length=72) (i k:Nat) (m:k<2):dC (iD r i).1 k=eN (fU r i k).1:=by
 have a:=tU g i 0 (by omega);have h:=tU g i 1 (by omega);have e:(iD r i).1=eN (fU r i 0).1++eN (fU r i 1).1:=by unfold iD eN;exact List.map_append
 rw[e];rw[←o8]at a h;have d:k=0∨k=1:=by omega
 rcases d with rfl|rfl
 ·generalize eN (fU r i 0).1=l at*;generalize eN (fU r i 1).1=b at*;refine List.ext_getElem (by rw[iS,a]) fun j c f=>?_;have:=pV (l++b) 0 j (by omega);rw[Mx,Nn c,Mx,List.getElem?_append_left (by omega),Nn (by omega)]at this;simpa using this
 ·generalize eN (fU r i 0).1=l at*;generalize eN (fU r i 1).1=b at*;refine List.ext_getElem (by rw[iS,h]) fun j c f=>?_;have:=pV (l++b) 1 j (by omega);rw[Mx,Nn c,Mx,List.getElem?_append_right (by omega),a,show 32*1+j-32=j by omega,Nn (by omega)]at this;simpa using this
theorem Bw {t:Nat} {f:Nat→Int} {b:List Int} {c:Array Ms} (h:k<2) (d:(aD .u8 b).size=32) (i:W.heap[B]?=S (O (aD .u8 (eW f 64 (32*k))) t))
 (a:(splice (aD .u8 (eW f 64 (32*k))).toList (32*k) (aD .u8 b).toList).toArray=c):(Me ⟨B,k*32,N⟩ (aD .u8 b).toList 0).run Y W=.ok () (W.setRow B c):=by
 have e:=Mo (P:=Y) B (k*32) t (aD .u8 b).toList 0 _ W i (by rw[Oj,d,aP,tF];omega) (by
  intro j g;have:=dG .u8 b;rw[Array.all_eq_true']at this
  exact this j (by simpa using g))
 rw[e,←a];unfold splice;rw[List.append_assoc,Nat.add_zero,Nat.mul_comm k 32]
theorem Bx {X:Nat} (r:List Int) (a:r.length=72) (h:aX 72 r) (i:Nat) (w:Mr) (c:kG X H C F g w):Mt Y 137 #[.pointer (S ⟨X,0,N⟩),I Z 2,.agg (aD .u8 r),I Z i] w (ML w (iD r i)):=by
 obtain⟨i0,ab,ad,ae,an⟩:=info_parts AY;have HC:=aA c;have A:=aH a h;have rz:(aD .u8 r).size=72:=by rw[aP,a]
 clear c a h;go_in;go_wp2_with fail;rw[gR];have⟨c,a⟩:=Ex (iD r i).1;have J:=aA a;clear a;obtain⟨w0,a⟩:∃W,W=((w.alloc (O (aD .u8 r) 79)).alloc (O (aD .u8 (Nd 64 0)) 38)).alloc (O (aD .u8 (Nd 64 0)) 306):=⟨_,rfl⟩;rw[←a];have d:w0.heap[w.heap.size]?=S (O (aD .u8 r) 79):=by rw[a,aV _ _ _ (by simp;omega),aV _ _ _ (by simp)];exact aG _ _ _ rfl
 have f:w0.heap[w.heap.size+1]?=S (O (aD .u8 (Nd 64 0)) 38):=by rw[a,aV _ _ _ (by simp)];exact aG _ _ _ (by simp)
 have h:w0.heap[w.heap.size+1+1]?=S (O (aD .u8 (eW (fun t=>c.getD t 0) 64 0)) 306):=by rw[DU,a];exact aG _ _ _ (by simp)
 have k0:aC w w0:=by rw[a];exact kS
 have s0:w0.heap.size=w.heap.size+3:=by rw[a];simp
 have HQ:=Hd3 d f h;clear a d f h;go_loopw [10,45] (fun d a W=>∃(p:Nat) (bs:Option Addr) (bv:Nat),p≤2∧a=I Z p∧d=.slice bs p bv∧eV W (w.heap.size+3) (.slice bs p bv) ((Nf p).map fun t=>(fU r i t).2)∧aC w W∧W.heap[w.heap.size]?=S (O (aD .u8 r) 79)∧W.heap[w.heap.size+1]?=S (O (aD .u8 (Nd 64 0)) 38)∧W.heap[w.heap.size+1+1]?=S (O (aD .u8 (eW (fun t=>c.getD t 0) 64 (32*p))) 306)∧w.heap.size+3≤W.heap.size) fun _ a _=>2-(intOf a).toNat
 case atStart=>exact⟨0,N,0,by omega,rfl,rfl,Mr.ownsRow_nil _ _ _ _,k0,HQ.out.1,HQ.out.2.1,HQ.out.2.2,by omega⟩
 case round=>
  obtain⟨p,bs,bv,hk,rfl,rfl,m,a,B,j,n,ar⟩:=hrel;by_cases l:p<2
  ·have av:(p:Int)<2:=by omega
   have ba:(p:Int)<jA 2:=av;have z:=pX r 36 p (by rw[A.out.1];omega);have K:=BD A.out.2 36 p (by omega);have HW:=aA fun w=>xG r A.out.1 2 36 p rfl ba w;have HB:=aA fun(bb:Ms) (d:Mr) (k:aC w d) (h:iU bb (cG r 36 p) d)=>Bk (X:=X) (H:=H) (C:=C) (F:=F) (g:=g) (dI (cG r 36 p)) (by rw[lH];exact z) (sM K z) i bb d (HC.out.keeps k) (h.rd (by rw[z];exact K));have hm:=Bv A.out.1 i p l;rw[←J.out]at hm;have L:=QU c p l;rw[hm]at L;have bd:(eN (fU r i p).1).length=32:=by rw[o8];exact tU A.out.1 i p l
   have HU:=aH L (MK (fun t=>(fU r i t).2) p);have M:=aA l;have L0:=Lw B 72 rz;have G:=eQ m a B j n ar;replace HB:Hid (∀(bb:Ms) (d:Mr),aC w d→iU bb (cG r 36 p) d→Mt Y 185 #[.pointer (S ⟨X,0,N⟩),bb,I Z i] d fun e f=>e=E (.tuple #[.agg (aD .u8 (eN (fU r i p).1)),I Z (fU r i p).2])∧Mu d.heap.size d f):=aA (fun bb d k h=>by rw[←MJ];exact HB.out bb d k h);generalize eN (fU r i p).1=bw at*;generalize(fU r i p).2=y2 at*;have bz:w.heap.size+1+1<wr.heap.size:=aB n;have y:(aD .u8 bw).size=32:=by rw[aP,bd]
   clear m a B j n z K l hm L;go_wp2_with fail;refine(HW.out _).mono ?_;rintro e T ⟨bb,rfl,hv,d⟩;have k1:=Kc G.out.2.1 d;have bm:=aA (HB.out bb T k1 hv);have G1:=aH k1 d;clear hv d k1 L0;go_wp2_with fail;refine bm.out.mono ?_;rintro e D ⟨rfl,P⟩;have⟨m,a,B,j,n,_⟩:=G.out;have f:aC wr (D.alloc (O (aD .u8 bw) 248)):=Ka (Kc G1.out.2 P);have hS:=J4 bw y D;rw[←DZ]at hS;have q:=aE f B;have s:=aE f j;have u:=aE f n;have U:(D.alloc (O (aD .u8 bw) 248)).heap[D.heap.size]?=_:=aG _ _ _ rfl;have v:=m.keeps f;have R:=Kc a f;have bn:=f.size;have br:w.heap.size+1+1<D.heap.size:=by have:aC wr D:=Kc G1.out.2 P;have:=this.size;omega
   have V:=eQ v R q s u U;clear m a B j n f q s u U P v R;go_upto_region 17 with fail;have L7:=Lw V.out.2.2.2.2.2 32 y;have⟨cN,Q⟩:=Ex (aD .u8 (eW (fun t=>c.getD t 0) 64 (32*(p+1))));have SX:=Bw M.out y V.out.2.2.2.2.1 (HU.out.1.trans Q.symm);have HN:=aA Q;clear Q;clear hS;generalize D.alloc (O (aD .u8 bw) 248)=bx at*;have x:aF (fun b=>b=w.heap.size+1+1) bx (bx.setRow (w.heap.size+1+1) cN):=⟨rfl,rfl,rfl,by simp[Mr.setRow],fun b _ h=>So h⟩;have⟨v,R,q,s,u,U⟩:=V.out;have h:=v.chg x (fun g l=>by have l:g=w.heap.size+1+1:=l;omega);unfold eV at h;rw[Np,List.length_range]at h;have G3:=eP h (Ob R (by omega:w.heap.size≤w.heap.size+1+1) cN) (aJ x q (by omega)) (aJ x s (by omega)) (Hw u cN);have cc:=Ng bn x.size;clear v R q s u U h x V;go_upto_region 18 with fail;clear L7 SX;generalize bx.setRow (w.heap.size+1+1) cN=bx at*;go_wp2_with(at_builtin;refine wpList_append_own_at _ rfl _ _ 54 rfl (w.heap.size+3) 3 i0 _ 1 8 underlying54 ab ad ae an rfl (by decide) _ _ _ rfl (Mr.ownsRow.alloc G3.out.1 _) ⟨bx.heap.size,0,N⟩ 1 1 [I Z y2] rfl rfl (cell_one_new _ _ _) (by simp[Ni]) (by unfold maxLen;omega) (by omega) (by simp;omega) ?_;intro v' w6 k o _ aa;obtain⟨a6,c6,rfl⟩:=own_slice k;have H6:=aH k o;clear k o aa);go_roundw
   case rel=>
    have⟨n,s,l,m,f⟩:=G3.out;rw[HN.out]at f;have d:∀q,(Nh bs p bv).ownBlock=S q→w.heap.size+3≤q:=fun q h=>(Mr.ownsRow.lt n q h).1;have a:=H6.out.2;have j:=a.size;refine⟨p+1,a6,c6,by have:=M.out;omega,by go_num,rfl,?_,sI (Ka s) a fun q h=>Ng (by omega) (d q h),?_,?_,?_,?_⟩
    ·unfold eV;rw[Np,List.length_range,HU.out.2,List.map_append];exact H6.out.1
    ·exact eS a ((aV _ _ _ (aB l)).trans l) (fun e=>by have:=d _ e.symm;omega)
    ·exact eS a ((aV _ _ _ (aB m)).trans m) (fun e=>by have:=d _ e.symm;omega)
    ·exact eS a ((aV _ _ _ (aB f)).trans f) (fun e=>by have:=d _ e.symm;omega)
    ·simp at j;omega
   case measure=>have:=M.out;simp[intOf];omega
  ·have d:p=2:=by omega
   subst d;clear l;have f:c.length=64:=by rw[J.out];unfold iD;rw[o8,Nr,tU A.out.1 i 0 (by omega),tU A.out.1 i 1 (by omega)]
   have d:eW (fun t=>c.getD t 0) 64 (32*2)=c:=by rw[IV];refine List.ext_getElem (by simp[f]) fun q k h=>?_;simp[Mx,h]
   rw[d]at n;have o:=aA fun w=>ik c f w;have q:=J;have s:Hid ((iD r i).2=(Nf 2).map fun t=>(fU r i t).2):=aA rfl;unfold QW at o;have u:=Lw n 64 (by rw[aP,f]);have G:=Hd3 m a j;have x:=aB j;have y:=aB n;have v:(aD .u8 c).size=64:=by rw[aP,f]
   clear m a B j n d;go_wp2_with fail;refine(o.out _).mono ?_;rintro e T ⟨rfl,d⟩;have⟨m,a,j⟩:=G.out;have k:=aE d j;have SX:=Sw k (aD .u8 c) (by rw[aP,aP,f];simp) (dG _ _);have n:aF (fun b=>b=w.heap.size+1) T (T.setRow (w.heap.size+1) (aD .u8 c)):=⟨rfl,rfl,rfl,by simp[Mr.setRow],fun b _ h=>So h⟩;have h:=(m.keeps d).chg n (fun g l=>by have l:g=w.heap.size+1:=l;omega);have l:=Hd3 (Hw k (aD .u8 c)) h (Ob (Kc a d) (by omega:w.heap.size≤w.heap.size+1) (aD .u8 c));clear m a j k n h d u;go_wp2_with fail;refine My (lin.iF results137 _ _ (w.heap.size+1) 38 (aD .u8 c) (0,0) (.array 64 5) rfl l.out.1 (by kernel_rfl) rfl (by rw[v];kernel_rfl)) rfl ⟨.slice bs 2 bv,?_,?_,l.out.2.2⟩
   ·rw[←q.out];rfl
   ·rw[s.out];exact l.out.2.1.mono (by omega)
theorem MN {c:Mr} {R1 a t1 t2 n1 n2:Nat} {z1 z2 c1 c2:Array Ms} (d:c.heap[R1]?=S (O z1 t1)) (e:c.heap[a]?=S (O z2 t2))
 (g:z1.size=c1.size) (h:z2.size=c2.size) (i:c1.all (·.oneCell')=true) (j:c2.all (·.oneCell')=true) (n:R1≠a):
 (Me ⟨R1,0,N⟩ c1.toList 0).run Y c.drew=.ok () (c.drew.setRow R1 c1)∧
 (Me ⟨a,0,N⟩ c2.toList 0).run Y (c.drew.setRow R1 c1)=.ok () ((c.drew.setRow R1 c1).setRow a c2)∧
 Hid (((c.drew.setRow R1 c1).setRow a c2).heap[R1]?=S (O c1 t1)∧((c.drew.setRow R1 c1).setRow a c2).heap[a]?=S (O c2 t2)∧aF (fun b=>b=R1∨b=a) c ((c.drew.setRow R1 c1).setRow a c2)):=by
 have k:aC c c.drew:=Kd Kr;have d:=aE k d;have e:=aE k e;have f:=(setRow_other c.drew R1 a c1 (Ne.symm n)).trans e;refine⟨jV c.drew R1 z1 c1 t1 d g i,jV (c.drew.setRow R1 c1) a z2 c2 t2 f h j,aA ⟨(setRow_other _ a R1 c2 n).trans (Hw d c1),Hw f c2,?_⟩⟩;exact JY k _ _ _ _
theorem FD {a:Mr} {R1 A1 A2 t1 t2 n1 n2:Nat} {c1 c2:Array Ms} (b:Array Ms) (e:a.heap[A1]?=S (O c1 t1)) (c:a.heap[A2]?=S (O c2 t2)) (f:c1.size=n1) (d:c2.size=n2) (n:A2≠R1):(Mc ⟨A1,0,N⟩ 0 n1 #[]).run Y a.drew=.ok c1 a.drew∧(Mc ⟨A2,0,N⟩ 0 n2 #[]).run Y a.drew=.ok c2 a.drew∧
                                                                                                                                                                           (Mc ⟨A2,0,N⟩ 0 n2 #[]).run Y (a.drew.setRow R1 b)=.ok c2 (a.drew.setRow R1 b):=by
 have g:aC a a.drew:=Kd Kr;exact⟨fJ _ _ _ t1 (0,0) (aE g e) n1 f,fJ _ _ _ t2 (0,0) (aE g c) n2 d,fJ _ _ _ t2 (0,0) ((So n).trans (aE g c)) n2 d⟩
def ln0:List Int:=Nd 64 0
def mV (m:Int) (r:List Int) (i:Nat):List Int×List Int:=if m=1 then jE r i else iD r i
def fZ (m:Int) (r:List Int) (i:Nat):List Int×Int×Int:=(if 2≤(fS (mV m r i).2).1 then ln0 else(mV m r i).1,fS (mV m r i).2)
theorem By {X:Nat} (m:Int) (b:fN m=true) (r:List Int) (c:r.length=72) (d:aX 72 r) (i:Nat) (w:Mr) (e:kG X H C F g w):Mt Y 137 #[.pointer (S ⟨X,0,N⟩),I Z m,.agg (aD .u8 r),I Z i] w (ML w (mV m r i)):=by
 have a:m=1∨m=2:=by unfold fN at b;simpa using b
 rcases a with rfl|rfl
 ·exact Bu r c d i w e
 ·exact Bx r c d i w e
theorem VV (m:Int) (r:List Int) (a:r.length=72) (i:Nat):(mV m r i).1.length=64∧0<(mV m r i).2.length∧(mV m r i).2.length≤8:=by
 unfold mV;split
 ·exact⟨by simp[jE],by simp[jE],by simp[jE]⟩
 ·refine⟨?_,by simp[iD],by simp[iD]⟩;unfold iD;rw[o8,Nr,tU a i 0 (by omega),tU a i 1 (by omega)]
theorem Bz (k:Int):0≤qF k∧qF k≤3:=by unfold qF;split;omega;split;omega;split<;>omega
theorem VW (x:Int×Int×Nat):0≤mU x∧mU x≤3:=by unfold mU;split;omega;split;omega;split<;>omega
theorem Ca (m:Int) (r:List Int) (i:Nat):∀b∈(mV m r i).2,0≤b∧b≤3:=by
 intro b a;unfold mV at a;split at a
 ·obtain⟨c,_,rfl⟩:=List.mem_map.1 a;exact Bz _
 ·obtain⟨c,_,rfl⟩:=List.mem_map.1 a;exact VW _
theorem FE (W:Mr):(zeroValue 38).run Y W=.ok (.agg (aD .u8 ln0)) W:=by kernel_rfl
theorem Cb {X:Nat} (m:Int) (f:fN m=true) (r:List Int) (d:r.length=72) (h:aX 72 r) (i:Nat) (w:Mr) (k:kG X H C F g w):Mt Y 99 #[.pointer (S ⟨X,0,N⟩),I Z m,.agg (aD .u8 r),I Z i] w fun e a=>e=E (.tuple #[.agg (aD .u8 (fZ m r i).1),.agg #[I Z (fZ m r i).2.1,I Z (fZ m r i).2.2]])∧Mu w.heap.size w a:=by
 have HM:=aA fun w=>DP f w;have HD:=aA fun a (b:aC w a)=>By (X:=X) (H:=H) (C:=C) (F:=F) (g:=g) m f r d h i a (k.keeps b);obtain⟨M,x,l3⟩:=VV m r d i;have b:=Ca m r i;have t:Hid (fZ m r i=(if 2≤(fS (mV m r i).2).1 then ln0 else(mV m r i).1,fS (mV m r i).2)):=aA rfl;generalize mV m r i=a at*;obtain⟨l,Q⟩:=a;simp only at M x l3 b t;have rz:(aD .u8 r).size=72:=by rw[aP,d]
 have o:(aD .u8 l).size=64:=by rw[aP,M]
 have R:(aD .u8 ln0).size=64:=by rw[aP];rfl
 have T:=aA fun(n c:Nat) (a:Mr)=>Bp Q (by omega) (fun p j=>by have:=b p j;unfold bN;omega) n c a;generalize fS Q=j at*;obtain⟨a,c⟩:=j;simp only at T t;clear k b f h d;have h:aC w (((w.alloc (O (aD .u8 r) 79)).alloc (O (aD .u8 ln0) 38)).alloc (O #[I Z 0,I Z 0] 144)):=kS;go_in;go_wp2_with fail;rw[gR];refine(HM.out _).mono ?_;rintro e U ⟨rfl,f⟩;have j:=aE f (show(((w.alloc (O (aD .u8 r) 79)).alloc (O (aD .u8 ln0) 38)).alloc (O #[I Z 0,I Z 0] 144)).heap[w.heap.size]?=_ from nE rfl);have d:=aE f (show(((w.alloc (O (aD .u8 r) 79)).alloc (O (aD .u8 ln0) 38)).alloc (O #[I Z 0,I Z 0] 144)).heap[w.heap.size+1]?=_ from gQ (by simp));have b:=aE f (show(((w.alloc (O (aD .u8 r) 79)).alloc (O (aD .u8 ln0) 38)).alloc (O #[I Z 0,I Z 0] 144)).heap[w.heap.size+1+1]?=_ from aG _ _ _ (by simp));have k:=Kc h f;have B:=Lw j 72 rz;have u:=Hd3 d b k;have z1:=aB b;clear f j d b k h;go_wp2_with fail;refine(HD.out _ u.out.2.2).mono ?_;rintro e f ⟨ae,rfl,p,b⟩;simp only at p ⊢;have A:(Me ⟨f.heap.size,0,N⟩ (aD .u8 l).toList 0).run Y (f.alloc (O (aD .u8 (Nd 64 0)) 38))=.ok () (f.alloc (O (aD .u8 l) 38)):=Mi f 38 _ (aD .u8 l) (by rw[o];kernel_rfl) (R.trans o.symm) (dG _ _);rw[←gR]at A;have d:aC U (f.alloc (O (aD .u8 l) 38)):=Ka b;have j:=p.keeps (K.alloc (K.refl f) (O (aD .u8 l) 38));have h:(f.alloc (O (aD .u8 l) 38)).heap[f.heap.size]?=_:=aG _ _ _ rfl;have aa:U.heap.size≤f.heap.size:=b.size;rcases j.cases with⟨_,e0⟩|⟨g8,v,s,q,k,y,z,n⟩
 ·rw[e0]at x;simp at x
 subst s;have L:=aA (T.out g8 v _ k n);have s:=bT (aE d u.out.1) (aE d u.out.2.1) (Kc u.out.2.2 d) h;clear j d b p h q y z n k B;go_wp2_with fail;refine L.out.mono ?_;rintro e j ⟨rfl,p⟩;have V:(Me ⟨j.heap.size,0,N⟩ [I Z a,I Z c] 0).run Y (j.alloc (O #[I Z 0,I Z 0] 144))=.ok () (j.alloc (O #[I Z a,I Z c] 144)):=Mi j 144 _ #[I Z a,I Z c] (by kernel_rfl) rfl (by simp[Ni]);have q:aC (f.alloc (O (aD .u8 l) 38)) (j.alloc (O #[I Z a,I Z c] 144)):=Ka p;have d:=aE q s.out.1;have b:=aE q s.out.2.1;have h:=aE q s.out.2.2.2;have k:(j.alloc (O #[I Z a,I Z c] 144)).heap[j.heap.size]?=_:=aG _ _ _ rfl;have n:=Kc s.out.2.2.1 q;have y:=Cw k 0;simp at y;have ab:f.heap.size<j.heap.size:=aB (aE (show aC (f.alloc (O (aD .u8 l) 38)) j from p) s.out.2.2.2);have W:=eP d b h k n;clear q d b h k n p A;by_cases p:2≤a
 ·have z:=decide_eq_true p
  have q:Hid (fZ m r i=(ln0,a,c)):=aA (by rw[t.out,Fp p]);clear p;go_upto_region 6 with fail;clear V y z;generalize j.alloc (O #[I Z a,I Z c] 144)=ad at*;have⟨d,b,h,k,n⟩:=W.out;have zl:=FE;obtain⟨-,L4,L5⟩:=FD (n1:=64) (n2:=2) (R1:=w.heap.size+1) (aD .u8 ln0) h k o rfl (by omega);obtain⟨SX,SY,A⟩:=MN (c1:=aD .u8 ln0) (c2:=#[I Z a,I Z c]) (n1:=0) (n2:=0) d b rfl rfl (dG _ _) (by simp[Ni]) (by omega);have x1:=aB d;have x2:=aB b;have B:=aA n;clear d b h k n;go_region
  go_wp2_with fail;have⟨D,G,J⟩:=A.out;refine My (CB (P:=Y) results99 _ _ (w.heap.size+1) 38 (aD .u8 ln0) (0,0) (.array 64 5) (w.heap.size+1+1) 144 #[I Z a,I Z c] (0,0) _ rfl D (by kernel_rfl) rfl (by kernel_rfl) rfl G underlying144 rfl (by kernel_rfl)) rfl ⟨by rw[q.out],?_⟩;exact((aF.of_below B.out fun _=>False).next J fun i b=>.inr (by have b:i=w.heap.size+1∨i=w.heap.size+1+1:=b;omega)).below Nl fun i k=>k.elim
 ·have z:=decide_eq_false p
  have q:Hid (fZ m r i=(l,a,c)):=aA (by rw[t.out,Fn p]);clear p;go_upto_region 7 with fail;clear V y z;generalize j.alloc (O #[I Z a,I Z c] 144)=ad at*;have⟨d,b,h,k,n⟩:=W.out;obtain⟨p,L4,L5⟩:=FD (n1:=64) (n2:=2) (R1:=w.heap.size+1) (aD .u8 l) h k o rfl (by omega);obtain⟨SX,SY,A⟩:=MN (c1:=aD .u8 l) (c2:=#[I Z a,I Z c]) (n1:=0) (n2:=0) d b (R.trans o.symm) rfl (dG _ _) (by simp[Ni]) (by omega);have x1:=aB d;have x2:=aB b;have B:=aA n;clear d b h k n;go_region
  go_wp2_with fail;have⟨D,G,J⟩:=A.out;refine My (CB (P:=Y) results99 _ _ (w.heap.size+1) 38 (aD .u8 l) (0,0) (.array 64 5) (w.heap.size+1+1) 144 #[I Z a,I Z c] (0,0) _ rfl D (by kernel_rfl) rfl (by rw[o];kernel_rfl) rfl G underlying144 rfl (by kernel_rfl)) rfl ⟨by rw[q.out],?_⟩;exact((aF.of_below B.out fun _=>False).next J fun i b=>.inr (by have b:i=w.heap.size+1∨i=w.heap.size+1+1:=b;omega)).below Nl fun i k=>k.elim
end
section
def qG (w:Mr):List Obj→Mr
 |[]=>w
 |o::l=>qG (w.alloc o) l
theorem MO:∀(l:List Obj) (w:Mr),aC w (qG w l)
 |[],w=>K.refl w
 |a::l,w=>Kc (K.alloc (K.refl w) a) (MO l _)
theorem VX:∀(l:List Obj) (w:Mr),(qG w l).heap.size=w.heap.size+l.length
 |[],w=>rfl
 |a::l,w=>by show(qG (w.alloc a) l).heap.size=_;rw[VX l,Mr.size_alloc,Oc];omega
theorem MP:∀(l:List Obj) (w:Mr) (i n:Nat) (o:Obj),l[i]?=S o→n=w.heap.size+i→(qG w l).heap[n]?=S o
 |[],w,i,n,o,b,_=>by simp at b
 |c::l,w,0,n,o,b,a=>by
  have e:c=o:=by simpa using b
  subst e;exact aE (MO l (w.alloc c)) (aG w c n a)
 |c::l,w,i+1,n,o,b,a=>MP l (w.alloc c) i n o (by simpa using b) (by rw[Mr.size_alloc];omega)
theorem VY {w0:Mr} {l:List Obj} (a:qG w l=w0):aC w w0∧w0.heap.size=w.heap.size+l.length∧∀(i n:Nat) (o:Obj),l[i]?=S o→n=w.heap.size+i→w0.heap[n]?=S o:=by subst a;exact⟨MO l w,VX l w,MP l w⟩
end
section
open Go.RowKit Go.Shelf lin
attribute [local go_sem] Oper.semAt_some Mh
attribute [local simp] Mf Mg
def qH (l:List Int) (i:Nat) (p:Bool) (k:Nat):List Int:=eN (kM (wordV l k)++[hchk (wordV l k) (parN i) (flagN p)])
def pG (l:List Int) (i:Nat) (p:Bool):Nat→List Int
 |0=>kD
 |k+1=>lZ (pG l i p k) 9 k (qH l i p k)
theorem MQ (l:List Int) (i:Nat) (p:Bool) (k:Nat):(qH l i p k).length=9:=by unfold qH;rw[o8,Nr,tT];rfl
theorem CI (l:List Int) (i:Nat) (p:Bool):∀a,a≤8→(pG l i p a).length=72
 |0,_=>pC
 |a+1,b=>by have:=CI l i p a (by omega);show(lZ _ _ _ _).length=_;rw[xJ _ _ _ _ (by rw[MQ,this];omega),this]
theorem VZ {cap:Nat} {xs:List Nat} {base:Nat} (d:W.ownsRow base 5 1 (.slice (S ⟨g,0,N⟩) n cap) n (aT xs)) (a:xs.length=n) (c:0<n):iU (.slice (S ⟨g,0,N⟩) n cap) (eN xs) W:=by
 have e:aT xs=(eN xs).map (I .u8):=by unfold aT eN;rw[List.map_map];rfl
 rw[e]at d;have:=iU.of_own (l:=eN xs) (by rw[o8,a];exact c) (v:=.slice (S ⟨g,0,N⟩) n cap) (b:=base) (W:=W) (by rw[o8,a];exact d);exact this
theorem Cc {X:Nat} (l:List Int) (hl:l.length=64) (d:aX 64 l) (i:Nat) (p:Bool) (w:Mr) (h:kG X H C F g w):Mt Tryz.prog 100 #[.pointer (S ⟨X,0,N⟩),I Z 1,.agg (aD .u8 l),I Z i,.bool p] w fun e k=>e=E (eJ (pG l i p 8))∧Mu w.heap.size w k:=by
 obtain⟨i0,cd,cf,ck,cl⟩:=info_parts lO;have HC:=aA h;have HL:=aH hl d;have lz:(aD .u8 l).size=64:=by rw[aP,hl]
 have xw:=aB h.row;have hw:=h.hs.lt;clear h hl d;refine(Nk (n:=9)).1 ?_;refine callsIn_of_wp_marks func100 rfl trivial ?_;simp only[ntmps100,Nv,Oc,List.length_nil,Nat.reduceAdd,Nat.reduceSub,Array.replicate_succ,Array.replicate_zero,List.push_toArray,List.append_toArray,List.nil_append,List.cons_append];gi_wp2_with fail;refine⟨trivial,?_⟩;have⟨cz,a⟩:=Ey (parN i);have HP:=aA fun w=>VR i w;have HA:=aA a;have a1:=VS i;rw[a]at HP a1;clear a;have f:=fJ (P:=Tryz.prog) (qG w [O #[.pointer (S ⟨X,0,N⟩)] 103,O #[I Z 1] 3,O (aD .u8 l) 38,O #[.bool p] 4,O zeroCells79 79,O zeroCells79 79,O #[I Z (cz:Int)] 3]) (w.heap.size+1+1) _ 38 (0,0) (MP _ w 2 _ _ rfl rfl) 64 lz;simp only[qG]at f;refine((Nk (n:=8)).2 (HP.out _)).mono ?_;rintro e w1 ⟨rfl,rfl⟩;gi_wp2_with fail;refine⟨trivial,?_⟩;refine((Nk (n:=8)).2 (lin.Q7 l _)).mono ?_;rintro e D ⟨rfl,c⟩;have c:qG w [O #[.pointer (S ⟨X,0,N⟩)] 103,O #[I Z 1] 3,O (aD .u8 l) 38,O #[.bool p] 4,O zeroCells79 79,O zeroCells79 79,O #[I Z (cz:Int)] 3,O (aD .u8 l) 38]=D:=c.symm;obtain⟨t,h,a⟩:=VY c;have d:D.heap.size=w.heap.size+8:=h;have J:=a 0 w.heap.size _ rfl rfl;have L:=a 1 (w.heap.size+1) _ rfl rfl;have B2:=a 2 (w.heap.size+1+1) _ rfl rfl;have M:=a 3 (w.heap.size+1+1+1) _ rfl rfl;have Q:=a 4 (w.heap.size+1+1+1+1) _ rfl rfl;have R:=a 5 (w.heap.size+1+1+1+1+1) _ rfl rfl;have T:=a 6 (w.heap.size+1+1+1+1+1+1) _ rfl rfl;have u:=a 7 (w.heap.size+1+1+1+1+1+1+1) _ rfl rfl;have⟨G,U⟩:=Ex D.heap.size;have eG:G=w.heap.size+8:=by omega
 have HX:=mI t J L B2 M Q R T u;simp only[Mr.size_alloc];clear c d t J L B2 M Q R T u a h f;gi_wp2_with fail;have⟨t,J,L,B2,M,Q,R,T,u⟩:=HX.out
 refine J7 9 9 (gf:=188) (lb:=#[.pointer (S ⟨w.heap.size+1+1+1+1+1+1+1,0,N⟩)]) rfl (enters_of func188 (by kernel_rfl) rfl) (lin.tG l) (fun i=>i=w.heap.size+1+1+1+1+1+1+1) (fun i=>i=w.heap.size+1+1+1+1+1+1+1) (fun i e=>by rw[←U];omega) (fun i e=>by rw[←U];omega)
  (fun c a=>(lin.gq l HL.out.1 HL.out.2 _ c (aB (aE a u)) (aE a u)).two)
  (fun aa dd V=>by obtain⟨_,rfl⟩:=lin.QM l aa dd V;rfl)
  (fun i=>i=w.heap.size+1+1+1+1+1) (fun i e=>by rw[←U];omega)
  (fun aa W=>W.heap[w.heap.size+1+1+1+1+1]?=S (O (aD .u8 (pG l i p aa)) 79)∧aF (fun i=>i=w.heap.size+1+1+1+1+1∨w.heap.size+7≤i) D W)
  (fun _ _=>False) (fun aa X a h d=>?keep1) (fun _ _ _ h _=>h) ⟨by rw[R,tP];rfl,Cl⟩ ?round1 ?done1 fun _ _ _ _ h _=>h.elim
 case keep1=>obtain⟨f,j⟩:=h;rw[←U]at d;exact⟨aJ d f (by omega),j.trans (d.mono fun b _ d=>by omega)⟩
 case round1=>
  intro lp aa bz W hx hl hW ab;obtain⟨hk,rfl⟩:=lin.QM l aa bz hx;have ad:=xF HL.out.2 hk;have e9:(pG l i p (aa+1))=lZ (pG l i p aa) 9 aa (qH l i p aa):=rfl;have c:=CI l i p aa (by omega);have HE:=aA e9;unfold qH at HE;rw[HA.out]at HE;clear e9 hx;generalize wordV l aa=bz at*;generalize pG l i p aa=cc at*;gi_wp2_with fail;refine⟨Cl,ab,fun W2 cm q cn=>?_⟩;clear ab q cm;obtain⟨g5,gc⟩:=cn;have kb:∀b f,b<w.heap.size+7→b≠w.heap.size+1+1+1+1+1→D.heap[b]?=S f→W2.heap[b]?=S f:=fun b f d a h=>aJ gc h (by omega);have kW:aC w W2:=((aF.of_below t fun _=>False).next gc fun i d=>.inr (by omega)).below Nl fun i h=>h.elim;have g0:=kb _ _ (by omega) (by omega) J;have f:=kb _ _ (by omega) (by omega) L;have j:=kb _ _ (by omega) (by omega) M;have g6:=kb _ _ (by omega) (by omega) T;have m0:=Cw g0 0;have m1:=Cw f 0;have m3:=Cw j 0;have m6:=Cw g6 0;have mX:=Cw (HC.out.keeps kW).row 0;simp at m0 m1 m3 m6 mX;have z0:=aB g0;have z1:=aB f;have z3:=aB j;have z5:=aB g5;have z6:=aB g6;have zX:=aB (HC.out.keeps kW).row;have rz:(aD .u8 cc).size=72:=by rw[aP,c]
  have LL:∀k,aC W2 k→(Mc ⟨w.heap.size+1+1+1+1+1,0,N⟩ 0 72 #[]).run Tryz.prog k=.ok (aD .u8 cc) k:=fun k hk=>fJ k _ _ 79 (0,0) (aE hk g5) 72 rz;replace LL:=aA LL;gi_wp2_with fail;refine ID (by kernel_rfl) (by kernel_rfl) (iK [0,1,2,3,5,6,7,8,9,10,11] [4,12,13,14,15,16] [17] (by kernel_rfl) ?_);simp only[aM,d8]
  repeat
   with_reducible refine dS fun K a=>?_
   go_simp
   try first
    |(apply Ei
      intro k d;obtain⟨h,m⟩:=d.cells;have o:=LL.out _ d;go_simp
      rfl)
    |(with_reducible refine aQ ?_ ?_;decide)
   refine a _ ?_;clear a K
  with_reducible refine dR ?_
  clear m0 m1 m3 m6 mX z0 z1 z3 z6 zX g0 f j g6;with_reducible refine jX fun W3 ae d a=>?_
  go_simp;go_at_call 142;refine(Bc bz ad _).mono ?_;rintro e w3 ⟨dd,rfl,V,an⟩;have k3:=cH ae an;obtain⟨a3,c3,ev⟩:=own_slice V;subst ev;refine a _ _ k3 ?_;clear a d;with_reducible refine jX fun W4 ar d a=>?_
  go_simp;go_at_call 144;refine(MH p _).mono ?_;rintro e w4 ⟨rfl,rfl⟩;have k4:=cH k3 ar;refine a _ _ k4 ?_;clear a d;with_reducible refine jX fun W5 y d a=>?_
  go_simp;go_at_call 143;refine(VN (H:=H) bz cz (flagN p) ad a1 (by unfold flagN;split;exact Nl;exact Ns _) _ (HC.out.keeps (cH kW (cH k4 y))).hs).mono ?_;rintro e w5 ⟨rfl,av⟩;have k5:=cH (cH k4 y) av;have ba:=cH ar (cH y av);refine a _ _ k5 ?_;clear a d;with_reducible refine jX fun W6 z d a=>?_
  go_simp;have k6:=K.alloc' (cH k5 z) (O #[.int .u8 (hchk bz cz (flagN p):Nat)] 5);refine a _ _ k6 ?_;clear a d;have c8:=FA bz cz (flagN p);have⟨v,cp⟩:=Ey (hchk bz cz (flagN p));rw[cp]at HE c8 k6 ⊢;have br:W3.heap.size≤W6.heap.size:=Ng an.size (cH ba z).size;have bs:=ae.size;have bb:=xR V (aF.of_below (cH (cH ba z) (K.alloc' (lY W6) (O #[.int .u8 (v:Nat)] 5))) fun _=>False) fun g h=>h.elim;with_reducible refine jX fun W7 r d a=>?_
  have A:=xR bb (aF.of_below r fun _=>False) fun g h=>h.elim;have cu:W3.heap.size≤W7.heap.size:=Ng br (Nat.le_of_lt (DH r));refine step_append_lies _ (by rfl) (.tmp 32) (.tmp 42) 158 (by rfl) W3.heap.size 5 i0 _ 1 1 underlying158 cd cf ck cl (by rfl) (by decide) (.slice a3 8 c3) 8 (aT (kM bz)) (by rfl) A ⟨W6.heap.size,0,N⟩ 1 1 [.int .u8 (v:Nat)] (by rfl) (by rfl) (Mr.news_of_block (tB r)) (by simp[Ni]) (by decide) (by unfold maxLen;omega) (by omega) cu _ rfl ?_;intro g8 bv w8 m h bw bx;have k8:aC W2 w8:=sI (cH k6 r) h fun j f=>Ng bs (Mr.ownsRow.lt A j f).1;refine a _ _ k8 ?_;clear a d A bb V h bw bx;with_reducible refine jX fun W9 bd d a=>?_
  have o:=xR m (aF.of_below bd fun _=>False) fun g h=>h.elim;have bm:iU (.slice (S ⟨g8,0,N⟩) 9 bv) (eN (kM bz++[v])) W9:=VZ (base:=W3.heap.size) (xs:=kM bz++[v]) (by rw[xS];exact o) (by rw[Nr,tT];rfl) (by decide);go_simp;go_at_call 141;refine(RB cc c 1 9 aa rfl (show(aa:Int)<8 by omega) (eN (kM bz++[v])) (by rw[o8,Nr,tT];rfl) _ _ bm).mono ?_;rintro e w9 ⟨rfl,cv⟩;have k9:=cH (cH k8 bd) cv;refine a _ _ k9 ?_;clear a d o m bm;refine iJ fun cx x=>?_;have B:=aE (cH k9 x) g5;have⟨r2,q⟩:=Ey (lZ cc 9 aa (eN (kM bz++[v])));have bn:r2.length=72:=by rw[←q,xJ _ _ _ _ (by rw[o8,Nr,tT,c];simp;omega),c]
  rw[q]at HE ⊢;have SX:=Sw B (aD .u8 r2) (by rw[aP,aP,c,bn]) (dG _ _);have q5:=Hw B (aD .u8 r2);have k:aF (fun b=>b=w.heap.size+1+1+1+1+1) W2 (cx.setRow (w.heap.size+1+1+1+1+1) (aD .u8 r2)):=(aF.of_below (cH k9 x) _).trans ⟨rfl,rfl,rfl,by simp[Mr.setRow],fun b _ d=>So d⟩;have HZ:=aH q5 k;clear q5 k B;have db:(aD .u8 r2).size=72:=by rw[aP,bn]
  go_wp2_with fail;refine dT ?_;simp only[Exit.inBlock];refine⟨HZ.out.2,?_,gc.trans (HZ.out.2.mono (fun b _ d=>.inl d))⟩;rw[HE.out];exact HZ.out.1
 case done1=>
  rintro v x q ⟨f,j⟩ a;rw[lin.J1]at f;rw[←U]at q;have m:aC w x:=((aF.of_below t fun _=>False).next j fun i d=>.inr (by omega)).below Nl fun i h=>h.elim;have h:=aJ j Q (by omega);have c:=CI l i p 8 (by omega);generalize d:pG l i p 8=cc at*;have r:=aA d;clear d;have rz:(aD .u8 cc).size=72:=by rw[aP,c]
  have y:=Lw f 72 rz;have z:=Sw h (aD .u8 cc) (by rw[tP,aP,aP,c,pC]) (dG _ _);have o:=Hw h (aD .u8 cc);have k:aF (fun b=>b=w.heap.size+1+1+1+1) x (x.setRow (w.heap.size+1+1+1+1) (aD .u8 cc)):=⟨rfl,rfl,rfl,by simp[Mr.setRow],fun b _ d=>So d⟩;have HZ:=Hd3 o (aJ k a (by omega)) (Ob m (by omega:w.heap.size≤w.heap.size+1+1+1+1) (aD .u8 cc));have z1:=aB f;have A:=aB h;clear f j h m t J L B2 M Q R T u o k a;gi_wp2_with fail;have⟨o,a,m⟩:=HZ.out;refine uR [fQ v] _ (⟨v,rfl,by omega,a,by simp,trivial⟩:gN (w.heap.size+8) _ [fQ v]) fun W' d hk=>⟨_,Oa (P:=Tryz.prog) results100 _ _ (w.heap.size+1+1+1+1) 79 (aD .u8 cc) (0,0) (.array 72 5) rfl (hk _ _ o fun s h=>by cases h) (by kernel_rfl) rfl (by rw[rz];kernel_rfl),(by rw[r.out];rfl),m.trans (d.below m.size (fun i h=>by have h:w.heap.size+8≤i:=h;omega))⟩
end
section
open Go.RowKit Go.Shelf lin
section
variable {P:Program}
theorem Cd {ops:Array Oper} {o:Oper} {a:Act} {K:Act→Mr→Prop} {Q:Exit→Act→Mr→Prop} {E:Prop} (w:Mr) (u:o.guard=N) (s x:Operand) (t:TypeId)
 (A:o.op=.call {callee:=.builtin .append,args:=#[s,x],argTypes:=#[t,t]})
 (e:TypeId) (i:TypeInfo) (z:Ms) (size bytes:Nat) (C:P.underlying t=S (.slice e)) (D:P.info? e=S i) (F:i.zero=S z)
 (f:i.size=size) (v:i.bytes=bytes) (y:z.cells.size=size) (R:0<size)
 (B:Addr) (n:Nat) (xs:List Ms) (G:a.eval s=.slice (S B) n n) (g:xs.length=n*size) (l:∀d j,xs[d]?=S j→w.cell? (B.add d)=S j)
 (p:Addr) (m c:Nat) (b:List Ms) (H:a.eval x=.slice (S p) m c) (q:b.length=m*size) (h:∀d j,b[d]?=S j→w.cell? (p.add d)=S j)
 (T:0<m) (j:n+m≤maxLen) (d:(n+m)*bytes≤140737488355328)
 (U:∀k r,r.ownsRow w.heap.size e size (.slice (S ⟨w.heap.size,0,N⟩) (n+m) k) (n+m) (xs++b)→Mu w.heap.size w r→K (a.put o.dst (.slice (S ⟨w.heap.size,0,N⟩) (n+m) k)) r):
 if Region.wanted o (yielded ops a.tmps)=true then Oper.wp P o a w K Q else E:=by
 have J:Region.wanted o (yielded ops a.tmps)=true:=by simp[Region.wanted,u]
 rw[Fp J];subst f;subst v;have k:n+m≤9223372036854775807:=by simp only[maxLen]at j;omega
 have f:(xs++b).length=(n+m)*i.size:=by rw[Nr,g,q,Nat.add_mul]
 have L:=run_append_grow (P:=P) w t o.type e i z C D F B n n xs g l p m c b q h (by omega) (by omega) (growslice_fits (by omega) d);unfold Oper.wp execOp;simp only[A,resolve,invoke,builtin,Sem.run_bind,Sem.run_pure,Result.andThen_ok,List.map_toArray,List.map_cons,List.map_nil,G,H,L];have r:=grownCap_ge w (n+m) n e;have v:grownCap w (n+m) n e≤maxLen:=grownCap_le_maxLen w (n+m) n e j;refine U _ _ ⟨f,.inr ⟨w.heap.size,_,_,rfl,Nl,Go.heap_alloc_new w.drew _,r,v,?_,?_⟩⟩ ⟨rfl,rfl,rfl,by simp,fun V M=>Ha w.drew _ _ M⟩
 ·simp only[Array.size_append,Nv,size_zeroCells,y,g,q,←Nat.add_mul];congr 1;omega
 ·simp only[Array.toList_append,List.append_assoc];rw[←List.append_assoc,←f];exact List.take_left
end
open Go.RowKit Go.Shelf lin
attribute [local go_sem] Oper.semAt_some
attribute [local simp] Mf Mg
attribute [local go_sem] Mh
theorem uS {d v:List Nat} (a:d.length=32) (b:v.length=3):(oJ d v).length=4:=by unfold oJ;simp
def qI (l:List Int) (i:Nat) (p:Bool) (k:Nat):List Int:=eN (oJ (dI (dC l k)) (dM i p)++dI (dC l k))
def pH (l:List Int) (i:Nat) (p:Bool):Nat→List Int
 |0=>kD
 |k+1=>lZ (pH l i p k) 36 k (qI l i p k)
theorem MR (l:List Int) (i:Nat) (p:Bool) (k:Nat):(qI l i p k).length=36:=by unfold qI;rw[o8,Nr,uS (by rw[lH,iS]) rfl,lH,iS]
theorem CJ (l:List Int) (i:Nat) (p:Bool):∀a,a≤2→(pH l i p a).length=72
 |0,_=>pC
 |a+1,b=>by have:=CJ l i p a (by omega);show(lZ _ _ _ _).length=_;rw[xJ _ _ _ _ (by rw[MR,this];omega),this]
theorem yC {l:List Int} (a:aX 64 l) (k:Nat) (d:k<2):aX 32 (dC l k):=fun c b=>by rw[pV l k c b];exact a (32*k+c) (by omega)
theorem yD {n:Nat} {l:List Int} (a:aX n l) (c:l.length=n):eN (dI l)=l:=by
 unfold eN dI;rw[List.map_map];refine List.ext_getElem (by simp) fun d f b=>?_;obtain⟨m,e,_⟩:=a d (by omega);rw[Mx,Nn b]at e;have e:l[d]=(m:Int):=by simpa using e
 simp[e]
theorem Ce {n:Nat} {l:List Int} (b:aX n l) (a:l.length=n):bM (dI l):=sM b a
theorem Cf {X H C F g:Nat} (l:List Int) (hl:l.length=64) (h:aX 64 l) (i:Nat) (p:Bool) (w:Mr) (r:kG X H C F g w):Mt Tryz.prog 100 #[.pointer (S ⟨X,0,N⟩),I .i64 2,.agg (aD .u8 l),I .i64 i,.bool p] w fun e a=>e=E (eJ (pH l i p 2))∧Mu w.heap.size w a:=by
 obtain⟨i0,cf,ck,cl,cm⟩:=info_parts lO;have HC:=aA r;have HL:=aH hl h;have lz:(aD .u8 l).size=64:=by rw[aP,hl]
 have xw:=aB r.row;clear r hl h;refine(Nk (n:=9)).1 ?_;refine callsIn_of_wp_marks func100 rfl trivial ?_;simp only[ntmps100,Nv,Oc,List.length_nil,Nat.reduceAdd,Nat.reduceSub,Array.replicate_succ,Array.replicate_zero,List.push_toArray,List.append_toArray,List.nil_append,List.cons_append];gi_wp2_with fail;refine⟨trivial,?_⟩;have vl:(dM i p).length=3:=rfl;have vb:=qE i p;have HP:=aA fun w=>VP i p w;have HW:=aA (fun R=>show qI l i p R=eN (oJ (dI (dC l R)) (dM i p)++dI (dC l R)) from rfl);generalize dM i p=cc at*;obtain⟨w0,c⟩:∃W,W=qG w [O #[.pointer (S ⟨X,0,N⟩)] 103,O #[I .i64 2] 3,O (aD .u8 l) 38,O #[.bool p] 4,O zeroCells79 79,O zeroCells79 79]:=⟨_,rfl⟩;obtain⟨j,s0,a⟩:=VY c.symm;simp only[qG]at c;rw[←c];have s0:w0.heap.size=w.heap.size+6:=s0;have T:=a 0 w.heap.size _ rfl rfl;have U:=a 1 (w.heap.size+1) _ rfl rfl;have k:=a 2 (w.heap.size+1+1) _ rfl rfl;have B3:=a 3 (w.heap.size+1+1+1) _ rfl rfl;have V:=a 4 (w.heap.size+1+1+1+1) _ rfl rfl;have B5:=a 5 (w.heap.size+1+1+1+1+1) _ rfl rfl;clear a c;refine((Nk (n:=8)).2 (HP.out _)).mono ?_;rintro e t ⟨rfl,c⟩;have r:=cH j c;have m:=aE c k;have v0:(aT cc).toArray.size=3:=by rw[Nv,fC,vl]
 have u:(Me ⟨t.heap.size,0,N⟩ (aT cc).toArray.toList 0).run Tryz.prog (t.alloc (O #[.int .u8 0,.int .u8 0,.int .u8 0] 243))=.ok () (t.alloc (O (aT cc).toArray 243)):=Mi (P:=Tryz.prog) t 243 #[.int .u8 0,.int .u8 0,.int .u8 0] (aT cc).toArray (by rw[v0];kernel_rfl) (by rw[v0];rfl) (wF cc);have v:=fJ (P:=Tryz.prog) (t.alloc (O (aT cc).toArray 243)) _ _ 38 (0,0) (aE aU m) 64 lz;gi_wp2_with fail;refine⟨trivial,?_⟩;refine((Nk (n:=8)).2 (gu l _)).mono ?_;rintro e z ⟨rfl,f⟩;have h:aC (t.alloc (O (aT cc).toArray 243)) z:=by rw[f];exact aU
 have a:aC w0 z:=cH (cH c aU) h;have o:z.heap.size=t.heap.size+2:=by rw[f];simp
 have B6:z.heap[t.heap.size]?=S (O (aT cc).toArray 243):=aE h (aG _ _ _ rfl);have B7:z.heap[t.heap.size+1]?=S (O (aD .u8 l) 38):=by rw[f];exact aG _ _ _ (by simp)
 have z1:=c.size;replace T:=aE a T;replace U:=aE a U;replace B3:=aE a B3;replace V:=aE a V;replace B5:=aE a B5;have k2:=cH j a;obtain⟨Z,q⟩:=Ex t.heap.size;simp only[Mr.size_alloc];rw[←q]at z1 o B6 B7 ⊢;clear h a u v c r m k j f;have⟨G,hG⟩:=Ex z.heap.size;have HX:=pP k2 T U B3 V B5 B6 B7;have zz:w.heap.size+6≤Z:=by omega
 have eG:G=Z+2:=by omega
 clear k2 T U B3 V B5 B6 B7 q z1 o;gi_wp2_with fail;have⟨k2,T,U,B3,V,B5,B6,B7⟩:=HX.out
 refine J7 9 9 (gf:=191) (lb:=#[.pointer (S ⟨Z+1,0,N⟩)]) rfl (enters_of func191 (by kernel_rfl) rfl) (tH l) (fun i=>i=Z+1) (fun i=>i=Z+1) (fun i e=>by rw[←hG];omega) (fun i e=>by rw[←hG];omega)
  (fun c a=>(gw l HL.out.1 _ c (aB (aE a B7)) (aE a B7)).two)
  (fun R c a=>by obtain⟨_,rfl⟩:=QP l R c a;rfl)
  (fun i=>i=w.heap.size+1+1+1+1+1) (fun i e=>by rw[←hG];omega)
  (fun R W=>W.heap[w.heap.size+1+1+1+1+1]?=S (O (aD .u8 (pH l i p R)) 79)∧aF (fun i=>i=w.heap.size+1+1+1+1+1∨Z+1≤i) z W)
  (fun _ _=>False) (fun R X c r a=>?keep1) (fun _ _ _ r _=>r) ⟨by rw[B5,tP];rfl,Cl⟩ ?round1 ?done1 fun _ _ _ _ r _=>r.elim
 case keep1=>obtain⟨j,k⟩:=r;rw[←hG]at a;exact⟨aJ a j (by omega),k.trans (a.mono fun b _ h=>by omega)⟩
 case round1=>
  intro lp R aa W hx hl hW cn;obtain⟨q,rfl⟩:=QP l R aa hx;have m:=iS l R;have ad:=yC HL.out.2 R q;have e9:(pH l i p (R+1))=lZ (pH l i p R) 36 R (qI l i p R):=rfl;rw[HW.out R]at e9;have f:=CJ l i p R (by omega);have HE:=aA e9;clear e9 hx;generalize dC l R=aa at*;generalize pH l i p R=cd at*;have xz:(aD .u8 aa).size=32:=by rw[aP,m]
  have hS:=J4 aa xz W;have ar:(W.alloc (O (aD .u8 aa) 248)).heap[W.heap.size]?=S (O (aD .u8 aa) 248):=aG _ _ _ rfl;have D:∀a,aF a W (W.alloc (O (aD .u8 aa) 248)):=fun a=>aF.of_below aU _;rw[←DZ]at hS;gi_wp2_with fail;obtain⟨i5,ic⟩:=cn;refine⟨D _,⟨aJ (D fun _=>False) i5 id,ic.trans (D _)⟩,fun W2 av J cp=>?_⟩;have o:=aJ av ar (by omega);have bz:w.heap.size+1+1+1+1+1<W.heap.size∧Z<W.heap.size:=⟨aB i5,by have:=ic.size;omega⟩;have h7:=aB o;have⟨V7,ba⟩:=Ex W.heap.size;rw[←ba]at o bz h7 ⊢;clear J av hS ar D i5 ic ba;obtain⟨u,gc⟩:=cp;have kb:∀b c,b<Z+1→b≠w.heap.size+1+1+1+1+1→z.heap[b]?=S c→W2.heap[b]?=S c:=fun b c h a r=>aJ gc r (by omega);have kW:aC w W2:=((aF.of_below k2 fun _=>False).next gc fun i a=>.inr (by omega)).below Nl fun i r=>r.elim;have g0:=kb _ _ (by omega) (by omega) T;have j:=kb _ _ (by omega) (by omega) U;have g6:=kb _ _ (by omega) (by omega) B6;have m0:=Cw g0 0;have mX:=Cw (HC.out.keeps kW).row 1;simp at m0 mX;have z0:=aB g0;have zX:=aB (HC.out.keeps kW).row;have rz:(aD .u8 cd).size=72:=by rw[aP,f]
  have LL:∀a,aC W2 a→(Mc ⟨Z,0,N⟩ 0 3 #[]).run Tryz.prog a=.ok (aT cc).toArray a:=fun a q=>fJ a _ _ 243 (0,0) (aE q g6) 3 v0;have LR:∀a,aC W2 a→(Mc ⟨V7,0,N⟩ 0 32 #[]).run Tryz.prog a=.ok (aD .u8 aa) a:=fun a q=>fJ a _ _ 248 (0,0) (aE q o) 32 xz;have HM:=aA fun a (q:aC W2 a)=>tg (dI aa) cc (by rw[lH];exact m) vl (Ce ad m) vb a (HC.out.keeps (cH kW q)).rs;rw[show(aT (dI aa)).toArray=aD .u8 aa by rw[MJ,yD ad m]]at HM;replace LL:=aH LL LR;have HG:=eP u j kW gc o;clear LR g0 j u g6 o kW gc kb;gi_wp2_with fail;refine ID (by kernel_rfl) (by kernel_rfl) (iK [0,1,2,3,4,5,6] [7] [8] (by kernel_rfl) ?_);simp only[aM,d8]
  repeat
   with_reducible refine dS fun K c=>?_
   go_simp
   try first
    |(apply Ei
      intro a h;obtain⟨j,o⟩:=h.cells;have r:=LL.out.1 _ h;have k:=LL.out.2 _ h;go_simp
      rfl)
    |(apply Ei
      intro a h;go_simp;go_at_call 147
      with_reducible exact l9 (HM.out _ h))
   refine c _ ?_;clear c K
  with_reducible refine dR ?_
  clear m0 mX z0 zX;with_reducible refine jX fun W3 L K0 c=>?_
  go_simp;have⟨k,cu⟩:=Ey (oJ (dI aa) cc);have M:=uS (d:=dI aa) (by rw[lH];exact m) vl;rw[cu]at HE M ⊢;refine c _ _ (K.alloc' L _) ?_;clear c K0;refine iJ fun W4 ae=>?_;have c4:(aT k).toArray.size=4:=by rw[Nv,fC,M]
  have g8:=tB ae;have SX:=Sw g8 (aT k).toArray (by rw[c4];rfl) (wF k);have q8:=Hw g8 (aT k).toArray;have cv:=L.size;have h:aC W2 (W4.setRow W3.heap.size (aT k).toArray):=vP (cH (K.alloc' L _) ae) cv _;clear g8;go_wp2_with fail;refine dT ?_;have⟨r,bb,bd,bm,bn⟩:=HG.out;have⟨dg,hU⟩:=Ex (W4.setRow W3.heap.size (aT k).toArray);rw[←hU]at q8 h ⊢;have u:=aE h r;have j:=aE h bb;have o:=aE h bn;have v:=cH bd h;have x:=bm.trans (aF.of_below h _);have an:=eP q8 o u v x;have⟨V8,br⟩:=Ex W3.heap.size;rw[←br]at an q8 ⊢;have dl:W2.heap.size≤V8:=by omega
  have m1:=Cw j 0;simp at m1;have z1:=aB j;have z5:=aB u;have z7:=aB o;have z8:=aB q8;have LU:∀a,aC dg a→(Mc ⟨w.heap.size+1+1+1+1+1,0,N⟩ 0 72 #[]).run Tryz.prog a=.ok (aD .u8 cd) a:=fun a q=>fJ a _ _ 79 (0,0) (aE q u) 72 rz;replace LU:=aA LU;have cx:=aA h;clear r bb bd bm bn u j o v x q8 hU h SX br ae L LL HM HG;gi_wp2_with fail;refine ID (by kernel_rfl) (by kernel_rfl) (iK [0,1,2,3,4] [5,6] [7] (by kernel_rfl) ?_);simp only[aM,d8]
  repeat
   with_reducible refine dS fun K c=>?_
   go_simp
   try first
    |(apply Ei
      intro a h;obtain⟨j,o⟩:=h.cells;have r:=LU.out _ h;go_simp
      rfl)
   refine c _ ?_;clear c K
  with_reducible refine dR ?_
  clear m1 z1;have⟨q8,o,u,v,x⟩:=an.out;clear an;have xe:aD .u8 aa=(aT (dI aa)).toArray:=by rw[MJ,yD ad m]
  have xl:(dI aa).length=32:=by rw[lH];exact m
  rw[xe]at o;with_reducible refine jX fun W5 Q K0 c=>?_
  refine Cd W5 (by rfl) (.tmp 64) (.tmp 65) 158 (by rfl) 5 i0 _ 1 1 underlying158 cf ck cl cm (by rfl) (by decide) ⟨V8,0,N⟩ 4 (aT k) (by rfl) (by rw[fC,M]) (Mr.news_of_block (cs:=(aT k).toArray) (aE Q q8)) ⟨V7,0,N⟩ 32 32 (aT (dI aa)) (by rfl) (by rw[fC,xl]) (Mr.news_of_block (cs:=(aT (dI aa)).toArray) (aE Q o)) (by decide) (by unfold maxLen;omega) (by omega) ?_;intro cz W6 A bs;refine c _ _ (cH Q bs) ?_;clear c K0;with_reducible refine jX fun W7 bv K0 c=>?_
  have B:=xR A (aF.of_below bv fun _=>False) fun g r=>r.elim;have y:(k++dI aa).length=36:=by rw[Nr,M,xl]
  have bw:iU (.slice (S ⟨W5.heap.size,0,N⟩) 36 cz) (eN (k++dI aa)) W7:=VZ (base:=W5.heap.size) (xs:=k++dI aa) (by rw[xS];exact B) y (by decide);go_simp;go_at_call 141;refine(RB cd f 2 36 R rfl (show(R:Int)<2 by omega) (eN (k++dI aa)) (by rw[o8];exact y) _ _ bw).mono ?_;rintro e w9 ⟨rfl,db⟩;have k9:=cH (cH (cH Q bs) bv) db;refine c _ _ k9 ?_;clear c K0 A B bw;refine iJ fun dd ab=>?_;have r:=aE (cH k9 ab) u;have⟨r2,J⟩:=Ey (lZ cd 36 R (eN (k++dI aa)));have bx:r2.length=72:=by rw[←J,xJ _ _ _ _ (by rw[o8,y,f];omega),f]
  rw[J]at HE ⊢;have SX:=Sw r (aD .u8 r2) (by rw[aP,aP,f,bx]) (dG _ _);have q5:=Hw r (aD .u8 r2);have a:aF (fun b=>b=w.heap.size+1+1+1+1+1) dg (dd.setRow (w.heap.size+1+1+1+1+1) (aD .u8 r2)):=(aF.of_below (cH k9 ab) _).trans ⟨rfl,rfl,rfl,by simp[Mr.setRow],fun b _ h=>So h⟩;have HZ:=Hd3 q5 a x;clear q5 a r x;have dn:(aD .u8 r2).size=72:=by rw[aP,bx]
  go_wp2_with fail;refine dT ?_;simp only[Exit.inBlock];refine⟨(aF.of_below cx.out _).trans HZ.out.2.1,?_,HZ.out.2.2.trans (HZ.out.2.1.mono (fun b _ h=>.inl h))⟩;rw[HE.out];exact HZ.out.1
 case done1=>
  rintro x dg hU ⟨j,k⟩ c;rw[J2]at j;rw[←hG]at hU;have v:aC w dg:=((aF.of_below k2 fun _=>False).next k fun i a=>.inr (by omega)).below Nl fun i r=>r.elim;have m:=aJ k V (by omega);have f:=CJ l i p 2 (by omega);generalize a:pH l i p 2=cd at*;have u:=aA a;clear a;have rz:(aD .u8 cd).size=72:=by rw[aP,f]
  have y:=Lw j 72 rz;have A:=Sw m (aD .u8 cd) (by rw[tP,aP,aP,f,pC]) (dG _ _);have o:=Hw m (aD .u8 cd);have a:aF (fun b=>b=w.heap.size+1+1+1+1) dg (dg.setRow (w.heap.size+1+1+1+1) (aD .u8 cd)):=⟨rfl,rfl,rfl,by simp[Mr.setRow],fun b _ h=>So h⟩;have HZ:=Hd3 o (aJ a c (by omega)) (Ob v (by omega:w.heap.size≤w.heap.size+1+1+1+1) (aD .u8 cd));have z1:=aB j;have h:=aB m;clear j k m v k2 T U B3 V B5 B6 B7 o a c;gi_wp2_with fail;have⟨o,c,v⟩:=HZ.out;refine uR [fQ x] _ (⟨x,rfl,by omega,c,by simp,trivial⟩:gN (Z+2) _ [fQ x]) fun W' a q=>⟨_,Oa (P:=Tryz.prog) results100 _ _ (w.heap.size+1+1+1+1) 79 (aD .u8 cd) (0,0) (.array 72 5) rfl (q _ _ o fun s r=>by cases r) (by kernel_rfl) rfl (by rw[rz];kernel_rfl),(by rw[u.out];rfl),v.trans (a.below v.size (fun i r=>by have r:Z+2≤i:=r;omega))⟩
def cD (m:Int) (l:List Int) (i:Nat) (p:Bool):List Int:=if m=1 then pG l i p 8 else pH l i p 2
theorem CK (m:Int) (l:List Int) (i:Nat) (p:Bool):(cD m l i p).length=72:=by
 unfold cD;split
 ·exact CI l i p 8 (by omega)
 ·exact CJ l i p 2 (by omega)
theorem Ch {X H C F g:Nat} (m:Int) (a:fN m=true) (l:List Int) (b:l.length=64) (c:aX 64 l) (i:Nat) (p:Bool) (w:Mr) (f:kG X H C F g w):Mt Y 100 #[.pointer (S ⟨X,0,N⟩),I Z m,.agg (aD .u8 l),I Z i,.bool p] w fun e d=>e=E (eJ (cD m l i p))∧Mu w.heap.size w d:=by
 unfold fN at a;simp only[Bool.or_eq_true,decide_eq_true_eq]at a;rcases a with rfl|rfl
 ·exact Cc l b c i p w f
 ·exact Cf l b c i p w f
end
section
open Go.RowKit Go.Shelf lin
attribute [local go_sem] Oper.semAt_some cK
def toldV (k:Int):Int:=if k=3 then 40 else if k=2 then 41 else 0
theorem W0 (k f:Int) (w:Mr):Mt Y 92 #[.agg #[I Z k,I Z f]] w fun e c=>e=E (I Z (toldV k))∧Mu w.heap.size w c:=by
 unfold toldV;by_cases a:k=3
 ·subst a;go_in;go_wp2;go_ret;exact⟨rfl,(by repeat first|exact Bl|assumption|refine Ka ?_|refine Ks ?_ (by first|exact Nl|simp<;>omega|omega)|refine Kd ?_|refine Kc ?_ (by assumption))⟩
 ·by_cases b:k=2
  focus subst b
  rotate_left
  focus
   have d:(k==3)=false:=by simpa using a
   have g:(k==2)=false:=by simpa using b
   rw[Fn a,Fn b];clear a b
  all_goals go_in;go_wp2;go_ret;exact⟨rfl,(by repeat first|exact Bl|assumption|refine Ka ?_|refine Ks ?_ (by first|exact Nl|simp<;>omega|omega)|refine Kd ?_|refine Kc ?_ (by assumption))⟩
def CtSt.pl (s:CtSt) (l:Int):Array Ms:=#[I Z (s.ld.rp.route l),I Z (s.ld.rp.t.home l),I Z (s.ld.rp.t.rk l)]
theorem FG {col:Nat→Nat} (ok:cO s) (l:Int) (i:s.ld.rp.has l) (w:Mr) (r:dB q col s n w):Mt Y 91 #[q.ar,I Z l] w fun e a=>e=E (.tuple #[.agg (s.pl l),I Z 0])∧Mu w.heap.size w a:=by
 have⟨t,b⟩:=Ex (w.alloc (O #[I Z 0,I Z 0,I Z 0] 139));have g:aC w t:=by rw[b];exact aU
 have j:t.heap[w.heap.size]?=S (O #[I Z 0,I Z 0,I Z 0] 139):=by rw[b];exact aG _ _ _ rfl
 have c:=r.keeps g;have o:=aA (EV ok.ld.rp l i t c.led.rep);obtain⟨z,d,_,_⟩:=c.row;have a:=c.led.row;have p:=aB d;have h:=aB a;unfold CtSt.row at d;unfold bH.row at a;have k:=Cw d 0;simp at k;have f:=Cw a 16;simp at f;have m:=aH g j;unfold CtSt.pl;generalize s.ld.rp.route l=u at*;generalize s.ld.rp.t.home l=v at*;generalize s.ld.rp.t.rk l=x at*;unfold dK.ar;clear r c d a g j i;go_in;go_upto_region 1 with fail;rw[←b];clear b;go_wp2_with fail;refine o.out.mono ?_;rintro e c ⟨rfl,a⟩;have b:=aE a m.out.2;have r:=aB b;have y:=fun d=>Fw b d;have⟨d,g,i⟩:=fM b;simp at d g i;have j:=aH a b;clear a b k f p h;go_wp2_with fail;have⟨a,b⟩:=j.out;refine My (lin.iF results91 _ _ w.heap.size 139 _ (0,0) _ rfl (by rw[Nx _ w.heap.size 2 _ _ _ (Nx _ w.heap.size 1 _ _ _ (Hs 0 _ b))];rfl) underlying139 rfl (by kernel_rfl)) rfl ⟨rfl,?_⟩;have f:aC w c:=Kc m.out.1 a;exact Ks (Ks (Ks f Nl) Nl) Nl
theorem WA {col:Nat→Nat} (ok:cO s) (l:Int) (i:bel l (s.ld.rp.t.seen*s.ld.rp.t.c)=false) (w:Mr) (r:dB q col s n w):Mt Y 91 #[q.ar,I Z l] w fun e a=>e=E (.tuple #[.agg #[I Z 0,I Z 0,I Z 0],I Z 30])∧Mu w.heap.size w a:=by
 have⟨t,b⟩:=Ex (w.alloc (O #[I Z 0,I Z 0,I Z 0] 139));have g:aC w t:=by rw[b];exact aU
 have j:t.heap[w.heap.size]?=S (O #[I Z 0,I Z 0,I Z 0] 139):=by rw[b];exact aG _ _ _ rfl
 have c:=r.keeps g;have o:=aA (tx ok.ld.rp l i t c.led.rep);obtain⟨v,d,_,_⟩:=c.row;have a:=c.led.row;have p:=aB d;have h:=aB a;unfold CtSt.row at d;unfold bH.row at a;have k:=Cw d 0;simp at k;have f:=Cw a 16;simp at f;have m:=aH g j;unfold dK.ar;clear r c d a g j i;go_in;go_upto_region 1 with fail;rw[←b];clear b;go_wp2_with fail;refine o.out.mono ?_;rintro e c ⟨rfl,a⟩;have b:=aE a m.out.2;have r:=aB b;have u:=fun d=>Fw b d;have⟨d,g,i⟩:=fM b;simp at d g i;have j:=aH a b;clear a b k f p h;go_wp2_with fail;have⟨a,b⟩:=j.out;refine My (lin.iF results91 _ _ w.heap.size 139 _ (0,0) _ rfl (by rw[Nx _ w.heap.size 2 _ _ _ (Nx _ w.heap.size 1 _ _ _ (Hs 0 _ b))];rfl) underlying139 rfl (by kernel_rfl)) rfl ⟨rfl,?_⟩;have f:aC w c:=Kc m.out.1 a;exact Ks (Ks (Ks f Nl) Nl) Nl
end
section
open Go.RowKit Go.Shelf lin
attribute [local go_sem] Oper.semAt_some cK Mh
attribute [local simp] Mf Mg
def cF.acs (t:cF) (i:Int):dP:=⟨false,i,(t.dr.went i).1,(t.dr.went i).2.1,(expV t.dr.m (t.dr.read i) (t.gh (t.dr.went i).1):Nat),!(t.dr.went i).2.1&&decide (t.mark (t.dr.went i).1=1)⟩
def cF.rd (t:cF) (i:Int):cF:={t with dr:=(t.dr.went i).2.2,accs:=t.accs++[t.acs i]}
theorem wO (t:bO) (i:Int):(t.went i).2.2.m=t.m∧(t.went i).2.2.r=t.r∧(t.went i).2.2.s=t.s∧(t.went i).2.2.b=t.b∧(t.went i).2.2.d=t.d∧(t.went i).2.2.c=t.c∧(t.went i).2.2.cells=t.cells∧(t.went i).2.2.lasts=t.lasts:=by
 unfold bO.went;split
 ·exact⟨rfl,rfl,rfl,rfl,rfl,rfl,rfl,rfl⟩
 ·split
  ·exact⟨rfl,rfl,rfl,rfl,rfl,rfl,rfl,rfl⟩
  ·split<;>exact⟨rfl,rfl,rfl,rfl,rfl,rfl,rfl,rfl⟩
theorem kO (W:Mr) (b:Nat) (cs:Array Ms):aF (fun a=>a=b) W (W.setRow b cs):=⟨rfl,rfl,rfl,by simp[Mr.setRow],fun c _ a=>So a⟩
def Ci (D:Nat) (oD:Nat→Prop) (t:bO) (n:Nat) (i wi:Int) (dr:Bool) (r:List Int) (z:Array Ms) (w:Mr) (A1 A2:Nat) (wx:Mr):Prop:=wx.heap[A1]?=S (O (aD .u8 r) 79)∧wx.heap[A2]?=S (O #[I Z wi,.bool dr] 165)∧w.heap.size<A1∧w.heap.size<A2∧A1≠A2∧dX D (fun b=>oD b∨(w.heap.size<b∧b≠A1∧b≠A2)) t n wx∧aF oD w wx∧wx.heap[w.heap.size]?=S (O z 79)
theorem Cj {d:Nat→Prop} {t:bO} {i wi:Int} {dr:Bool} {r:List Int} {z:Array Ms} {o c e:Mr} {A1 A2:Nat} (f:∀b,d b→b<w.heap.size) (g:o=w.alloc (O z 79)) (h:aC o W) (p:dX D (fun b=>d b∨W.heap.size≤b) t n c) (l:aF d W c)
 (B:A1<W.heap.size∨c.heap.size≤A1) (C:A2<W.heap.size∨c.heap.size≤A2) (F:o.heap.size≤A1) (G:o.heap.size≤A2) (k:A1≠A2) (j:aF (fun b=>b=A1∨b=A2) c e)
 (q:e.heap[A1]?=S (O (aD .u8 r) 79)) (s:e.heap[A2]?=S (O #[I Z wi,.bool dr] 165)):Ci D d t n i wi dr r z w A1 A2 e:=by
 have H:o.heap.size=w.heap.size+1:=by rw[g];simp
 have u:o.heap[w.heap.size]?=S (O z 79):=by rw[g];exact aG _ _ _ rfl
 have v:aC w o:=by rw[g];exact aU
 have J:=h.size;have x:=aE h u;have y:=aJ l x (fun a=>by have:=f _ a;omega);have A:=aJ j y (by omega);refine⟨q,s,by omega,by omega,k,?_,((aF.of_below (aK v h) _).trans l).next j fun b m=>.inr (by omega),A⟩;refine p.same fun b m a=>⟨j.block b m ?_,?_⟩
 ·rcases a with a|a
  ·have:=f _ a;omega
  ·omega
 ·rcases a with a|a
  ·exact .inl a
  ·exact .inr (by omega)
theorem WB {own:Nat→Prop} {t:cF} {i:Int} {aa:Nat} {k:Option Addr} {d l:Nat} {h H w8:Mr} {s:Nat→Prop} {g c A1 A2:Nat} {z J:Array Ms} {A:dP}
 (W:own B) (h2:own G) (h3:own aa) (C:∀bd,(Nh k d l).ownBlock=S bd→own bd) (h5:G≠aa) (ab:d=t.accs.length) (ad:t.accs.length≤n) (j:∀b,own b→b<w.heap.size)
 (m:s=fun b=>own b∧b≠B∧b≠G∧b≠aa∧(Nh k d l).ownBlock≠S b) (U:∀b,s b→b<w.heap.size) (u:h.heap[B]?=S (O #[.pointer (S ⟨D,0,N⟩),.map (S G),.map (S aa),.slice k d l] 121))
 (ae:dX D (fun b=>s b∨(w.heap.size<b∧b≠A1∧b≠A2)) (t.dr.went i).2.2 n h) (x:eT Y 3 G n (fun a=>(t.ghost a).map eJ) h) (y:eT Y 3 aa n (fun a=>(t.marks a).map (I Z)) h) (q:jR (.slice k d l) t.accs h)
 (x8:h.heap[w.heap.size]?=S (O z 79)) (an:aF s w h) (L:aC h H) (F:w8.ownsRow 0 167 6 (.slice (S ⟨g,0,N⟩) (d+1) c) (d+1) ((t.accs.map dP.cells).flatten++A.cells)) (r:(H.alloc o).grownBy w8 (Nh k d l).ownBlock)
 (p:(Nh k d l).ownBlock=S g∨g=(H.alloc o).heap.size) (ar:w8.heap[B]?=S (O #[.pointer (S ⟨D,0,N⟩),.map (S G),.map (S aa),.slice k d l] 121)) (HE:t.acs i=A):
 fH B (fun b=>own b∨w.heap.size≤b) (t.rd i) (n+1) ((w8.setCell ⟨B,3,N⟩ (.slice (S ⟨g,0,N⟩) (d+1) c)).setRow w.heap.size J)∧aF own w ((w8.setCell ⟨B,3,N⟩ (.slice (S ⟨g,0,N⟩) (d+1) c)).setRow w.heap.size J):=by
 have bm:=j B W;have bn:=j G h2;have br:=j aa h3;have c8:aF (fun b=>(Nh k d l).ownBlock=S b) h w8:=(aF.of_below (K.alloc L o) _).grown r fun f a=>.inl a;have cB:=dY B 3 w8 (.slice (S ⟨g,0,N⟩) (d+1) c);have X:=kO (w8.setCell ⟨B,3,N⟩ (.slice (S ⟨g,0,N⟩) (d+1) c)) w.heap.size J;have M:=aJ X (Hs 3 _ ar) (by omega);have⟨wf,av⟩:=Ex ((w8.setCell ⟨B,3,N⟩ (.slice (S ⟨g,0,N⟩) (d+1) c)).setRow w.heap.size J);rw[←av]at X M ⊢;have P:aF (fun b=>b=B∨b=w.heap.size) w8 wf:=(cB.mono fun b _ f=>.inl f).trans (X.mono fun b _ f=>.inr f);have Q:aF (fun b=>b=B∨(Nh k d l).ownBlock=S b∨b=w.heap.size) h wf:=(c8.mono fun b _ f=>.inr (.inl f)).trans (P.mono (fun b _ f=>by rcases f with f|f;exact .inl f;exact .inr (.inr f)));have sx:w.heap.size<h.heap.size:=aB x8;have s9:h.heap.size<(H.alloc o).heap.size:=by have:=L.size;simp;omega
 have R:g≠B∧g≠w.heap.size:=by
  rcases p with V|V
  ·exact⟨fun e=>by rw[e]at V;exact mR (jR.row q B V) u (by decide),by have:=j _ (C _ V);omega⟩
  ·omega
 have bs:∀b,own b→(b<w.heap.size):=j
 have ba:∀b,b<h.heap.size→(s b∨(w.heap.size<b∧b≠A1∧b≠A2))→¬(b=B∨(Nh k d l).ownBlock=S b∨b=w.heap.size):=fun b f a=>by
  rintro(e|e|e)
  ·rcases a with a|a
   ·rw[m]at a;exact a.2.1 e
   ·omega
  ·rcases a with a|a
   ·rw[m]at a;exact a.2.2.2.2 e
   ·have:=j _ (C _ e);omega
  ·rcases a with a|a
   ·have:=U _ a;omega
   ·omega
 have bb:∀b,b<h.heap.size→(s b∨(w.heap.size<b∧b≠A1∧b≠A2))→(own b∨w.heap.size≤b)∧b≠B∧b≠G∧b≠aa∧(Nh (S ⟨g,0,N⟩) (d+1) c).ownBlock≠S b:=fun b f a=>by
  have T:(Nh (S ⟨g,0,N⟩) (d+1) c).ownBlock≠S b:=fun e=>by
   have e:g=b:=by simpa[Ny]using e
   subst e;rcases p with V|V
   ·rcases a with a|a
    ·rw[m]at a;exact a.2.2.2.2 V
    ·have:=j _ (C _ V);omega
   ·omega
  rcases a with a|a
  ·rw[m]at a;exact⟨.inl a.1,a.2.1,a.2.2.1,a.2.2.2.1,T⟩
  ·exact⟨.inr (by omega),by omega,by omega,by omega,T⟩
 have T:dX D (fun b=>(own b∨w.heap.size≤b)∧b≠B∧b≠G∧b≠aa∧(Nh (S ⟨g,0,N⟩) (d+1) c).ownBlock≠S b) (t.dr.went i).2.2 (n+1) wf:=(ae.same fun b f a=>⟨Q.block b f (ba b f a),bb b f a⟩).mono (fun _ V=>V) (Nu n);refine⟨⟨D,G,aa,.slice (S ⟨g,0,N⟩) (d+1) c,.inl W,.inl h2,.inl h3,fun bd a=>?_,h5,?_,T,(x.chg Q ?_).mono (Nu n),(y.chg Q ?_).mono (Nu n),?_,?_⟩,(an.mono fun b _ f=>by rw[m]at f;exact f.1).next Q fun b f=>?_⟩
 ·have e:g=bd:=by simpa[Ny]using a
  subst e;rcases p with V|V
  ·exact .inl (C _ V)
  ·exact .inr (by omega)
 ·rw[M];rfl
 ·rintro(e|e|e)
  ·exact x.ne u e
  ·exact sL q x e
  ·omega
 ·rintro(e|e|e)
  ·exact y.ne u e
  ·exact sL q y e
  ·omega
 ·show jR _ (t.accs++[_]) _
  rw[HE];refine(bP.chg (V0 (v:=.slice k d l) (w:=w8) q (by rw[←ab];exact F)) P fun bd a e=>?_);have V:g=bd:=by simpa[Ny]using a
  subst V;rcases e with e|e
  ·exact R.1 e
  ·exact R.2 e
 ·show(t.accs++[_]).length≤n+1;simp;exact ad
 ·rcases f with e|e|e
  ·exact .inl (e▸W)
  ·exact .inl (C _ e)
  ·exact .inr (by omega)
theorem iG.rd {t:cF} (e:iG t) (i:Int):iG (t.rd i):=by
 obtain⟨b,g,h,j,k,m,n,c⟩:=wO t.dr i;refine⟨⟨?_,?_,?_,?_,?_,?_⟩,e.ghost⟩
 ·show dF (t.dr.went i).2.2.r (t.dr.went i).2.2.s (t.dr.went i).2.2.b (t.dr.went i).2.2.d (t.dr.went i).2.2.c=true;rw[g,h,j,k,m];exact e.dr.right
 ·show fN (t.dr.went i).2.2.m=true;rw[b];exact e.dr.mode
 ·show∀p l,(t.dr.went i).2.2.cells p=S l→_;rw[n];exact e.dr.raw
 ·show∀f∈(t.dr.went i).2.2.lasts,f.ok (t.dr.went i).2.2.m;rw[c,b];exact e.dr.lasts
 ·show(t.dr.went i).2.2.lasts.length≤256;rw[c];exact e.dr.ln
 ·show(t.dr.went i).2.2.coming.length≤256
  have:=e.dr.cn;unfold bO.went;split
  ·exact this
  ·rename_i f a o
   rw[o]at this;have d:a.length≤256:=by simp at this;omega
   split
   ·exact d
   ·split<;>exact d
theorem Ck {own:Nat→Prop} {t:cF} (ok:iG t) (hn:n<bY) (i:Int) (w:Mr) (ad:fH B own t n w) (c:∀b,own b→b<w.heap.size) (X:eC t.dr.r t.dr.s t.dr.b t.dr.d t.dr.c i=true):Mt Y 98 #[.pointer (S ⟨B,0,N⟩),I Z i] w fun e u=>e=E (.tuple #[eJ (t.dr.read i),I Z 0])∧fH B (fun b=>own b∨w.heap.size≤b) (t.rd i) (n+1) u∧aF own w u:=by
 obtain⟨cl,G,cn,va,F,L,M,J,Q,R,h7,h8,h9,o,p⟩:=id ad;obtain⟨a0,k0,a⟩:=o.slice;rw[Np]at a;have⟨n0,h⟩:=Ex t.accs.length;rw[←h]at a;subst a;have⟨cm,hV⟩:=Ex (w.alloc (O (aD .u8 kD) 79));have kV:aC w cm:=by rw[hV];exact aU
 obtain⟨oD,d⟩:∃oD:Nat→Prop,oD=fun b=>own b∧b≠B∧b≠G∧b≠cn∧(Nh a0 n0 k0).ownBlock≠S b:=⟨_,rfl⟩;rw[←d]at h7;have f:∀b,oD b→b<w.heap.size:=fun b ad=>by rw[d]at ad;exact c _ ad.1
 have⟨j,q⟩:=Ey (t.dr.went i).1;have⟨T,v⟩:=Ey (t.dr.went i).2.1;have⟨U,g⟩:=Ey (t.dr.read i);have HR:=aA fun W (a:aC w W)=>po ok.dr i W (h7.keeps a) X;have bd:=ok.dr.read_len i;rw[g]at bd;rw[q,v,g]at HR;have a:=aE kV R;have HH:=aA (Ai F (Ai L (Ai M (Ai J (Ai Q (Ai R (Ai h7 (Ai h8 (Ai h9 (Ai o (Ai p (Ai c (Ai d (Ai f (Ai q (Ai v (Ai g (Ai h (Ai hn (Ai X (Ai ok (Ai kV hV))))))))))))))))))))));have hz:=aB a;have q0:=Cw a 0;simp at q0;unfold eJ at HR ⊢;have aa:(aD .u8 U).size=72:=by rw[aP,bd]
 clear ad F L M J Q R h7 h8 h9 o p c d f q v g h hn X ok kV a;go_in;go_upto_region 1 with fail;rw[tP,←hV];clear hV;go_wp2_with fail;refine(HR.out cm HH.out.2.2.2.2.2.2.2.2.2.2.2.2.2.2.2.2.2.2.2.2.2.1).mono ?_;rintro e k ⟨rfl,f,d⟩;have p:=jV (P:=Y) ((k.alloc (O zeroCells79 79)).alloc (O #[I Z 0,.bool false] 165)) k.heap.size zeroCells79 (aD .u8 U) 79 (gQ rfl) (by rw[aa];kernel_rfl) (dG _ _);have⟨Y6,c⟩:=Ex (((k.alloc (O zeroCells79 79)).alloc (O #[I Z 0,.bool false] 165)).setRow k.heap.size (aD .u8 U));have q:Y6.heap[k.heap.size]?=S (O (aD .u8 U) 79):=by rw[c];exact setRow_heap _ _ _ _ 79 (0,0) (gQ rfl)
 have h:aF (fun b=>b=k.heap.size) ((k.alloc (O zeroCells79 79)).alloc (O #[I Z 0,.bool false] 165)) Y6:=by rw[c];exact kO _ _ _
 have l:Y6.heap[k.heap.size+1]?=S (O #[I Z 0,.bool false] 165):=aJ h (aG _ _ _ (by simp)) (by omega);have o:(Me ⟨k.heap.size+1,0,N⟩ [I Z j,.bool T] 0).run Y Y6=.ok () (Y6.setRow (k.heap.size+1) #[I Z j,.bool T]):=Sw l #[I Z j,.bool T] rfl (by simp[Ni]);rw[←c]at p;have m:=kO Y6 (k.heap.size+1) #[I Z j,.bool T];have s:=((aF.of_below (Ka (Ka (K.refl k))) fun b=>b=k.heap.size∨b=k.heap.size+1).trans (h.mono fun b _ a=>.inl a)).trans (m.mono fun b _ a=>.inr a);have g:=HH.out.2.2.2.2.2.2.2.2.2.2.2.2.2.2.2.2.2.2.2.2.2;have a:=d.size;have HX:=aA (Cj (A1:=k.heap.size) (A2:=k.heap.size+1) (i:=i) (wi:=j) (dr:=T) (r:=U) (z:=aD .u8 kD) HH.out.2.2.2.2.2.2.2.2.2.2.2.2.2.1 g.2 (K.refl cm) f d (.inr Nl) (.inr (Nu _)) a (Nat.le_succ_of_le a) (by omega) s (aJ m q (by omega)) (Hw l _));clear f d q0 hz c q h l m s g a;go_upto_region 4 with fail;have⟨A1,a⟩:=Ex k.heap.size;have⟨A2,c⟩:=Ex (k.heap.size+1);generalize Y6.setRow (k.heap.size+1) #[I Z j,.bool T]=wx at*;rw[←a,←c]at*;clear a c p o;have⟨F,L,M,J,Q,R,h7,h8,h9,o,p,c,d,f,q,v,g,h,hn,X,ok,kV,hV⟩:=HH.out;have⟨V,x2,x3,x4,x5,x,l,x8⟩:=HX.out;have m:=aJ l R (fun ad=>by rw[d]at ad;exact ad.2.1 rfl);have bm:=(wO t.dr i).1;have bn:=SN ok.dr (oI X ok.dr.right);rw[q]at bn;have D:bN j:=by unfold bN;omega
 have⟨g',H⟩:=Ey (t.gh j);have ae:=ok.gh_len j;have an:=ok.gh_bts j;have ar:=ok.dr.read_bts i;rw[g]at ar;rw[H]at ae an;have y:=h8.chg l (fun ad=>by rw[d]at ad;exact ad.2.2.1 rfl);have C:=h9.chg l (fun ad=>by rw[d]at ad;exact ad.2.2.2.1 rfl);have s:=o.chg l (fun bs u ad=>by rw[d]at ad;exact ad.2.2.2.2 u);have LK:=aA (fun W (a:aC wx W)=>show(Instr.lookup 117 (.map (S G)) (I Z j) false).run Y W=.ok (.agg (aD .u8 g')) W by rw[(y.keeps a).lookup underlying3 underlying117 (BE _) D];unfold eJ;rw[←H];unfold cF.gh;cases t.ghost j<;>rfl)
 have br:fH B (fun b=>own b∨(w.heap.size<b∧b≠A1∧b≠A2)) {t with dr:=(t.dr.went i).2.2} n wx:=by
  have:=c _ F;have:=c _ L;have:=c _ M
  exact⟨cl,G,cn,_,.inl F,.inl L,.inl M,fun bs u=>.inl (J bs u),Q,m,x.mono (fun b a=>by
   rcases a with a|a
   ·rw[d]at a;exact⟨.inl a.1,a.2⟩
   ·exact⟨.inr a,by omega,by omega,by omega,fun hv=>by have:=c _ (J _ hv);omega⟩) Nl,y,C,s,p⟩
 obtain⟨DM,ab⟩:∃a,t.dr.m=a:=⟨_,rfl⟩
 have bs:Hid (∀W,aC wx W→Mt Y 69 #[.pointer (S ⟨cl,0,N⟩)] W fun e u=>e=E (I Z DM)∧Mu W.heap.size W u):=aA (fun W a=>by
  obtain⟨Md,vl,vc,_,_,_,_,_,hq,_⟩:=x.keeps a;have:=JX cl [] _ _ _ _ _ _ _ _ _ W hq
  rw[bm,ab]at this;exact this.mono fun e u ad=>⟨ad.1,ad.2▸Bl⟩)
 have ba:=aA fun W=>om DM (by rw[←ab];exact ok.dr.mode) U g' (by rw[←g];exact ok.dr.read_len i) ae ar an W;have⟨ex,av⟩:=Ey (expV DM U g');rw[av]at ba;obtain⟨mk,bb⟩:∃mk:Bool,decide (t.mark j=1)=mk:=⟨_,rfl⟩
 have bv:Hid (∀W,aC wx W→Mt Y 136 #[.pointer (S ⟨B,0,N⟩),I Z j] W fun e u=>e=E (.bool mk)∧Mu W.heap.size W u):=aA (fun W a=>by
  have:=zu j D W (br.keeps a)
  rw[←bb];exact this.mono fun e u ad=>⟨ad.1,ad.2▸Bl⟩)
 have HE:=aA (show t.acs i=⟨false,i,j,T,(ex:Nat),!T&&mk⟩ by unfold cF.acs;rw[q,v,g,H,ab,av,bb]);have HS:=mI m x y C s V x2 x8 l;have LR:Hid (∀W,aC wx W→(Mc ⟨A1,0,N⟩ 0 72 #[]).run Y W=.ok (aD .u8 U) W∧(Mc ⟨A2,0,N⟩ 0 2 #[]).run Y W=.ok #[I Z j,.bool T] W):=aA fun W a=>⟨Lw (aE a V) 72 aa,Lw (aE a x2) 2 rfl⟩;have bx:=aA x3;have hz:=aB m;have ad:=aB V;have bw:=aB x2;have⟨q0,q1,q3⟩:=pQ m 0 1 3;simp at q0 q1 q3;have⟨z0,z1⟩:=bQ x2;simp at z0 z1;clear F L M J Q R h7 h8 h9 o p c d f q v g h hn X ok kV hV V x2 x8 m x l bm bn ae an ar H y C s br ab av bb D HX HR;go_wp2_with fail;cases T
 all_goals
  refine vO [0] [1,2,3,4] [5,6,7,8,9,10,11,12,13,14,15,16,17,18,19,20,21,22,23,24,25,26,27,28,29,30] [31] [32,33,34,35] (by kernel_rfl) (by kernel_rfl) ?_;simp only[aM,d8]
  repeat(
   with_reducible refine i9 fun K c=>?_
   go_simp;unfold gI;apply Ei
   ·intro u a;go_simp;exact⟨rfl,rfl⟩
   refine c _ ?_
   clear c K)
  with_reducible refine eZ ?_
  repeat(
   with_reducible refine i9 fun K c=>?_
   go_simp;unfold gI;apply Ei
   ·intro u a;obtain⟨d,f⟩:=a.cells;go_simp;exact⟨rfl,rfl⟩
   refine c _ ?_
   clear c K)
  with_reducible refine eZ ?_
  repeat
   with_reducible refine Mz fun K c=>?_
   go_simp
   try first
    |(apply Ei
      intro u a;obtain⟨d,f⟩:=a.cells;obtain⟨g,h⟩:=LR.out _ a;have l:=LK.out _ a;go_simp
      first
       |(go_at_call 69;with_reducible exact a.call (bs.out _ a))
       |(go_at_call 135;with_reducible exact a.call (ba.out _))
       |(go_at_call 136;with_reducible exact a.call (bv.out _ a))
       |rfl)
    |(with_reducible refine aQ ?_ ?_;first|decide|simp[Mv];done)
   refine c _ ?_;clear c K
  with_reducible refine Na ?_
  intro w9 av;clear q0 q1 q3 z0 z1 hz ad bw bs ba bv LK;with_reducible refine kZ fun a c=>?_
  go_simp;refine c _ _ (Ka av) ?_;clear c a;with_reducible refine lX ?_
  have⟨F,L,M,J,Q,R,h7,h8,h9,o,p,c,d,f,q,v,g,h,hn,X,ok,kV,hV⟩:=HH.out;have⟨m,x,y,C,s,V,x2,x8,l⟩:=HS.out;refine FB ?_;have ab:∀a,aC wx (w9.alloc a):=fun a=>K.alloc av a;have an:=fun a=>(s.keeps (ab a)).own;rw[Np,←h]at an;have ba:=fun a=>aE (ab a) m;have bb:=fun a=>aE (ab a) V;have bm:=fun a=>aE (ab a) x8;have ad:∀bs,(Nh a0 n0 k0).ownBlock=S bs→bs≠B∧bs≠A1∧bs≠w.heap.size∧bs<w.heap.size:=fun bs u=>by have a:=c _ (J bs u);have D:=V;exact⟨fun e=>by rw[e]at u;exact mR (o.row B u) R (by decide),fun e=>by rw[e]at u;exact mR (jR.row s A1 u) V (by decide),by omega,a⟩
  have bn:n0+1≤1000000:=by unfold bY at hn;omega
  have HT:=Hd3 ad bn av;obtain⟨i0,bz,cc,bs,bv⟩:=info_parts MA;refine step_append_lies _ (by rfl) (.tmp 27) (.tmp 54) 119 (by rfl) 0 167 i0 _ 6 48 underlying119 bz cc bs bv (by rfl) (by decide) (.slice a0 n0 k0) n0 (t.accs.map dP.cells).flatten (by rfl) (an _) ⟨w9.heap.size,0,N⟩ 1 1 _ (by rfl) (by rfl) (Mr.news_of_block (heap_alloc_new w9 _)) (by simp[Ni]) (by decide) (by unfold maxLen;omega) (by omega) (Ns _) _ rfl ?_;intro g8 bw w8 u a H ar;have D:=eS a (ba _) fun e=>(ad _ e.symm).1 rfl;have br:=eS a (bb _) fun e=>(ad _ e.symm).2.1 rfl;have ae:=eS a (bm _) fun e=>(ad _ e.symm).2.2.1 rfl;have cB:=dY B 3 w8 (.slice (S ⟨g8,0,N⟩) (n0+1) bw);have cf:=c B F;obtain⟨cd,_⟩:w.heap.size<A1∧True:=⟨bx.out,trivial⟩;have LF:=Lw (aJ cB br (by omega)) 72 aa;have SF:=Sw (aJ cB ae (by omega)) (aD .u8 U) (by rw[aa,aP,pC]) (dG _ _);have f8:=fun ck=>Fw D ck;have ck:=aB D;have⟨r0,r3⟩:=iO D 0 3;simp at r0 r3;have H8:=eQ D ae u a H ar;clear F L M J Q R h7 h8 h9 o p c d f q v g h hn X ok kV hV m x y C s V x2 x8 l ab an ba bb bm ad bn av D br ae u a H ar cB LR;go_wp2_with fail;have⟨F,L,M,J,Q,R,h7,h8,h9,o,p,c,d,f,q,v,g,h,hn,X,ok,kV,hV⟩:=HH.out;have⟨m,x,y,C,s,V,x2,x8,l⟩:=HS.out;have⟨D,ae,u,a,H,ar⟩:=H8.out;refine My (lin.iF results98 _ _ w.heap.size 79 (aD .u8 U) (0,0) (.array 72 5) rfl (setRow_heap _ _ _ _ 79 (0,0) (aJ (dY B 3 w8 _) ae (by have:=c B F;omega))) (by kernel_rfl) rfl (by rw[aa];kernel_rfl)) rfl ⟨by rw[g];rfl,?_⟩
  first
   |exact WB (A:=⟨false,i,j,false,(ex:Nat),mk⟩) F L M J Q h p c d f m x y C s x8 l HT.out.2.2 u a H D (HE.out.trans (by simp))
   |exact WB (A:=⟨false,i,j,true,(ex:Nat),false⟩) F L M J Q h p c d f m x y C s x8 l HT.out.2.2 u a H D (HE.out.trans (by simp))
theorem Cm {own:Nat→Prop} {t:cF} (ok:iG t) (d:n<bY) (i:Int) (w:Mr) (j:fH B own t n w) (f:eC t.dr.r t.dr.s t.dr.b t.dr.d t.dr.c i=true):Mt Y 98 #[.pointer (S ⟨B,0,N⟩),I Z i] w fun e c=>e=E (.tuple #[eJ (t.dr.read i),I Z 0])∧fH B (fun b=>own b∨w.heap.size≤b) (t.rd i) (n+1) c∧aF own w c:=(Ck ok d i w j.tight (fun b a=>a.2) f).mono (fun e c ⟨a,g,h⟩=>⟨a,g.mono (fun b a=>a.imp (fun j=>j.1) id) Nl,h.mono fun b _ a=>a.1⟩)
end
section
open Go.RowKit Go.Shelf
open lin (l8 dO aX wordV xF kC DV dC iS pV)
def sN (f:Nat→Bool):Nat→Nat
 |0=>0
 |n+1=>sN f n^^^(if f n=true then hcol n else 0)
theorem CL (f:Nat→Bool):∀n,mT ((Nf n).filter f)=sN f n
 |0=>rfl
 |n+1=>by
  rw[List.range_succ,List.filter_append];unfold sN;by_cases a:f n=true
  ·rw[Fp a,List.filter_cons_of_pos a,List.filter_nil,VM,CL f n]
  ·rw[Fn a,List.filter_cons_of_neg a,List.filter_nil,List.append_nil,CL f n,Nat.xor_zero]
theorem Cn (a b c:Nat):(a^^^c)^^^(b^^^c)=a^^^b:=by rw[Nat.xor_assoc,Nat.xor_comm b c,←Nat.xor_assoc c c b,Nat.xor_self,Nat.zero_xor]
theorem WC (f g:Nat→Bool):∀n,sN (fun a=>f a^^g a) n=sN f n^^^sN g n
 |0=>by simp[sN]
 |n+1=>by
  show sN (fun a=>f a^^g a) n^^^_=(sN f n^^^_)^^^(sN g n^^^_);rw[WC f g n];by_cases a:f n=true<;>by_cases b:g n=true<;>simp only[a,b,Bool.not_eq_true]at*<;>simp only[a,b,Bool.xor_true,Bool.xor_false,Bool.not_true,Bool.not_false,if_true,if_false,Bool.false_eq_true,Nat.xor_zero]
  ·exact(Cn _ _ _).symm
  ·ac_rfl
  ·ac_rfl
theorem MS (x k:Nat):l8 x k=x.testBit k:=by unfold l8;rw[Nat.testBit_eq_decide_div_mod_eq]
theorem Co (x y:Nat):mT (dO (x^^^y))=mT (dO x)^^^mT (dO y):=by unfold dO;rw[CL,CL,CL,←WC];congr 1;funext k;rw[MS,MS,MS,Nat.testBit_xor]
theorem Cp:∀a:Fin 64,mT (dO (2^a.val))=hcol a.val:=by decide+kernel
theorem Cq (x y a p:Nat):hchk (x^^^y) a p=hchk x a p^^^mT (dO y):=by unfold hchk;rw[Co];ac_rfl
theorem WD {a b m:Nat} (c:a<256) (d:b<256):(a+256*n)^^^(b+256*m)=(a^^^b)+256*(n^^^m):=by
 have e:∀f g:Nat,f+256*g=2^8*g+f:=fun f g=>by omega
 rw[e,e,e];refine Nat.eq_of_testBit_eq fun f=>?_;rw[Nat.testBit_xor,Nat.testBit_two_pow_mul_add _ c,Nat.testBit_two_pow_mul_add _ d,Nat.testBit_two_pow_mul_add _ (lQ c d)];split
 ·rw[Nat.testBit_xor]
 ·rw[Nat.testBit_xor]
theorem MT:∀(l:List Nat) (k t:Nat),bM l→k<l.length→t<8→numL (l.set k (l.getD k 0^^^2^t))=numL l^^^2^(8*k+t)
 |[],k,t,_,i,_=>by simp at i
 |f::l,0,t,a,_,e=>by have b:=a f (by simp);show(f^^^2^t)+256*numL l=(f+256*numL l)^^^2^(8*0+t);have g:2^t<256:=Nat.lt_of_le_of_lt (Nat.pow_le_pow_right (by decide) (show t≤7 by omega)) (by decide);have:=WD (n:=numL l) (m:=0) b g;rw[Nat.xor_zero]at this;rw[Nat.mul_zero,Nat.zero_add,←this,Nat.mul_zero,Nat.add_zero]
 |f::l,k+1,t,a,c,e=>by
  have b:=a f (by simp);have c:k<l.length:=by simpa using c
  have d:bM l:=fun j h=>a j (by simp[h]);show f+256*numL (l.set k (l.getD k 0^^^2^t))=(f+256*numL l)^^^2^(8*(k+1)+t);rw[MT l k t d c e];have:=WD (n:=numL l) (m:=2^(8*k+t)) b (show 0<256 by decide);rw[Nat.xor_zero,Nat.zero_add]at this;rw[←this,show 8*(k+1)+t=8+(8*k+t) by omega,Nat.pow_add 2 8]
theorem MU {x:Nat} (a:x<2^64):numL (kM x)=x:=by unfold kM numL;simp only[show Nf 8=[0,1,2,3,4,5,6,7] by decide,List.map_cons,List.map_nil,List.foldr_cons,List.foldr_nil];omega
def lT (l:List Nat) (u:Nat):List Nat:=l.set (u/8) (l.getD (u/8) 0^^^2^(u%8))
theorem yE (l:List Nat) (u:Nat):(lT l u).length=l.length:=Od
theorem yF {l:List Nat} {v:Nat} (a:i<l.length):(l.set i v).getD j 0=if i=j then v else l.getD j 0:=by
 simp only[Mx,List.getElem?_set];by_cases e:i=j
 ·subst e;rw[Fp rfl,Fp rfl,Fp a];rfl
 ·rw[Fn e,Fn e]
theorem Cr {t:Nat} (a:t<8):2^t<256:=Nat.lt_of_le_of_lt (Nat.pow_le_pow_right (by decide) (show t≤7 by omega)) (by decide)
theorem CN {l:List Nat} (a:bM l) (u:Nat):bM (lT l u):=a.set _ (lQ (a.get _) (Cr (Nat.mod_lt _ (by decide))))
theorem FH {l:List Nat} {u:Nat} (a:u/8<l.length):lT (lT l u) u=l:=by unfold lT;rw[yF a,Fp rfl,List.set_set,Nat.xor_assoc,Nat.xor_self,Nat.xor_zero,Mx,Nn a];exact List.set_getElem_self a
def uT (l:List Nat) (a:Nat):Nat:=hchk (numL (l.take 8)) a 0^^^l.getD 8 0
theorem Cs:∀t:Fin 8,hcol (64+t.val)=2^t.val:=by decide+kernel
theorem MV {l:List Nat} (h:l.length=9) (f:bM l) (a u:Nat) (i:u<72):uT (lT l u) a=uT l a^^^hcol u:=by
 unfold uT lT;have d:u%8<8:=Nat.mod_lt _ (by decide);by_cases j:u<64
 ·have b:u/8<8:=by omega
  rw[List.take_set,yF (by omega),Fn (by omega)];have e:l.getD (u/8) 0=(l.take 8).getD (u/8) 0:=by simp[Mx,List.getElem?_take_of_lt b]
  have c:bM (l.take 8):=fun k g=>f k (List.mem_of_mem_take g);rw[e,MT (l.take 8) _ _ c (by rw[List.length_take];omega) d,Cq,show 8*(u/8)+u%8=u by omega,Cp ⟨u,j⟩];ac_rfl
 ·have b:u/8=8:=by omega
  rw[b,List.take_set_of_le (by omega),yF (by omega),Fp rfl];have:=Cs ⟨u%8,d⟩;simp only at this;rw[show 64+u%8=u by omega]at this;rw[this];ac_rfl
theorem Ct {l:List Nat} (g:l.length=9) (c:bM l) (u:Nat) (h:u<72):numL ((lT l u).take 8)=if u<64 then numL (l.take 8)^^^2^u else numL (l.take 8):=by
 unfold lT;have d:u%8<8:=Nat.mod_lt _ (by decide);by_cases i:u<64
 ·have a:u/8<8:=by omega
  rw[List.take_set,Fp i];have e:l.getD (u/8) 0=(l.take 8).getD (u/8) 0:=by simp[Mx,List.getElem?_take_of_lt a]
  have b:bM (l.take 8):=fun j f=>c j (List.mem_of_mem_take f);rw[e,MT (l.take 8) _ _ b (by rw[List.length_take];omega) d,show 8*(u/8)+u%8=u by omega]
 ·have a:u/8=8:=by omega
  rw[a,List.take_set_of_le (by omega),Fn i]
def jT (x a:Nat) (p:Bool):List Nat:=kM x++[hchk x a (flagN p)]
theorem CO (x a:Nat) (p:Bool):(jT x a p).length=9:=by unfold jT;rw[Nr,tT];rfl
theorem yG (x a:Nat) (p:Bool):bM (jT x a p):=fun d b=>by
 unfold jT at b;rcases List.mem_append.1 b with c|c
 ·exact Ba x d c
 ·rw[List.mem_singleton.1 c];exact FA _ _ _
theorem MW (x a:Nat) (p:Bool):(jT x a p).take 8=kM x:=by unfold jT;rw[List.take_append_of_le_length (by rw[tT];exact Nl),List.take_of_length_le (by rw[tT];exact Nl)]
theorem Cu (x a:Nat) (p:Bool):(jT x a p).getD 8 0=hchk x a (flagN p):=by unfold jT;rw[Mx,List.getElem?_append_right (by rw[tT];exact Nl),tT];rfl
theorem FI {x a:Nat} (b:x<2^64) (p:Bool):uT (jT x a p) a=if p=true then hcol 73 else 0:=by
 unfold uT;rw[MW,Cu,MU b];unfold hchk flagN;cases p
 ·simp
 ·simp only[if_true,Nat.zero_ne_one,if_false,Nat.xor_zero,←Nat.xor_assoc,Nat.xor_self,Nat.zero_xor]
theorem Cv:∀a:Fin 72,iY (hcol a.val)=(1,(a.val:Int)):=by decide+kernel
theorem Cx:∀a b:Fin 72,a.val≠b.val→(iY (hcol a.val^^^hcol b.val)).1=4:=by decide+kernel
theorem Cy:iY (hcol 73)=(2,-1):=by decide+kernel
theorem FJ (l:List Nat) (i:Nat):oP l i=(oO (numL (l.take 8)) (iY (uT l (parN i))).1 (iY (uT l (parN i))).2,qF (iY (uT l (parN i))).1):=rfl
theorem Cz {x:Nat} (a:x<2^64) (i:Nat):oP (jT x (parN i) false) i=(x,0):=by rw[FJ,FI a,MW,MU a];rfl
theorem Da {x:Nat} (b:x<2^64) (i u:Nat) (a:u<72):oP (lT (jT x (parN i) false) u) i=(x,1):=by
 rw[FJ,MV (CO _ _ _) (yG _ _ _) _ _ a,FI b,Fn (by decide),Nat.zero_xor,Cv ⟨u,a⟩,Ct (CO _ _ _) (yG _ _ _) _ a,MW,MU b];unfold oO qF;simp only;by_cases c:u<64
 ·rw[Fp ⟨trivial,by omega⟩,Fp c,Int.toNat_natCast,Nat.xor_assoc,Nat.xor_self,Nat.xor_zero];rfl
 ·rw[Fn fun d=>by omega,Fn c];rfl
theorem Db {x:Nat} (c:x<2^64) (i u v:Nat) (a:u<72) (b:v<72) (d:u≠v):(oP (lT (lT (jT x (parN i) false) u) v) i).2=3:=by rw[FJ,MV (by rw[yE];exact CO _ _ _) (CN (yG _ _ _) _) _ _ b,MV (CO _ _ _) (yG _ _ _) _ _ a,FI c,Fn (by decide),Nat.zero_xor];show qF (iY _).1=3;rw[Cx ⟨u,a⟩ ⟨v,b⟩ d];rfl
theorem Dc {x:Nat} (a:x<2^64) (i:Nat):(oP (jT x (parN i) true) i).2=2:=by rw[FJ,FI a,Fp rfl,Cy];rfl
def dN (a b:List Nat):Nat→Nat
 |0=>0
 |k+1=>dN a b k+popc (a.getD k 0^^^b.getD k 0)
theorem WE {a a' b:List Nat}:∀n,(∀c,c<n→a.getD c 0=a'.getD c 0)→dN a b n=dN a' b n
 |0,_=>rfl
 |n+1,d=>by unfold dN;rw[WE n fun c e=>d c (by omega),d n (by omega)]
theorem Dd:∀a:Fin 256,a.val≠0→∃t:Fin 8,popc (a.val^^^2^t.val)+1=popc a.val:=by decide+kernel
theorem De:∀a:Fin 256,popc a.val=0→a.val=0:=by decide+kernel
theorem MX {a b:List Nat} (d:bM a) (f:bM b) (e:Nat) (n:Nat):n≤a.length→dN a b n=e+1→∃g,g<8*n∧dN (lT a g) b n=e:=by
 induction n with
 |zero=>intro _ m;cases m
 |succ n h=>
  intro o m;have i:a.getD n 0^^^b.getD n 0<256:=lQ (d.get n) (f.get n);unfold dN at m;by_cases c:popc (a.getD n 0^^^b.getD n 0)=0
  ·obtain⟨g,k,j⟩:=h (by omega) (by omega)
   refine⟨g,by omega,?_⟩;unfold dN;have:(lT a g).getD n 0=a.getD n 0:=by unfold lT;rw[yF (by omega),Fn (by omega)]
   rw[j,this,c,Nat.add_zero]
  ·have j:a.getD n 0^^^b.getD n 0≠0:=fun k=>c (by rw[k];exact AS)
   obtain⟨t,l⟩:=Dd ⟨_,i⟩ j;simp only at l;have p:=t.isLt;refine⟨8*n+t.val,by omega,?_⟩;unfold dN lT;rw[show(8*n+t.val)/8=n by omega,show(8*n+t.val)%8=t.val by omega,WE (a':=a) n fun r q=>by rw[yF (by omega),Fn (by omega)],yF (by omega),Fp rfl];have:a.getD n 0^^^2^t.val^^^b.getD n 0=a.getD n 0^^^b.getD n 0^^^2^t.val:=by ac_rfl
   rw[this];omega
theorem Df {a b:Nat} (c:a^^^b=0):a=b:=by
 have:a^^^b^^^b=b:=by rw[c,Nat.zero_xor]
 rwa [Nat.xor_assoc,Nat.xor_self,Nat.xor_zero]at this
theorem Dg {a b:List Nat} (d:bM a) (f:bM b) (n:Nat):dN a b n=0→∀c,c<n→a.getD c 0=b.getD c 0:=by
 induction n with
 |zero=>intro _ c g;omega
 |succ n h=>
  intro i c g;unfold dN at i;by_cases e:c=n
  ·subst e;exact Df (De ⟨_,lQ (d.get c) (f.get c)⟩ (show popc (a.getD c 0^^^b.getD c 0)=0 by omega))
  ·exact h (by omega) c (by omega)
theorem Dh {a b:List Nat} (c:a.length=n) (d:b.length=n) (g:∀e,e<n→a.getD e 0=b.getD e 0):a=b:=by refine List.ext_getElem (c.trans d.symm) fun h e f=>?_;have:=g h (by omega);simpa[Mx,Nn e,Nn f]using this
theorem Di {x:Nat} (d:x<2^64) (i:Nat) {l:List Nat} (f:l.length=9) (a:bM l):(dN l (jT x (parN i) false) 9=0→l=jT x (parN i) false∧oP l i=(x,0))∧(dN l (jT x (parN i) false) 9=1→oP l i=(x,1))∧(dN l (jT x (parN i) false) 9=2→(oP l i).2=3):=by
 have j:=CO x (parN i) false;have c:=yG x (parN i) false;have q:∀b:List Nat,b.length=9→bM b→dN b (jT x (parN i) false) 9=0→b=jT x (parN i) false:=fun b h k g=>Dh h j (Dg k c 9 g);refine⟨fun g=>?_,fun g=>?_,fun g=>?_⟩
 ·have:=q l f a g;rw[this];exact⟨rfl,Cz d i⟩
 ·obtain⟨u,o,b⟩:=MX a c 0 9 (by omega) g;have:=q _ (by rw[yE,f]) (CN a u) b;have e:=FH (l:=l) (u:=u) (by omega);rw[this]at e;rw[←e];exact Da d i u (by omega)
 ·obtain⟨u,o,b⟩:=MX a c 1 9 (by omega) g
  obtain⟨p,s,h⟩:=MX (CN a u) c 0 9 (by rw[yE];omega) b;have:=q _ (by rw[yE,yE,f]) (CN (CN a u) p) h;have k:=FH (l:=lT l u) (u:=p) (by rw[yE];omega);have e:=FH (l:=l) (u:=u) (by omega);rw[this]at k;rw[←k]at e;by_cases m:p=u
  ·subst m
   rw[FH (by rw[j];omega)]at e;rw[←e]at g;exfalso
   have:∀(r:List Nat) n,dN r r n=0:=fun r n=>by
    induction n with
    |zero=>rfl
    |succ n m=>unfold dN;rw[m,Nat.xor_self,AS]
   rw[this]at g;cases g
  ·rw[←e];exact Db d i p u (by omega) (by omega) m
theorem wP {a:Nat} (b:a<256):gmul a 1=a:=by rw[uO];exact rh b
theorem FK {a b:Nat} (e:gmul a b=0):a=0∨b=0:=by
 by_cases c:a=0
 ·exact .inl c
 ·by_cases d:b=0
  ·exact .inr d
  ·exact absurd e (BR c d)
theorem FM:∀(l:List Nat) (j e x:Nat),bM l→e<256→j<l.length→gev (l.set j (l.getD j 0^^^e)) x=gev l x^^^gmul e (gpow x j)
 |[],j,e,x,_,_,h=>by simp at h
 |d::l,0,e,x,c,b,_=>by show gmul (gev l x) x^^^(d^^^e)=(gmul (gev l x) x^^^d)^^^gmul e 1;rw[wP b,Nat.xor_assoc]
 |d::l,j+1,e,x,c,b,f=>by have a:bM l:=fun i g=>c i (by simp[g]);show gmul (gev (l.set j (l.getD j 0^^^e)) x) x^^^d=(gmul (gev l x) x^^^d)^^^gmul e (gmul (gpow x j) x);rw[FM l j e x a b (by simpa using f),BQ x (xQ a x) (mQ _ _),pD];ac_rfl
theorem WF (x i:Nat) (a:x<256):∀t,gpow x (i+t)=gmul (gpow x i) (gpow x t)
 |0=>by
  show gpow x i=gmul (gpow x i) 1
  have:gpow x i<256:=by cases i with
   |zero=>show 1<256;decide
   |succ i=>exact mQ _ _
  rw[wP this]
 |t+1=>by show gmul (gpow x (i+t)) x=gmul (gpow x i) (gmul (gpow x t) x);rw[WF x i a t,pD]
def CP (q:List Nat) (x:Nat):Nat→Nat
 |0=>0
 |k+1=>CP q x k^^^gmul (q.getD k 0) (gpow x k)
theorem WG (q:List Nat) (x:Nat):∀a,CP q x a<256
 |0=>by show 0<256;decide
 |a+1=>lQ (WG q x a) (mQ _ _)
theorem WH {o:List Nat} (e:bM o) (i a x:Nat) (q:List Nat) (c:x<256):∀b,i+b≤o.length→gev (iX o i a q b) x=gev o x^^^gmul (gmul a (gpow x i)) (CP q x b)
 |0,_=>by show gev o x=gev o x^^^gmul _ 0;rw[EP,Nat.xor_zero]
 |b+1,f=>by show gev (xat (iX o i a q b) (i+b) (gmul a (q.getD b 0))) x=_;unfold xat;obtain⟨d,g⟩:=sG e i a q b;rw[FM _ _ _ _ d (mQ _ _) (by omega),WH e i a x q c b (by omega),WF x i c];show _=gev o x^^^gmul (gmul a (gpow x i)) (CP q x b^^^gmul (q.getD b 0) (gpow x b));rw[wD _ (WG q x b) (mQ _ _),Nat.xor_assoc];congr 2;rw[pD,pD];congr 1;rw[←pD,←pD,uO (q.getD b 0)]
theorem uU {l:List Nat} {v:Nat} (a:i<l.length):(l.set i v).getD j 0=if i=j then v else l.getD j 0:=by
 simp only[Mx,List.getElem?_set];by_cases e:i=j
 ·subst e;rw[Fp rfl,Fp rfl,Fp a];rfl
 ·rw[Fn e,Fn e]
theorem MY {o:List Nat} (d:bM o) (i a:Nat) (q:List Nat) (j:Nat):∀b,i+b≤o.length→(iX o i a q b).getD j 0=if i≤j∧j<i+b then o.getD j 0^^^gmul a (q.getD (j-i) 0)else o.getD j 0
 |0,_=>by rw[Fn (by omega)];rfl
 |b+1,f=>by
  show(xat (iX o i a q b) (i+b) (gmul a (q.getD b 0))).getD j 0=_;unfold xat;obtain⟨g,h⟩:=sG d i a q b;rw[uU (by omega),MY d i a q _ b (by omega),MY d i a q j b (by omega)];by_cases e:i+b=j
  ·subst e;rw[Fp rfl,Fn (by omega),Fp (by omega),show i+b-i=b by omega]
  ·rw[Fn e]
   by_cases c:i≤j∧j<i+b
   ·rw[Fp c,Fp (by omega)]
   ·rw[Fn c,Fn (by omega)]
theorem Dj:∀a:Fin 4,CP gG (gexp a.val) 5=0:=by rw[uP];decide+kernel
theorem WI {p:List Nat} (b:bM p) (k:Fin 4):∀m,m+4≤p.length→gev (iN p m) (gexp k.val)=gev p (gexp k.val)
 |0,_=>rfl
 |m+1,c=>by show gev (iX (iN p m) (p.length-1-m-4) _ gG 5) _=_;obtain⟨a,d⟩:=nU b m;rw[WH a _ _ _ _ (wC _) 5 (by omega),Dj,EP,Nat.xor_zero,WI b k m (by omega)]
theorem WJ {p:List Nat} (f:bM p):∀m,m+4≤p.length→∀c,p.length-m≤c→c<p.length→(iN p m).getD c 0=0
 |0,_,c,a,d=>by omega
 |m+1,g,c,h,b=>by
  show(iX (iN p m) (p.length-1-m-4) (gmul ((iN p m).getD (p.length-1-m) 0) 1) gG 5).getD c 0=0;obtain⟨a,d⟩:=nU f m;rw[MY a _ _ _ _ 5 (by omega)];by_cases e:c=p.length-1-m
  ·subst e;rw[Fp (by omega),show p.length-1-m-(p.length-1-m-4)=4 by omega,show gG.getD 4 0=1 by rw[uP];rfl,wP (a.get _),wP (a.get _),Nat.xor_self]
  ·rw[Fn (by omega)];exact WJ f m (by omega) c (by omega) b
theorem WK (l:List Nat):∀n c,m7 l n≤c→c<n→l.getD c 0=0
 |0,c,_,f=>by omega
 |n+1,c,a,d=>by
  unfold m7 at a;by_cases b:l.getD n 0=0
  ·rw[Fp b]at a
   by_cases e:c=n
   ·rw[e];exact b
   ·exact WK l n c a (by omega)
  ·rw[Fn b]at a;omega
theorem qJ {a b:List Nat} (j:Nat):(a++b).getD j 0=if j<a.length then a.getD j 0 else b.getD (j-a.length) 0:=by
 by_cases c:j<a.length
 ·rw[Fp c,Mx,Mx,List.getElem?_append_left c]
 ·rw[Fn c,Mx,Mx,List.getElem?_append_right (by omega)]
theorem WL {a:List Nat} (b:j<n):(a.take n).getD j 0=a.getD j 0:=by rw[Mx,Mx,List.getElem?_take_of_lt b]
theorem WM (d v:List Nat) (j:Nat) (b:j<4):(oJ d v).getD j 0=(iN (jL [0,0,0,0] d v) ((jL [0,0,0,0] d v).length-4)).getD j 0:=by
 unfold oJ BS;generalize iN _ _=e;rw[WL b,qJ]
 have f:∀a,([0,0,0,0]:List Nat).getD a 0=0:=fun a=>by
  match a with
  |0|1|2|3=>rfl
  |a+4=>rfl
 by_cases a:j<(gF e).length
 ·rw[Fp a];unfold gF at a ⊢;rw[List.length_take]at a;exact WL (by omega)
 ·rw[Fn a,f]
  unfold gF at a;rw[List.length_take]at a;by_cases c:j<e.length
  ·exact(WK e e.length j (by omega) c).symm
  ·rw[Mx,List.getElem?_eq_none (by omega)];rfl
def gO (d v:List Nat):List Nat:=oJ d v++d
theorem tV {d v:List Nat} (a:d.length=32) (b:v.length=3):(gO d v).length=36:=by unfold gO;rw[Nr,uS a b,a]
theorem Dk {d v:List Nat} (c:d.length=32) (f:v.length=3) (g:bM d) (h:bM v):bM (oJ d v):=fun j a=>by
 obtain⟨k,i,rfl⟩:=List.getElem_of_mem a;have l:=uS c f;have e:(oJ d v)[k]=(oJ d v).getD k 0:=by rw[Mx,Nn i];rfl
 rw[e,WM d v k (by omega)];refine(nU ?_ _).1.get _;intro j a;unfold jL at a;rcases List.mem_append.1 a with b|b
 ·rcases List.mem_append.1 b with b|b
  ·simp at b;omega
  ·exact g j b
 ·exact h j b
theorem wQ {d v:List Nat} (b:d.length=32) (c:v.length=3) (a:bM d) (e:bM v):bM (gO d v):=fun h f=>by
 rcases List.mem_append.1 f with g|g
 ·exact Dk b c a e h g
 ·exact a h g
theorem Dl {d v:List Nat} (b:d.length=32) (a:v.length=3) (j:bM d) (m:bM v) (k:Fin 4):gev (gO d v++v) (gexp k.val)=0:=by
 have c:bM (jL [0,0,0,0] d v):=fun h f=>by
  unfold jL at f;rcases List.mem_append.1 f with g|g
  ·rcases List.mem_append.1 g with g|g
   ·simp at g;omega
   ·exact j h g
  ·exact m h g
 have h:(jL [0,0,0,0] d v).length=39:=by unfold jL;rw[Nr,Nr,b,a];rfl
 have e:gO d v++v=List.zipWith (·^^^·) (iN (jL [0,0,0,0] d v) 35) (jL [0,0,0,0] d v):=by
  have n:=nU c 35;refine List.ext_getElem (by rw[Nr,tV b a,a,List.length_zipWith,n.2,h];rfl) fun f o q=>?_;rw[Nr,tV b a,a]at o;have p:∀(l:List Nat) (g:f<l.length),l[f]=l.getD f 0:=fun l g=>by rw[Mx,Nn g];rfl
  rw[List.getElem_zipWith,p,p,p];by_cases g:f<4
  ·have i:=WM d v f g
   rw[h]at i;rw[qJ,Fp (by rw[tV b a];omega)];unfold gO;rw[qJ,Fp (by rw[uS b a];omega),i]
   have:(jL [0,0,0,0] d v).getD f 0=0:=by
    unfold jL;rw[qJ,Fp (by rw[Nr];show f<4+_;omega),qJ,Fp (by show f<4;omega)]
    match f,g with
    |0,_|1,_|2,_|3,_=>rfl
   rw[this,Nat.xor_zero]
  ·rw[WJ c 35 (by omega) f (by omega) (by omega),Nat.zero_xor]
   unfold jL;rw[qJ,qJ,tV b a,Nr,b];show _=if f<4+32 then _ else _
   by_cases i:f<36
   ·rw[Fp i,Fp (by omega)]
    unfold gO;rw[qJ,qJ,uS b a,Fn g];show _=if f<4 then _ else d.getD (f-4) 0
    rw[Fn g]
   ·rw[Fn i,Fn (by omega)];rfl
 rw[e,TN _ _ ((nU c 35).2) (nU c 35).1 c,WI c k 35 (by omega),Nat.xor_self]
theorem yH (w v:List Nat) (k:Fin 4):(gM w v).getD k.val 0=gev (w++v) (gexp k.val):=by
 have:gM w v=[gev (w++v) (gexp 0),gev (w++v) (gexp 1),gev (w++v) (gexp 2),gev (w++v) (gexp 3)]:=rfl;rw[this]
 match k with
 |0|1|2|3=>rfl
theorem WO:∀a:Fin 4,∀b:Fin 39,gpow (gexp a.val) b.val=gexp (a.val*b.val%255):=by decide+kernel
theorem MZ:∀a:Fin 39,gexp (2*a.val%255)=gmul (gexp a.val) (gexp a.val)∧gexp (3*a.val%255)=gmul (gexp (2*a.val%255)) (gexp a.val):=by decide+kernel
theorem WP:gexp 0=1:=by decide+kernel
theorem N0 {w v:List Nat} (g:w.length=36) (h:v.length=3) (a:bM w) (b:bM v) (j e:Nat) (i:j<36) (c:e<256) (k:Fin 4):(gM (xat w j e) v).getD k.val 0=(gM w v).getD k.val 0^^^gmul e (gexp (k.val*j%255)):=by
 rw[yH,yH];have:xat w j e++v=(w++v).set j ((w++v).getD j 0^^^e):=by unfold xat;rw[List.set_append_left _ _ (by omega),qJ,Fp (by omega)]
 rw[this,FM _ _ _ _ (fun l d=>by
  rcases List.mem_append.1 d with f|f
  ·exact a l f
  ·exact b l f) c (by rw[Nr];omega),WO k ⟨j,by omega⟩]
theorem Dm {w:List Nat} (a:w.length=36) (b:bM w) (i:Nat) (k:Fin 4):(gM w (dM i false)).getD k.val 0=(gM w (dM i true)).getD k.val 0^^^gmul 128 (gexp (k.val*38%255)):=by
 rw[yH,yH]
 have:w++dM i false=(w++dM i true).set 38 ((w++dM i true).getD 38 0^^^128):=by
  rw[qJ,Fn (by omega),a,List.set_append_right _ _ (by omega),a];congr 1;show[_,_,i/65536%128]=[_,_,(i/65536%128+128)^^^128];have:∀c:Fin 128,c.val=(c.val+128)^^^128:=by decide+kernel
  rw[←this ⟨_,Nat.mod_lt _ (by decide)⟩]
 rw[this,FM _ _ _ _ (fun e c=>by
  rcases List.mem_append.1 c with d|d
  ·exact b e d
  ·exact qE _ _ e d) (by decide) (by rw[Nr,a];show 38<36+3;decide),WO k ⟨38,by decide⟩]
theorem CQ (w v:List Nat):nW (gM w v)=iC ((gM w v).getD 0 0) ((gM w v).getD 1 0) ((gM w v).getD 2 0) ((gM w v).getD 3 0):=rfl
theorem WQ {e:Nat} (b:j<39) (c:e<256) (a:e≠0):iC (gmul e (gexp (0*j%255))) (gmul e (gexp (1*j%255))) (gmul e (gexp (2*j%255))) (gmul e (gexp (3*j%255)))=if j<36 then(1,(j:Int),e)else(2,(j:Int),e):=by
 rw[Nat.zero_mul,Nat.zero_mod,WP,wP c,Nat.one_mul,Og (show j<255 by omega)];have h:gexp j≠0:=BP (by omega);obtain⟨d,f⟩:=MZ ⟨j,b⟩;simp only at d f;have i:gdiv (gmul e (gexp j)) e=gexp j:=by rw[uO e];exact ro (wC _) c a
 unfold iC;rw[i,BO (by omega),Fn fun g=>a g.1,Fn (fun g=>by rcases g with g|g;exact a g;exact BR a h g),Fp ⟨rfl,by rw[d,pD],by rw[f,pD],b⟩]
theorem Do:iC 0 0 0 0=(0,-1,0):=rfl
theorem Dp {e f:Nat} (q:j<255) (r:k<255) (z:j≠k) (A:e<256) (B:f<256) (u:e≠0) (C:f≠0) (d:Nat):iC (e^^^f) (gmul e (gexp j)^^^gmul f (gexp k)) (gmul (gmul e (gexp j)) (gexp j)^^^gmul (gmul f (gexp k)) (gexp k)) d=(3,-1,0):=by
 have G:=BP q;have H:=BP r;have lx:=wC j;have ly:=wC k;have c:gexp j≠gexp k:=fun a=>z (by rw[←BO q,←BO r,a]);generalize gexp j=y at*;generalize gexp k=v at*;unfold iC;by_cases l:e^^^f=0
 ·have g:e=f:=by have:=congrArg (·^^^f) l;simpa[Nat.xor_assoc]using this
  have m:gmul e y^^^gmul f v≠0:=fun a=>by
   rw[←g,←wD e lx ly]at a;rcases FK a with a|a
   ·exact u a
   ·exact c (by have:=congrArg (·^^^v) a;simpa[Nat.xor_assoc]using this)
  rw[Fn fun a=>m a.2.1,Fp (.inl l)]
 ·rw[Fn fun a=>l a.1]
  by_cases m:gmul e y^^^gmul f v=0
  ·rw[Fp (.inr m)]
  ·rw[Fn (fun a=>by rcases a with a|a;exact l a;exact m a),Fn]
   intro a;obtain⟨o,h,-,-⟩:=a;have i:=T9 (gmul e y^^^gmul f v) (e^^^f);generalize gdiv (gmul e y^^^gmul f v) (e^^^f)=D at o h i;have w:∀p g s t:Nat,p^^^g=s^^^t→p^^^s=g^^^t:=fun p g s t a=>by have this:p^^^g^^^g^^^s=s^^^t^^^g^^^s:=congrArg (fun n=>n^^^g^^^s) a;rw[show p^^^g^^^g^^^s=p^^^s by rw[Nat.xor_assoc p,Nat.xor_self,Nat.xor_zero],show s^^^t^^^g^^^s=g^^^t by rw[Nat.xor_comm s t,Nat.xor_assoc t,Nat.xor_comm s g,←Nat.xor_assoc t,Nat.xor_assoc,Nat.xor_self,Nat.xor_zero,Nat.xor_comm]]at this;exact this
   rw[BQ D A B]at o;have p:=w _ _ _ _ o;rw[←wD e lx i,←wD f ly i]at p;rw[BQ D (mQ _ _) (mQ _ _)]at h;have x:=w _ _ _ _ h;rw[←wD _ lx i,←wD _ ly i,uO e y,uO f v,pD,pD,←p]at x;have n:gmul (y^^^v) (gmul e (y^^^D))=0:=by rw[BQ _ lx ly,x,Nat.xor_self]
   have g:∀F b:Nat,F^^^b=0→F=b:=fun F b a=>by
    have h:F^^^b^^^b=b:=by rw[a,Nat.zero_xor]
    rwa [Nat.xor_assoc,Nat.xor_self,Nat.xor_zero]at h
   rcases FK n with n|n
   ·exact c (g _ _ n)
   ·have a:gmul f (v^^^D)=0:=by rw[←p];exact n
    rcases FK n with n|n
    ·exact u n
    ·rcases FK a with a|a
     ·exact C a
     ·exact c ((g _ _ n).trans (g _ _ a).symm)
def uN (a b:List Nat):Nat→Nat
 |0=>0
 |k+1=>uN a b k+(if a.getD k 0=b.getD k 0 then 0 else 1)
theorem WS {a a' b:List Nat}:∀n,(∀c,c<n→a.getD c 0=a'.getD c 0)→uN a b n=uN a' b n
 |0,_=>rfl
 |n+1,d=>by unfold uN;rw[WS n fun c e=>d c (by omega),d n (by omega)]
theorem N1 {a b:List Nat} (e n:Nat):n≤a.length→uN a b n=e+1→∃f,f<n∧a.getD f 0≠b.getD f 0∧uN (a.set f (b.getD f 0)) b n=e:=by
 induction n with
 |zero=>intro _ h;cases h
 |succ n i=>
  intro k h;unfold uN at h;by_cases c:a.getD n 0=b.getD n 0
  ·rw[Fp c]at h
   obtain⟨f,l,g,j⟩:=i (by omega) (by omega);refine⟨f,by omega,g,?_⟩;have d:(a.set f (b.getD f 0)).getD n 0=a.getD n 0:=by rw[uU (by omega),Fn (by omega)]
   unfold uN;rw[j,d,Fp c,Nat.add_zero]
  ·rw[Fn c]at h
   refine⟨n,by omega,c,?_⟩;have d:(a.set n (b.getD n 0)).getD n 0=b.getD n 0:=by rw[uU (by omega),Fp rfl]
   unfold uN;rw[d,Fp rfl,WS (a':=a) n fun j g=>by rw[uU (by omega),Fn (by omega)]];omega
theorem Dq {a b:List Nat} (n:Nat):uN a b n=0→∀d,d<n→a.getD d 0=b.getD d 0:=by
 induction n with
 |zero=>intro _ d f;omega
 |succ n g=>
  intro h d f;unfold uN at h;by_cases c:a.getD n 0=b.getD n 0
  ·rw[Fp c]at h
   by_cases e:d=n
   ·subst e;exact c
   ·exact g (by omega) d (by omega)
  ·rw[Fn c]at h;omega
theorem Dr {a b:List Nat} (c:a.length=n) (d:b.length=n) (g:∀e,e<n→a.getD e 0=b.getD e 0):a=b:=by refine List.ext_getElem (c.trans d.symm) fun h e f=>?_;have:=g h (by omega);simpa[Mx,Nn e,Nn f]using this
theorem Ds (a b:Nat):a^^^(a^^^b)=b:=by rw[←Nat.xor_assoc,Nat.xor_self,Nat.zero_xor]
theorem N2 {a:List Nat} (b:j<a.length) (v:Nat):xat (a.set j v) j (v^^^a.getD j 0)=a:=by unfold xat;rw[uU b,Fp rfl,List.set_set,Ds,Mx,Nn b];exact List.set_getElem_self b
theorem N3 {a b:Nat} (d:a≠b):b^^^a≠0:=fun c=>d (by have:=congrArg (·^^^a) c;simp[Nat.xor_assoc]at this;exact this.symm)
theorem Dt {a:List Nat} {e:Nat} (b:j<a.length):xat (xat a j e) j e=a:=by unfold xat;rw[uU b,Fp rfl,List.set_set,Nat.xor_assoc,Nat.xor_self,Nat.xor_zero,Mx,Nn b];exact List.set_getElem_self b
theorem WT {d v:List Nat} (a:d.length=32) (b:v.length=3):(gO d v).drop 4=d:=by unfold gO;rw[List.drop_append_of_le_length (by rw[uS a b];exact Nl),List.drop_of_length_le (by rw[uS a b];exact Nl),List.nil_append]
theorem FN {d v:List Nat} (a:d.length=32) (b:v.length=3) (c:bM d) (e:bM v) (k:Fin 4):(gM (gO d v) v).getD k.val 0=0:=by rw[yH,Dl a b c e]
theorem WU (l:List Nat) (i:Nat):o7 l i=((mE l (nW (gM l (dM i false)))).drop 4,mU (nW (gM l (dM i false)))):=rfl
theorem Du {d:List Nat} (a:d.length=32) (g:bM d) (i:Nat):o7 (gO d (dM i false)) i=(d,0):=by have h:=qE i false;have s:=fun b=>FN a (show(dM i false).length=3 from rfl) g h b;have b:=s 0;have c:=s 1;have e:=s 2;have f:=s 3;simp only[Fin.val_zero,Fin.val_one,Fin.val_two,show(3:Fin 4).val=3 from rfl]at b c e f;rw[WU,CQ,b,c,e,f,Do];show((gO d _).drop 4,(0:Int))=_;rw[WT a rfl]
theorem Dv {d:List Nat} (a:d.length=32) (c:bM d) (i j e:Nat) (f:j<36) (g:e<256) (n:e≠0):o7 (xat (gO d (dM i false)) j e) i=(d,1):=by
 have b:=qE i false;have o:=tV a (show(dM i false).length=3 from rfl);have s:∀h:Fin 4,(gM (xat (gO d (dM i false)) j e) (dM i false)).getD h.val 0=gmul e (gexp (h.val*j%255)):=fun h=>by rw[N0 o rfl (wQ a rfl c b) b j e f g h,FN a rfl c b,Nat.zero_xor]
 have h:=s 0;have k:=s 1;have l:=s 2;have m:=s 3;simp only[Fin.val_zero,Fin.val_one,Fin.val_two,show(3:Fin 4).val=3 from rfl]at h k l m;rw[WU,CQ,h,k,l,m,WQ (by omega) g n,Fp f];unfold mE;rw[Fp rfl];show((xat _ ((j:Int).toNat) e).drop 4,(1:Int))=_;rw[Int.toNat_natCast,Dt (by omega),WT a rfl]
theorem Dw {d:List Nat} (b:d.length=32) (g:bM d) (i j k e f:Nat) (q:j<36) (r:k<36) (u:j≠k) (c:e<256) (h:f<256) (v:e≠0) (w:f≠0):(o7 (xat (xat (gO d (dM i false)) j e) k f) i).2=3:=by
 have a:=qE i false;have m:=tV b (show(dM i false).length=3 from rfl);have s:∀t:Fin 4,(gM (xat (xat (gO d (dM i false)) j e) k f) (dM i false)).getD t.val 0=gmul e (gexp (t.val*j%255))^^^gmul f (gexp (t.val*k%255)):=fun t=>by rw[N0 (by rw[BM,m]) rfl ((wQ b rfl g a).xat j c) a k f r h t,N0 m rfl (wQ b rfl g a) a j e q c t,FN b rfl g a,Nat.zero_xor]
 have n:=s 0;have o:=s 1;have l:=s 2;have x:=s 3;simp only[Fin.val_zero,Fin.val_one,Fin.val_two,show(3:Fin 4).val=3 from rfl,Nat.zero_mul,Nat.zero_mod,WP,wP c,wP h,Nat.one_mul,Og (show j<255 by omega),Og (show k<255 by omega)]at n o l x;have p:=(MZ ⟨j,by omega⟩).1;have mk:=(MZ ⟨k,by omega⟩).1;simp only at p mk;rw[p,mk,←pD,←pD]at l;show mU (nW _)=3;rw[CQ,n,o,l,Dp (by omega) (by omega) u c h v w];rfl
theorem Dx {d:List Nat} (a:d.length=32) (b:bM d) (i:Nat):(o7 (gO d (dM i true)) i).2=2:=by
 have c:=qE i true;have j:=tV a (show(dM i true).length=3 from rfl);have s:∀e:Fin 4,(gM (gO d (dM i true)) (dM i false)).getD e.val 0=gmul 128 (gexp (e.val*38%255)):=fun e=>by rw[Dm j (wQ a rfl b c) i e,FN a rfl b c,Nat.zero_xor]
 have e:=s 0;have f:=s 1;have g:=s 2;have h:=s 3;simp only[Fin.val_zero,Fin.val_one,Fin.val_two,show(3:Fin 4).val=3 from rfl]at e f g h;show mU (nW _)=2;rw[CQ,e,f,g,h,WQ (by decide) (by decide) (by decide)];rfl
theorem Dy {d:List Nat} (f:d.length=32) (h:bM d) (i:Nat) {l:List Nat} (m:l.length=36) (n:bM l):(uN l (gO d (dM i false)) 36=0→l=gO d (dM i false)∧o7 l i=(d,0))∧(uN l (gO d (dM i false)) 36=1→o7 l i=(d,1))∧(uN l (gO d (dM i false)) 36=2→(o7 l i).2=3):=by
 have s:=qE i false;have t:=tV f (show(dM i false).length=3 from rfl);have o:=wQ f (show(dM i false).length=3 from rfl) h s;have x:∀b:List Nat,b.length=36→uN b (gO d (dM i false)) 36=0→b=gO d (dM i false):=fun b g r=>Dr g t (Dq 36 r);refine⟨fun r=>?_,fun r=>?_,fun r=>?_⟩
 ·have:=x l m r;rw[this];exact⟨rfl,Du f h i⟩
 ·obtain⟨j,p,c,g⟩:=N1 0 36 (by omega) r;have e:=N2 (a:=l) (j:=j) (by omega) ((gO d (dM i false)).getD j 0);rw[x _ (by rw[Od,m]) g]at e;rw[←e];exact Dv f h i j _ p (lQ (o.get _) (n.get _)) (N3 c)
 ·obtain⟨j,p,c,g⟩:=N1 1 36 (by omega) r
  obtain⟨w,u,b,v⟩:=N1 0 36 (by rw[Od];omega) g;have e:=N2 (a:=l) (j:=j) (by omega) ((gO d (dM i false)).getD j 0);have q:=N2 (a:=l.set j ((gO d (dM i false)).getD j 0)) (j:=w) (by rw[Od];omega) ((gO d (dM i false)).getD w 0);rw[x _ (by rw[Od,Od,m]) v]at q;have k:w≠j:=fun r=>by subst r;rw[uU (by omega),Fp rfl]at b;exact b rfl
  rw[uU (by omega),Fn (Ne.symm k)]at q b;rw[←q]at e;rw[←e];exact Dw f h i w j _ _ u p k (lQ (o.get _) (n.get _)) (lQ (o.get _) (n.get _)) (N3 b) (N3 c)
theorem N4 {c:Type} {x:c} {a b:List c} (j:Nat):(a++b).getD j x=if j<a.length then a.getD j x else b.getD (j-a.length) x:=by
 by_cases d:j<a.length
 ·rw[Fp d,Mx,Mx,List.getElem?_append_left d]
 ·rw[Fn d,Mx,Mx,List.getElem?_append_right (by omega)]
theorem FO {a b:List Int} (c:a.length=n) (d:b.length=n) (g:∀e,e<n→a.getD e 0=b.getD e 0):a=b:=by refine List.ext_getElem (c.trans d.symm) fun h e f=>?_;have:=g h (by omega);simpa[Mx,Nn e,Nn f]using this
theorem WV (l:List Int) (n k:Nat) (a:List Int) (d:n*k+a.length≤l.length) (j:Nat):(lZ l n k a).getD j 0=if n*k≤j∧j<n*k+a.length then a.getD (j-n*k) 0 else l.getD j 0:=by
 unfold lZ splice;rw[N4,N4,List.length_take,Nat.min_eq_left (by omega)];by_cases b:j<n*k
 ·rw[Fp b,Fn (by omega),Mx,Mx,List.getElem?_take_of_lt b]
 ·rw[Fn b]
  by_cases c:j-n*k<a.length
  ·rw[Fp c,Fp (by omega)]
  ·rw[Fn c,Fn (by omega),Mx,Mx,List.getElem?_drop,show n*k+a.length+(j-n*k-a.length)=j by omega]
theorem N5 {n c:Nat} {f:Nat→List Int} {g:Nat→List Int} (j:(g 0).length=n*c) (d:∀a,g (a+1)=lZ (g a) n a (f a)) (b:∀a,(f a).length=n) (p:0<n):∀m,m≤c→(g m).length=n*c∧∀a,a<m→cG (g m) n a=f a
 |0,_=>⟨j,fun a q=>by omega⟩
 |m+1,r=>by
  obtain⟨h,s⟩:=N5 j d b p m (by omega);have k:n*m+n≤n*c:=by rw[←Nat.mul_succ];exact Nat.mul_le_mul_left n r
  have l:(g (m+1)).length=n*c:=by rw[d,xJ _ _ _ _ (by rw[b,h];exact k),h]
  refine⟨l,fun a q=>?_⟩;have i:n*a+n≤n*c:=by rw[←Nat.mul_succ];exact Nat.mul_le_mul_left n (by omega)
  refine FO (pX _ _ _ (by rw[l];exact i)) (b a) fun t o=>?_;rw[oZ _ _ _ _ o,d,WV _ _ _ _ (by rw[b,h];exact k),b];by_cases e:a=m
  ·subst e;rw[Fp (by omega),show n*a+t-n*a=t by omega]
  ·have:n*a+n≤n*m:=by rw[←Nat.mul_succ];exact Nat.mul_le_mul_left n (by omega)
   rw[Fn (by omega),←oZ _ _ _ _ o,s a (by omega)]
theorem N6 (l:List Int) (i:Nat) (p:Bool) (k:Nat) (a:k<8):cG (pG l i p 8) 9 k=qH l i p k:=(N5 (n:=9) (c:=8) (g:=pG l i p) (f:=qH l i p) pC (fun _=>rfl) (MQ l i p) (by decide) 8 Nl).2 k a
theorem N7 (l:List Int) (i:Nat) (p:Bool) (k:Nat) (a:k<2):cG (pH l i p 2) 36 k=qI l i p k:=(N5 (n:=36) (c:=2) (g:=pH l i p) (f:=qI l i p) pC (fun _=>rfl) (MR l i p) (by decide) 2 Nl).2 k a
theorem WW (l:List Nat):dI (eN l)=l:=by unfold dI eN;rw[List.map_map];exact List.map_id' l
theorem WX (l:List Int) (i:Nat) (p:Bool) (k:Nat):dI (qH l i p k)=jT (wordV l k) (parN i) p:=WW _
theorem WY (l:List Int) (i:Nat) (p:Bool) (k:Nat):dI (qI l i p k)=gO (dI (dC l k)) (dM i p):=WW _
theorem N8 (a b:List Int):∀n,diffN a b n=dN (dI a) (dI b) n
 |0=>rfl
 |n+1=>by unfold diffN dN;rw[N8 a b n,CG,CG]
theorem N9 {r:List Int} (c:r.length=72) (a:aX 72 r) (d:n*k+n≤72):aX n (cG r n k):=fun e b=>by rw[oZ _ _ _ _ b];exact a _ (by omega)
theorem WZ {a b:List Int}:∀n,aX n a→aX n b→unlN a b n=uN (dI a) (dI b) n
 |0,_,_=>rfl
 |n+1,c,d=>by obtain⟨i,e,_⟩:=c n (by omega);obtain⟨j,f,_⟩:=d n (by omega);unfold unlN uN;rw[WZ n (fun h g=>c h (by omega)) fun h g=>d h (by omega),CG,CG,e,f];simp only[Int.toNat_natCast,Int.ofNat_inj]
theorem FP {l:List Nat} (a:bM l) (c:l.length=n):aX n (eN l):=fun b d=>⟨l.getD b 0,by simp[eN,Mx,Nn (show b<l.length by omega)],a.get b⟩
theorem yI {m:Int} {n:Nat} {a b:List Int} {e:Nat}:∀f,expN m n a b f≤e↔∀c,c<f→unlV m (cG a n c) (cG b n c)≤e
 |0=>⟨fun _ c d=>by omega,fun _=>Ns _⟩
 |f+1=>by
  unfold expN;rw[Nat.max_le,yI f];refine⟨fun g c d=>?_,fun g=>⟨fun c d=>g c (by omega),g f (by omega)⟩⟩;by_cases e:c=f
  ·subst e;exact g.2
  ·exact g.1 c (by omega)
theorem NA {m:Int} {n:Nat} {a b:List Int} {e:Nat}:∀c,expN m n a b c=e+1→∃d,d<c∧unlV m (cG a n d) (cG b n d)=e+1
 |0,h=>by cases h
 |c+1,h=>by
  unfold expN at h;by_cases f:unlV m (cG a n c) (cG b n c)=e+1
  ·exact⟨c,by omega,f⟩
  ·obtain⟨d,i,g⟩:=NA c (show expN m n a b c=e+1 by omega);exact⟨d,by omega,g⟩
structure X0 (x:Int) (e:Nat) (good:Prop):Prop where
 z:e=0→x=0∧good
 o:e=1→x=1∧good
 t:e=2→x=3
theorem Dz (l:List Int) (f:aX 64 l) {r:List Int} (g:r.length=72) (h:aX 72 r) (i k:Nat) (b:k<8):X0 (gU r i k).2 (unlV 1 (cG r 9 k) (cG (cD 1 l i false) 9 k)) ((gU r i k).1=wordV l k)∧(unlV 1 (cG r 9 k) (cG (cD 1 l i false) 9 k)=0→cG r 9 k=cG (cD 1 l i false) 9 k):=by
 have a:(cG r 9 k).length=9:=pX _ _ _ (by omega);have c:=N9 g h (show 9*k+9≤72 by omega);have e:unlV 1 (cG r 9 k) (cG (cD 1 l i false) 9 k)=dN (dI (cG r 9 k)) (jT (wordV l k) (parN i) false) 9:=by unfold unlV cD;rw[Fp rfl,Fp rfl,a,N8,N6 l i false k b,WX]
 obtain⟨d,j,m⟩:=Di (xF f b) i (l:=dI (cG r 9 k)) (by rw[lH,a]) (sM c a);rw[e];refine⟨⟨fun n=>?_,fun n=>?_,m⟩,fun n=>?_⟩
 ·unfold gU;rw[(d n).2];exact⟨rfl,rfl⟩
 ·unfold gU;rw[j n];exact⟨rfl,rfl⟩
 ·have:=congrArg eN (d n).1;rw[yD c a]at this;unfold cD;rw[Fp rfl,N6 l i false k b,this];rfl
theorem Ea (l:List Int) (q:l.length=64) (h:aX 64 l) {r:List Int} (j:r.length=72) (m:aX 72 r) (i k:Nat) (b:k<2):X0 (fU r i k).2 (unlV 2 (cG r 36 k) (cG (cD 2 l i false) 36 k)) ((fU r i k).1=dI (dC l k))∧(unlV 2 (cG r 36 k) (cG (cD 2 l i false) 36 k)=0→cG r 36 k=cG (cD 2 l i false) 36 k):=by
 have a:(cG r 36 k).length=36:=pX _ _ _ (by omega);have c:=N9 j m (show 36*k+36≤72 by omega);have d:(dI (dC l k)).length=32:=by rw[lH,iS]
 have f:bM (dI (dC l k)):=sM (yC h k b) (iS l k);have e:unlV 2 (cG r 36 k) (cG (cD 2 l i false) 36 k)=uN (dI (cG r 36 k)) (gO (dI (dC l k)) (dM i false)) 36:=by unfold unlV cD;rw[Fn (by decide),Fn (by decide),a,N7 l i false k b,WZ 36 c,WY];show aX 36 (eN _);exact FP (wQ d rfl f (qE _ _)) (tV d rfl)
 obtain⟨g,n,o⟩:=Dy d f i (l:=dI (cG r 36 k)) (by rw[lH,a]) (sM c a);rw[e];refine⟨⟨fun p=>?_,fun p=>?_,o⟩,fun p=>?_⟩
 ·unfold fU;rw[(g p).2];exact⟨rfl,rfl⟩
 ·unfold fU;rw[n p];exact⟨rfl,rfl⟩
 ·have:=congrArg eN (g p).1;rw[yD c a]at this;unfold cD;rw[Fn (by decide),N7 l i false k b,this];rfl
theorem yJ {l:List Int} (d:0≤b) (i:∀e∈l,e≤b):(fS l).1≤b:=by
 unfold fS jK;simp only;rw[List.take_of_length_le Nl];suffices∀(l:List Int) (h:Int),h≤b→(∀e∈l,e≤b)→l.foldl max h≤b from this l 0 d i
 intro l
 induction l with
 |nil=>intro h a _;exact a
 |cons e l f=>intro h a c;exact f _ (by have:=c e (by simp);omega) fun j g=>c j (by simp[g])
theorem yK {l:List Int} {x:Int} (d:x∈l):x≤(fS l).1:=by
 unfold fS jK;simp only;rw[List.take_of_length_le Nl]
 have a:∀(l:List Int) (c:Int),c≤l.foldl max c:=fun l=>by
  induction l with
  |nil=>intro c;exact Int.le_refl _
  |cons e l b=>intro c;exact Int.le_trans (by omega) (b (max c e))
 suffices∀(l:List Int) (c:Int),x∈l→x≤l.foldl max c from this l 0 d
 intro l
 induction l with
 |nil=>intro c d;cases d
 |cons e l b=>
  intro c d;rcases List.mem_cons.1 d with d|d
  ·subst d;exact Int.le_trans (by omega) (a l (max c x))
  ·exact b _ d
theorem XA (l:List Int):0≤(fS l).1:=by
 unfold fS jK;simp only;rw[List.take_of_length_le Nl];suffices∀(l:List Int) (a:Int),a≤l.foldl max a from this l 0
 intro l
 induction l with
 |nil=>intro a;exact Int.le_refl _
 |cons c l b=>intro a;exact Int.le_trans (by omega) (b (max a c))
theorem XB {r s:List Int} {c:Nat} (e:r.length=n*c) (f:s.length=n*c) (i:∀a,a<c→cG r n a=cG s n a):r=s:=by
 refine FO e f fun d a=>?_;have g:0<n:=Nat.pos_of_ne_zero fun i=>by subst i;simp at a
 have h:d/n<c:=Nat.div_lt_of_lt_mul a;have b:=Nat.mod_lt d g;have this:(cG r n (d/n)).getD (d%n) 0=(cG s n (d/n)).getD (d%n) 0:=by rw[i _ h]
 rw[oZ _ _ _ _ b,oZ _ _ _ _ b,Nat.div_add_mod]at this;exact this
theorem Eb {l:List Int} (b:l.length=64) (a:aX 64 l):eN (dI (dC l 0)++dI (dC l 1))=l:=by
 have e:eN (dI (dC l 0)++dI (dC l 1))=eN (dI (dC l 0))++eN (dI (dC l 1)):=List.map_append;rw[e,yD (yC a 0 (by decide)) (iS _ _),yD (yC a 1 (by decide)) (iS _ _)];refine FO (by rw[Nr,iS,iS]) b fun f d=>?_;rw[N4,iS];by_cases c:f<32
 ·rw[Fp c,pV _ _ _ c,Nat.mul_zero,Nat.zero_add]
 ·rw[Fn c,pV _ _ _ (by omega)];congr 1;omega
theorem Ec {l:List Int} (s:l.length=64) (o:aX 64 l) {r:List Int} (p:r.length=72) (t:aX 72 r) (i:Nat):(expV 1 r (cD 1 l i false)≤1→(fZ 1 r i).1=l∧((fZ 1 r i).2.1=0∧r=cD 1 l i false∨(fZ 1 r i).2.1=1))∧(expV 1 r (cD 1 l i false)=2→(fZ 1 r i).1=ln0∧(fZ 1 r i).2.1=3):=by
 have h:=fun f d=>Dz l o p t i f d;have u:fZ 1 r i=(if 2≤(fS (jE r i).2).1 then ln0 else(jE r i).1,fS (jE r i).2):=rfl;have q:∀f,f<8→(gU r i f).2∈(jE r i).2:=fun f d=>List.mem_map.2 ⟨f,List.mem_range.2 d,rfl⟩;have v:∀w∈(jE r i).2,w≤3:=fun w j=>by obtain⟨f,_,rfl⟩:=List.mem_map.1 j;exact(show qF _≤3 by unfold qF;split<;>(try split)<;>(try split)<;>omega)
 rw[u];refine⟨fun k=>?_,fun k=>?_⟩
 ·have g:=(yI (m:=1) (n:=9) (a:=r) (b:=cD 1 l i false) 8).1 k
  have x:(fS (jE r i).2).1≤1:=yJ (by decide) fun w j=>by
   obtain⟨f,d,rfl⟩:=List.mem_map.1 j;have d:=List.mem_range.1 d;have:=g f d;obtain⟨n,_⟩:=h f d;rcases Nat.lt_or_ge 0 (unlV 1 (cG r 9 f) (cG (cD 1 l i false) 9 f))with k|k
   ·show(gU r i f).2≤1;rw[(n.o (by omega)).1];decide
   ·show(gU r i f).2≤1;rw[(n.z (by omega)).1];decide
  have w:=XA (jE r i).2;rw[Fn (by omega)];refine⟨?_,?_⟩
  ·rw[show(jE r i).1=(Nf 64).map (kC ((Nf 8).map fun f=>((gU r i f).1:Int))) from rfl]
   rw[show((Nf 8).map fun f=>((gU r i f).1:Int))=(Nf 8).map fun f=>((wordV l f:Nat):Int) from List.map_congr_left fun f d=>by
    have d:=List.mem_range.1 d;have:=g f d;obtain⟨n,_⟩:=h f d;rcases Nat.lt_or_ge 0 (unlV 1 (cG r 9 f) (cG (cD 1 l i false) 9 f))with k|k
    ·rw[(n.o (by omega)).2]
    ·rw[(n.z (by omega)).2]]
   exact DV l s o
  ·by_cases e:(fS (jE r i).2).1=1
   ·exact .inr e
   ·left
    refine⟨by show(fS (jE r i).2).1=0;omega,XB (n:=9) (c:=8) p (CK _ _ _ _) fun f d=>?_⟩;have:=g f d;obtain⟨n,j⟩:=h f d;refine j ?_;rcases Nat.lt_or_ge 0 (unlV 1 (cG r 9 f) (cG (cD 1 l i false) 9 f))with k|k
    ·have:=yK (q f d);rw[(n.o (by omega)).1]at this;omega
    ·omega
 ·obtain⟨f,d,g⟩:=NA (m:=1) (n:=9) (a:=r) (b:=cD 1 l i false) 8 k;have:=yK (q f d);rw[(h f d).1.t g]at this;have j:=yJ (by decide) v;rw[Fp (by omega)];exact⟨rfl,by show(fS (jE r i).2).1=3;omega⟩
theorem Ed {l:List Int} (o:l.length=64) (p:aX 64 l) {r:List Int} (q:r.length=72) (u:aX 72 r) (i:Nat):(expV 2 r (cD 2 l i false)≤1→(fZ 2 r i).1=l∧((fZ 2 r i).2.1=0∧r=cD 2 l i false∨(fZ 2 r i).2.1=1))∧(expV 2 r (cD 2 l i false)=2→(fZ 2 r i).1=ln0∧(fZ 2 r i).2.1=3):=by
 have h:=fun f d=>Ea l o p q u i f d;have v:fZ 2 r i=(if 2≤(fS (iD r i).2).1 then ln0 else(iD r i).1,fS (iD r i).2):=rfl;have s:∀f,f<2→(fU r i f).2∈(iD r i).2:=fun f d=>List.mem_map.2 ⟨f,List.mem_range.2 d,rfl⟩;have w:∀x∈(iD r i).2,x≤3:=fun x j=>by obtain⟨f,_,rfl⟩:=List.mem_map.1 j;exact(VW _).2
 rw[v];refine⟨fun t=>?_,fun t=>?_⟩
 ·have g:=(yI (m:=2) (n:=36) (a:=r) (b:=cD 2 l i false) 2).1 t
  have k:∀f,f<2→((fU r i f).2=0∨(fU r i f).2=1)∧(fU r i f).1=dI (dC l f):=fun f d=>by
   have:=g f d;obtain⟨n,_⟩:=h f d;rcases Nat.lt_or_ge 0 (unlV 2 (cG r 36 f) (cG (cD 2 l i false) 36 f))with t|t
   ·exact⟨.inr (n.o (by omega)).1,(n.o (by omega)).2⟩
   ·exact⟨.inl (n.z (by omega)).1,(n.z (by omega)).2⟩
  have y:(fS (iD r i).2).1≤1:=yJ (by decide) fun x j=>by obtain⟨f,d,rfl⟩:=List.mem_map.1 j;have:=(k f (List.mem_range.1 d)).1;show(fU r i f).2≤1;omega
  have x:=XA (iD r i).2;rw[Fn (by omega)];refine⟨?_,?_⟩
  ·rw[show(iD r i).1=eN ((fU r i 0).1++(fU r i 1).1) from rfl,(k 0 (by decide)).2,(k 1 (by decide)).2];exact Eb o p
  ·by_cases e:(fS (iD r i).2).1=1
   ·exact .inr e
   ·left
    refine⟨by show(fS (iD r i).2).1=0;omega,XB (n:=36) (c:=2) q (CK _ _ _ _) fun f d=>?_⟩;have:=g f d;obtain⟨n,j⟩:=h f d;refine j ?_;rcases Nat.lt_or_ge 0 (unlV 2 (cG r 36 f) (cG (cD 2 l i false) 36 f))with t|t
    ·have:=yK (s f d);rw[(n.o (by omega)).1]at this;omega
    ·omega
 ·obtain⟨f,d,g⟩:=NA (m:=2) (n:=36) (a:=r) (b:=cD 2 l i false) 2 t;have:=yK (s f d);rw[(h f d).1.t g]at this;have j:=yJ (by decide) w;rw[Fp (by omega)];exact⟨rfl,by show(fS (iD r i).2).1=3;omega⟩
theorem XC {m:Int} (a:fN m=true):m=1∨m=2:=by simpa[fN]using a
theorem CR {m:Int} (e:fN m=true) {l:List Int} (a:l.length=64) (b:aX 64 l) {r:List Int} (c:r.length=72) (d:aX 72 r) (i:Nat):(expV m r (cD m l i false)≤1→(fZ m r i).1=l∧((fZ m r i).2.1=0∧r=cD m l i false∨(fZ m r i).2.1=1))∧(expV m r (cD m l i false)=2→(fZ m r i).1=ln0∧(fZ m r i).2.1=3):=by
 rcases XC e with rfl|rfl
 ·exact Ec a b c d i
 ·exact Ed a b c d i
theorem Ee {m:Int} (f:fN m=true) {l:List Int} (j:l.length=64) (e:aX 64 l) (i:Nat):(fZ m (cD m l i true) i).1=ln0∧(fZ m (cD m l i true) i).2.1=2:=by
 rcases XC f with rfl|rfl
 ·have a:∀b,b<8→(gU (cD 1 l i true) i b).2=2:=fun b a=>by
   unfold gU cD;rw[Fp rfl,N6 l i true b a,WX];exact Dc (xF e a) i
  have d:fZ 1 (cD 1 l i true) i=(if 2≤(fS (jE (cD 1 l i true) i).2).1 then ln0 else(jE (cD 1 l i true) i).1,fS (jE (cD 1 l i true) i).2):=rfl;have g:(fS (jE (cD 1 l i true) i).2).1≤2:=yJ (by decide) fun k c=>by obtain⟨b,h,rfl⟩:=List.mem_map.1 c;show(gU _ i b).2≤2;rw[a b (List.mem_range.1 h)];decide
  have c:=yK (l:=(jE (cD 1 l i true) i).2) (List.mem_map.2 ⟨0,List.mem_range.2 (by decide),rfl⟩);rw[a 0 (by decide)]at c;rw[d,Fp c];exact⟨rfl,by show(fS _).1=2;omega⟩
 ·have a:∀b,b<2→(fU (cD 2 l i true) i b).2=2:=fun b a=>by
   unfold fU cD;rw[Fn (by decide),N7 l i true b a,WY];exact Dx (by rw[lH,iS]) (sM (yC e b a) (iS l b)) i
  have d:fZ 2 (cD 2 l i true) i=(if 2≤(fS (iD (cD 2 l i true) i).2).1 then ln0 else(iD (cD 2 l i true) i).1,fS (iD (cD 2 l i true) i).2):=rfl;have g:(fS (iD (cD 2 l i true) i).2).1≤2:=yJ (by decide) fun k c=>by obtain⟨b,h,rfl⟩:=List.mem_map.1 c;show(fU _ i b).2≤2;rw[a b (List.mem_range.1 h)];decide
  have c:=yK (l:=(iD (cD 2 l i true) i).2) (List.mem_map.2 ⟨0,List.mem_range.2 (by decide),rfl⟩);rw[a 0 (by decide)]at c;rw[d,Fp c];exact⟨rfl,by show(fS _).1=2;omega⟩
end
end Go.Proofs.YtlbgenenpheheaaGreat
