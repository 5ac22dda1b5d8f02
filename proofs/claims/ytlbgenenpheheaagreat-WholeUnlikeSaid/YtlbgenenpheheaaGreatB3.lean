/- What the six laws Whole.. of the program cuirasstop lean on, part 4: contracts of its functions and laws of what they compute; for all arguments that each theorem names -/
import Derived.Test.YtlbgenenpheheaaGreatB2
set_option linter.unusedVariables false
set_option linter.unusedSimpArgs false
set_option maxHeartbeats 100000000
set_option maxRecDepth 100000
namespace Go.Proofs.YtlbgenenpheheaaGreat
open Go.Value renaming int→I
open Go.IntKind renaming i64→Z
open Go.Obj renaming cells→O
open Go.Ending renaming returned→E
open Tryz renaming prog→Y
open Tryz
open _root_.Array renaming replicate→No,getElem?_eq_some_iff→Nz,length_toList→Oj
open _root_.Bool renaming and_eq_true→Nq
open Go renaming World→Mr,Value→Ms,Calls→Mt,undef→Mv,bodyPost_ret→My,wpQuiet_step→Mz,wpQuiet_nil→Na,callsIn_wide→Nk,results_none→Nw,heap_setCell_same→Nx,results_cell_row→Oa,below_setRow→Ob
open Go.RowKit renaming Below→Mu
open Go.Value renaming slice→Nh,oneCell'→Ni,ownBlock→Ny
open Go.World renaming putObj_heap_other→Ok
open _root_.List renaming getD→Mx,replicate→Nd,range→Nf,getElem?_eq_getElem→Nn,length_append→Nr,size_toArray→Nv,length_cons→Oc,length_set→Od,getElem?_eq_some_iff→Oe,getElem?_map→Of,getElem?_toArray→Oi
open _root_.Nat renaming le_trans→Ng,lt_of_lt_of_le→Nj,zero_le→Ns
open _root_.Option renaming some→S,none→N
variable {B C D F G H L R g i j n room:Nat} {P:Program} {W W' w w2:World} {a b e:Int} {cw:Nat→Prop} {o:Obj} {t:aR} {v:Value} {x:aW}
section
open Go.RowKit Go.Shelf lin
attribute [local go_sem] Oper.semAt_some
def kE (l:List Nat):Nat→List Nat
 |0=>[1]
 |j+1=>TG (kE l j) [l.getD j 0,1]
theorem TO {cs:Array Ms} {l:List Nat} (c:W.heap[g]?=S (O cs 5)) (e:cs.toList=aT l) (a:l.length=n) (b:n≤maxLen):fP (.slice (S ⟨g,0,N⟩) n n) l W:=by
 subst a;have a:cs.size=l.length:=by rw[←fC l,←e,Oj]
 exact⟨by rw[fC,Nat.mul_one],.inr ⟨g,l.length,cs,rfl,Ns _,c,Nl,b,by rw[a,Nat.mul_one],by rw[←e,Nat.mul_one,List.take_of_length_le (by rw[Oj,a];omega)]⟩⟩
theorem ru (l:List Nat) (f:bM l) (p:l.length≤100) (d:∀c,c≤l.length→gF (kE l c)≠[]∧(kE l c).length≤100∧bM (kE l c)) (v:Ms) (w:Mr) (g:iV F w) (c:iW v l w):Mt Y 175 #[.pointer (S ⟨F,0,N⟩),v] w fun e h=>∃b,e=E b∧fP b (kE l l.length) h∧(∀k,b.ownBlock=S k→w.heap.size≤k)∧Mu w.heap.size w h:=by
 have⟨n,a⟩:=Ey l.length;have H:=aA c
 have h:∃R j,v=.slice R n j:=by
  rcases c with⟨b,i⟩|⟨k,q,r,b,_⟩
  ·exact⟨_,_,by rw[b,←a,i];rfl⟩
  ·exact⟨_,_,by rw[b,a]⟩
 rw[a]at p d ⊢;have J:=aA d;have K:=Hd3 a f g;obtain⟨V,X,rfl⟩:=h;clear c d a f g;go_in;go_wp2_with fail;obtain⟨y,a⟩:∃W,W=w.alloc (O #[.int .u8 1] 5):=⟨_,rfl⟩;rw[←a];have j:fP (.slice (S ⟨w.heap.size,0,N⟩) 1 1) (kE l 0) y:=by rw[a];exact TO (aG _ _ _ rfl) rfl rfl (by unfold maxLen;omega)
 have L:aC w y:=by rw[a];exact aU
 clear a;go_loopw [5,11] (fun h a W=>∃c:Nat,c≤n∧a=I Z c∧fP h (kE l c) W∧(∀k,h.ownBlock=S k→w.heap.size≤k)∧aC w W) fun _ s _=>n-(intOf s).toNat
 case atStart=>exact⟨0,by omega,rfl,j,fun k a=>by simp[Ny]at a;omega,L⟩
 case round=>
  obtain⟨c,M,rfl,j,z,d⟩:=hrel;by_cases T:c<n
  ·have U:(c:Int)<n:=by omega
   have⟨a,f,g⟩:=K.out;rcases H.out with⟨b,i⟩|⟨k,q,r,b,i,t,o,A⟩
   ·simp[i]at a;omega
   simp at b;obtain⟨rfl,u,x⟩:=b;have c1:=(d.cells.1 k _ o).trans (A c (by omega));have zg:k<wr.heap.size:=Nj o d.size;obtain⟨B,C,D⟩:=J.out c M;have P:=f.get c;have Q:Hid (∀W m,aC wr W→iW m [l.getD c 0,1] W→Mt Y 211 #[.pointer (S ⟨F,0,N⟩),u5,m] W fun e h=>∃b,e=E b∧fP b (kE l (c+1)) h∧(∀k,b.ownBlock=S k→W.heap.size≤k)∧Mu W.heap.size W h):=aA fun W m b G=>ra (kE l c) [l.getD c 0,1] D (fun R h=>by simp at h;rcases h with rfl|rfl;exact P;decide) C (by simp) B (by show List.take (m7 _ 2) _≠[];rw[TB (by simp)];simp) u5 m W ((g.keeps d).keeps b) (j.rd.keeps b) G;have G:=aA d;clear u x j z d i t o A B C D a f g;generalize l.getD c 0=aa at*;go_wp2_with fail;refine(Q.out _ _ aU (TO (l:=[aa,1]) (aG _ _ _ rfl) rfl (n:=2) rfl (by unfold maxLen;omega)).rd).mono ?_;rintro e w5 ⟨v5,rfl,h,R,m⟩;go_wp2_with fail;go_roundw
   case rel=>exact⟨c+1,by omega,by go_num,h,fun k a=>by have:=R k a;have:=G.out.size;simp at*;omega,Kc (Ka G.out) m⟩
   case measure=>simp[intOf];omega
  ·have a:c=n:=by omega
   subst a;go_wp2_with fail;go_ret;exact⟨_,rfl,j,z,d⟩
def wE (a n:Nat):List (Array Ms):=(Nf n).map fun i=>#[I Z (i:Nat),.int .u8 (gpow a i:Nat)]
theorem ER (a n:Nat):(wE a n).length=n:=by simp[wE]
theorem KT (a:Nat) (b:j<n):(wE a n)[j]?=S #[I Z (j:Nat),.int .u8 (gpow a j:Nat)]:=by simp[wE,b]
theorem rv (a:Nat):∀n,gpow a n<256
 |0=>show 1<256 by decide
 |n+1=>mQ _ _
theorem ry (F a n:Nat) (w:Mr):Mt Y 173 #[.pointer (S ⟨F,0,N⟩),.int .u8 a,I Z n] w fun e b=>e=E (.func (.func 208) #[] #[.pointer (S ⟨w.heap.size+1+1,0,N⟩),.pointer (S ⟨w.heap.size,0,N⟩),.pointer (S ⟨w.heap.size+1,0,N⟩)])∧b=((w.alloc (O #[.pointer (S ⟨F,0,N⟩)] 221)).alloc (O #[.int .u8 a] 5)).alloc (O #[I Z n] 3):=by go_in;go_wp2;go_ret;exact⟨rfl,rfl⟩
theorem sd (C B A F a n:Nat) (D:a<256) (X:n≤100) (W:Mr) (c:W.heap[C]?=S (O #[I Z n] 3)) (d:W.heap[B]?=S (O #[.pointer (S ⟨F,0,N⟩)] 221)) (f:W.heap[A]?=S (O #[.int .u8 a] 5)) (g:iV F W):pW Y 208 #[.pointer (S ⟨C,0,N⟩),.pointer (S ⟨B,0,N⟩),.pointer (S ⟨A,0,N⟩)] (wE a n) (fun b=>b=C∨b=B∨b=A∨b=F) W:=by
 intro lp cw aa Jx R b j i k h;have G:=aA k;have H:=aA j;have o:=aA b;have v:=Cw c 0;simp at v;have zN:=aB c;have J:=aA h;have K:=bT c d f g;clear k j i b h c d f g;refine(Nk (n:=9)).1 ?_;refine callsIn_of_wp func208 rfl trivial ?_ rfl;simp only[ntmps208,Nv,Oc,List.length_nil,Nat.reduceAdd,Nat.reduceSub,Array.replicate_succ,Array.replicate_zero,List.push_toArray,List.append_toArray,List.nil_append,List.cons_append];gi_wp2_with fail
 gi_loopw [5,9] (fun b c wr=>∃m:Nat,m≤n∧c=I Z m∧b=.int .u8 (gpow a m:Nat)∧(wr.heap[C]?=S (O #[I Z n] 3)∧wr.heap[B]?=S (O #[.pointer (S ⟨F,0,N⟩)] 221)∧wr.heap[A]?=S (O #[.int .u8 a] 5)∧iV F wr)∧aa m wr∧W.heap.size≤wr.heap.size) fun _ s _=>n-(intOf s).toNat
 case atStart=>exact⟨0,by omega,rfl,rfl,K.out,J.out,Nl⟩
 case round=>
  obtain⟨m,hj,rfl,rfl,⟨c,d,f,g⟩,h,p⟩:=hrel;by_cases q:m<n
  ·have T:(m:Int)<n:=by omega
   obtain⟨fn,y,u,z,hy,L⟩:=G.out m _ wr 8 (KT a q) h p;have M:=aA (show gpow a (m+1)=gmul (gpow a m) a from rfl);have l:=bT c d f g;have P:=rv a m;generalize gpow a m=ab at*;clear h c d f g v;gi_wp2_with fail;refine L.mono ?_;rintro e w ⟨b,⟨rfl,r⟩|⟨rfl,t⟩⟩
   ·have c:=aJ b l.out.1 (fun h=>o.out C h (.inl rfl))
    have d:=aJ b l.out.2.1 (fun h=>o.out B h (.inr (.inl rfl)));have f:=aJ b l.out.2.2.1 (fun h=>o.out A h (.inr (.inr (.inl rfl))));have g:=l.out.2.2.2.chg b fun h=>o.out F h (.inr (.inr (.inr rfl)));have v:=Cw d 0;have x:=Cw f 0;simp at v x;have U:W.heap.size≤w.heap.size:=Ng p b.size;have Q:=aA (BK (F:=F) ab a P D w g);have i:=bT c d f g;have j:=aA r;clear r b c d f g l;gi_wp2_with fail;refine⟨trivial,?_⟩;refine((Nk (n:=8)).2 Q.out).mono ?_;rintro e w4 ⟨rfl,k⟩;have V:=k.size;have h:=aA k;clear k v x;gi_wp2_with fail;go_roundw
    case rel=>exact⟨m+1,by omega,by go_num,by rw[M.out],⟨aE h.out i.out.1,aE h.out i.out.2.1,aE h.out i.out.2.2.1,i.out.2.2.2.keeps h.out⟩,H.out _ _ _ j.out h.out,by omega⟩
    case measure=>simp[intOf];omega
   ·have j:=aA t;clear t;gi_wp2_with fail;refine My (Nw rfl _ _ _) rfl ?_;exact⟨⟨_,rfl⟩,.inr j.out⟩
  ·have b:m=n:=by omega
   subst b;have b:Hid (aa (wE a m).length wr):=by rw[ER];exact aA h
   clear q c d f h g;gi_wp2_with fail
   go_end0
   exact⟨⟨_,rfl⟩,.inl b.out⟩
def gW:List Nat:=[1,2,4,8]
def gG:List Nat:=kE gW 4
theorem se:∀a:Fin 4,gpow 2 a.val=gW.getD a.val 0:=by decide+kernel
theorem sj:gexp 1=2:=by decide+kernel
theorem sn:∀a,a≤gW.length→gF (kE gW a)≠[]∧(kE gW a).length≤100∧bM (kE gW a):=by
 have:∀a:Fin 5,(gF (kE gW a.val)).isEmpty=false∧(kE gW a.val).length≤100∧(kE gW a.val).all (·<256)=true:=by decide+kernel
 intro a f;obtain⟨b,c,d⟩:=this ⟨a,by have:gW.length=4:=rfl;omega⟩;exact⟨(fun e=>by rw[e]at b;cases b),c,fun g e=>by simpa using List.all_eq_true.1 d g e⟩
theorem uP:gG=[64,120,54,15,1]:=by decide+kernel
structure mA (C F g:Nat) (W:Mr):Prop where
 row:∃cap,W.heap[C]?=S (O #[.pointer (S ⟨F,0,N⟩),.slice (S ⟨g,0,N⟩) 5 cap] 294)∧5≤cap∧cap≤maxLen
 fld:iV F W
 gen:d7 5 g (aT gG) W
theorem mA.same (f:mA C F g W) (c:W'.heap[C]?=W.heap[C]?) (d:W'.heap[F]?=W.heap[F]?) (e:W'.heap[g]?=W.heap[g]?):mA C F g W':=by obtain⟨⟨a,h,b⟩,i,j⟩:=f;exact⟨⟨a,c.trans h,b⟩,d7.same i d,j.same e⟩
theorem mA.lt (c:mA C F g W):C<W.heap.size∧F<W.heap.size∧g<W.heap.size:=by obtain⟨⟨a,d,b⟩,e,f⟩:=c;exact⟨aB d,d7.lt e,f.lt⟩
theorem mA.keeps (b:mA C F g W) (a:aC W W'):mA C F g W':=b.same (a.block _ b.lt.1) (a.block _ b.lt.2.1) (a.block _ b.lt.2.2)
theorem fP.base {l:List Nat} {base:Nat} (g:W.ownsRow base 5 1 v l.length (aT l)):fP v l W:=by
 obtain⟨d,⟨rfl,e⟩|⟨h,b,c,rfl,f,a⟩⟩:=g
 ·exact⟨d,.inl ⟨rfl,e⟩⟩
 ·exact⟨d,.inr ⟨h,b,c,rfl,Ns _,a⟩⟩
theorem xR {base:Nat} {xs:List Ms} (k:W.ownsRow base 5 1 v n xs) (f:aF cw W W') (g:∀h,cw h→h<base):W'.ownsRow base 5 1 v n xs:=by
 obtain⟨d,⟨rfl,i⟩|⟨h,b,c,rfl,j,e,a⟩⟩:=k
 ·exact⟨d,.inl ⟨rfl,i⟩⟩
 ·exact⟨d,.inr ⟨h,b,c,rfl,j,(f.block h (aB e) fun k=>by have:=g _ k;omega).trans e,a⟩⟩
theorem own_slice {base t b:Nat} {xs:List Ms} (h:W.ownsRow base t b v n xs):∃i j,v=.slice i n j:=by
 obtain⟨f,⟨rfl,c⟩|⟨k,d,e,rfl,g,a⟩⟩:=h
 ·exact⟨N,0,by rw[c]⟩
 ·exact⟨_,_,rfl⟩
theorem sq {j:Mr} {v':Ms} {x:Nat} {L:List Nat} {base t:Nat} (i:j.ownsRow base 5 1 v L.length (aT L)) (a:j.heap[C]?=S (O #[v] t)) (c:(j.alloc o).grownBy w2 v.ownBlock)
 (f:w2.ownsRow base 5 1 v' (L.length+1) (aT L++[.int .u8 (x:Int)])) (l:C<base):
 w2.heap[C]?=S (O #[v] t)∧aF (fun b=>b=C∨base≤b) j (w2.setCell ⟨C,0,N⟩ v')∧(w2.setCell ⟨C,0,N⟩ v').heap[C]?=S (O #[v'] t)∧(w2.setCell ⟨C,0,N⟩ v').ownsRow base 5 1 v' (L++[x]).length (aT (L++[x])):=by
 have d:=fun k g=>Mr.ownsRow.lt i k g;have h:=eS c (by rw[aV _ _ _ (aB a)];exact a) (fun e=>by have:=d _ e.symm;omega);refine⟨h,?_,Hs 0 v' h,?_⟩
 ·exact aF.setCell (cw:=fun b=>b=C∨base≤b) ((Cl.alloc o).grown c fun k g=>.inl (.inr (d k g).1)) (p:=⟨C,0,N⟩) (.inl (.inl rfl)) v'
 ·rw[Nr,List.length_singleton]
  have e:aT (L++[x])=aT L++[.int .u8 (x:Int)]:=by unfold aT;rw[List.map_append];rfl
  rw[e];exact xR f ((aF.refl (fun b=>b=C) _).setCell (p:=⟨C,0,N⟩) (.inl rfl) v') (fun k g=>by have g:k=C:=g;omega)
theorem ss (w:Mr) (c:iV F w):Mt Tryz.prog 127 #[.pointer (S ⟨F,0,N⟩)] w fun e a=>∃C r:Nat,e=E (.pointer (S ⟨C,0,N⟩))∧mA C F r a∧w.heap.size≤C∧w.heap.size≤r∧Mu w.heap.size w a:=by
 have P:=aA c;have HE:Hid (∀W,aC w W→Mt Tryz.prog 174 #[.pointer (S ⟨F,0,N⟩),I Z 1] W fun e a=>e=E (.int .u8 2)∧Mu W.heap.size W a):=aA (fun W v=>by have:=KG (F:=F) (n:=1) (x:=2) (by omega) (by omega) sj W (c.keeps v);exact this);clear c;refine(Nk (n:=9)).1 ?_;refine callsIn_of_wp_marks func127 rfl trivial ?_;simp only[ntmps127,Nv,Oc,List.length_nil,Nat.reduceAdd,Nat.reduceSub,Array.replicate_succ,Array.replicate_zero,List.push_toArray,List.append_toArray,List.nil_append,List.cons_append];gi_wp2_with fail;have f:aC w (w.alloc (O #[.slice N 0 0] 158)):=aU;refine⟨trivial,?_⟩;refine((Nk (n:=8)).2 (HE.out _ f)).mono ?_;rintro e o ⟨rfl,c⟩;have d:=Kc f c;have a:=aE c (show(w.alloc (O #[.slice N 0 0] 158)).heap[w.heap.size]?=_ from aG _ _ _ rfl);have g:=aH d a;clear f d c a;gi_wp2_with fail;refine⟨trivial,?_⟩;refine((Nk (n:=8)).2 (ry F 2 4 _)).mono ?_;rintro e k ⟨rfl,c⟩;have⟨d,a⟩:=g.out;have j:aC o k:=by rw[c];exact kS
 have l:k.heap.size=o.heap.size+3:=by rw[c];simp
 have t:k.heap[o.heap.size]?=S (O #[.pointer (S ⟨F,0,N⟩)] 221):=by rw[c,aV _ _ _ (by simp;omega),aV _ _ _ (by simp)];exact aG _ _ _ rfl
 have u:k.heap[o.heap.size+1]?=S (O #[.int .u8 2] 5):=by rw[c,aV _ _ _ (by simp)];exact aG _ _ _ (by simp)
 have v:k.heap[o.heap.size+1+1]?=S (O #[I Z 4] 3):=by rw[c];exact aG _ _ _ (by simp)
 have h:=P.out.keeps (Kc d j);have i:=aE j a;have m:w.heap.size<o.heap.size:=aB a;obtain⟨p,f⟩:∃s,s=o.heap.size:=⟨_,rfl⟩;have⟨H,q⟩:=Ex k.heap.size;rw[←f]at t u v m;have HX:=eQ (Kc d j) t u v h i;have HS:=aH (show H=p+3 by omega) m;have av:=P.out.lt;simp only[Mr.size_alloc];rw[←f];clear c j l t u v h i m d a g f;gi_wp2_with fail;have⟨k2,t,u,v,h,i⟩:=HX.out;have⟨eH,m⟩:=HS.out
 refine vV 9 9 (gf:=208) (lb:=#[.pointer (S ⟨p+1+1,0,N⟩),.pointer (S ⟨p,0,N⟩),.pointer (S ⟨p+1,0,N⟩)]) rfl (enters_of func208 (by kernel_rfl) rfl) (wE 2 4) (fun A=>A=p+1+1∨A=p∨A=p+1∨A=F) (fun A e=>by rw[←q];omega)
  (fun c a=>sd _ _ _ F 2 4 (by omega) (by omega) c (aE a v) (aE a t) (aE a u) (h.keeps a))
  (fun z d a=>by have G:z<4:=by have:=(Oe.1 a).1;rwa [ER]at this
                 rw[KT 2 G]at a;injection a with a;subst a;rfl)
  (fun A=>A=w.heap.size∨H+1+1≤A) (fun A c=>by rw[←q];omega)
  (fun z W=>∃d,W.heap[w.heap.size]?=S (O #[d] 158)∧W.ownsRow (H+1+1) 5 1 d (gW.take z).length (aT (gW.take z))∧aF (fun A=>A=w.heap.size) k W)
  (fun _ _=>False)
  (fun z X d c a=>?keep1) (fun _ _ _ c _=>c) ⟨.slice N 0 0,i,Mr.ownsRow_nil _ _ _ _,Cl⟩ ?round1 ?done1 fun _ _ _ c _=>c.elim
 case keep1=>obtain⟨d,f,g,j⟩:=c;rw[←q]at a;exact⟨d,aJ a f (by omega),xR g a fun r c=>by omega,j.next a fun A c=>.inr (by omega)⟩
 case round1=>
  intro z x W A hW c;have G:z<4:=by have:=(Oe.1 A).1;rwa [ER]at this
  rw[KT 2 G]at A;injection A with A;subst A;rw[se ⟨z,G⟩];have y:gW.length=4:=rfl;have a:gW.take (z+1)=gW.take z++[gW.getD z 0]:=by rw[List.take_add_one,Mx,Nn (by omega)];rfl
  have J:=aA a;have ba:H+1+1≤W.heap.size:=by rw[q];exact hW
  clear a;simp only at J ⊢;generalize gW.getD z 0=x at*;clear hW;gi_wp2_with fail;refine⟨Cl,c,fun W2 T U V=>?_⟩;clear c U;obtain⟨v1,g,d,r⟩:=V;have j:(gW.take z).length=z:=by rw[List.length_take];omega
  have m1:=Cw g 0;have m2:=aB g;have m3:H+1+1≤W2.heap.size:=by have:=T.size;omega
  simp at m1;obtain⟨i0,aa,ab,ad,ae⟩:=info_parts lO;obtain⟨a0,c0,rfl⟩:=own_slice d;rw[j]at g d m1;have⟨L,Q⟩:=Ex (gW.take z);rw[←Q]at d j;have a:=J.out;rw[←Q]at a;clear Q;have B:=eP g d r j a;have hS:=d;clear g d r a j;gi_wp2_with(gi_at_builtin;refine wpListIn_append_own _ rfl _ _ 158 rfl (H+1+1) 5 i0 (.int .u8 0) 1 1 underlying158 aa ab ad ae rfl (by decide) _ _ _ rfl (hS.alloc _) ⟨W2.heap.size,0,N⟩ 1 1 [.int .u8 (x:Int)] rfl rfl (cell_one_new _ _ _) (by simp[Ni]) (by unfold maxLen;omega) (by omega) (by simp;omega) ?_;intro v' w6 f l _;obtain⟨bb,ca,an⟩:=own_slice f;subst an;obtain⟨R,D,K,M⟩:=sq (L:=L) (by rw[B.out.2.2.2.1];exact B.out.2.1) B.out.1 l (by rw[B.out.2.2.2.1];exact f) (by omega);have b1:=Cw R 0;have b2:=Fw R 0;simp at b1;have ar:=Hd3 D K M;clear R D K M f l);have⟨g,d,r,j,a⟩:=B.out;have⟨D,K,M⟩:=ar.out;refine⟨D,_,K,?_,?_⟩
  ·rw[a];exact M
  ·exact r.next D (fun A c=>by rcases c with c|c;exact .inl c;exact .inr (by omega))
 case done1=>
  rintro T G ⟨v1,g,d,r⟩ f;rw[←q]at G f;have l:gW.take 4=gW:=rfl;rw[ER,l]at d;obtain⟨a0,c0,rfl⟩:=own_slice d;have y:gW.length=4:=rfl;have B:=Cw g 0;have U:=aB g;simp at B;have j:aC w T:=((aF.of_below k2 fun _=>False).next r fun A c=>.inr (by have c:A=w.heap.size:=c;omega)).below Nl fun A c=>c.elim;have a:=P.out.keeps j;have A:=aA (ru gW (fun z c=>by simp[gW]at c;omega) (by rw[y];omega) sn (.slice a0 gW.length c0) T a (fP.base d).rd);have z:=Hd3 j a f;clear g d r k2 t u v h i a f j HX l;rw[y]at B A;gi_wp2_with fail;refine⟨trivial,?_⟩;refine((Nk (n:=8)).2 A.out).mono ?_;rintro e g ⟨V,rfl,u,v,c⟩;have⟨j,a,f⟩:=z.out;rcases u.cases with⟨_,J⟩|⟨r,d,rfl,i,l,h⟩
  ·exact absurd (show kE gW 4=[] from J) (by rw[show kE gW 4=gG from rfl,uP];simp)
  have t:(kE gW 4).length=5:=by rw[show kE gW 4=gG from rfl,uP];rfl
  have hg:=v r rfl;rw[t]at i;have h:d7 5 r (aT gG) g:=h;have K:=eQ i l h (a.keeps c) (Kc j c) (aE c f);have M:=c.size;rw[t];clear i l h a j c f u v z t;gi_wp2_with fail;have⟨i,l,h,a,D,f⟩:=K.out;have j:(g.alloc (O #[.pointer (S ⟨F,0,N⟩),.slice (S ⟨r,0,N⟩) 5 d] 294)).heap[k.heap.size]?=S (.deferred (S [])):=by rw[←q,aV _ _ _ (aB f)];exact f
  have Q:=aB f;have t:=h.lt;have u:=a.lt;refine⟨by simp,.inl ⟨_,_,rfl,run_takeDeferred j,?_⟩⟩;rw[←q];refine⟨_,results_tmp rfl _ _ _,?_⟩;have c:∀b,b≠H→((g.alloc (O #[.pointer (S ⟨F,0,N⟩),.slice (S ⟨r,0,N⟩) 5 d] 294)).putObj H (.deferred N)).heap[b]?=(g.alloc (O #[.pointer (S ⟨F,0,N⟩),.slice (S ⟨r,0,N⟩) 5 d] 294)).heap[b]?:=fun b v=>Ok v;have R:(g.alloc (O #[.pointer (S ⟨F,0,N⟩),.slice (S ⟨r,0,N⟩) 5 d] 294)).heap.size=g.heap.size+1:=by simp
  refine⟨g.heap.size,r,rfl,⟨⟨d,(c _ (by omega)).trans (aG _ _ _ rfl),i,l⟩,?_,?_⟩,D.size,by omega,?_⟩
  ·exact d7.same a ((c F (by omega)).trans (aV _ _ _ u))
  ·exact h.same ((c r (by omega)).trans (aV _ _ _ t))
  ·exact(Ka D).trans ⟨rfl,rfl,rfl,by simp,fun z v=>Ok (show z≠H by omega)⟩
def iN (p:List Nat):Nat→List Nat
 |0=>p
 |m+1=>iX (iN p m) (p.length-1-m-4) (gmul ((iN p m).getD (p.length-1-m) 0) 1) gG 5
theorem nU {p:List Nat} (a:bM p):∀m,bM (iN p m)∧(iN p m).length=p.length
 |0=>⟨a,rfl⟩
 |m+1=>⟨(sG (nU a m).1 _ _ _ _).1,(sG (nU a m).1 _ _ _ _).2.trans (nU a m).2⟩
def BS (p:List Nat):List Nat:=gF (iN p (p.length-4))
theorem TP:bM gG:=fun b a=>by rw[uP]at a;simp at a;omega
theorem su:m7 gG 5=5:=by rw[uP];decide
theorem sy:gdiv 1 1=1:=by decide+kernel
theorem tb {cap:Nat} (p:List Nat) (h:bM p) (ae:4≤p.length) (an:p.length≤100) (vp:Ms) (w:Mr) (l:iV F w) (r:d7 5 g (aT gG) w) (bx:5≤cap) (ar:cap≤maxLen) (rp:iW vp p w):Mt Y 192 #[.pointer (S ⟨F,0,N⟩),vp,.slice (S ⟨g,0,N⟩) 5 cap] w fun e c=>∃a,e=E (.tuple #[a,I Z 0])∧fP a (BS p) c∧(∀g,a.ownBlock=S g→w.heap.size≤g)∧Mu w.heap.size w c:=by
 have a:gG.length=5:=by rw[uP];rfl
 have HD:=aA (TC gG (by rw[a];omega) TP _ w (KK r (by omega) ar a))
 have HI:Hid (∀W,aC w W→Mt Y 218 #[.pointer (S ⟨F,0,N⟩),.int .u8 1] W fun e c=>e=E (.tuple #[.int .u8 1,I Z 0])∧Mu W.heap.size W c):=aA (fun W t=>by
  have:=qs (F:=F) 1 (by omega) (by omega) W (l.keeps t)
  rw[sy]at this;exact this)
 have HC:=aA fun c (t:aC w c)=>TF p (by omega) vp c (rp.keeps t);have HM:=aA fun c (t:aC w c) ad b d f=>BK (F:=F) ad b d f c (l.keeps t);have HT:=aA fun d c=>KJ (iN p (p.length-4)) (by rw[(nU h _).2];omega) (nU h _).1 d c;rw[a,su]at HD;have c:=r.cell (kL gG (j:=4) (by omega));have d:gG.getD 4 0=1:=by rw[uP];rfl
 rw[d]at c;have gz:=r.lt;have HG:=aH r a;have HP:=aA h;unfold BS;have⟨n,f⟩:=Ey p.length;rw[f]at ae an HT ⊢;have v:=aA f;obtain⟨q,o⟩:wrap64 ((n:Int)-1)=n-1∧IntKind.i64.wrap ((n:Int)-1)=n-1:=⟨IntWalk.wrap64_in _ ⟨by omega,by omega⟩,IntWalk.i64_in _ ⟨by omega,by omega⟩⟩;have bz:(5:Int)≤cap:=by omega
 clear l r h rp a f d;go_in;go_wp2_with fail;refine HD.out.mono ?_;rintro e w1 ⟨rfl,a⟩;replace c:=(a.cell (p:=⟨g,4,N⟩) gz).trans c;have cc:=Nj gz a.size;have H:=aA a;clear a;go_wp2_with fail;refine(HI.out _ H.out).mono ?_;rintro e w2 ⟨rfl,a⟩;have u:=aA (Kc H.out a);clear a c;go_wp2_with fail;refine(HC.out _ u.out).mono ?_;rintro e w3 ⟨v3,rfl,f,J,a⟩;rcases f.cases with⟨_,h0⟩|⟨d,c3,rfl,c,q2,hO⟩
 ·have:=v.out;rw[h0]at this;simp at this;omega
 rw[v.out]at c ⊢;have cd:w.heap.size≤d:=by have:=J d rfl;have:=u.out.size;omega
 have HK:=aH (Kc u.out a) c;have cf:g<d:=by omega
 have L:=(HG.out.1.keeps (Kc u.out a));clear f J a c;go_wp2_with fail;clear q o;go_loopw [12] (fun s W=>∃m:Nat,m≤n-4∧s=I Z ((n:Int)-1-m)∧d7 5 d (aT (iN p m)) W∧aF (fun b=>b=d) w3 W) fun s _=>(intOf s).toNat
 case atStart=>exact⟨0,by omega,by go_num,hO,Cl⟩
 case round=>
  obtain⟨m,B,rfl,l,c⟩:=hrel;by_cases ck:m<n-4
  ·obtain⟨i,x⟩:∃i:Nat,i=n-1-m:=⟨_,rfl⟩
   have D:(n:Int)-1-m=(i:Int):=by omega
   rw[D];have cl:(4:Int)≤(i:Int):=by omega
   have cm:(i:Int)<n:=by omega
   have o:=nU HP.out m;have T:=l.cell (kL (iN p m) (j:=i) (by rw[o.2,v.out];omega));have U:=l.lt;have G:=o.1.get i;have q:aC w wr:=((aF.of_below HK.out.1 (fun _=>False)).next c fun b f=>.inr (by have f:b=d:=f;omega)).below Nl fun i f=>f.elim;have HS:=aA (show iN p (m+1)=iX (iN p m) (i-4) (gmul ((iN p m).getD i 0) 1) gG 5 by rw[x,←v.out];rfl);generalize V:(iN p m).getD i 0=bw at*;have av:=aA (HM.out wr q bw 1 G (by omega));have M:=mQ bw 1;generalize gmul bw 1=ad at*;have f:=L.chg c (by show g≠d;omega);have HX:=eP c q f o.1 o.2;have A:=aA l;have ba:=aH x B;clear c q f o l x B D V G;go_wp2_with fail;refine av.out.mono ?_;rintro e P ⟨rfl,r⟩;have⟨c,q,f,y,z⟩:=HX.out;have l:=A.out.keeps r;have Q:=f.keeps r;have J:aF (fun b=>b=d) w3 P:=c.trans (aF.of_below r _);have R:aC w P:=Kc q r;have HV:=aH J R;clear c q f A T U r J R;go_wp2_with fail;go_loopw [50] (fun s W=>∃k:Nat,k≤5∧s=I Z k∧d7 5 d (aT (iX (iN p m) (i-4) ad gG k)) W∧aF (fun b=>b=d) P W) fun s _=>5-(intOf s).toNat
   case atStart=>exact⟨0,by omega,rfl,l,Cl⟩
   case round=>
    obtain⟨k,t,rfl,a,h⟩:=hrel;by_cases bb:k<5
    ·have cn:(k:Int)<5:=by omega
     obtain⟨b,f⟩:∃b:Nat,b=i-4:=⟨_,rfl⟩;rw[←f]at a;have⟨j,R⟩:=Ex (b+k);have bd:Hid (wrap64 ((i:Int)-4)=b∧IntKind.i64.wrap ((i:Int)-4)=b):=aA ⟨(IntWalk.wrap64_in _ ⟨by omega,by omega⟩).trans (by omega),(IntWalk.i64_in _ ⟨by omega,by omega⟩).trans (by omega)⟩;have bm:=aA (EM (i:=b) (k:=k) (by omega) (by omega) R);have A:=Q.chg h (by show g≠d;omega);have c2:=A.cell (kL gG (j:=k) (by rw[HG.out.2];exact bb));have z2:=A.lt;have y8:=TP.get k;have T:j<n:=by omega
     have cp:(j:Int)<n:=by omega
     have HB:=aH f R;have bn:=aA (show iX (iN p m) b ad gG (k+1)=(iX (iN p m) b ad gG k).set j ((iX (iN p m) b ad gG k).getD j 0^^^gmul ad (gG.getD k 0)) by rw[R];rfl);clear f R;obtain⟨mk,U⟩:=sG y b ad gG k;rw[z,v.out]at U;have c3:=a.cell (kL _ (j:=j) (by rw[U];exact T));have br:=aA U;clear U;have J:=a.frozen j;have z3:=a.lt;have x8:=mk.get j;obtain⟨xx,B⟩:∃bw,(iX (iN p m) b ad gG k).getD j 0=bw:=⟨_,rfl⟩;obtain⟨cv,C⟩:∃bw,gG.getD k 0=bw:=⟨_,rfl⟩;rw[B]at c3 x8;rw[C]at c2 y8;have V:=aH B C;clear B C;have⟨cu,x⟩:=Ey (gmul ad cv);have X:cu<256:=by rw[←x];exact mQ _ _
     have kw:aC w wr:=((aF.of_below HV.out.2 (fun _=>False)).next h fun b f=>.inr (by have f:b=d:=f;omega)).below Nl fun i f=>f.elim;have r:=aA (fun c (t:aC wr c)=>by have:=HM.out c (Kc kw t) ad cv M y8;rw[x]at this;exact this);have e5:=u8_xor_nat xx cu x8 X;have HY:=Hd3 h a x;clear h a x A kw x8 X y8 mk l Q y z M;have⟨e4,bs⟩:=bm.out;have⟨e3,bv⟩:=bd.out;go_wp2_with fail;refine uK _ (by kernel_rfl) (by kernel_rfl) rfl ?_;simp only[List.dropLast]
     repeat
      with_reducible refine Mz fun K f=>?_
      go_simp
      try first
       |(apply Ei
         intro c a;obtain⟨h,l⟩:=a.cells;go_simp
         first
          |(go_at_call 209;with_reducible exact a.call (r.out _ a))
          |rfl)
       |(with_reducible refine aQ ?_ ?_;decide)
      refine f _ ?_;clear f K
     with_reducible refine Na ?_
     intro w9 D;clear e4 bs e3 bv;have⟨c,a,x⟩:=HY.out;have aa:=c.next (cw':=fun _=>False) (aF.of_below D _) fun i f=>f.elim;have o:=a.keeps D;have c9:=o.cell (kL (iX (iN p m) b ad gG k) (j:=j) (by rw[br.out];exact T));have f9:=o.frozen j;have q:=o.set j (.int .u8 ((xx^^^cu:Nat):Int));have ab:aF (fun b=>b=d) P (w9.setCell ⟨d,j,N⟩ (.int .u8 ((xx^^^cu:Nat):Int))):=aF.setCell aa (p:=⟨d,j,N⟩) (.inl rfl) _;rw[←BN]at q;have G:=bn.out;rw[V.out.1,V.out.2,x]at G;rw[←G]at q;rw[HB.out.1]at q;have HZ:=aH q ab;have z9:=o.lt;clear c a x aa o q ab c3 J z3 D G;go_wp2_with fail;go_roundw
     case rel=>exact⟨k+1,by omega,by go_num,HZ.out.1,HZ.out.2⟩
     case measure=>simp[intOf];omega
    ·have C:k=5:=by omega
     subst C;go_wp2_with fail;go_roundw
     case rel=>have⟨x,B⟩:=ba.out;exact⟨m+1,by omega,by go_num,by rw[HS.out];exact a,HV.out.1.trans h⟩
     case measure=>simp[intOf];omega
  ·have a:m=n-4:=by omega
   subst a;have r:¬(4:Int)≤(n:Int)-1-((n-4:Nat):Int):=by omega
   have h:=aH l c;clear l c hO L;go_wp2_with fail;refine(HT.out _ _ (KK h.out.1 (by rw[(nU HP.out _).2,v.out];exact HK.out.2) q2 (by rw[(nU HP.out _).2,v.out]))).mono ?_;rintro e t ⟨c,rfl,l,o,a⟩;go_wp2_with fail;go_ret2;have q:aC w wr:=((aF.of_below HK.out.1 (fun _=>False)).next h.out.2 (fun b f=>.inr (by have f:b=d:=f;omega))).below Nl fun i f=>f.elim;exact⟨c,rfl,l,fun g f=>by have:=o g f;have:=q.size;omega,Kc q a⟩
end
section
open Go.RowKit Go.Shelf lin
attribute [local go_sem] Oper.semAt_some cK
def jL (a d v:List Nat):List Nat:=a++d++v
def oJ (d v:List Nat):List Nat:=(BS (jL [0,0,0,0] d v)++[0,0,0,0]).take 4
theorem wF (l:List Nat):(aT l).toArray.all (·.oneCell')=true:=by simp[aT,Ni]
theorem tc {base:Nat} {cs:Array Ms} {l:List Nat} (d:W.heap[g]?=S (O cs 5)) (e:cs.toList=aT l) (a:l.length=n) (b:n≤maxLen) (c:base≤g):W.ownsRow base 5 1 (.slice (S ⟨g,0,N⟩) n n) n (aT l):=by
 subst a;have a:cs.size=l.length:=by rw[←fC l,←e,Oj]
 exact⟨by rw[fC,Nat.mul_one],.inr ⟨g,l.length,cs,rfl,c,d,Nl,b,by rw[a,Nat.mul_one],by rw[←e,Nat.mul_one,List.take_of_length_le (by rw[Oj,a];omega)]⟩⟩
theorem xS (a b:List Nat):aT (a++b)=aT a++aT b:=List.map_append
theorem bM.app {a b:List Nat} (c:bM a) (d:bM b):bM (a++b):=fun g e=>by rcases List.mem_append.1 e with f|f;exact c g f;exact d g f
theorem sI {a:Option Nat} (b:aC w W) (c:W.grownBy W' a) (d:∀e,a=S e→w.heap.size≤e):aC w W':=((aF.of_below b fun _=>False).grown c fun e f=>.inr (d e f)).below Nl fun e f=>f.elim
attribute [local simp] Mf Mg
attribute [local go_sem] Mh
theorem td (L:List Nat):splice (aT [0,0,0,0]) 0 (aT (L.take 4))=aT ((L++[0,0,0,0]).take 4):=by rcases L with _|⟨a,_|⟨b,_|⟨c,_|⟨d,L⟩⟩⟩⟩<;>simp[splice,aT]
theorem tg (d v:List Nat) (y:d.length=32) (z:v.length=3) (f:bM d) (h:bM v) (w:Mr) (r:mA C F g w):Mt Y 147 #[.pointer (S ⟨C,0,N⟩),.agg (aT d).toArray,.agg (aT v).toArray] w fun e k=>e=E (.agg (aT (oJ d v)).toArray)∧Mu w.heap.size w k:=by
 have⟨ar,k⟩:=Ex (aT d).toArray;have⟨av,m⟩:=Ex (aT v).toArray;rw[←k,←m];have HH:=aA r;have ad:ar.size=32:=by rw[k,Nv,fC,y]
 have ae:av.size=3:=by rw[m,Nv,fC,z]
 have D:=eQ k m y z f h;have p:=run_make_row' (P:=Y) 158 5 (.int .u8 0) 1 underlying158 lO rfl .i64 .i64 4 (by omega) (by omega);simp only[show((4:Nat):Int)=4 from rfl]at p;clear r k m y z f h;go_in;go_wp2_with fail;refine vO [1,3] [] [] [0] [2,4,5] (by kernel_rfl) (by kernel_rfl) ?_;simp only[aM,d8]
 repeat(
  with_reducible refine i9 fun K a=>?_
  go_simp;unfold gI;apply Ei
  ·intro k c;go_simp;exact⟨rfl,rfl⟩
  refine a _ ?_
  clear a K)
 with_reducible refine eZ ?_
 repeat(
  with_reducible refine i9 fun K a=>?_
  go_simp;unfold gI;apply Ei
  ·intro k c;obtain⟨f,h⟩:=c.cells;go_simp;exact⟨rfl,rfl⟩
  refine a _ ?_
  clear a K)
 with_reducible refine eZ ?_
 repeat
  with_reducible refine Mz fun K a=>?_
  go_simp
  try first
   |(apply Ei
     intro k c;obtain⟨f,h⟩:=c.cells;go_simp
     rfl)
   |(with_reducible refine aQ ?_ ?_;decide)
  refine a _ ?_;clear a K
 with_reducible refine Na ?_
 intro w9 c;with_reducible refine kZ fun q a=>?_
 go_simp;refine a _ _ (Ka c) ?_;clear a q;with_reducible refine lX ?_
 have⟨k,m,y,z,f,h⟩:=D.out;obtain⟨n,a⟩:∃W,W=w9.alloc (O (madeCells #[.int .u8 0] 4) 5):=⟨_,rfl⟩;rw[←a];obtain⟨i,j⟩:∃s,s=w9.heap.size:=⟨_,rfl⟩;rw[←j];have q:aC w n:=by rw[a];exact Ka (Kc zQ c)
 have an:w.heap.size+4≤i:=by rw[j];have:=c.size;simp at this;omega
 have X:n.ownsRow i 5 1 (.slice (S ⟨i,0,N⟩) 4 4) 4 (aT [0,0,0,0]):=by rw[a,j];exact tc (l:=[0,0,0,0]) (aG _ _ _ rfl) (by kernel_rfl) rfl (by unfold maxLen;omega) Nl
 have o:∀b t,((((w.alloc (O ar 248)).alloc (O av 243)).alloc (O #[.int .u8 0,.int .u8 0,.int .u8 0,.int .u8 0] 249)).alloc (O #[.int .u8 0,.int .u8 0,.int .u8 0,.int .u8 0] 249)).heap[b]?=S t→n.heap[b]?=S t:=fun b t r=>by rw[a];exact aE aU (aE c r)
 have t:n.heap[w.heap.size]?=S (O (aT d).toArray 248):=by rw[←k];exact o _ _ (zH (by first|rfl|simp<;>omega|omega))
 have r:n.heap[w.heap.size+1]?=S (O (aT v).toArray 243):=by rw[←m];exact o _ _ (nE (by first|rfl|simp<;>omega|omega))
 have u:n.heap[w.heap.size+1+1]?=S (O #[.int .u8 0,.int .u8 0,.int .u8 0,.int .u8 0] 249):=o _ _ (gQ (by first|rfl|simp<;>omega|omega));have x:n.heap[w.heap.size+1+1+1]?=S (O #[.int .u8 0,.int .u8 0,.int .u8 0,.int .u8 0] 249):=o _ _ (iH (by first|rfl|simp<;>omega|omega));obtain⟨i0,G,H,J,L⟩:=info_parts lO;have HR:=eP q t r u x;have z4:i≤n.heap.size:=by rw[a,j];simp
 clear c j a q o t r u x p k m f h
 have AR:Hid (∀W' c,n.grownBy W' (S i)→W'.ownsRow i 5 1 c (4+32) (aT [0,0,0,0]++aT d)→∃h j,c=.slice h 36 j∧i≤W'.heap.size∧Hid (aC w W'∧W'.ownsRow i 5 1 (.slice h 36 j) 36 (aT ([0,0,0,0]++d))∧W'.heap[w.heap.size+1]?=S (O (aT v).toArray 243)∧W'.heap[w.heap.size+1+1]?=S (O #[.int .u8 0,.int .u8 0,.int .u8 0,.int .u8 0] 249)∧W'.heap[w.heap.size+1+1+1]?=S (O #[.int .u8 0,.int .u8 0,.int .u8 0,.int .u8 0] 249))):=aA (fun W' c a f=>by
  have⟨q,t,r,u,x⟩:=HR.out;obtain⟨h,j,rfl⟩:=own_slice f;rw[←xS]at f
  exact⟨h,j,rfl,Ng z4 a.size,aA ⟨sI q a fun A o=>by injection o;omega,f,eS a r fun e=>by injection e;omega,eS a u fun e=>by injection e;omega,eS a x fun e=>by injection e;omega⟩⟩)
 go_wp2_with(first|(at_builtin;refine wpList_append_own_at _ rfl _ _ 158 rfl i 5 i0 _ 1 1 underlying158 G H J L rfl (by decide) _ _ _ rfl X ⟨w.heap.size,0,N⟩ 32 32 (aT d) rfl (by rw[fC,y]) (AW HR.out.2.1) (xO d) (by unfold maxLen;omega) (by omega) (by omega) ?_;intro v3 w3 r j _ p;obtain⟨a3,c3,rfl,z3,M⟩:=AR.out _ _ j r;clear r j p AR)|(at_builtin;refine wpList_append_own_at _ rfl _ _ 158 rfl i 5 i0 _ 1 1 underlying158 G H J L rfl (by decide) _ _ _ rfl M.out.2.1 ⟨w.heap.size+1,0,N⟩ 3 3 (aT v) rfl (by rw[fC,z]) (AW M.out.2.2.1) (xO v) (by unfold maxLen;omega) (by omega) (by omega) ?_;intro v4 Q a c _ p;obtain⟨a4,c4,rfl⟩:=own_slice a));have⟨k3,o3,aa,R,T⟩:=M.out;rw[←xS]at a;have a:fP (.slice a4 39 c4) (jL [0,0,0,0] d v) Q:=fP.base (base:=i) (by rw[show(jL [0,0,0,0] d v).length=39 by unfold jL;simp;omega];exact a);have⟨k,m,_,_,f,h⟩:=D.out;have t:∀A,(Nh a3 36 c3).ownBlock=S A→w.heap.size+4≤A:=fun A o=>by have:=(Mr.ownsRow.lt o3 A o).1;omega
 have q:aC w Q:=sI k3 c (fun A o=>by have:=t A o;omega);have u:=eS c R (fun e=>by have:=t _ e.symm;omega);have x:=eS c T (fun e=>by have:=t _ e.symm;omega);have o:=HH.out.keeps q;obtain⟨⟨cap,hC,A,B⟩,hF,hG⟩:=o;have⟨c0,c1⟩:=bQ hC;have cz:=aB hC;simp at c0 c1;have ab:(jL [0,0,0,0] d v).length=39:=by unfold jL;simp;omega
 have U:bM (jL [0,0,0,0] d v):=bM.app (bM.app (fun V o=>by simp at o;omega) f) h;have HM:=aA fun W (o:aC Q W)=>tb (F:=F) (g:=g) (cap:=cap) (jL [0,0,0,0] d v) U (by omega) (by omega) (.slice a4 39 c4) W (hF.keeps o) (hG.keeps o) A B ((show iW (.slice a4 39 c4) (jL [0,0,0,0] d v) Q by have:=a.rd;exact this).keeps o);have V:=Hd3 q u x;clear k3 o3 aa R T a k m f h t q u x hF hG hC ab U c p M;refine bg [0,1,2,4,5,6,7] [3,8] [] [9] [10,11,12,13,14] (by kernel_rfl) (by kernel_rfl) ?_;simp only[aM,d8]
 repeat(
  with_reducible refine i9 fun K a=>?_
  go_simp;unfold gI;apply Ei
  ·intro k c;go_simp;exact⟨rfl,rfl⟩
  refine a _ ?_
  clear a K)
 with_reducible refine eZ ?_
 repeat(
  with_reducible refine i9 fun K a=>?_
  go_simp;unfold gI;apply Ei
  ·intro k c;obtain⟨f,h⟩:=c.cells;go_simp;exact⟨rfl,rfl⟩
  refine a _ ?_
  clear a K)
 with_reducible refine eZ ?_
 repeat
  with_reducible refine Mz fun K a=>?_
  go_simp
  try first
   |(apply Ei
     intro k c;obtain⟨f,h⟩:=c.cells;go_simp
     rfl)
   |(with_reducible refine aQ ?_ ?_;decide)
  refine a _ ?_;clear a K
 with_reducible refine Na ?_
 intro w5 a;have m:=aA a;clear a c0 c1 cz;with_reducible refine kZ fun q a=>?_
 go_simp;go_at_call 192;refine(HM.out _ m.out).mono ?_;rintro e u ⟨v6,rfl,o,p,k⟩;obtain⟨a6,U,rfl⟩:=own_slice o;have f:=Kc (Kc V.out.1 m.out) k;have h:=aE k (aE m.out V.out.2.1);have c:=aE k (aE m.out V.out.2.2);have HZ:=bT f h c o;clear f h c o p k;refine a _ _ trivial ?_;clear a q;with_reducible refine lX ?_
 repeat(
  with_reducible refine i9 fun K a=>?_
  go_simp;unfold gI;apply Ei
  ·intro k c;go_simp;exact⟨rfl,rfl⟩
  refine a _ ?_
  clear a K)
 with_reducible refine eZ ?_
 have hsz5:(Y.info? 5).map (·.size)=S 1:=by kernel_rfl
 have⟨x,k⟩:=Ex (BS (jL [0,0,0,0] d v));rw[←k]
 obtain⟨k7,q,RC,M⟩:∃(k7:Nat) (q:Mr),(Builtin.copy_ #[158,158] 3 #[.slice (S ⟨w.heap.size+1+1+1,0,N⟩) 4 4,.slice a6 x.length U]).run Y u=.ok (goInt k7) q∧Hid (q.heap[w.heap.size+1+1+1]?=S (O (aT ((x++[0,0,0,0]).take 4)).toArray 249)∧q.heap[w.heap.size+1+1]?=S (O #[.int .u8 0,.int .u8 0,.int .u8 0,.int .u8 0] 249)∧Mu w.heap.size w q):=by
  have⟨f,h,c,o⟩:=HZ.out;rw[←k]at o;rcases o.cases with⟨a,t⟩|⟨g6,T,a,t,h3,h4⟩
  ·rw[a,t];exact⟨0,u,run_copy_none u 158 158 3 5 _ _ _ _ _ _ underlying158 hsz5 rfl,aA ⟨c,h,f⟩⟩
  ·simp at a
   obtain⟨rfl,rfl⟩:=a;have p:(aT (x.take 4)).length=Nat.min x.length 4:=by rw[fC,List.length_take];exact Nat.min_comm _ _
   have:=run_copy_row (P:=Y) u 158 158 3 5 (w.heap.size+1+1+1) 0 4 4 ⟨g6,0,N⟩ x.length U (aT [0,0,0,0]).toArray 249 (aT (x.take 4)) underlying158 hsz5 c p (fun aa ab a=>by
    rw[TE,Nat.zero_add];have R:=(Oe.1 a).1;rw[fC,List.length_take]at R;rw[kL _ (by rw[List.length_take];exact R),Mx,List.getElem?_take_of_lt (by omega)]at a;rw[←a]
    exact h4.cell (kL _ (by omega))) (by rw[p];have:=Nat.min_le_right x.length 4;exact Ng (Nat.add_le_add_left this 0) (by simp[aT])) (xO _)
   refine⟨_,_,this,aA ⟨?_,(So (by omega)).trans h,Ob f (by omega) _⟩⟩;rw[←td];have:=Hw c (splice (aT [0,0,0,0]) 0 (aT (x.take 4))).toArray;simpa[splice]using this
 have⟨h,o,c⟩:=M.out;obtain⟨t,a⟩:∃f,f=(aT ((x++[0,0,0,0]).take 4)).toArray:=⟨_,rfl⟩;rw[←a]at h;have p:t.size=4:=by rw[a,Nv,fC,List.length_take,Nr];simp
 have R:t.all (·.oneCell')=true:=by rw[a];exact wF _
 have L7:=Lw h 4 p;have S7:=Sw o t (by rw[p];rfl) R;have f:=Hw o t;have T:=bT a f c k;clear h o c a f k HZ V;go_wp2_with fail;have⟨a,f,c,k⟩:=T.out;refine My (Oa (P:=Y) results147 _ _ (w.heap.size+1+1) 249 t (0,0) (.array 4 5) rfl f (by kernel_rfl) rfl (by rw[p];kernel_rfl)) rfl ⟨?_,Ob c (by omega) _⟩;unfold oJ;rw[←k,a]
end
section
open Go.RowKit Go.Shelf lin
attribute [local go_sem] Oper.semAt_some
def wG (l:List Nat):List (Array Ms):=(Nf l.length).map fun j=>#[I Z ((l.length-1-j:Nat):Int),.int .u8 (l.getD (l.length-1-j) 0:Nat)]
theorem ES (l:List Nat):(wG l).length=l.length:=by simp[wG]
theorem KU {l:List Nat} (a:l.length=n) (b:j<n):(wG l)[j]?=S #[I Z ((n-1-j:Nat):Int),.int .u8 (l.getD (n-1-j) 0:Nat)]:=by subst a;simp[wG,b]
theorem th (a:W'.heap[g]?=W.heap[g]?) (o:Nat):W'.cell? ⟨g,o,N⟩=W.cell? ⟨g,o,N⟩:=by unfold Mr.cell?;simp only[a]
theorem ti (a:Option Addr) (n c:Nat) (w:Mr):Mt Y 268 #[.slice a n c] w fun e b=>e=E (.func (.func 270) #[] #[.pointer (S ⟨w.heap.size,0,N⟩)])∧b=w.alloc (O #[.slice a n c] 158):=by go_in;go_wp2;go_ret;exact⟨rfl,rfl⟩
theorem tj (S g off cap:Nat) (l:List Nat) (G:l.length≤100) (W:Mr) (b:W.heap[S]?=some (O #[.slice (some ⟨g,off,N⟩) l.length cap] 158)) (i:g<W.heap.size) (c:∀d,d<l.length→W.cell? ⟨g,off+d,N⟩=some (.int .u8 (l.getD d 0:Nat))):pW Y 270 #[.pointer (some ⟨S,0,N⟩)] (wG l) (fun X=>X=S∨X=g) W:=by
 intro lp cw aa Jx T a m j o d;have⟨n,h⟩:=Ey l.length;rw[h]at b c G;have H:=aA o;have HJ:=aA m;have y:=aA a;have z:=aA h;have k:=Cw b 0;simp at k;have zN:=aB b;have J:=aA d;have K:=Hd3 b i c;obtain⟨t,f⟩:wrap64 ((n:Int)-1)=n-1∧IntKind.i64.wrap ((n:Int)-1)=n-1:=⟨IntWalk.wrap64_in _ ⟨by omega,by omega⟩,IntWalk.i64_in _ ⟨by omega,by omega⟩⟩;clear o m j a d b i c h;refine(Nk (n:=9)).1 ?_;refine callsIn_of_wp func270 rfl trivial ?_ rfl;simp only[ntmps270,Nv,Oc,List.length_nil,Nat.reduceAdd,Nat.reduceSub,Array.replicate_succ,Array.replicate_zero,List.push_toArray,List.append_toArray,List.nil_append,List.cons_append];gi_wp2_with fail;clear t f
 gi_loopw [3] (fun s wr=>∃d:Nat,d≤n∧s=I Z ((n:Int)-1-d)∧(wr.heap[S]?=some (O #[.slice (some ⟨g,off,N⟩) n cap] 158)∧g<wr.heap.size∧∀d,d<n→wr.cell? ⟨g,off+d,N⟩=some (.int .u8 (l.getD d 0:Nat)))∧aa d wr∧W.heap.size≤wr.heap.size) fun s _=>(intOf s+1).toNat
 case atStart=>exact⟨0,by omega,by go_num,K.out,J.out,Nl⟩
 case round=>
  obtain⟨d,A,rfl,⟨b,i,c⟩,m,o⟩:=hrel;by_cases p:d<n
  ·obtain⟨u,v⟩:∃u:Nat,u=n-1-d:=⟨_,rfl⟩
   have L:(n:Int)-1-d=(u:Int):=by omega
   have U:(0:Int)≤(u:Int):=by omega
   have V:(u:Int)<n:=by omega
   obtain⟨fn,D,x,F,M,P⟩:=H.out d _ wr 8 (KU z.out p) m o;rw[←v]at M;rw[L];have k:=Cw b 0;simp at k;have Q:=c u (by omega);have j:=Hd3 b i c;generalize l.getD u 0=X at*;obtain⟨t,f⟩:wrap64 ((u:Int)-1)=u-1∧IntKind.i64.wrap ((u:Int)-1)=u-1:=⟨IntWalk.wrap64_in _ ⟨by omega,by omega⟩,IntWalk.i64_in _ ⟨by omega,by omega⟩⟩;have R:=aA v;clear m b c v;gi_wp2_with fail;refine P.mono ?_;rintro e w ⟨a,⟨rfl,q⟩|⟨rfl,r⟩⟩
   ·have v:=aJ a j.out.1 (fun b=>y.out S b (.inl rfl))
    have B:=a.block g j.out.2.1 (fun b=>y.out g b (.inr rfl));have b:W.heap.size≤w.heap.size:=Ng o a.size;have c:g<w.heap.size:=Nj j.out.2.1 a.size;have C:∀d,d<n→w.cell? ⟨g,off+d,N⟩=some (.int .u8 (l.getD d 0:Nat)):=fun d A=>(th B _).trans (j.out.2.2 d A);have m:=Hd3 v c C;have h:=aA q;clear q a v B C j k Q;gi_wp2_with fail;clear t f;go_roundw
    case rel=>exact⟨d+1,by omega,by have:=R.out;go_num,m.out,h.out,b⟩
    case measure=>simp[intOf]
   ·have h:=aA r;clear r;gi_wp2_with fail;refine My (Nw rfl _ _ _) rfl ?_;exact⟨⟨_,rfl⟩,.inr h.out⟩
  ·have a:d=n:=by omega
   subst a;have a:Hid (aa (wG l).length wr):=by rw[ES,z.out];exact aA m
   have f:¬(0:Int)≤(d:Int)-1-d:=by omega
   clear p b i c m;gi_wp2_with fail
   go_end0
   exact⟨⟨_,rfl⟩,.inl a.out⟩
theorem tl {l:List Nat} (b:l.length=n) (c:j<n) (x:Nat):gev (l.drop (n-(j+1))) x=gmul (gev (l.drop (n-j)) x) x^^^l.getD (n-1-j) 0:=by
 have e:n-(j+1)=n-1-j:=by omega
 have a:n-j=n-1-j+1:=by omega
 rw[e,a,List.drop_eq_getElem_cons (by omega:n-1-j<l.length)];rw[Mx,Nn (by omega)];rfl
theorem tm {off cap x:Nat} (l:List Nat) (M:l.length≤100) (a:bM l) (hx:x<256) (w:Mr) (f:iV F w) (h:g<w.heap.size) (i:∀j,j<l.length→w.cell? ⟨g,off+j,N⟩=S (.int .u8 (l.getD j 0:Nat))):Mt Tryz.prog 259 #[.pointer (S ⟨F,0,N⟩),.slice (S ⟨g,off,N⟩) l.length cap,.int .u8 x] w fun e c=>e=E (.int .u8 (gev l x:Nat))∧Mu w.heap.size w c:=by
 have P:=aA f;have Q:=aH h i;have R:=aA a;have⟨n,c⟩:=Ey l.length;have d:=aA c;rw[c]at M ⊢;clear f h i c a;refine(Nk (n:=9)).1 ?_;refine callsIn_of_wp_marks func259 rfl trivial ?_;simp only[ntmps259,Nv,Oc,List.length_nil,Nat.reduceAdd,Nat.reduceSub,Array.replicate_succ,Array.replicate_zero,List.push_toArray,List.append_toArray,List.nil_append,List.cons_append];gi_wp2_with fail;refine⟨trivial,?_⟩;refine((Nk (n:=8)).2 (ti _ _ _ _)).mono ?_;rintro e c ⟨rfl,a⟩;have o:c.heap[w.heap.size]?=S (O #[.pointer (S ⟨F,0,N⟩)] 221):=by rw[a];rw[aV _ _ _ (by first|rfl|simp<;>omega|omega),aV _ _ _ (by first|rfl|simp<;>omega|omega),aV _ _ _ (by first|rfl|simp<;>omega|omega)];exact aG _ _ _ (by first|rfl|simp<;>omega|omega)
 have q:c.heap[w.heap.size+1]?=S (O #[.int .u8 x] 5):=by rw[a];rw[aV _ _ _ (by first|rfl|simp<;>omega|omega),aV _ _ _ (by first|rfl|simp<;>omega|omega)];exact aG _ _ _ (by first|rfl|simp<;>omega|omega)
 have r:c.heap[w.heap.size+1+1]?=S (O #[.int .u8 0] 5):=by rw[a];rw[aV _ _ _ (by first|rfl|simp<;>omega|omega)];exact aG _ _ _ (by first|rfl|simp<;>omega|omega)
 have s:c.heap[w.heap.size+1+1+1]?=S (O #[.slice (S ⟨g,off,N⟩) n cap] 158):=by rw[a];exact aG _ _ _ (by first|rfl|simp<;>omega|omega)
 have f:aC w c:=by rw[a];exact zQ
 have h:c.heap.size=w.heap.size+4:=by rw[a];simp
 have⟨H,t⟩:=Ex c.heap.size;have T:=eQ f o q r s (P.out.keeps f);have eH:H=w.heap.size+4:=by omega
 have G:=Q.out.1;have aa:=P.out.lt;simp only[Mr.size_alloc];clear a h f o q r s;gi_wp2_with fail;have⟨f,o,q,r,s,u⟩:=T.out
 refine vV 9 9 (gf:=270) (lb:=#[.pointer (S ⟨w.heap.size+1+1+1,0,N⟩)]) rfl (enters_of func270 (by kernel_rfl) rfl) (wG l) (fun y=>y=w.heap.size+1+1+1∨y=g) (fun y e=>by rw[←t];omega)
  (fun h a=>tj _ g off cap l (by rw[d.out];exact M) h (by rw[d.out];exact aE a s) (by have:=f.size;have i:aC c h:=a;have:=i.size;omega) (fun j k=>by have i:aC c h:=a;exact((Kc f i).cells.1 g _ G).trans (Q.out.2 j k)))
  (fun C h a=>by have z:C<n:=by have:=(Oe.1 a).1;rwa [ES,d.out]at this
                 rw[KU d.out z]at a;injection a with a;subst a;rfl)
  (fun y=>y=w.heap.size+1+1) (fun y i=>by rw[←t];omega)
  (fun C W=>W.heap[w.heap.size+1+1]?=S (O #[.int .u8 (gev (l.drop (n-C)) x:Nat)] 5)∧aF (fun y=>y=w.heap.size+1+1) c W)
  (fun _ _=>False)
  (fun C X h i a=>?keep1) (fun _ _ _ i _=>i) ⟨by rw[Nat.sub_zero,List.drop_eq_nil_of_le (by rw[d.out];omega)];exact r,Cl⟩ ?round1 ?done1 fun _ _ _ i _=>i.elim
 case keep1=>obtain⟨h,j⟩:=i;rw[←t]at a;exact⟨aJ a h (by omega),j.next a fun y i=>.inr (by omega)⟩
 case round1=>
  intro C ar W a hW i;have z:C<n:=by have:=(Oe.1 a).1;rwa [ES,d.out]at this
  rw[KU d.out z]at a;injection a with a;subst a;have HD:=aA (tl d.out z x);have y8:=R.out.get (n-1-C);generalize l.getD (n-1-C) 0=ae at*;clear hW;gi_wp2_with fail;refine⟨Cl,i,fun v ab J K=>?_⟩;clear i J;obtain⟨j,k⟩:=K;have D:∀b m,b<w.heap.size+4→b≠w.heap.size+1+1→c.heap[b]?=S m→v.heap[b]?=S m:=fun b m a h i=>aJ k i h;have U:=cell_of_row v w.heap.size 0 _ 221 (0,0) (D _ _ (by omega) (by omega) o);have V:=cell_of_row v (w.heap.size+1) 0 _ 5 (0,0) (D _ _ (by omega) (by omega) q);have m2:=Cw j 0;simp at U V m2;have y:bM (l.drop (n-C)):=fun h a=>R.out h (List.mem_of_mem_drop a);have s8:=xQ y x;have A:=u.chg k (by show F≠w.heap.size+1+1;omega);generalize gev (l.drop (n-C)) x=ad at*;have HM:=aA (BK (F:=F) ad x s8 hx v A);have m8:=mQ ad x;generalize gmul ad x=an at*;have e5:=u8_xor_nat an ae m8 y8;have HG:=aH j k;clear j k D A y u o q r s f m8 s8;gi_wp2_with fail;refine⟨trivial,?_⟩;refine((Nk (n:=8)).2 HM.out).mono ?_;rintro e w6 ⟨rfl,h⟩;have m:=aE h HG.out.1;have b2:=Cw m 0;have f2:=Fw m 0;have z2:=aB m;simp at b2;have L:=aH m h;clear m h U V m2;gi_wp2_with fail;have⟨m,h⟩:=L.out;have B:aF (fun y=>y=w.heap.size+1+1) v (w6.setCell ⟨w.heap.size+1+1,0,N⟩ (.int .u8 ((an^^^ae:Nat):Int))):=aF.setCell (cw:=fun y=>y=w.heap.size+1+1) (aF.of_below h _) (p:=⟨w.heap.size+1+1,0,N⟩) (.inl rfl) _;refine⟨B,?_,HG.out.2.trans B⟩;rw[HD.out];exact Hs 0 _ m
 case done1=>rintro z m ⟨j,k⟩ a;rw[←t]at m a;rw[ES,d.out,Nat.sub_self,List.drop_zero]at j;have v:=Cw j 0;simp at v;have h:aC w z:=((aF.of_below f fun _=>False).next k fun y i=>.inr (by have i:y=w.heap.size+1+1:=i;omega)).below Nl fun y i=>i.elim;have i:=aH h a;clear j k f o q r s u a h T;gi_wp2_with fail;have⟨h,a⟩:=i.out;refine⟨by simp,.inl ⟨_,_,rfl,run_takeDeferred (by rw[←t];exact a),?_⟩⟩;rw[←t];exact⟨_,results_tmp rfl _ _ _,rfl,h.trans ⟨rfl,rfl,rfl,by simp,fun C f=>Ok (show C≠H by omega)⟩⟩
def ET (u:Nat) (xs:List Int) (i:Nat):Int:=xs.getD ((u+i)%256*2) 0
def EU (u:Nat) (xs:List Int) (i:Nat):Int:=xs.getD ((u+i)%256*2+1) 0
def uQ (u n:Nat) (xs:List Int):List (Array Ms):=(Nf n).map fun i=>#[I Z (i:Nat),.agg #[I Z (ET u xs i),I Z (EU u xs i)]]
theorem KX (u n:Nat) (xs:List Int):(uQ u n xs).length=n:=by simp[uQ]
theorem KY (u:Nat) (xs:List Int) (a:i<n):(uQ u n xs)[i]?=S #[I Z (i:Nat),.agg #[I Z (ET u xs i),I Z (EU u xs i)]]:=by unfold uQ;rw[Of,List.getElem?_range a];rfl
attribute [irreducible] uQ
theorem tn (R:Nat) (w:Mr):Mt Y 266 #[.pointer (S ⟨R,0,N⟩)] w fun e a=>e=E (.func (.func 269) #[] #[.pointer (S ⟨w.heap.size,0,N⟩)])∧a=w.alloc (O #[.pointer (S ⟨R,0,N⟩)] 111):=by go_in;go_wp2;go_ret;exact⟨rfl,rfl⟩
theorem tp (C R S u n:Nat) (xs:List Int) (W:Mr) (g:lP R S u n xs W) (d:W.heap[C]?=some (O #[.pointer (some ⟨R,0,N⟩)] 111)):pW Y 269 #[.pointer (some ⟨C,0,N⟩)] (uQ u n xs) (fun a=>a=C∨a=R∨a=S) W:=by
 intro lp cw aa Jx T a f c h b;have B:=aA h;have D:=aA f;have q:=aA a;have hn:=g.n;have j:=g.u;have i:=Cw d 0;have k:=Cw g.row 2;simp at i k;have zC:=aB d;have F:=aA b;have G:=aH d g;have HU:=aA j;clear h f c a b d g j;refine(Nk (n:=9)).1 ?_;refine callsIn_of_wp func269 rfl trivial ?_ rfl;simp only[ntmps269,Nv,Oc,List.length_nil,Nat.reduceAdd,Nat.reduceSub,Array.replicate_succ,Array.replicate_zero,List.push_toArray,List.append_toArray,List.nil_append,List.cons_append];gi_wp2_with fail;clear k i
 gi_loopw [8] (fun a wr=>∃p:Nat,p≤n∧a=I Z p∧(wr.heap[C]?=some (O #[.pointer (some ⟨R,0,N⟩)] 111)∧lP R S u n xs wr)∧aa p wr∧W.heap.size≤wr.heap.size) fun a _=>n-(intOf a).toNat
 case atStart=>exact⟨0,by omega,rfl,G.out,F.out,Nl⟩
 case round=>
  obtain⟨p,hk,rfl,j,a,k⟩:=hrel;have v:=aA a;clear a;by_cases l:p<n
  ·have U:(p:Int)<n:=by omega
   obtain⟨d,g⟩:=id j;have⟨w,r⟩:=Ey ((u+p)%256);have V:w<256:=by omega
   have X:(w:Int)<256:=by omega
   have H:=aA (T5 r (by omega) g);have i:=Cw d 0;have x:=Cw g.row 0;simp at i x;have J:=g.elem (show w*2<512 by omega);have L:=g.elem (show w*2+1<512 by omega);have qC:=aB d;have qR:=aB g.row;have qS:=g.data.lt;have y:=aA (show ET u xs p=xs.getD (w*2) 0∧EU u xs p=xs.getD (w*2+1) 0 by rw[←r];exact⟨rfl,rfl⟩);generalize xs.getD (w*2) 0=y0 at*;generalize xs.getD (w*2+1) 0=y1 at*;have f:=aA j;have h:=aA l;clear j d g r l;gi_wp2_with fail;refine vM 11 (by kernel_rfl) (by kernel_rfl) ?_;simp only[List.drop_succ_cons,List.drop_zero,List.take_succ_cons,List.take_zero]
   repeat
    with_reducible refine Mz fun K b=>?_
    go_simp
    try first
     |(apply Ei
       intro g a;obtain⟨c,d⟩:=a.cells;go_simp
       first
        |(go_at_call 267;with_reducible exact a.call (H.out _ a))
        |rfl)
     |(with_reducible refine aQ ?_ ?_;decide)
    refine b _ ?_;clear b K
   with_reducible refine Na ?_
   intro M a;obtain⟨fn,z,s,A,P,Q⟩:=B.out p _ M 8 (KY u xs h.out) (D.out _ _ _ v.out a) (Ng k a.size);rw[y.out.1,y.out.2]at P;have t:=aA a;clear a;gi_wp2_with fail;refine Q.mono ?_;rintro e W3 ⟨b,⟨rfl,m⟩|⟨rfl,o⟩⟩
   ·have a:=t.out
    have c:=bT m (aJ b (aE a f.out.1) fun g=>q.out C g (.inl rfl)) ((f.out.2.keeps a).same (b.block _ (f.out.2.keeps a).lt (fun g=>q.out R g (.inr (.inl rfl)))) (b.block _ (f.out.2.keeps a).data.lt (fun g=>q.out S g (.inr (.inr rfl))))) (Ng (Ng k a.size) b.size);clear m a i x J L b;gi_wp2_with fail;go_roundw
    case rel=>exact⟨p+1,by have:=h.out;omega,by go_num,⟨c.out.2.1,c.out.2.2.1⟩,c.out.1,c.out.2.2.2⟩
    case measure=>have:=h.out;simp[intOf];omega
   ·have c:=aA o;clear o;gi_wp2_with fail;refine My (Nw rfl _ _ _) rfl ?_;exact⟨⟨_,rfl⟩,.inr c.out⟩
  ·have a:p=n:=by omega
   have b:Hid (aa (uQ u n xs).length wr):=by show aa _ wr;rw[KX,←a];exact v.out
   subst a;clear j;gi_wp2_with fail
   go_end0
   exact⟨⟨_,rfl⟩,.inl b.out⟩
theorem TQ {T:Array Ms} {a:Mr} {v:Bool} (d:T.getD 4 Mv=.pointer (S ⟨R,0,N⟩)) (f:a.heap[R]?=S (O #[.bool v] 4)) (g:a.heap[D]?=S (.deferred (S []))) (n1:R<D) (k:w.heap.size≤R) (h:aC w a):bodyPostM Fence.wide 9 Y Tryz.f253 (fun e b=>(∃v:Bool,e=E (.bool v))∧aC w b) .ret {tmps:=T,defers:=[{target:=.collected D,args:=#[]}]} a:=by
 refine⟨by simp,.inl ⟨_,_,rfl,run_takeDeferred g,?_⟩⟩;have i:(a.putObj D (.deferred N)).heap[R]?=S (O #[.bool v] 4):=(Ok (by omega)).trans f;have c3:=Cw i 0;simp only[Oi,List.getElem?_cons_zero]at c3;have b:aC w (a.putObj D (.deferred N)):=Mu.trans h ⟨rfl,rfl,rfl,by simp,fun j c=>Ok (by omega)⟩;generalize a.putObj D (.deferred N)=j at*;have c:T[4]?.getD Mv=.pointer (S ⟨R,0,N⟩):=by simpa using d
 refine⟨.bool v,?_,⟨v,rfl⟩,b⟩;simp[results,results253,go_sem,c,c3]
theorem tq {S:Nat} (a b:Int) (w:Mr) (f:iM R S n w):Mt Tryz.prog 253 #[.pointer (some ⟨R,0,N⟩),.agg #[I Z a,I Z b]] w fun e c=>(∃g:Bool,e=E (.bool g))∧aC w c:=by
 obtain⟨J,r,f⟩:=f;have u:=aA f;clear f;refine(Nk (n:=9)).1 ?_;refine callsIn_of_wp_marks func253 rfl trivial ?_;simp only[ntmps253,Nv,Oc,List.length_nil,Nat.reduceAdd,Nat.reduceSub,Array.replicate_succ,Array.replicate_zero,List.push_toArray,List.append_toArray,List.nil_append,List.cons_append];gi_wp2_with fail;refine⟨trivial,?_⟩;refine((Nk (n:=8)).2 (tn _ _)).mono ?_;rintro e i ⟨rfl,c⟩;have m:i.heap[w.heap.size]?=some (O #[I Z a,I Z b] 270):=by rw[c];rw[aV _ _ _ (by first|rfl|simp<;>omega|omega),aV _ _ _ (by first|rfl|simp<;>omega|omega)];exact aG _ _ _ (by first|rfl|simp<;>omega|omega)
 have o:i.heap[w.heap.size+1]?=some (O #[.bool false] 4):=by rw[c];rw[aV _ _ _ (by first|rfl|simp<;>omega|omega)];exact aG _ _ _ (by first|rfl|simp<;>omega|omega)
 have q:i.heap[w.heap.size+1+1]?=some (O #[.pointer (some ⟨R,0,N⟩)] 111):=by rw[c];exact aG _ _ _ (by first|rfl|simp<;>omega|omega)
 have j:aC w i:=by rw[c];exact kS
 have f:i.heap.size=w.heap.size+3:=by rw[c];simp
 have⟨H,h⟩:=Ex i.heap.size;have d:=u.out.keeps j;have V:=u.out.lt;have aa:=u.out.data.lt;have t:=eP j m o q d;have eH:H=w.heap.size+3:=by omega
 simp only[Mr.size_alloc];clear c f j m o q d;gi_wp2_with fail;have⟨j,m,o,q,d⟩:=t.out
 refine vV 9 9 (gf:=269) (lb:=#[.pointer (some ⟨w.heap.size+1+1,0,N⟩)]) rfl (enters_of func269 (by kernel_rfl) rfl) (uQ J n r) (fun l=>l=w.heap.size+1+1∨l=R∨l=S) (fun l e=>by rw[←h];omega)
  (fun f c=>tp _ R S J n r f (d.keeps c) (aE c q))
  (fun G g c=>by have v:G<n:=by have:=(Oe.1 c).1;rwa [KX]at this
                 rw[KY J r v]at c;injection c with c;subst c;rfl)
  (fun l=>l=w.heap.size+1∨H+1<l) (fun l f=>by rw[←h];omega)
  (fun G W=>W.heap[w.heap.size+1]?=some (O #[.bool false] 4)∧aF (fun l=>l=w.heap.size+1) i W)
  (fun ab W=>ab=.ret∧W.heap[w.heap.size+1]?=some (O #[.bool true] 4)∧aF (fun l=>l=w.heap.size+1) i W)
  (fun G X g f c=>?keep1) (fun ab X g f c=>?keep2) ⟨o,Cl⟩ ?round1 ?done1 ?stop1
 case keep1=>obtain⟨g,k⟩:=f;rw[←h]at c;exact⟨aJ c g (by omega),k.next c fun l f=>.inr (by omega)⟩
 case keep2=>obtain⟨s,g,k⟩:=f;rw[←h]at c;exact⟨s,aJ c g (by omega),k.next c fun l f=>.inr (by omega)⟩
 case round1=>
  intro G ab W c K f;have v:G<n:=by have:=(Oe.1 c).1;rwa [KX]at this
  rw[KY J r v]at c;injection c with c;subst c;generalize ET J r G=x at*;generalize EU J r G=y at*;rw[←h]at K;have z:=aA f;clear f;gi_wp2_with fail;refine⟨aF.alloc Cl _,⟨(aV _ _ _ (aB z.out.1)).trans z.out.1,z.out.2.alloc _⟩,fun W2 l A B=>?_⟩;obtain⟨g,k⟩:=B;rw[←h]at l;have C:=aJ l (show(W.alloc (O #[I Z x,I Z y] 270)).heap[W.heap.size]?=_ from aG _ _ _ rfl) (by omega);have D:=aJ k m (by omega);have⟨L,M⟩:=bQ D;have⟨P,Q⟩:=bQ C;have U:=Cw g 0;have f4:=Fw g 0;simp at L M P Q U;have s:=aH g k;clear l A C D g k m o q d j;by_cases F:a=x
  ·subst F
   by_cases c:b=y
   ·subst c;gi_wp2_with fail;refine⟨aF.setCell (cw:=fun l=>l=w.heap.size+1∨H+1<l) Cl (p:=⟨w.heap.size+1,0,N⟩) (.inl (.inl rfl)) _,rfl,Hs 0 (.bool true) s.out.1,s.out.2.trans (aF.setCell (cw:=fun l=>l=w.heap.size+1) Cl (p:=⟨w.heap.size+1,0,N⟩) (.inl rfl) _)⟩
   ·have d:(b==y)=false:=by simpa using c
    gi_wp2_with fail;exact⟨Cl,s.out.1,s.out.2⟩
  ·have e0:(a==x)=false:=by simpa using F
   gi_wp2_with fail;exact⟨Cl,s.out.1,s.out.2⟩
 case done1=>rintro y v ⟨c,s⟩ g;rw[←h]at v g;have x:=Cw c 0;have z:=Fw c 0;have A:=aB c;simp at x;have k:aC w (y.setCell ⟨w.heap.size+1,0,N⟩ (.bool false)):=Ks (((aF.of_below j fun _=>False).next s fun l f=>.inr (by have f:l=w.heap.size+1:=f;omega)).below Nl fun l f=>f.elim) (by show w.heap.size≤w.heap.size+1;omega);have f:=Hd3 k g c;clear c s j m o q d g k u t;gi_wp2_with fail;have⟨k,g,c⟩:=f.out;exact TQ (T:=_) rfl (Hs 0 (.bool false) c) ((Ho (by show i.heap.size≠w.heap.size+1;omega)).trans (h▸g)) (by omega) (by omega) k
 case stop1=>rintro ab y v ⟨rfl,c,s⟩ g;rw[←h]at v g;have k:aC w y:=((aF.of_below j fun _=>False).next s fun l f=>.inr (by have f:l=w.heap.size+1:=f;omega)).below Nl fun l f=>f.elim;have f:=Hd3 k g c;clear c s j m o q d g k u t;gi_wp2_with fail;have⟨k,g,c⟩:=f.out;exact TQ (T:=_) rfl c (h▸g) (by omega) (by omega) k
theorem tr {S:Nat} (a b:Int) (w:Mr) (i:iM R S n w):Mt Y 228 #[.pointer (some ⟨R,0,N⟩),.agg #[I Z a,I Z b]] w fun e c=>∃d:Int,e=E (I Z d)∧(∃m,iM R S m c)∧aF (fun d=>d=R∨d=S) w c:=by
 have f:aC w (w.alloc (O #[I Z a,I Z b] 270)):=aU;have p:=aA (tq a b (w.alloc (O #[I Z a,I Z b] 270)) (i.keeps f));have h:=aA i;have g:=aG w (O #[I Z a,I Z b] 270) w.heap.size rfl;clear i;go_in;go_wp2_with fail;refine p.out.mono ?_;rintro e i ⟨⟨u,rfl⟩,c⟩;have j:=Kc f c;have k:=aE c g;have⟨q,r⟩:=bQ k;simp at q r;have d:=aA j;clear f g j c k;cases u
 ·have⟨v,s,j⟩:=h.out
  have f:iM R S n i:=⟨v,s,j.keeps d.out⟩;have l:=f.le.1;by_cases e:n=256
  ·subst e;have k:=aA (py a b i f);clear f j l;go_wp2_with fail;refine k.out.mono ?_;rintro e t ⟨rfl,g⟩;have c:=aA (Kc d.out g);clear g;go_wp2_with fail;go_ret;exact⟨14,rfl,⟨256,h.out.keeps c.out⟩,aF.of_below c.out _⟩
  ·have k:=aA (qc a b i f (by omega));clear f j l;go_wp2_with fail;refine k.out.mono ?_;rintro e t ⟨rfl,o,g⟩;have c:=aH o g;clear o g;go_wp2_with fail;go_ret;exact⟨0,rfl,⟨_,c.out.1⟩,(aF.of_below d.out _).trans c.out.2⟩
 ·go_wp2_with fail;go_ret;exact⟨15,rfl,⟨n,h.out.keeps d.out⟩,aF.of_below d.out _⟩
end
section
open Go.RowKit Go.Shelf
attribute [local go_sem] Oper.semAt_some cK
theorem tu {S:Nat} (ok:dA t) (k:Int) (c:bel k (cU t.r t.s t.b t.d t.c)=false) (w:Mr) (y:cJ B L D S t w):Mt Y 112 #[.pointer (some ⟨B,0,N⟩),I Z k] w fun e b=>e=E (.tuple #[I Z 0,I Z 0,I Z 12])∧Mu w.heap.size w b:=by
 obtain⟨⟨z,A,a,s,f,u,g⟩,d,h,i,v⟩:=id y;unfold aR.row at a;have x:=aB a;have⟨j,l,m,n,o,p⟩:=oC a;simp at j l m n o p
 have q:RI t.r t.s t.b t.d t.c t.way k:=by
  have r:=(eM ok.right).1;simp[bel]at c;rcases Int.lt_or_le k 0 with b|b
  ·exact .inr (.inl b)
  ·exact .inr (.inr ⟨r,c b⟩)
 have r:=aA fun w=>jw t.r t.s t.b t.d t.c t.way k q w;clear a d h i y ok;go_in;go_wp2;refine bS (by kernel_rfl) (by kernel_rfl) ?_
 repeat
  with_reducible refine Mz fun K d=>?_
  go_simp
  try first
   |(apply Ei
     intro b a;obtain⟨h,i⟩:=a.cells;go_simp
     first
      |(go_at_call 96;with_reducible exact a.call (r.out _))
      |rfl)
   |(with_reducible refine aQ ?_ ?_;decide)
  refine d _ ?_;clear d K
 with_reducible refine Na ?_
 intro b a;go_wp2
 go_ret3
 exact⟨rfl,(by repeat first|exact Bl|assumption|refine Ka ?_|refine Ks ?_ (by first|exact Nl|simp<;>omega|omega)|refine Kd ?_|refine Kc ?_ (by assumption))⟩
theorem tw {S:Nat} (ok:dA t) (k:Int) (a:bel k (cU t.r t.s t.b t.d t.c)=false) (w:Mr) (c:cJ B L D S t w):Mt Y 163 #[.pointer (some ⟨B,0,N⟩),I Z k] w fun e b=>e=E (.tuple #[I Z 0,I Z 12])∧Mu w.heap.size w b:=by have b:=aA (tu ok k a w c);clear c;go_in;go_wp2_with(go_at_call 112;refine b.out.mono ?_;rintro e d ⟨rfl,c⟩);go_ret2;exact⟨rfl,(by repeat first|exact Bl|assumption|refine Ka ?_|refine Ks ?_ (by first|exact Nl|simp<;>omega|omega)|refine Kd ?_|refine Kc ?_ (by assumption))⟩
structure dH where
 R:Nat
 M:Nat
 L:Nat
 D:Nat
 S:Nat
 A:Nat
 Q:Nat
def dH.own (p:dH) (b:Nat):Prop:=b=p.R∨b=p.M∨b=p.L∨b=p.D∨b=p.S∨b=p.A∨b=p.Q
def aW.row (x:aW) (p:dH):Array Ms:=#[.pointer (S ⟨p.M,0,N⟩),I Z x.k,I Z x.f,I Z x.g,I Z x.n,.pointer (S ⟨p.A,0,N⟩)]
structure dE (p:dH) (x:aW) (W:Mr):Prop where
 row:W.heap[p.R]?=S (O (x.row p) 113)
 map:cJ p.M p.L p.D p.S x.t W
 ask:∃n,iM p.A p.Q n W
theorem dE.same {p:dH} (g:dE p x W) (a:∀b,p.own b→W'.heap[b]?=W.heap[b]?):dE p x W':=by obtain⟨c,d,n,h,e,f⟩:=g;exact⟨(a _ (by simp[dH.own])).trans c,d.same (a _ (by simp[dH.own])) (a _ (by simp[dH.own])) (a _ (by simp[dH.own])) (a _ (by simp[dH.own])),n,h,e,f.same (a _ (by simp[dH.own])) (a _ (by simp[dH.own]))⟩
theorem dE.lt {p:dH} (g:dE p x W) {b:Nat} (d:p.own b):b<W.heap.size:=by
 obtain⟨e,a,n,h,f,c⟩:=g;rcases d with rfl|rfl|rfl|rfl|rfl|rfl|rfl
 ·exact aB e
 ·exact a.ltB
 ·exact a.lives.lt
 ·exact a.dead.lt
 ·exact a.spares.lt
 ·exact c.lt
 ·exact c.data.lt
theorem dE.keeps {p:dH} (d:dE p x W) (a:aC W W'):dE p x W':=d.same fun b c=>a.block _ (d.lt c)
theorem dE.chg {p:dH} (e:dE p x W) (c:aF cw W W') (d:∀b,p.own b→¬cw b):dE p x W':=e.same fun b a=>c.block _ (e.lt a) (d b a)
def dH.ar (p:dH):Ms:=.pointer (some ⟨p.R,0,N⟩)
theorem KZ {p:dH} (w:Mr) (d:dE p x w):Mt Y 59 #[p.ar] w fun e b=>e=E (.pointer (S ⟨p.M,0,N⟩))∧Mu w.heap.size w b:=by have a:=d.row;unfold aW.row at a;have c:=Cw a 0;simp at c;unfold dH.ar;clear d a;go_in;go_wp2;go_ret;exact⟨rfl,(by repeat first|exact Bl|assumption|refine Ka ?_|refine Ks ?_ (by first|exact Nl|simp<;>omega|omega)|refine Kd ?_|refine Kc ?_ (by assumption))⟩
theorem LH {p:dH} (w:Mr) (h:dE p x w):Mt Y 19 #[p.ar] w fun e b=>e=E (.agg #[I Z x.k,I Z x.f,I Z x.g,I Z x.n])∧Mu w.heap.size w b:=by have a:=h.row;unfold aW.row at a;have i:=aB a;have⟨c,d,f,g⟩:=ZO a 1 2 3 4;simp at c d f g;unfold dH.ar;clear h a;go_in;go_wp2;refine My (Oa (P:=Y) results19 _ _ w.heap.size 63 #[I Z x.k,I Z x.f,I Z x.g,I Z x.n] (0,0) _ rfl (aG _ _ _ rfl) underlying63 rfl (by kernel_rfl)) rfl ⟨rfl,aU⟩
theorem BT {p:dH} (w:Mr) (d:dE p x w):Mt Y 93 #[p.ar] w fun e b=>e=E (.bool (decide (x.k≠0)))∧Mu w.heap.size w b:=by have a:=d.row;unfold aW.row at a;have f:=aB a;have c:=Cw a 1;simp at c;unfold dH.ar;clear d a;go_in;go_wp2;go_ret;exact⟨by simp[bne,BEq.beq],(by repeat first|exact Bl|assumption|refine Ka ?_|refine Ks ?_ (by first|exact Nl|simp<;>omega|omega)|refine Kd ?_|refine Kc ?_ (by assumption))⟩
theorem EV {p:dH} (ok:cV x) (l:Int) (f:x.has l) (w:Mr) (m:dE p x w):Mt Y 17 #[p.ar,I Z l] w fun e a=>e=E (.tuple #[I Z (x.route l),I Z (x.t.home l),I Z (x.t.rk l),I Z 0])∧Mu w.heap.size w a:=by
 have b:=m.row;unfold aW.row at b;have n:=aB b;have⟨g,h,i,j,k⟩:=gZ b;simp at g h i j k;have c:=aA fun a (d:aC w a)=>ng ok.ok ok.job l f a (m.map.keeps d);replace c:Hid (∀a,aC w a→Mt Y 46 #[.agg #[I Z x.k,I Z x.f,I Z x.g,I Z x.n],.pointer (S ⟨p.M,0,N⟩),I Z l] a fun e d=>e=E (.tuple #[I Z (x.route l),I Z (x.t.home l),I Z (x.t.rk l),I Z 0])∧Mu a.heap.size a d):=c;generalize x.route l=o at*;generalize x.t.home l=q at*;generalize x.t.rk l=r at*;unfold dH.ar;clear m b ok f;go_in;go_wp2;refine bS (by kernel_rfl) (by kernel_rfl) ?_
 repeat
  with_reducible refine Mz fun K d=>?_
  go_simp
  try first
   |(apply Ei
     intro a b;obtain⟨f,m⟩:=b.cells;go_simp
     first
      |(go_at_call 46;with_reducible exact b.call (c.out _ b))
      |rfl)
   |(with_reducible refine aQ ?_ ?_;decide)
  refine d _ ?_;clear d K
 with_reducible refine Na ?_
 intro d b;go_wp2;refine My (pB rfl _ _ _) rfl ?_;exact⟨rfl,(by repeat first|exact Bl|assumption|refine Ka ?_|refine Ks ?_ (by first|exact Nl|simp<;>omega|omega)|refine Kd ?_|refine Kc ?_ (by assumption))⟩
theorem tx {p:dH} (ok:cV x) (l:Int) (c:bel l (x.t.seen*x.t.c)=false) (w:Mr) (r:dE p x w):Mt Y 17 #[p.ar,I Z l] w fun e b=>e=E (.tuple #[I Z 0,I Z 0,I Z 0,I Z 12])∧Mu w.heap.size w b:=by
 have a:=r.row;unfold aW.row at a;have s:=aB a;have⟨d,h,i,j,m⟩:=gZ a;simp at d h i j m;have o:=aA fun b (q:aC w b)=>mn (k:=x.k) (f:=x.f) (g:=x.g) (n:=x.n) ok.ok l c b (r.map.keeps q);unfold dH.ar;clear r a ok c;go_in;go_wp2;refine bS (by kernel_rfl) (by kernel_rfl) ?_
 repeat
  with_reducible refine Mz fun K c=>?_
  go_simp
  try first
   |(apply Ei
     intro b a;obtain⟨q,r⟩:=a.cells;go_simp
     first
      |(go_at_call 46;with_reducible exact a.call (o.out _ a))
      |rfl)
   |(with_reducible refine aQ ?_ ?_;decide)
  refine c _ ?_;clear c K
 with_reducible refine Na ?_
 intro c a;go_wp2;refine My (pB rfl _ _ _) rfl ?_;exact⟨rfl,(by repeat first|exact Bl|assumption|refine Ka ?_|refine Ks ?_ (by first|exact Nl|simp<;>omega|omega)|refine Kd ?_|refine Kc ?_ (by assumption))⟩
end
variable {p:dH}
section
open Go.RowKit Go.Shelf
attribute [local go_sem] Oper.semAt_some cK BB
theorem aQ {c:Prop} {_:Decidable c} {a b:Prop} (e:¬c) (d:b):if c then a else b:=by rw[Fn e];exact d
def aW.voidN (x:aW) (a b:Int):Prop:=(a=1∧0≤b∧b<cU x.t.r x.t.s x.t.b x.t.d x.t.c∧x.t.deadB b=false∧(x.t.pages≠x.t.res→b<x.t.seen+x.t.pages))∨(a=2∧x.t.spareB b=false∧0≤b∧b<x.t.r)
def aW.vpost (x:aW) (a b:Int) (e:Ending):Prop:=∃v:Bool,e=E (.bool v)∧(v=false→x.voidN a b)
theorem ua (ok:cV x) (b:Int) (w:Mr) (a:dE p x w):Mt Y 226 #[p.ar,.agg #[I Z 1,I Z b]] w fun e f=>x.vpost 1 b e∧Mu w.heap.size w f:=by
 have h:=a.row;unfold aW.row at h;have z:=aB h;have⟨k,l,m⟩:=fM h;simp at k l m;have o:=aA (lC a.map);have B:=aA fun w=>xM (r:=x.t.r) (s:=x.t.s) (b:=x.t.b) (d:=x.t.d) (c:=x.t.c) rfl w
 obtain⟨fr,q,y,j⟩:∃(fr:Int) (q:Bool),Hid (∀f,aC w f→Mt Y 250 #[.pointer (S ⟨p.M,0,N⟩)] f fun e g=>e=E (.tuple #[I Z fr,.bool q])∧Mu f.heap.size f g)∧(x.t.pages≠x.t.res→fr=x.t.seen+x.t.pages∧q=true):=by
  by_cases i:x.t.pages=x.t.res
  ·exact⟨0,false,aA fun f g=>RO ok.ok f (a.map.keeps g) i,fun a=>absurd i a⟩
  ·exact⟨_,true,aA fun f g=>RP ok.ok f (a.map.keeps g) i,fun _=>⟨rfl,rfl⟩⟩
 have⟨J,g⟩:=Ey (cU x.t.r x.t.s x.t.b x.t.d x.t.c);have⟨L,i⟩:=Ey (x.t.deadB b);have U:=aA (JQ a.map i);have V:Hid (0≤b→b<J→L=false→(q=true→b<fr)→x.voidN 1 b):=aA fun n t u v=>.inl ⟨rfl,n,by rw[g];exact t,by rw[i];exact u,fun A=>by have:=j A;rw[←this.1];exact v this.2⟩;rw[g]at B;have HH:=aA a;unfold dH.ar;clear h a ok j g i;have i:=aG w (O #[I Z 1,I Z b] 270) w.heap.size rfl;have t:aC w (w.alloc (O #[I Z 1,I Z b] 270)):=aU;go_in;go_wp2_with fail;refine(o.out _ t).mono ?_;rintro e C ⟨rfl,a⟩;replace i:=aE a i;replace t:=Kc t a;clear a;go_upto_region 2 with fail;have⟨j,a⟩:=Ex (C.alloc (O #[I Z x.t.r,I Z x.t.s,I Z x.t.b,I Z x.t.d,I Z x.t.c] 23));have n:aC C j:=by rw[a];exact Ka (K.refl C)
 have g:j.heap[C.heap.size]?=S (O #[I Z x.t.r,I Z x.t.s,I Z x.t.b,I Z x.t.d,I Z x.t.c] 23):=by rw[a];exact aG C _ _ rfl
 have aa:w.heap.size<C.heap.size:=aB i;replace i:=aE n i;replace t:=Kc t n;have h:=(HH.out.keeps t).row;unfold aW.row at h;clear k l m z;have z:=aB h;have⟨k,l,m⟩:=fM h;simp at k l m;have⟨u,v⟩:=bQ i;simp at u v;rw[←a];clear n a;go_wp2_with fail;refine(y.out _ t).mono ?_;rintro e w3 ⟨rfl,a⟩;replace t:=Kc t a;replace i:=aE a i;replace g:=aE a g;replace h:=aE a h;clear k l m z u v a;go_wp2_with fail;have z:=aB h;have A:=aB i;have F:=aB g;have⟨k,l,m⟩:=fM h;simp at k l m;have⟨u,v⟩:=bQ i;simp at u v;have⟨M,P,Q,R,T⟩:=gZ g;simp at M P Q R T;clear j g o y;rcases Int.lt_or_le b 0 with W|W
 ·skip
  refine bS (by kernel_rfl) (by kernel_rfl) ?_
  repeat
   with_reducible refine Mz fun K g=>?_
   go_simp
   try first
    |(apply Ei
      intro f a;obtain⟨n,o⟩:=a.cells;go_simp
      first
       |(go_at_call 74;with_reducible exact a.call (B.out _))
       |rfl)
    |(with_reducible refine aQ ?_ ?_;first|decide|simp[Mv];done)
   refine g _ ?_;clear g K
  with_reducible refine Na ?_
  intro D j;go_wp2_with fail;go_ret;exact⟨⟨_,rfl,fun a=>by cases a⟩,(by repeat first|exact Bl|assumption|refine Ka ?_|refine Ks ?_ (by first|exact Nl|simp<;>omega|omega)|refine Kd ?_|refine Kc ?_ (by assumption))⟩
 have ab:¬b<0:=by omega
 rcases Int.lt_or_le b J with X|X
 case inr=>
  refine bS (by kernel_rfl) (by kernel_rfl) ?_
  repeat
   with_reducible refine Mz fun K g=>?_
   go_simp
   try first
    |(apply Ei
      intro f a;obtain⟨n,o⟩:=a.cells;go_simp
      first
       |(go_at_call 74;with_reducible exact a.call (B.out _))
       |rfl)
    |(with_reducible refine aQ ?_ ?_;first|decide|simp[Mv];done)
   refine g _ ?_;clear g K
  with_reducible refine Na ?_
  intro D j;go_wp2_with fail;go_ret;exact⟨⟨_,rfl,fun a=>by cases a⟩,(by repeat first|exact Bl|assumption|refine Ka ?_|refine Ks ?_ (by first|exact Nl|simp<;>omega|omega)|refine Kd ?_|refine Kc ?_ (by assumption))⟩
 have ad:¬J≤b:=by omega
 have y:Hid (∀f,aC w3 f→Mt Y 161 #[.pointer (S ⟨p.M,0,N⟩),I Z b] f fun e g=>e=E (.bool L)∧Mu f.heap.size f g):=aA fun f g=>U.out f (aK t g);cases L
 case true=>
  refine bS (by kernel_rfl) (by kernel_rfl) ?_
  repeat
   with_reducible refine Mz fun K g=>?_
   go_simp
   try first
    |(apply Ei
      intro f a;obtain⟨n,o⟩:=a.cells;go_simp
      first
       |(go_at_call 74;with_reducible exact a.call (B.out _))
       |(go_at_call 161;with_reducible exact a.call (y.out _ a))
       |rfl)
    |(with_reducible refine aQ ?_ ?_;first|decide|simp[Mv];done)
   refine g _ ?_;clear g K
  with_reducible refine Na ?_
  intro D j;go_wp2_with fail;go_ret;exact⟨⟨_,rfl,fun a=>by cases a⟩,(by repeat first|exact Bl|assumption|refine Ka ?_|refine Ks ?_ (by first|exact Nl|simp<;>omega|omega)|refine Kd ?_|refine Kc ?_ (by assumption))⟩
 have a:=y;have⟨kk,G⟩:=Ey (x.k==1);have⟨ff,ae⟩:=Ey (x.f==b);have H:(q=true→b<fr)→x.voidN 1 b:=V.out W X rfl;replace H:=aA H;clear V U a;cases q
 case false=>
  refine bS (by kernel_rfl) (by kernel_rfl) ?_
  repeat
   with_reducible refine Mz fun K g=>?_
   go_simp
   try first
    |(apply Ei
      intro f a;obtain⟨n,o⟩:=a.cells;go_simp
      first
       |(go_at_call 74;with_reducible exact a.call (B.out _))
       |(go_at_call 161;with_reducible exact a.call (y.out _ a))
       |rfl)
    |(with_reducible refine aQ ?_ ?_;first|decide|simp[Mv];done)
   refine g _ ?_;clear g K
  with_reducible refine Na ?_
  intro D j;go_upto_region 12 with fail;replace h:=aE j h;replace i:=aE j i;clear k l m u v M P Q R T z A F;have z:=aB h;have A:=aB i;have⟨k,l,m⟩:=fM h;simp at k l m;have⟨u,v⟩:=bQ i;simp at u v;cases kk;focus have U:¬x.k=1:=by simpa using G
  rotate_left
  focus skip
  all_goals
   refine bS (by kernel_rfl) (by kernel_rfl) ?_
   repeat
    with_reducible refine Mz fun K g=>?_
    go_simp
    try first
     |(apply Ei
       intro f a;obtain⟨n,o⟩:=a.cells;go_simp
       rfl)
     |(with_reducible refine aQ ?_ ?_;first|decide|simp[Mv];done)
    refine g _ ?_;clear g K
   with_reducible refine Na ?_
   intro n g;go_wp2_with fail;go_ret;exact⟨⟨_,rfl,fun _=>H.out fun a=>by cases a⟩,(by repeat first|exact Bl|assumption|refine Ka ?_|refine Ks ?_ (by first|exact Nl|simp<;>omega|omega)|refine Kd ?_|refine Kc ?_ (by assumption))⟩
 rcases Int.lt_or_le b fr with c3|c3
 case inr=>
  refine bS (by kernel_rfl) (by kernel_rfl) ?_
  repeat
   with_reducible refine Mz fun K g=>?_
   go_simp
   try first
    |(apply Ei
      intro f a;obtain⟨n,o⟩:=a.cells;go_simp
      first
       |(go_at_call 74;with_reducible exact a.call (B.out _))
       |(go_at_call 161;with_reducible exact a.call (y.out _ a))
       |rfl)
    |(with_reducible refine aQ ?_ ?_;first|decide|simp[Mv];done)
   refine g _ ?_;clear g K
  with_reducible refine Na ?_
  intro D j;go_wp2_with fail;go_ret;exact⟨⟨_,rfl,fun a=>by cases a⟩,(by repeat first|exact Bl|assumption|refine Ka ?_|refine Ks ?_ (by first|exact Nl|simp<;>omega|omega)|refine Kd ?_|refine Kc ?_ (by assumption))⟩
 have V:¬fr≤b:=by omega
 refine bS (by kernel_rfl) (by kernel_rfl) ?_
 repeat
  with_reducible refine Mz fun K g=>?_
  go_simp
  try first
   |(apply Ei
     intro f a;obtain⟨n,o⟩:=a.cells;go_simp
     first
      |(go_at_call 74;with_reducible exact a.call (B.out _))
      |(go_at_call 161;with_reducible exact a.call (y.out _ a))
      |rfl)
   |(with_reducible refine aQ ?_ ?_;first|decide|simp[Mv];done)
  refine g _ ?_;clear g K
 with_reducible refine Na ?_
 intro D j;go_upto_region 12 with fail;replace h:=aE j h;replace i:=aE j i;clear k l m u v M P Q R T z A F;have z:=aB h;have A:=aB i;have⟨k,l,m⟩:=fM h;simp at k l m;have⟨u,v⟩:=bQ i;simp at u v;cases kk;focus have U:¬x.k=1:=by simpa using G
 rotate_left
 focus skip
 all_goals
  refine bS (by kernel_rfl) (by kernel_rfl) ?_
  repeat
   with_reducible refine Mz fun K g=>?_
   go_simp
   try first
    |(apply Ei
      intro f a;obtain⟨n,o⟩:=a.cells;go_simp
      rfl)
    |(with_reducible refine aQ ?_ ?_;first|decide|simp[Mv];done)
   refine g _ ?_;clear g K
  with_reducible refine Na ?_
  intro n g;go_wp2_with fail;go_ret;exact⟨⟨_,rfl,fun _=>H.out fun a=>c3⟩,(by repeat first|exact Bl|assumption|refine Ka ?_|refine Ks ?_ (by first|exact Nl|simp<;>omega|omega)|refine Kd ?_|refine Kc ?_ (by assumption))⟩
theorem ub (ok:cV x) (b:Int) (w:Mr) (g:dE p x w):Mt Y 226 #[p.ar,.agg #[I Z 2,I Z b]] w fun e d=>x.vpost 2 b e∧Mu w.heap.size w d:=by
 have a:=g.row;unfold aW.row at a;have n:=aB a;have⟨i,j,k⟩:=fM a;simp at i j k;have z:=aA (lC g.map);have⟨B,f⟩:=Ey (x.t.spareV b);have⟨sb,c⟩:=Ey (x.t.spareB b);have A:=aA (RS g.map f c);have C:Hid (sb=false→0≤b→b<x.t.r→x.voidN 2 b):=aA fun h l m=>.inr ⟨rfl,by rw[c];exact h,l,m⟩;have D:=aA g;unfold dH.ar;clear a g ok c f;have c:=aG w (O #[I Z 2,I Z b] 270) w.heap.size rfl;have f:aC w (w.alloc (O #[I Z 2,I Z b] 270)):=aU;go_in;go_wp2_with fail;refine(z.out _ f).mono ?_;rintro e l ⟨rfl,a⟩;replace c:=aE a c;replace f:=Kc f a;clear a;go_upto_region 2 with fail;have⟨u,g⟩:=Ex (l.alloc (O #[I Z x.t.r,I Z x.t.s,I Z x.t.b,I Z x.t.d,I Z x.t.c] 23));have h:aC l u:=by rw[g];exact Ka (K.refl l)
 have o:u.heap[l.heap.size]?=S (O #[I Z x.t.r,I Z x.t.s,I Z x.t.b,I Z x.t.d,I Z x.t.c] 23):=by rw[g];exact aG l _ _ rfl
 have P:w.heap.size<l.heap.size:=aB c;replace c:=aE h c;replace f:=Kc f h;have a:=(D.out.keeps f).row;unfold aW.row at a;clear i j k n;have n:=aB a;have q:=aB c;have⟨i,j,k⟩:=fM a;simp at i j k;have⟨r,s⟩:=bQ c;simp at r s;rw[←g];clear h g;have t:Hid (∀d,aC u d→Mt Y 160 #[.pointer (S ⟨p.M,0,N⟩),I Z b] d fun e g=>e=E (.tuple #[I Z B,.bool sb])∧Mu d.heap.size d g):=aA fun d g=>A.out d (aK f g);go_upto_region 9 with fail;refine bS (by kernel_rfl) (by kernel_rfl) ?_
 repeat
  with_reducible refine Mz fun K m=>?_
  go_simp
  try first
   |(apply Ei
     intro d g;obtain⟨v,y⟩:=g.cells;go_simp
     first
      |(go_at_call 160;with_reducible exact g.call (t.out _ g))
      |rfl)
   |(with_reducible refine aQ ?_ ?_;first|decide|simp[Mv];done)
  refine m _ ?_;clear m K
 with_reducible refine Na ?_
 intro V h;replace f:=Kc f h;replace a:=aE h a;replace c:=aE h c;replace o:=aE h o;clear i j k r s n q t A z;have n:=aB a;have q:=aB c;have Q:=aB o;have⟨i,j,k⟩:=fM a;simp at i j k;have⟨r,s⟩:=bQ c;simp at r s;have⟨F,G,H,J,L⟩:=gZ o;simp at F G H J L;cases sb;case true=>go_wp2_with fail;go_ret;exact⟨⟨_,rfl,fun g=>by cases g⟩,(by repeat first|exact Bl|assumption|refine Ka ?_|refine Ks ?_ (by first|exact Nl|simp<;>omega|omega)|refine Kd ?_|refine Kc ?_ (by assumption))⟩
 rcases Int.lt_or_le b 0 with z|z
 ·go_wp2_with fail;go_ret;exact⟨⟨_,rfl,fun g=>by cases g⟩,(by repeat first|exact Bl|assumption|refine Ka ?_|refine Ks ?_ (by first|exact Nl|simp<;>omega|omega)|refine Kd ?_|refine Kc ?_ (by assumption))⟩
 have R:¬b<0:=by omega
 rcases Int.lt_or_le b x.t.r with A|A;case inr=>go_wp2_with fail;go_ret;exact⟨⟨_,rfl,fun g=>by cases g⟩,(by repeat first|exact Bl|assumption|refine Ka ?_|refine Ks ?_ (by first|exact Nl|simp<;>omega|omega)|refine Kd ?_|refine Kc ?_ (by assumption))⟩
 have T:¬x.t.r≤b:=by omega
 have⟨M,t⟩:=Ey (x.k==2);go_upto_region 12 with fail;cases M;focus have U:¬x.k=2:=by simpa using t
 rotate_left
 focus skip
 all_goals
  refine bS (by kernel_rfl) (by kernel_rfl) ?_
  repeat
   with_reducible refine Mz fun K m=>?_
   go_simp
   try first
    |(apply Ei
      intro d g;obtain⟨v,y⟩:=g.cells;go_simp
      rfl)
    |(with_reducible refine aQ ?_ ?_;first|decide|simp[Mv];done)
   refine m _ ?_;clear m K
  with_reducible refine Na ?_
  intro m g;go_wp2_with fail;go_ret;exact⟨⟨_,rfl,fun _=>C.out (by trivial) z A⟩,(by repeat first|exact Bl|assumption|refine Ka ?_|refine Ks ?_ (by first|exact Nl|simp<;>omega|omega)|refine Kd ?_|refine Kc ?_ (by assumption))⟩
theorem uc (ok:cV x) (a b:Int) (k:a≠1) (l:a≠2) (w:Mr) (d:dE p x w):Mt Y 226 #[p.ar,.agg #[I Z a,I Z b]] w fun e m=>x.vpost a b e∧Mu w.heap.size w m:=by
 have c:=d.row;unfold aW.row at c;have i:=aB c;have j:=Cw c 0;simp at j;have n:=aA (lC d.map);have r:(a==1)=false:=by simpa using k
 have s:(a==2)=false:=by simpa using l
 unfold dH.ar;clear c d ok;have c:=aG w (O #[I Z a,I Z b] 270) w.heap.size rfl;have f:aC w (w.alloc (O #[I Z a,I Z b] 270)):=aU;go_in;go_wp2_with fail;refine(n.out _ f).mono ?_;rintro e g ⟨rfl,d⟩;replace c:=aE d c;replace f:=Kc f d;clear d;go_upto_region 2 with fail;have⟨o,d⟩:=Ex (g.alloc (O #[I Z x.t.r,I Z x.t.s,I Z x.t.b,I Z x.t.d,I Z x.t.c] 23));have h:aC g o:=by rw[d];exact Ka (K.refl g)
 replace c:=aE h c;replace f:=Kc f h;clear j i;have i:=aB c;have⟨j,q⟩:=bQ c;simp at j q;rw[←d];clear h d;go_wp2_with fail;go_ret;exact⟨⟨_,rfl,fun d=>by cases d⟩,(by repeat first|exact Bl|assumption|refine Ka ?_|refine Ks ?_ (by first|exact Nl|simp<;>omega|omega)|refine Kd ?_|refine Kc ?_ (by assumption))⟩
theorem TR (ok:cV x) (a b:Int) (w:Mr) (g:dE p x w):Mt Y 226 #[p.ar,.agg #[I Z a,I Z b]] w fun e f=>x.vpost a b e∧Mu w.heap.size w f:=by
 by_cases c:a=1
 ·subst c;exact ua ok b w g
 ·by_cases d:a=2
  ·subst d;exact ub ok b w g
  ·exact uc ok a b c d w g
def mB (l:List (Int×Int×Int)):List Ms:=l.flatMap fun e=>[I Z e.1,I Z e.2.1,I Z e.2.2]
def gS (base:Nat) (v:Ms) (l:List (Int×Int×Int)) (W:Mr):Prop:=W.ownsRow base 331 3 v l.length (mB l)
theorem ud (l:List (Int×Int×Int)):(mB l).length=l.length*3:=by
 unfold mB
 induction l with
 |nil=>rfl
 |cons b l a=>rw[List.flatMap_cons,Nr,a,Oc,Oc,Oc,Oc,List.length_nil];omega
theorem ue (l:List (Int×Int×Int)):∀b∈mB l,b.oneCell'=true:=fun b a=>by unfold mB at a;obtain⟨d,_,c⟩:=List.mem_flatMap.1 a;simp only[List.mem_cons,List.not_mem_nil,or_false]at c;rcases c with rfl|rfl|rfl<;>rfl
theorem gS.chg {base:Nat} {l:List (Int×Int×Int)} (k:gS base v l W) (f:aF cw W W') (g:∀h,cw h→h<base):gS base v l W':=by
 obtain⟨d,⟨rfl,i⟩|⟨h,b,c,rfl,j,e,a⟩⟩:=k
 ·exact⟨d,.inl ⟨rfl,i⟩⟩
 ·exact⟨d,.inr ⟨h,b,c,rfl,j,(f.block h (aB e) fun k=>by have:=g _ k;omega).trans e,a⟩⟩
theorem gS.keeps {base:Nat} {l:List (Int×Int×Int)} (b:gS base v l W) (a:aC W W'):gS base v l W':=b.chg (aF.of_below a fun _=>False) fun _ b=>b.elim
theorem gS.nil (base:Nat) (W:Mr):gS base (.slice N 0 0) [] W:=Mr.ownsRow_nil _ _ _ _
theorem gS.mono {base d:Nat} {l:List (Int×Int×Int)} (i:gS base v l W) (f:d≤base):gS d v l W:=by
 obtain⟨e,⟨rfl,g⟩|⟨j,b,c,rfl,h,a⟩⟩:=i
 ·exact⟨e,.inl ⟨rfl,g⟩⟩
 ·exact⟨e,.inr ⟨j,b,c,rfl,Ng f h,a⟩⟩
theorem gS.one {base:Nat} {c:Int} (d:base≤g) (e:W.heap[g]?=S (O #[I Z a,I Z b,I Z c] 331)):gS base (.slice (S ⟨g,0,N⟩) 1 1) [(a,b,c)] W:=⟨rfl,.inr ⟨g,1,_,rfl,d,e,Nl,(by unfold maxLen;omega),rfl,rfl⟩⟩
theorem LI (a b:Int) (g:0≤a) (d:a≤2) (w:Mr):Mt Y 229 #[.agg #[I Z a,I Z b]] w fun e c=>∃h,e=E h∧gS w.heap.size h [(5,b,a-1)] c∧Mu w.heap.size w c:=by have i:=IntWalk.wrap64_in (a-1) ⟨by omega,by omega⟩;have f:=IntWalk.i64_in (a-1) ⟨by omega,by omega⟩;go_in;go_wp2;go_ret;exact⟨_,rfl,gS.one (by simp) (aG _ _ _ (by simp)),(by repeat first|exact Bl|assumption|refine Ka ?_|refine Ks ?_ (by first|exact Nl|simp<;>omega|omega)|refine Kd ?_|refine Kc ?_ (by assumption))⟩
end
section
open Go.RowKit Go.Shelf
attribute [local go_sem] Oper.semAt_some cK
theorem wH {a b t1 t2:Nat} {c1 c2:Array Ms} {d f:Nat×Nat} (c:W.heap[a]?=S (O c1 t1 d)) (g:W.heap[b]?=S (O c2 t2 f)) (n:t1≠t2):a≠b:=fun e=>by rw[e,g]at c;have c:=Option.some.inj c;injection c with _ c _;exact n c.symm
theorem LN {a b t1 t2:Nat} {c1 c2:List Ms} (c:d7 t1 a c1 W) (d:d7 t2 b c2 W) (n:t1≠t2):a≠b:=by obtain⟨f,e,_⟩:=d;exact c.ne e n
theorem dE.ne (d:dE p x W):(p.M≠p.R∧p.L≠p.R∧p.D≠p.R∧p.S≠p.R∧p.A≠p.R∧p.Q≠p.R)∧(p.A≠p.M∧p.A≠p.L∧p.A≠p.D∧p.A≠p.S)∧(p.Q≠p.M∧p.Q≠p.L∧p.Q≠p.D∧p.Q≠p.S):=by obtain⟨c,a,n,h,e,b⟩:=d;obtain⟨f,g,d,_⟩:=a.row;refine⟨⟨wH d c (by decide),a.lives.ne c (by decide),a.dead.ne c (by decide),a.spares.ne c (by decide),wH b.row c (by decide),b.data.ne c (by decide)⟩,⟨wH b.row d (by decide),(a.lives.ne b.row (by decide)).symm,(a.dead.ne b.row (by decide)).symm,(a.spares.ne b.row (by decide)).symm⟩,b.data.ne d (by decide),LN b.data a.lives (by decide),LN b.data a.dead (by decide),LN b.data a.spares (by decide)⟩
theorem dE.withMap {c:aR} (a:dE p x W) (f:cJ p.M p.L p.D p.S c W') (d:aF cw W W') (g:∀b,cw b→b=p.M∨b=p.L∨b=p.D∨b=p.S):dE p ⟨c,x.k,x.f,x.g,x.n⟩ W':=by obtain⟨⟨o,q,r,s,t,u⟩,⟨v,w,y,i⟩,j,k,l,m⟩:=a.ne;obtain⟨e,z,n,h⟩:=a;refine⟨(d.block _ (aB e) fun a=>?_).trans e,f,n,h.chg d (fun a=>?_) fun a=>?_⟩<;>(have:=g _ a;omega)
theorem dE.withAsk {n':Nat} (k:dE p x W) (d:iM p.A p.Q n' W') (a:aF (fun b=>b=p.A∨b=p.Q) W W'):dE p x W':=by obtain⟨⟨l,m,o,q,r,s⟩,⟨t,u,v,f⟩,g,h,i,j⟩:=k.ne;obtain⟨c,e,n,w⟩:=k;exact⟨(a.block _ (aB c) (by omega)).trans c,e.chg a (by omega) (by omega) (by omega) (by omega),n',d⟩
def sK (W:Mr) (R:Nat) (k f g n:Int):Mr:=(((W.setCell ⟨R,1,N⟩ (I Z k)).setCell ⟨R,2,N⟩ (I Z f)).setCell ⟨R,3,N⟩ (I Z g)).setCell ⟨R,4,N⟩ (I Z n)
theorem EW (W:Mr) (R:Nat) (k f g n:Int):aF (fun b=>b=R) W (sK W R k f g n):=by have a:aF (fun b=>b=R) W W:=Cl;have c:=a.setCell (p:=⟨R,1,N⟩) (.inl rfl) (I Z k);have d:=c.setCell (p:=⟨R,2,N⟩) (.inl rfl) (I Z f);have e:=d.setCell (p:=⟨R,3,N⟩) (.inl rfl) (I Z g);exact e.setCell (p:=⟨R,4,N⟩) (.inl rfl) (I Z n)
theorem dE.setJob (q:dE p x W) (k f g n:Int):dE p ⟨x.t,k,f,g,n⟩ (sK W p.R k f g n):=by obtain⟨⟨b,c,d,e,h,i⟩,_⟩:=q.ne;have a:=EW W p.R k f g n;obtain⟨j,l,m,o⟩:=q;refine⟨?_,l.chg a b c d e,m,o.chg a h i⟩;unfold sK;rw[Nx _ p.R 4 _ _ _ (Nx _ p.R 3 _ _ _ (Nx _ p.R 2 _ _ _ (Hs 1 _ j)))];rfl
def LO (p:dH) (x:aW) (w:Mr) (e:Ending) (w':Mr):Prop:=∃v y l,e=E v∧gS w.heap.size v l w'∧dE p y w'∧eF x y∧aF p.own w w'
def BU (p:dH) (x:aW) (w:Mr) (e:Ending) (w':Mr):Prop:=∃v y ev,e=E v∧gS w.heap.size v [ev] w'∧dE p y w'∧eF x y∧aF (fun b=>b=p.R∨b=p.M) w w'
theorem uf (ok:cV x) (b:Int) (g:x.t.pages=x.t.res) (w:Mr) (f:dE p x w):Mt Y 227 #[p.ar,.agg #[I Z 1,I Z b]] w (BU p x w):=by have c:=f.row;unfold aW.row at c;have o:=aB c;have h:=Cw c 0;simp at h;have i:=aA fun a (d:aC w a)=>lf ok.ok a (f.map.keeps d) g;have j:=aA f;unfold dH.ar;have d:=aG w (O #[I Z 1,I Z b] 270) w.heap.size rfl;have a:aC w (w.alloc (O #[I Z 1,I Z b] 270)):=aU;go_in;clear c f ok;go_wp2_with fail;refine(i.out _ a).mono ?_;rintro e q ⟨rfl,c⟩;replace a:=Kc a c;replace d:=aE c d;have n:=aB d;have⟨k,l⟩:=bQ d;simp at k l;go_wp2_with fail;refine(LI 1 b (by omega) (by omega) _).mono ?_;rintro e r ⟨s,rfl,m,f⟩;go_wp2_with fail;go_ret;exact⟨s,x,_,rfl,m.mono a.size,j.out.keeps (Kc a f),eF.refl x,aF.of_below (Kc a f) _⟩
theorem ug (ok:cV x) (b:Int) (n:x.t.ranks=x.t.s) (w:Mr) (r:dE p x w):Mt Y 227 #[p.ar,.agg #[I Z 2,I Z b]] w (BU p x w):=by
 have d:=r.row;unfold aW.row at d;have j:=aB d;have g:=Cw d 0;simp at g;have o:=aA fun f (a:aC w f)=>lh f (r.map.keeps a) n;have q:=aA r;unfold dH.ar;have c:=aG w (O #[I Z 2,I Z b] 270) w.heap.size rfl;have a:aC w (w.alloc (O #[I Z 2,I Z b] 270)):=aU;go_in;obtain⟨w0,f⟩:∃W,W=w.alloc (O #[I Z 2,I Z b] 270):=⟨_,rfl⟩;rw[←f]at c a;have k:=aB c;have⟨h,i⟩:=bQ c;simp at h i;go_upto_region 4 with fail;rw[←f];clear g j;replace d:=aE a d;have j:=aB d;have g:=Cw d 0;simp at g;clear f;refine bS (by kernel_rfl) (by kernel_rfl) ?_
 repeat
  with_reducible refine Mz fun K m=>?_
  go_simp
  try first
   |(apply Ei
     intro f l;obtain⟨s,t⟩:=l.cells;go_simp
     rfl)
   |(with_reducible refine aQ ?_ ?_;first|decide|simp[Mv];done)
  refine m _ ?_;clear m K
 with_reducible refine Na ?_
 intro l f;clear h i g j k;replace a:=Kc a f;replace c:=aE f c;clear d r ok;go_wp2_with fail;refine(o.out _ a).mono ?_;rintro e m ⟨rfl,d⟩;replace a:=Kc a d;replace c:=aE d c;have k:=aB c;have⟨h,i⟩:=bQ c;simp at h i;go_wp2_with fail;refine(LI 2 b (by omega) (by omega) _).mono ?_;rintro e r ⟨s,rfl,j,g⟩;go_wp2_with fail;go_ret;exact⟨s,x,_,rfl,j.mono a.size,q.out.keeps (Kc a g),eF.refl x,aF.of_below (Kc a g) _⟩
theorem uh (ok:cV x) (b:Int) (o:x.t.pages≠x.t.res) (h:x.canP b) (w:Mr) (f:dE p x w):Mt Y 227 #[p.ar,.agg #[I Z 1,I Z b]] w (BU p x w):=by have a:=f.row;unfold aW.row at a;have G:=aB a;have q:=Cw a 0;simp at q;have r:=aA fun c (d:aC w c)=>lj ok.ok c (f.map.keeps d) o;have i:=aA f;unfold dH.ar;have l:=aG w (O #[I Z 1,I Z b] 270) w.heap.size rfl;have g:aC w (w.alloc (O #[I Z 1,I Z b] 270)):=aU;go_in;clear a f ok;go_wp2_with fail;refine(r.out _ g).mono ?_;rintro e j ⟨rfl,m,c⟩;have f:=(i.out.keeps g).withMap m c fun b a=>.inl a;have k:p.M<w.heap.size:=i.out.lt (.inr (.inl rfl));have C:p.R<w.heap.size:=i.out.lt (.inl rfl);have d:=aJ c l (by omega);have D:=aB d;have a:=f.row;unfold aW.row at a;have F:=aB a;have fr:=fun n=>Fw a n;have⟨s,t,u,v,y⟩:=gZ a;simp at s t u v y;have⟨z,A⟩:=bQ d;simp at z A;have B:=aH f c;have n:=aA g;clear l g f m c d a k;go_wp2_with fail;go_ret;have⟨f,c⟩:=B.out;have d:w.heap.size≤j.heap.size:=Ng n.out.size c.size;have g:=EW j p.R 1 b (x.t.seen+x.t.pages) 0;refine⟨_,x.startP b,(3,b,(x.t.seen+x.t.pages)),rfl,gS.one d (aG (sK j p.R 1 b (x.t.seen+x.t.pages) 0) _ _ (by simp[sK])),(f.setJob 1 b (x.t.seen+x.t.pages) 0).keeps aU,.inr (.inl ⟨b,h,rfl⟩),?_⟩;exact(((aF.of_below n.out fun b=>b=p.R∨b=p.M).trans (c.mono fun k _ a=>.inr a)).trans (g.mono fun k _ a=>.inl a)).trans (aF.of_below aU _)
theorem ui (ok:cV x) (b:Int) (s:x.t.ranks≠x.t.s) (l:x.canR b) (w:Mr) (q:dE p x w):Mt Y 227 #[p.ar,.agg #[I Z 2,I Z b]] w (BU p x w):=by
 have a:=q.row;unfold aW.row at a;have i:=aB a;have h:=Cw a 0;simp at h;have t:=aA fun f (c:aC w f)=>lr ok.ok f (q.map.keeps c) s;have m:=aA q;unfold dH.ar;have d:=aG w (O #[I Z 2,I Z b] 270) w.heap.size rfl;have c:aC w (w.alloc (O #[I Z 2,I Z b] 270)):=aU;go_in;obtain⟨w0,f⟩:∃W,W=w.alloc (O #[I Z 2,I Z b] 270):=⟨_,rfl⟩;rw[←f]at d c;have n:=aB d;have⟨j,k⟩:=bQ d;simp at j k;go_upto_region 4 with fail;rw[←f];clear h i;replace a:=aE c a;have i:=aB a;have h:=Cw a 0;simp at h;clear f;refine bS (by kernel_rfl) (by kernel_rfl) ?_
 repeat
  with_reducible refine Mz fun K o=>?_
  go_simp
  try first
   |(apply Ei
     intro f g;obtain⟨r,u⟩:=g.cells;go_simp
     rfl)
   |(with_reducible refine aQ ?_ ?_;first|decide|simp[Mv];done)
  refine o _ ?_;clear o K
 with_reducible refine Na ?_
 intro C g;clear j k h i n;replace c:=Kc c g;replace d:=aE g d;clear a q ok;go_wp2_with fail;refine(t.out _ c).mono ?_;rintro e n ⟨rfl,q,f⟩;have i:=(m.out.keeps c).withMap q f fun b a=>.inl a;have o:p.M<w.heap.size:=m.out.lt (.inr (.inl rfl));have D:p.R<w.heap.size:=m.out.lt (.inl rfl);have h:=aJ f d (by omega);have F:=aB h;have a:=i.row;unfold aW.row at a;have G:=aB a;have fr:=fun j=>Fw a j;have⟨u,v,y,z,A⟩:=gZ a;simp at u v y z A;have⟨j,k⟩:=bQ h;simp at j k;have B:=aH i f;have r:=aA c;clear d c i q f h a o;go_wp2_with fail;go_ret;have⟨i,f⟩:=B.out;have c:w.heap.size≤n.heap.size:=Ng r.out.size f.size;have d:=EW n p.R 2 b (x.t.r+x.t.ranks) 0;refine⟨_,x.startR b,(4,b,(x.t.r+x.t.ranks)),rfl,gS.one c (aG (sK n p.R 2 b (x.t.r+x.t.ranks) 0) _ _ (by simp[sK])),(i.setJob 2 b (x.t.r+x.t.ranks) 0).keeps aU,.inr (.inr ⟨b,l,rfl⟩),?_⟩;exact(((aF.of_below r.out fun b=>b=p.R∨b=p.M).trans (f.mono fun h _ a=>.inr a)).trans (d.mono fun h _ a=>.inl a)).trans (aF.of_below aU _)
theorem TS (ok:cV x) (a b:Int) (g:x.k=0) (h:x.voidN a b) (w:Mr) (j:dE p x w):Mt Y 227 #[p.ar,.agg #[I Z a,I Z b]] w (BU p x w):=by
 rcases h with⟨rfl,d,e,f,i⟩|⟨rfl,d,e,f⟩
 ·by_cases c:x.t.pages=x.t.res
  ·exact uf ok b c w j
  ·exact uh ok b c ⟨g,d,e,f,c,i c⟩ w j
 ·by_cases c:x.t.ranks=x.t.s
  ·exact ug ok b c w j
  ·exact ui ok b c ⟨g,e,f,d,c⟩ w j
theorem uj (ok:cV x) (a b:Int) (z:0≤a) (u:a≤2) (w:Mr) (c:dE p x w):Mt Y 196 #[p.ar,.agg #[I Z a,I Z b]] w (LO p x w):=by
 have A:=aA fun g (o:aC w g)=>TR ok a b g (c.keeps o);have q:=aA c;have B:=aA ok;clear c ok;have c:=aG w (O #[I Z a,I Z b] 270) w.heap.size rfl;have d:aC w (w.alloc (O #[I Z a,I Z b] 270)):=aU;have j:=aB c;go_in;go_wp2_with fail;refine(A.out _ d).mono ?_;rintro e C ⟨⟨J,rfl,s⟩,f⟩;replace d:=Kc d f;replace c:=aE f c;clear f j;have j:=aB c;have⟨h,i⟩:=bQ c;simp at h i;cases J;case true=>go_wp2_with fail;go_ret;exact⟨_,x,[],rfl,gS.nil _ _,q.out.keeps d,eF.refl x,aF.of_below d _⟩
 replace s:=s rfl;have f:=q.out.keeps d;go_wp2_with fail;refine(BT C f).mono ?_;rintro e D ⟨rfl,g⟩;replace d:=Kc d g;replace c:=aE g c;replace f:=f.keeps g;clear h i j g;have j:=aB c;have⟨h,i⟩:=bQ c;simp at h i;by_cases o:x.k=0
 ·have k:decide (x.k≠0)=false:=by simp[o]
  rw[k];go_wp2_with fail;refine(TS B.out a b o s D f).mono ?_;rintro e F ⟨y,H,G,rfl,l,g,r,v⟩;go_wp2_with fail;go_ret;exact⟨y,H,[G],rfl,l.mono d.size,g,r,(aF.of_below d p.own).trans (v.mono (fun L _ t=>by rcases t with rfl|rfl<;>simp[dH.own]))⟩
 have k:decide (x.k≠0)=true:=by simp[o]
 rw[k];go_wp2_with fail;unfold dH.ar;have l:=f.row;unfold aW.row at l;have r:=aB l;have v:=Cw l 5;simp at v;refine eK (by kernel_rfl) (iK [0,1,2,3,4] [] [5,6] (by kernel_rfl) ?_);simp only[aM,d8]
 repeat
  with_reducible refine dS fun K y=>?_
  go_simp
  try first
   |(apply Ei
     intro g t;obtain⟨F,G⟩:=t.cells;go_simp
     rfl)
   |(with_reducible refine aQ ?_ ?_;first|decide|simp[Mv];done)
  refine y _ ?_;clear y K
 with_reducible refine dR ?_
 refine iJ fun F g=>?_;replace f:=f.keeps g;replace d:=Kc d g;replace c:=aE g c;obtain⟨n,y⟩:=f.ask;have G:p.A<w.heap.size∧p.Q<w.heap.size:=⟨q.out.lt (by simp[dH.own]),q.out.lt (by simp[dH.own])⟩;clear v h i l r j g;go_wp2_with fail;refine(tr a b _ y).mono ?_;rintro e v ⟨H,rfl,⟨m,r⟩,g⟩;replace f:=f.withAsk r g;replace c:=aJ g c (by omega);have j:=aB c;have l:aF p.own w v:=(aF.of_below d p.own).trans (g.mono (fun L _ t=>by rcases t with rfl|rfl<;>simp[dH.own]));have t:w.heap.size≤v.heap.size:=l.size;have⟨h,i⟩:=bQ c;simp at h i;clear g y r c d;by_cases g:H=14
 ·subst g;go_wp2_with fail;refine dT ?_;go_wp2_with fail;refine(LI a b z u _).mono ?_;rintro e r ⟨J,rfl,d,c⟩;go_wp2_with fail;go_ret;exact⟨J,x,_,rfl,d.mono t,f.keeps c,eF.refl x,l.trans (aF.of_below c _)⟩
 ·have c:(H==14)=false:=by simpa using g
  go_wp2_with fail;refine dT ?_;go_wp2_with fail;go_ret;exact⟨_,x,[],rfl,gS.nil _ _,f,eF.refl x,l⟩
theorem uk (b:x.k=0) (w:Mr) (f:dE p x w):Mt Y 57 #[p.ar] w fun e d=>e=E (.tuple #[I Z 0,I Z 0,I Z 51])∧Mu w.heap.size w d:=by
 have c:=aA (BT w f);have a:decide (x.k≠0)=false:=by simp[b]
 rw[a]at c;clear f b a;go_in;go_wp2_with fail;refine c.out.mono ?_;rintro e b ⟨rfl,a⟩;go_wp2_with fail
 go_ret3
 exact⟨rfl,(by repeat first|exact Bl|assumption|refine Ka ?_|refine Ks ?_ (by first|exact Nl|simp<;>omega|omega)|refine Kd ?_|refine Kc ?_ (by assumption))⟩
theorem ul (ok:cV x) (b:x.k≠0) (w:Mr) (g:dE p x w):Mt Y 57 #[p.ar] w fun e a=>e=E (.tuple #[I Z (x.t.pos x.k x.f x.n),I Z (x.t.pos x.k x.g x.n),I Z 0])∧Mu w.heap.size w a:=by
 have r:=aA (BT w g);have d:decide (x.k≠0)=true:=by simp[b]
 rw[d]at r;have f:bel x.n (x.t.cnt x.k)=true:=by have c:=ok.nlt b;have h:=ok.job.next.1;simp[bel,c,h]
 have m:=aA fun a (b:aC w a)=>mm ok.ok ok.job f a (g.map.keeps b);have n:=aA fun a (b:aC w a)=>JS ok.ok ok.job f a (g.map.keeps b);replace m:Hid (∀a,aC w a→Mt Y 94 #[.agg #[I Z x.k,I Z x.f,I Z x.g,I Z x.n],.pointer (S ⟨p.M,0,N⟩),I Z x.n] a fun e c=>e=E (.tuple #[I Z (x.t.pos x.k x.f x.n),I Z 0])∧Mu a.heap.size a c):=m;replace n:Hid (∀a,aC w a→Mt Y 79 #[.agg #[I Z x.k,I Z x.f,I Z x.g,I Z x.n],.pointer (S ⟨p.M,0,N⟩),I Z x.n] a fun e c=>e=E (.tuple #[I Z (x.t.pos x.k x.g x.n),I Z 0])∧Mu a.heap.size a c):=n;generalize x.t.pos x.k x.f x.n=v at*;generalize x.t.pos x.k x.g x.n=y at*;have c:=g.row;unfold aW.row at c;unfold dH.ar at*;clear g b d ok f;go_in;go_wp2_with fail;refine r.out.mono ?_;rintro e t ⟨rfl,g⟩;have d:aC w t:=g;replace c:=aE g c;have s:=aB c;have⟨h,i,j,k,l⟩:=gZ c;simp at h i j k l;go_wp2_with fail;refine bS (by kernel_rfl) (by kernel_rfl) ?_
 repeat
  with_reducible refine Mz fun K f=>?_
  go_simp
  try first
   |(apply Ei
     intro a b;obtain⟨o,q⟩:=b.cells;go_simp
     first
      |(go_at_call 94;with_reducible exact b.call (m.out _ (aK d b)))
      |rfl)
   |(with_reducible refine aQ ?_ ?_;first|decide|simp[Mv];done)
  refine f _ ?_;clear f K
 with_reducible refine Na ?_
 intro u b;replace d:=aK d b;replace c:=aE b c;clear h i j k l s b;have s:=aB c;have⟨h,i,j,k,l⟩:=gZ c;simp at h i j k l;go_wp2_with fail;refine bS (by kernel_rfl) (by kernel_rfl) ?_
 repeat
  with_reducible refine Mz fun K f=>?_
  go_simp
  try first
   |(apply Ei
     intro a b;obtain⟨o,q⟩:=b.cells;go_simp
     first
      |(go_at_call 79;with_reducible exact b.call (n.out _ (aK d b)))
      |rfl)
   |(with_reducible refine aQ ?_ ?_;first|decide|simp[Mv];done)
  refine f _ ?_;clear f K
 with_reducible refine Na ?_
 intro f b;go_wp2_with fail
 go_ret3
 exact⟨rfl,aK d b⟩
theorem cV.ret (j:cV x) (e:x.k=1):bel x.f x.t.dead.length=true∧x.t.dead.getD x.f.toNat false=false∧bel (x.g-x.t.seen) x.t.pages=true∧x.t.dead.getD x.g.toNat false=false∧x.f≠x.g:=by
 rcases j.job with⟨c,_⟩|⟨c,k,l,f,g,h,a,b⟩|⟨c,_⟩
 ·omega
 ·obtain⟨m,n,o⟩:=j.pg e
  have d:bel x.f x.t.dead.length=true:=by rw[j.ok.dead];exact f
  have i:bel x.g x.t.dead.length=true:=by rw[j.ok.dead];exact g
  refine⟨d,?_,?_,?_,h⟩
  ·unfold aR.deadB at a;rw[d]at a;simpa using a
  ·simp[bel];omega
  ·unfold aR.deadB at b;rw[i]at b;simpa using b
 ·omega
theorem cV.rep (f:cV x) (e:x.k=2):bel x.f x.t.spares.length=true∧x.t.spares.getD x.f.toNat 0=-1∧bel (x.g-x.t.r) x.t.ranks=true:=by
 rcases f.job with⟨b,_⟩|⟨b,_⟩|⟨b,g,h,d,a,i⟩
 ·omega
 ·omega
 ·obtain⟨j,k,l⟩:=f.rg e
  have c:bel x.f x.t.spares.length=true:=by rw[f.ok.spares];exact d
  refine⟨c,?_,?_⟩
  ·unfold aR.spareB at a;rw[c]at a;simpa using a
  ·simp[bel];omega
theorem um:(Y.info? 331).map (fun a=>(a.zero,a.size,a.bytes))=S (S (.agg #[I Z 0,I Z 0,I Z 0]),3,24):=by kernel_rfl
theorem un (l:List (Int×Int×Int)) (e:Int×Int×Int):mB (l++[e])=mB l++mB [e]:=by unfold mB;rw[List.flatMap_append]
def BV (A:Nat) (W:Mr):Nat:=match W.cell? ⟨A,2,N⟩with|some (.int _ v)=>v.toNat|_=>0
theorem iM.num {A Q:Nat} (a:iM A Q n W):BV A W=n:=by obtain⟨c,b,a⟩:=a;unfold BV;rw[Cw a.row 2];simp
theorem TT {n' q:Int} (a:q=1∨q=2) (ok:cV x) (B:x.k=q) (w:Mr) (V:dE p ⟨x.t,x.k,x.f,x.g,n'⟩ w):Mt Y 201 #[p.ar] w (LO p x.fin w):=by
 obtain⟨i0,an,ar,av,ba⟩:=info_parts um;have c:=V.row;unfold aW.row at c;have G:=aB c;have fr:=fun X=>Fw c X;have⟨h,i,j,k,o⟩:=gZ c;simp at h i j k o;rw[B]at i;have HL:=aA fun b (d:p.own b)=>V.lt d;have r:=aA V;have f:=aA ok;have s:=aA (show x.k≠0 by omega);have HQ:=aA a;have d:(q==0)=false:=by rcases a with rfl|rfl<;>rfl
 have v:=aA B;unfold dH.ar;clear c V ok B a;go_in;go_upto_region 3 with fail;have⟨cm,a⟩:=Ex ((sK w p.R 0 0 0 0).alloc (O #[I Z q,I Z x.f,I Z x.g,I Z n'] 63));have g:dE p ⟨x.t,0,0,0,0⟩ cm:=by rw[a];exact(r.out.setJob 0 0 0 0).keeps aU
 have y:aF (fun b=>b=p.R) w cm:=by rw[a];exact(EW _ _ _ _ _ _).trans (aF.of_below aU _)
 have bs:p.R<w.heap.size:=G;have J:cm.heap[w.heap.size]?=S (O #[I Z q,I Z x.f,I Z x.g,I Z n'] 63):=by rw[a];exact aG _ _ _ (by simp[sK])
 unfold sK at a;rw[←a];clear a h i j k o G fr;have c:=g.row;unfold aW.row at c;have G:=aB c;have aa:=aB J;have h:=Cw c 0;simp at h;have⟨X,C,b2,b3⟩:=eD J;simp at X C b2 b3;clear d;rcases HQ.out with rfl|rfl
 all_goals
  go_wp2_with fail;refine eK (by kernel_rfl) (iK [0,1,2,3,4,5,6,7] [] [8] (by kernel_rfl) ?_);simp only[aM,d8]
  repeat
   with_reducible refine dS fun K d=>?_
   go_simp
   try first
    |(apply Ei
      intro k a;obtain⟨i,j⟩:=a.cells;go_simp
      rfl)
    |(with_reducible refine aQ ?_ ?_;first|decide|simp[Mv];done)
   refine d _ ?_;clear d K
  with_reducible refine dR ?_
  refine iJ fun w3 a=>?_;replace g:=g.keeps a;replace y:=y.trans (aF.of_below a _);replace J:=aE a J;clear c G aa h X C b2 b3 a;go_wp2_with fail
  first
   |(obtain⟨c1,c2,c3,c4,c5⟩:=f.out.ret v.out
     refine(ni f.out.ok x.f x.g c1 c2 c3 c4 c5 w3 g.map).mono ?_;rintro e u ⟨rfl,P,h⟩;have a:dE p x.fin u:=by unfold aW.fin;rw[Fp v.out];exact g.withMap P h (fun b d=>by rcases d with rfl|rfl<;>simp)
     have c:aF p.own w u:=(y.mono fun V _ d=>.inl d).trans (h.mono (fun V _ d=>by rcases d with rfl|rfl<;>simp[dH.own]))
     have d:=aJ h J (by have t:=HL.out p.D (by simp[dH.own]);have V:=HL.out p.L (by simp[dH.own]);omega))
   |(obtain⟨c1,c2,c3⟩:=f.out.rep v.out
     refine(nh f.out.ok x.f x.g c1 c2 c3 w3 g.map).mono ?_;rintro e u ⟨rfl,P,h⟩;have a:dE p x.fin u:=by unfold aW.fin;rw[Fn (by have:=v.out;omega)];exact g.withMap P h (fun b d=>by rcases d with rfl<;>simp)
     have c:aF p.own w u:=(y.mono fun V _ d=>.inl d).trans (h.mono fun V _ d=>by rcases d with rfl<;>simp[dH.own])
     have d:=aJ h J (by have V:=HL.out p.S (by simp[dH.own]);omega))
  have aa:=aB d;have⟨C,b2⟩:=iO d 1 2;simp at C b2;go_wp2_with fail;refine dT ?_;go_wp2_with fail;have bv:Hid (x.fin.k=0):=aA (by unfold aW.fin;split<;>rfl);have H3:=aH a c;have ab:=aA (f.out.fin s.out);clear a c r f s;have⟨H,D⟩:=Ex w.heap.size;have f:∀b,p.own b→b<H:=by rw[D];exact HL.out
  go_loopw [4] (fun a W=>∃(cn:Ms) (bb:aW) (l:List (Int×Int×Int)),a=cn∧gS H cn l W∧dE p bb W∧eF x.fin bb∧aF p.own w W∧l.length+BV p.A W≤300) fun _ W=>BV p.A W
  case atStart=>exact⟨_,x.fin,[(6,x.f,x.g)],rfl,gS.one (by rw[D];exact H3.out.2.size) (aG _ _ _ (by simp)),H3.out.1.keeps aU,eF.refl _,H3.out.2.trans (aF.of_below aU _),by obtain⟨n,A⟩:=H3.out.1.ask;rw[(A.keeps aU).num];have:=A.le.1;simp;omega⟩
  case round=>
   obtain⟨cn,bb,l,rfl,i,j,o,F,bw⟩:=hrel;have r:=bT i j o F;have bd:H≤wr.heap.size:=by rw[D];exact F.size
   obtain⟨cp,cu,rfl⟩:=own_slice i;clear i o F;go_wp2_with fail;refine(BT wr j).mono ?_;rintro e u ⟨rfl,a⟩;by_cases B:bb.k=0
   case neg=>
    have Q:decide (bb.k≠0)=true:=by simp[B]
    rw[Q];go_wp2_with fail;go_ret;have⟨i,j,o,F⟩:=r.out;exact⟨_,bb,l,rfl,by rw[←D];exact i.keeps a,j.keeps a,o,F.trans (aF.of_below a _)⟩
   have Q:decide (bb.k≠0)=false:=by simp[B]
   rw[Q];replace j:=j.keeps a;have c:=j.row;unfold aW.row at c;have G:=aB c;have T:=Cw c 5;simp at T;go_wp2_with fail;obtain⟨n,A⟩:=j.ask;cases n with
   |zero=>refine(qj u A).mono ?_;rintro e s ⟨rfl,bm⟩;go_wp2_with fail;go_ret;have⟨i,j,o,F⟩:=r.out;have k5:aC wr (s.alloc (O #[I Z 0,I Z 0] 270)):=Ka (Kc a bm);exact⟨_,bb,l,rfl,by rw[←D];exact i.keeps k5,j.keeps k5,o,F.trans (aF.of_below k5 _)⟩
   |succ n=>
    have HM:=aA (show BV p.A wr=n+1 by obtain⟨m,d⟩:=r.out.2.1.ask;have t:=d.num;have V:=(d.keeps a).num;rw[A.num]at V;omega);refine(qk u A).mono ?_;rintro e s ⟨ka,kb,rfl,R,t⟩;have z:=j.withAsk R t;have kW:aC s (s.alloc (O #[I Z ka,I Z kb] 270)):=aU;have bx:=aG s (O #[I Z ka,I Z kb] 270) s.heap.size rfl;have hsz5:H≤s.heap.size:=Ng bd (Ng a.size t.size);have bz:=f p.A (by simp[dH.own]);have cc:=f p.Q (by simp[dH.own]);have L:gS H (.slice cp l.length cu) l s:=(r.out.1.keeps a).chg t (fun V d=>by rcases d with rfl|rfl<;>assumption);have M:aF p.own w s:=(r.out.2.2.2.trans (aF.of_below a _)).trans (t.mono (fun V _ d=>by rcases d with rfl|rfl<;>simp[dH.own]));have k:=bT L M R r.out.2.2.1;clear T G c A R t L M r j a;go_wp2_with fail;refine(TR (ab.out|>k.out.2.2.2.ok) ka kb _ (z.keeps kW)).mono ?_;rintro e w6 ⟨⟨vd,rfl,M⟩,r⟩;have c:=Kc kW r;have R:=aE r bx;have bn:=aB R;have⟨X,C⟩:=bQ R;simp at X C;cases vd
    case true=>
     go_wp2_with fail;go_roundw
     case rel=>exact⟨_,bb,l,rfl,k.out.1.keeps c,z.keeps c,k.out.2.2.2,k.out.2.1.trans (aF.of_below c _),by have t:=(k.out.2.2.1.keeps c).num;have V:=HM.out;omega⟩
     case measure=>rw[HM.out,(k.out.2.2.1.keeps c).num];omega
    replace M:=M rfl;have j:=z.keeps c;go_wp2_with fail;refine(TS (ab.out|>k.out.2.2.2.ok) ka kb B M w6 j).mono ?_;rintro e w7 ⟨v7,y7,ev,rfl,G,T,t,U⟩;obtain⟨g7,ad,rfl,cd,br⟩:=G.form (Nat.zero_lt_one);have cf:=f p.R (by simp[dH.own]);have ck:=f p.M (by simp[dH.own]);have L:gS H (.slice cp l.length cu) l w7:=(k.out.1.keeps c).chg U (fun V d=>by rcases d with rfl|rfl<;>assumption);have A:=(k.out.2.2.1.keeps c).chg U (fun V=>by obtain⟨⟨_,_,_,_,d,n6⟩,⟨n7,_⟩,a,_⟩:=j.ne;rcases V with V|V;exact d V;exact n7 V) (fun V=>by obtain⟨⟨_,_,_,_,d,n6⟩,⟨n7,_⟩,a,_⟩:=j.ne;rcases V with V|V;exact n6 V;exact a V);have a:aF p.own w w7:=(k.out.2.1.trans (aF.of_below c _)).trans (U.mono (fun V _ d=>by rcases d with rfl|rfl<;>simp[dH.own]));have ae:H≤w7.heap.size:=by rw[D];exact a.size
    have cl:l.length<1000000:=by omega
    have d:=k.out.2.2.2.trans t;have H7:=bT a A d T;clear a A d k z j r c R X C bn;go_wp2_with(at_builtin;refine wpList_append_own_at _ rfl _ _ 252 rfl H 331 i0 _ 3 24 underlying252 an ar av ba rfl (by decide) _ _ _ rfl L ⟨g7,0,N⟩ 1 ad (mB [ev]) rfl rfl (G.cells rfl) (ue _) (by unfold maxLen;omega) (by omega) ae ?_;intro v8 w8 j r _ C;obtain⟨a8,c8,rfl⟩:=own_slice j;have c:=aH j r;clear j r C);have z:∀X,(Nh cp l.length cu).ownBlock=S X→H≤X:=fun X d=>(Mr.ownsRow.lt L X d).1;go_roundw
    case rel=>
     have⟨a,A,t,T⟩:=H7.out;have k:aF (fun b=>H≤b) w7 w8:=⟨c.out.2.os,c.out.2.tape,c.out.2.output,c.out.2.size,fun b d R=>c.out.2.block b d fun e=>R (z b e.symm)⟩;have R:aF p.own w w8:=a.grown c.out.2 (fun X d=>.inr (by rw[←D];exact z X d));have X:=A.chg k (by omega) (by omega);refine⟨_,y7,l++[ev],rfl,?_,T.chg k fun b d V=>by have:=f b d;omega,t,R,?_⟩
     ·have:=c.out.1;unfold gS;rw[Nr,un];exact this
     ·rw[X.num];have V:=HM.out;simp;omega
    case measure=>have k:aF (fun b=>H≤b) w7 w8:=⟨c.out.2.os,c.out.2.tape,c.out.2.output,c.out.2.size,fun b d R=>c.out.2.block b d fun e=>R (z b e.symm)⟩;rw[HM.out,(H7.out.2.1.chg k (by omega) (by omega)).num];omega
theorem uo {n':Int} (ok:cV x) (a:x.k≠0) (w:Mr) (b:dE p ⟨x.t,x.k,x.f,x.g,n'⟩ w):Mt Y 201 #[p.ar] w (LO p x.fin w):=by
 have:x.k=1∨x.k=2:=by rcases ok.job with⟨e,_⟩|⟨e,_⟩|⟨e,_⟩<;>omega
 rcases this with e|e
 ·exact TT (.inl rfl) ok e w b
 ·exact TT (.inr rfl) ok e w b
def uq (p:dH) (x:aW) (w:Mr) (e:Ending) (w':Mr):Prop:=∃v y l,e=E (.tuple #[v,I Z 0])∧gS w.heap.size v l w'∧dE p y w'∧tO x y∧aF p.own w w'
theorem dY (R i:Nat) (W:Mr) (v:Ms):aF (fun b=>b=R) W (W.setCell ⟨R,i,N⟩ v):=by have a:aF (fun b=>b=R) W W:=Cl;exact a.setCell (p:=⟨R,i,N⟩) (.inl rfl) v
theorem dE.setN (l:dE p x W) (n:Int):dE p ⟨x.t,x.k,x.f,x.g,n⟩ (W.setCell ⟨p.R,4,N⟩ (I Z n)):=by obtain⟨⟨c,d,e,f,g,h⟩,_⟩:=l.ne;have a:aF (fun b=>b=p.R) W (W.setCell ⟨p.R,4,N⟩ (I Z n)):=dY _ _ _ _;obtain⟨i,j,m,k⟩:=l;refine⟨?_,j.chg a c d e f,m,k.chg a g h⟩;rw[Hs 4 _ i];rfl
theorem ur (ok:cV x) (c:x.k≠0) (w:Mr) (g:dE p x w):Mt Y 151 #[p.ar] w (uq p x w):=by
 have t:=aA (BT w g);have a:decide (x.k≠0)=true:=by simp[c]
 rw[a]at t;have d:=ok.job.next;have f:=EJ ok.ok x.k;change 0≤x.n∧x.n≤x.t.cnt x.k at d;have y:=IntWalk.wrap64_in (x.n+1) ⟨by omega,by omega⟩;have r:=IntWalk.i64_in (x.n+1) ⟨by omega,by omega⟩;have z:=aA g;have n:=aH ok c;unfold dH.ar at*;clear g ok c a d f;go_in;go_wp2_with fail;refine t.out.mono ?_;rintro e o ⟨rfl,d⟩;have q:=z.out.keeps d;have a:=q.row;unfold aW.row at a;have u:=aB a;have fr:=fun c=>Fw a c;have⟨f,g,h,i,j⟩:=gZ a;simp at f g h i j;go_upto_region 4 with fail;have⟨C,k⟩:=Ex (o.setCell ⟨p.R,4,N⟩ (I Z (x.n+1)));have c:dE p ⟨x.t,x.k,x.f,x.g,x.n+1⟩ C:=by rw[k];exact q.setN (x.n+1)
 have m:aF p.own w C:=by rw[k];have s:aF (fun b=>b=p.R) o (o.setCell ⟨p.R,4,N⟩ (I Z (x.n+1))):=dY _ _ _ _;exact(aF.of_below d p.own).trans (s.mono fun A _ v=>.inl v)
 rw[←k];clear k f g h i j u fr a q d;have a:=c.row;unfold aW.row at a;have u:=aB a;have⟨f,g,h,i,j⟩:=gZ a;simp at f g h i j;have A:=aA (lC c.map);have s:=aA fun w=>mi x.k x.f x.g (x.n+1) x.t.r x.t.s x.t.b x.t.d x.t.c x.t.way x.t.res w;have⟨F,d⟩:=Ey (decide (x.k≠0)&&decide (x.n+1=lB x.k x.t.r x.t.s x.t.b x.t.d x.t.c));rw[d]at s;replace d:=aA d;have v:=aH c m;clear c m a y r;refine bS (by kernel_rfl) (by kernel_rfl) ?_
 repeat
  with_reducible refine Mz fun K c=>?_
  go_simp
  try first
   |(apply Ei
     intro q a;obtain⟨k,m⟩:=a.cells;go_simp
     first
      |(go_at_call 77;with_reducible exact a.call (A.out _ a))
      |(go_at_call 200;with_reducible exact a.call (s.out _))
      |rfl)
   |(with_reducible refine aQ ?_ ?_;first|decide|simp[Mv];done)
  refine c _ ?_;clear c K
 with_reducible refine Na ?_
 intro y c;have r:=v.out.1.keeps c;have a:aF p.own w y:=v.out.2.trans (aF.of_below c _);cases F
 ·go_wp2_with fail;go_ret2;refine⟨_,⟨x.t,x.k,x.f,x.g,x.n+1⟩,[],rfl,gS.nil _ _,r,.inl ⟨?_,rfl⟩,a⟩;have:=d.out;intro e;rw[show lB x.k x.t.r x.t.s x.t.b x.t.d x.t.c=x.t.cnt x.k from rfl,e]at this;simp[n.out.2]at this
 ·go_wp2_with fail;refine(uo n.out.1 n.out.2 _ r).mono ?_;rintro e D ⟨G,H,l,rfl,k,B,m,q⟩;go_wp2_with fail;go_ret2;refine⟨G,H,l,rfl,k.mono a.size,B,.inr ⟨?_,m⟩,a.trans q⟩;have:=d.out;rw[show lB x.k x.t.r x.t.s x.t.b x.t.d x.t.c=x.t.cnt x.k from rfl]at this;simp at this;exact this.2
theorem bP.at {l:List (Int×Int×Int)} (p:bP 369 3 v (PL l) W) (b:j<l.length):∃c a o,v=.slice (S ⟨c,0,N⟩) l.length a∧o∈l∧c<W.heap.size∧l.length≤maxLen∧
 W.cell? ⟨c,j*3,N⟩=S (I Z o.1)∧W.cell? ⟨c,j*3+1,N⟩=S (I Z o.2.1)∧W.cell? ⟨c,j*3+2,N⟩=S (I Z o.2.2)∧∃e,W.heap[c]?=S (O e 369):=by
 have f:∀c,v.ownBlock=S c→∃e,W.heap[c]?=S (O e 369):=fun c d=>by
  obtain⟨_,⟨rfl,_⟩|⟨h,a,g,rfl,_,i,_⟩⟩:=p.own
  ·cases d
  ·have:h=c:=by simpa[Ny]using d
   subst this;exact⟨g,i⟩
 rcases p.cases with⟨_,m⟩|⟨c,a,rfl,d,g,n,e⟩
 ·have:l.length=0:=by rw[←jB,m];rfl
  omega
 ·have h:=e j 0 _ (by rw[jB];exact b) (by omega) (by rw[xK b];rfl);have i:=e j 1 _ (by rw[jB];exact b) (by omega) (by rw[xK b];rfl);have k:=e j 2 _ (by rw[jB];exact b) (by omega) (by rw[xK b];rfl);rw[Nat.mul_comm 3 j]at h i k;rw[jB]at g;exact⟨c,a,l[j],by rw[jB],List.getElem_mem b,d,Ng g n,h,i,k,f c rfl⟩
theorem bP.row {t c:Nat} {L:List (List Ms)} (i:bP t c v L W) (b:v.ownBlock=S g):∃d,W.heap[g]?=S (O d t):=by
 obtain⟨_,⟨rfl,_⟩|⟨e,h,a,rfl,_,f,_⟩⟩:=i.own
 ·cases b
 ·have:e=g:=by simpa[Ny]using b
  subst this;exact⟨a,f⟩
theorem mR {a t1 t2:Nat} {c2:Array Ms} {d:Nat×Nat} (b:∃c,W.heap[a]?=S (O c t1)) (e:W.heap[a]?=S (O c2 t2 d)) (n:t1≠t2):False:=by obtain⟨c,b⟩:=b;rw[e]at b;have b:=Option.some.inj b;injection b with _ b _;exact n b.symm
def ut (e':Int) (l:List (Int×Int×Int)) (e:Ending):Prop:=∃(v a:Int) (b:Bool),e=E (.tuple #[.agg #[I Z v,I Z a],.bool b])∧0≤v∧v≤65536∧0≤a∧a<e'∧(l=[]→v=0∧a=0)
theorem uu {T:Nat} {own:Nat→Prop} {l:List (Int×Int×Int)} {e':Int} (D:1≤e') (a:jQ e' l) (k:Int) (w:Mr) (g:gK T own l room w):Mt Y 224 #[.pointer (S ⟨T,0,N⟩),I Z k] w fun e b=>ut e' l e∧Mu w.heap.size w b:=by
 have c:aC w (w.alloc (O #[I Z 0,I Z 0] 275)):=aU;have b:=aG w (O #[I Z 0,I Z 0] 275) w.heap.size rfl;have m:=aA (JH k _ (g.keeps c));have n:=aA g;have o:=aA a;clear g a;go_in;go_wp2_with fail;refine m.out.mono ?_;rintro e F ⟨⟨C,rfl,G,H⟩,d⟩;replace c:=Kc c d;replace b:=aE d b;have z:=aB b;have fb:=fun p=>Fw b p;have⟨q,r⟩:=bQ b;simp at q r;by_cases J:C<0
 ·go_wp2_with fail;refine My (lin.iF results224 _ _ w.heap.size 275 #[I Z 0,I Z 0] (0,0) _ rfl (by rw[aV _ _ _ (by simp;omega)];exact Nx _ w.heap.size 1 _ _ _ (Hs 0 _ b)) underlying275 rfl (by kernel_rfl)) rfl ⟨⟨0,0,_,rfl,by omega,by omega,by omega,by omega,fun _=>⟨rfl,rfl⟩⟩,Ka (Ks (Ks c Nl) Nl)⟩
 ·obtain⟨p,rfl⟩:∃p:Nat,C=p:=⟨C.toNat,by omega⟩
  have f:p<l.length:=by omega
  obtain⟨R,a,_,_,g⟩:=(n.out.keeps c).ex;have h:∀j,R.ownBlock=S j→j≠w.heap.size:=fun j i e=>by subst e;have:=g.row i;exact mR this b (by decide)
  obtain⟨j,A,s,rfl,t,i,K,L,M,P,_⟩:=g.at f;have Q:=aB a;have B:j≠w.heap.size:=h j rfl;have u:=Cw a 0;simp at u;clear g a;go_wp2_with fail;obtain⟨a,v,x,y⟩:=o.out s t;refine My (lin.iF results224 _ _ w.heap.size 275 #[I Z s.2.1,I Z s.2.2] (0,0) _ rfl (Nx _ w.heap.size 1 _ _ _ (Hs 0 _ b)) underlying275 rfl (by kernel_rfl)) rfl ⟨⟨s.2.1,s.2.2,_,rfl,a,v,x,y,fun g=>by subst g;simp at f⟩,Ks (Ks c Nl) Nl⟩
theorem uv (v a:Int) (w:Mr):Mt Y 170 #[.agg #[I Z v,I Z a]] w fun e b=>e=E (I Z v)∧Mu w.heap.size w b:=by go_in;go_wp2;go_ret;exact⟨rfl,(by repeat first|exact Bl|assumption|refine Ka ?_|refine Ks ?_ (by first|exact Nl|simp<;>omega|omega)|refine Kd ?_|refine Kc ?_ (by assumption))⟩
theorem uw {T:Nat} {own:Nat→Prop} {l:List (Int×Int×Int)} (m:1≤l.length) (w:Mr) (d:gK T own l room w):Mt Y 249 #[.pointer (S ⟨T,0,N⟩)] w fun e a=>(∃s:Nat,e=E (I Z s)∧s<l.length)∧Mu w.heap.size w a:=by
 obtain⟨aa,a,_,_,b⟩:=d.ex;have⟨n,c⟩:=Ey l.length;have g:l.length≤maxLen:=by obtain⟨_,_,_,_,_,_,g,_⟩:=b.at m;exact g
 obtain⟨ab,G,rfl⟩:=b.slice;have y:=aB a;have o:=Cw a 0;simp at o;rw[jB]at*;have z:=Hd3 b a c;rw[c]at m g ⊢;rw[c]at o;clear b a d c;go_in;go_wp2_with fail;go_loopw [3,4,13] (fun b c a W=>∃(i s:Nat) (H:Int),i≤n∧s<n∧b=I Z s∧c=I Z H∧a=I Z i∧aC w W) fun _ _ a _=>n-(intOf a).toNat
 case atStart=>exact⟨0,0,0,Ns _,m,rfl,rfl,rfl,K.refl w⟩
 case round=>
  obtain⟨i,s,H,Q,A,rfl,rfl,rfl,h⟩:=hrel;by_cases J:i<n
  ·have k:(i:Int)<n:=by omega
   have j:=IntWalk.wrap64_in ((i:Int)+1) ⟨by omega,by unfold maxLen at g;omega⟩;have L:=IntWalk.i64_in ((i:Int)+1) ⟨by omega,by unfold maxLen at g;omega⟩;have⟨b,a,c⟩:=z.out;have d:=aE h a;obtain⟨ad,v,t,u,B,R,_,U,V,X,_⟩:=(b.keeps h).at (show i<l.length by omega);simp only[Ms.slice.injEq]at u;obtain⟨rfl,_,rfl⟩:=u;have bx:=aG wr (O #[I Z t.1,I Z t.2.1,I Z t.2.2] 369) wr.heap.size rfl;clear b a c o y;have M:=aB d;have C:=Cw d 2;simp at C;have D:=aA h;have F:=aA fun a=>uv t.2.1 t.2.2 a;generalize t.1=x0 at*;generalize t.2.1=p at*;generalize t.2.2=x2 at*;clear B h d;go_upto_region 5 with fail;refine bS (by kernel_rfl) (by kernel_rfl) ?_
   repeat
    with_reducible refine Mz fun K c=>?_
    go_simp
    try first
     |(apply Ei
       intro a b;obtain⟨d,f⟩:=b.cells;go_simp
       first
        |(go_at_call 170;with_reducible exact b.call (F.out _))
        |rfl)
     |(with_reducible refine aQ ?_ ?_;first|decide|simp[Mv];done)
    refine c _ ?_;clear c K
   with_reducible refine Na ?_
   intro w2 q;have f:=aK (Ka D.out) q;by_cases r:i=0
   ·subst r
    go_wp2_with fail;go_roundw
    case rel=>exact⟨1,0,p,by omega,by omega,rfl,rfl,rfl,f⟩
    case measure=>simp[intOf];omega
   have x:((i:Int)==0)=false:=by simp;omega
   by_cases P:p<H
   ·go_wp2_with fail
    go_roundw
    case rel=>exact⟨i+1,i,p,by omega,by omega,rfl,rfl,by simp[j],f⟩
    case measure=>simp[intOf,j];omega
   ·go_wp2_with fail
    go_roundw
    case rel=>exact⟨i+1,s,H,by omega,by omega,rfl,rfl,by simp[j],f⟩
    case measure=>simp[intOf,j];omega
  ·have k:¬(i:Int)<n:=by omega
   go_wp2_with fail;go_ret;exact⟨⟨s,rfl,A⟩,h⟩
theorem TU:∀(l:List (Int×Int×Int)) (i:Nat),(PL l).eraseIdx i=PL (l.eraseIdx i)
 |[],_=>rfl
 |_::_,0=>rfl
 |a::l,i+1=>by show AX a::(PL l).eraseIdx i=AX a::PL (l.eraseIdx i);rw[TU l i]
theorem TV {T:Nat} {own:Nat→Prop} {l:List (Int×Int×Int)} (i:Nat) (q:i<l.length) (w:Mr) (t:gK T own l room w):Mt Y 248 #[.pointer (S ⟨T,0,N⟩),I Z i] w fun e a=>(∃c:Int,e=E (I Z c))∧gK T own (l.eraseIdx i) room a∧aF own w a:=by
 obtain⟨V,c,k,h,f⟩:=t.ex;obtain⟨v,j,U,rfl,g,J,r,K,L,M,x,d⟩:=f.at q;have P:=aB c;have n:v≠T:=fun e=>mR ⟨x,d⟩ (by rw[e];exact c) (by decide);have y:=fun s=>Fw c s;have o:=Cw c 0;simp at o;have C:(i:Int)<l.length:=by omega
 have Q:=IntWalk.wrap64_in ((i:Int)+1) ⟨by omega,by unfold maxLen at r;omega⟩;have D:=IntWalk.i64_in ((i:Int)+1) ⟨by omega,by unfold maxLen at r;omega⟩;have p:=aA (dc i (i+1) rfl (by rw[jB];exact q) (jp l) w f);replace p:Hid (Mt Y 264 #[.slice (S ⟨v,0,N⟩) l.length j,I Z (i:Nat),I Z ((i:Int)+1)] w fun e a=>∃m,e=E m∧bP 369 3 m ((PL l).eraseIdx i) a∧m.ownBlock=(Nh (S ⟨v,0,N⟩) l.length j).ownBlock∧aF (fun b=>(Nh (S ⟨v,0,N⟩) l.length j).ownBlock=S b) w a):=p;have z:=Hd3 c k h;generalize U.1=R at*;clear t c k h f d g;go_in;go_wp2_with fail;refine p.out.mono ?_;rintro e A ⟨m,rfl,d,f,g⟩;have⟨c,k,h⟩:=z.out;have a:=aJ g c fun e=>n (by simpa[Ny]using e);have F:=aB a;have G:=fun s=>Fw a s;have B:=Cw a 0;simp at B;have H:m.oneCell'=true:=by obtain⟨s,t,rfl⟩:=d.slice;rfl
 have u:=bT d f g a;clear o y c d f g a;obtain⟨s,t,rfl⟩:=u.out.1.slice;go_wp2_with fail;go_ret;have⟨d,f,g,a⟩:=u.out;have o:=dY T 0 A (.slice s ((PL l).eraseIdx i).length t);have y:own v:=h v rfl;refine⟨⟨_,rfl⟩,⟨_,Hs 0 _ a,k,fun b c=>h b (by rw[←f];exact c),?_⟩,(g.mono fun b _ c=>h b c).trans (o.mono fun b _ c=>by subst c;exact k)⟩;rw[←TU];exact d.chg o fun b c e=>by rw[f]at c;exact n ((by simpa[Ny]using c:v=b).trans e)
theorem TW:∀(l:List (Int×Int×Int)) (j:Nat) (v a:Int),j<l.length→((PL l).flatten.set (j*3+1) (I Z v)).set (j*3+2) (I Z a)=(PL (l.set j ((l.getD j (0,0,0)).1,v,a))).flatten
 |[],_,_,_,c=>by simp at c
 |_::_,0,_,_,_=>rfl
 |b::l,j+1,v,a,c=>by
  have c:j<l.length:=by simpa using c
  have d:=TW l j v a c;have e:(j+1)*3+1=(j*3+1)+1+1+1:=by omega
  have f:(j+1)*3+2=(j*3+2)+1+1+1:=by omega
  rw[e,f];show I Z b.1::I Z b.2.1::I Z b.2.2::(((PL l).flatten.set (j*3+1) (I Z v)).set (j*3+2) (I Z a))=I Z b.1::I Z b.2.1::I Z b.2.2::(PL (l.set j ((l.getD j (0,0,0)).1,v,a))).flatten;rw[d]
theorem LQ (l:List (Int×Int×Int)):∀b∈PL l,b.length=3:=fun b a=>by obtain⟨c,_,rfl⟩:=List.mem_map.1 a;rfl
theorem bP.setB {cap:Nat} {l:List (Int×Int×Int)} (r:bP 369 3 (.slice (S ⟨g,0,N⟩) n cap) (PL l) W) (b:l.length=n) (f:j<n) (v a:Int):bP 369 3 (.slice (S ⟨g,0,N⟩) n cap) (PL (l.set j ((l.getD j (0,0,0)).1,v,a))) ((W.setCell ⟨g,j*3+1,N⟩ (I Z v)).setCell ⟨g,j*3+2,N⟩ (I Z a)):=by
 subst b;obtain⟨p,⟨b,_⟩|⟨q,e,o,b,h,i,c,k,m,d⟩⟩:=r.own
 ·cases b
 simp only[Ms.slice.injEq,Option.some.injEq,Addr.mk.injEq]at b;obtain⟨⟨rfl,_⟩,_,rfl⟩:=b;rw[jB]at c d;have b:(PL (l.set j ((l.getD j (0,0,0)).1,v,a))).length=l.length:=by rw[jB,Od]
 refine⟨⟨by rw[DK _ (LQ _)],.inr ⟨g,cap,_,by rw[b],h,Nx _ g (j*3+2) _ _ _ (Hs (j*3+1) _ i),by rw[b];exact c,k,by simp[m],?_⟩⟩,LQ _⟩;rw[b];simp only[Array.toList_setIfInBounds];rw[List.take_set,List.take_set,d];exact TW l j v a f
theorem gK.tight {T:Nat} {own:Nat→Prop} {l:List (Int×Int×Int)} (d:gK T own l room W):gK T (fun b=>own b∧b<W.heap.size) l room W:=d.same fun b a c=>⟨rfl,c,a⟩
theorem gK.mono {T:Nat} {own a:Nat→Prop} {l:List (Int×Int×Int)} (d:gK T own l room W) (c:∀b,own b→a b):gK T a l room W:=d.same fun b e d=>⟨rfl,c b d⟩
theorem jQ.set {l:List (Int×Int×Int)} (c:jQ e l) (j:Nat) {x:Int×Int×Int} (b:0≤x.2.1∧x.2.1≤65536∧0≤x.2.2∧x.2.2<e):jQ e (l.set j x):=fun d a=>by
 rcases List.mem_or_eq_of_mem_set a with a|rfl
 ·exact c d a
 ·exact b
theorem jQ.erase {l:List (Int×Int×Int)} (b:jQ e l) (j:Nat):jQ e (l.eraseIdx j):=fun c a=>b c (List.mem_of_mem_eraseIdx a)
theorem jQ.push {l:List (Int×Int×Int)} (c:jQ e l) {x:Int×Int×Int} (b:0≤x.2.1∧x.2.1≤65536∧0≤x.2.2∧x.2.2<e):jQ e (l++[x]):=fun d a=>by
 rcases List.mem_append.1 a with a|a
 ·exact c d a
 ·simp at a;subst a;exact b
theorem ux (a:Nat) (f:1≤a) (g:a≤256) (w:Mr):Mt Y 169 #[I Z a,.func (.func 170) #[] #[]] w fun e c=>∃T:Nat,e=E (.tuple #[.pointer (S ⟨T,0,N⟩),I Z 0])∧gK T (fun b=>w.heap.size≤b) [] a c∧Mu w.heap.size w c:=by
 have h:¬(a:Int)<1:=by omega
 have i:¬256<(a:Int):=by omega
 go_in;go_wp2;go_ret2;refine⟨w.heap.size,rfl,⟨⟨.slice N 0 0,aG _ _ _ rfl,Nl,?_,bP.nil _ _ _⟩⟩,aU⟩;intro j d;simp[Ny]at d
theorem uy {T:Nat} {own:Nat→Prop} {l:List (Int×Int×Int)} {e':Int} (a:jQ e' l) (k:Int) (w:Mr) (h:gK T own l room w):Mt Y 256 #[.pointer (S ⟨T,0,N⟩),I Z k] w fun e c=>∃(l':List (Int×Int×Int)) (b:Bool),e=E (.bool b)∧gK T own l' room c∧jQ e' l'∧l'.length≤l.length∧aF own w c:=by
 have g:=aA (JH k _ h);have d:=aA h;have f:=aA a;clear h a;go_in;go_wp2_with fail;refine g.out.mono ?_;rintro e h ⟨⟨n,rfl,o,p⟩,a⟩;by_cases q:n<0
 ·go_wp2_with fail;go_ret;exact⟨l,_,rfl,d.out.keeps a,f.out,Nl,aF.of_below a _⟩
 ·obtain⟨i,rfl⟩:∃i:Nat,n=i:=⟨n.toNat,by omega⟩
  have c:i<l.length:=by omega
  go_wp2_with fail;refine(TV i c h (d.out.keeps a)).mono ?_;rintro e r ⟨⟨s,rfl⟩,j,m⟩;go_wp2_with fail;go_ret;exact⟨_,_,rfl,j,f.out.erase i,by rw[List.length_eraseIdx_of_lt c];omega,(aF.of_below a _).trans m⟩
theorem TX {T:Nat} {own:Nat→Prop} {l:List (Int×Int×Int)} {e' k v:Int} {f w8:Mr} {j:Option Addr} {cap c d:Nat} {q:Int} {D:Bool}
 (m:w8.ownsRow 0 369 3 (.slice (S ⟨c,0,N⟩) (l.length+1) d) (l.length+1) ((PL l).flatten++[I Z k,I Z v,I Z a])) (h:(f.drew.alloc o).grownBy w8 (Nh j l.length cap).ownBlock)
 (i:(Nh j l.length cap).ownBlock=S c∨c=H) (M:f.heap.size≤H) (n:w8.heap[T]?=S (O #[.slice j l.length cap,I Z room,.func (.func 170) #[] #[]] 339)) (J:T<f.heap.size) (B:own T)
 (C:∀g,(Nh j l.length cap).ownBlock=S g→own g) (s:∀g,(Nh j l.length cap).ownBlock=S g→g≠T) (t:aF own w f) (K:w.heap.size≤f.heap.size) (g:jQ e' l) (F:0≤v∧v≤65536∧0≤a∧a<e') (L:l.length+1≤room):
 ∃(l':List (Int×Int×Int)) (r:Int) (b:Bool),Ending.returned (.tuple #[I Z q,.bool D])=E (.tuple #[I Z r,.bool b])∧gK T (fun b=>own b∨w.heap.size≤b) l' room (w8.setCell ⟨T,0,N⟩ (.slice (S ⟨c,0,N⟩) (l.length+1) d))∧jQ e' l'∧l'.length≤room∧aF own w (w8.setCell ⟨T,0,N⟩ (.slice (S ⟨c,0,N⟩) (l.length+1) d)):=by
 have p:=dY T 0 w8 (.slice (S ⟨c,0,N⟩) (l.length+1) d)
 have u:bP 369 3 (.slice (S ⟨c,0,N⟩) (l.length+1) d) (PL (l++[(k,v,a)])) w8:=by
  refine⟨?_,LQ _⟩;have x:(PL (l++[(k,v,a)])).length=l.length+1:=by rw[jB];simp
  have y:(PL (l++[(k,v,a)])).flatten=(PL l).flatten++[I Z k,I Z v,I Z a]:=by unfold PL;rw[List.map_append,List.flatten_append];rfl
  rw[x,y];exact m
 have x:c≠T:=by
  rcases i with z|z
  ·exact s c z
  ·omega
 have y:own c∨w.heap.size≤c:=by
  rcases i with z|z
  ·exact .inl (C c z)
  ·right;omega
 have z:aC f (f.drew.alloc o):=Ka (Kd Kr);have A:aF own w w8:=((t.trans (aF.of_below z _)).grown h fun P G=>.inl (C P G));refine⟨l++[(k,v,a)],_,_,rfl,⟨_,Hs 0 _ n,.inl B,fun b g=>?_,u.chg p fun b g e=>x ((by simpa[Ny]using g:c=b).trans e)⟩,g.push F,by rw[Nr];simp;omega,A.trans (p.mono fun b _ g=>by subst g;exact B)⟩;have:c=b:=by simpa[Ny]using g
 rw[←this];exact y
theorem uz {T:Nat} {own:Nat→Prop} {l:List (Int×Int×Int)} {e':Int} (c:jQ e' l) (bb:l.length≤room) (bv:1≤room) (bw:room≤256) (k v a:Int) (d:0≤v∧v≤65536∧0≤a∧a<e') (w:Mr) (g:gK T own l room w) (bd:∀b,own b→b<w.heap.size):Mt Y 225 #[.pointer (S ⟨T,0,N⟩),I Z k,.agg #[I Z v,I Z a]] w fun e f=>∃(l':List (Int×Int×Int)) (r:Int) (b:Bool),e=E (.tuple #[I Z r,.bool b])∧gK T (fun b=>own b∨w.heap.size≤b) l' room f∧jQ e' l'∧l'.length≤room∧aF own w f:=by
 obtain⟨i0,aa,ab,ad,ae⟩:=info_parts PS;have u:aC w (w.alloc (O #[I Z v,I Z a] 275)):=aU;have m:=aG w (O #[I Z v,I Z a] 275) w.heap.size rfl;have f:=aA (JH k _ (g.keeps u));have HH:=aA g;have H:=aH c d;clear g c d;go_in;go_wp2_with fail;refine f.out.mono ?_;rintro e w1 ⟨⟨r,rfl,h1,h2⟩,c⟩;replace u:=Kc u c;replace m:=aE c m;clear f c;by_cases hr:r<0
 ·have bm:¬0≤r:=by omega
  have q:=m;have J:=HH.out.keeps u;obtain⟨vv,c,p,o,h⟩:=J.ex;obtain⟨A,s,rfl⟩:=h.slice;rw[jB]at*;have hz:=aB c;have F:=aB m;have⟨z,L⟩:=bQ c;simp at z L;clear c p o h;go_wp2_with fail;refine bS (by kernel_rfl) (by kernel_rfl) ?_
  repeat
   with_reducible refine Mz fun K d=>?_
   go_simp
   try first
    |(apply Ei
      intro f c;obtain⟨h,i⟩:=c.cells;go_simp
      rfl)
    |(with_reducible refine aQ ?_ ?_;first|decide|simp[Mv];done)
   refine d _ ?_;clear d K
  with_reducible refine Na ?_
  intro M B;replace u:=Kc u B;replace m:=aE B m;have P:=J.keeps B;clear z L hz F J q B;by_cases Q:l.length=room
  ·have hf:((l.length:Int)==(room:Int))=true:=by simp;omega
   rw[hf];go_wp2_with fail;refine(uw (by omega) M P).mono ?_;rintro e R ⟨⟨bx,rfl,hq⟩,J⟩;have an:=P.keeps J;replace m:=aE J m;replace u:=Kc u J;go_wp2_with fail;refine(TV bx hq R an).mono ?_;rintro e U ⟨⟨q5,rfl⟩,ar,L⟩;replace m:=aJ L m (fun g=>by have:=bd _ g;omega);have n:aF own w U:=(aF.of_below u _).trans L;have t:w.heap.size≤U.heap.size:=n.size;have bn:(l.eraseIdx bx).length+1=l.length:=by rw[List.length_eraseIdx_of_lt hq];omega
   have av:=aH (H.out.1.erase bx) H.out.2;have q:True:=trivial;have P:=ar;generalize l.eraseIdx bx=B at*;have bs:B.length+1≤room:=by omega
   clear Q bn hf;clear ar an L u;go_wp2_with fail;obtain⟨vv,c,p,o,h⟩:=P.ex;obtain⟨A,s,rfl⟩:=h.slice;rw[jB]at*;have hz:=aB c;have F:=aB m;have z:=Cw c 0;simp at z;have⟨C,D⟩:=bQ m;simp at C D;have j:∀x,(Nh A B.length s).ownBlock=S x→x≠T:=fun x g e=>by subst e;exact mR (h.row g) c (by decide)
   have x:U.ownsRow 0 369 3 (.slice A B.length s) B.length (PL B).flatten:=by have:=h.own;rw[jB]at this;exact this
   have G:=pP c p o h j n q t;have V:=Cw c 0;have⟨W,X⟩:=bQ m;simp at V W X;clear z C D
   go_region_law (first|(refine step_append_lies _ (by rfl) (.tmp 41) (.tmp 45) 337 (by rfl) 0 369 i0 _ 3 24 underlying337 aa ab ad ae (by rfl) (by decide) (.slice A B.length s) B.length (PL B).flatten (by rfl) ((x.alloc _).drew) ⟨U.heap.size,0,N⟩ 1 1 [I Z k,I Z v,I Z a] (by rfl) (by rfl) (Mr.news_of_block (heap_alloc_new U _)) (by simp[Ni]) (by decide) (by unfold maxLen;omega) (by omega) (Ns _) _ rfl ?_;intro g8 ba w8 g f i y;have d:=eS f ((aV _ _ _ (aB c)).trans c) fun e=>j T e.symm rfl;have f8:=Fw d 0;have r8:=Cw d 0;simp at r8))
   all_goals have⟨c,p,o,h,j,n,q,t⟩:=G.out;have br:=aB d;have HZ:=eP g f i y d;clear g f i d V W X h x;go_wp2_with fail;go_ret2;have⟨g,f,i,y,d⟩:=HZ.out;have⟨c,p,o,h,j,n,q,t⟩:=G.out;exact TX g f i (by simp) d (aB c) p o j n t av.out.1 av.out.2 (by omega)
  ·have hf:((l.length:Int)==(room:Int))=false:=by simp;omega
   rw[hf];have n:aF own w M:=aF.of_below u _;have q:True:=trivial;have t:=u.size;go_wp2_with fail;obtain⟨vv,c,p,o,h⟩:=P.ex;obtain⟨A,s,rfl⟩:=h.slice;rw[jB]at*;have hz:=aB c;have F:=aB m;have z:=Cw c 0;simp at z;have⟨C,D⟩:=bQ m;simp at C D;have j:∀x,(Nh A l.length s).ownBlock=S x→x≠T:=fun x g e=>by subst e;exact mR (h.row g) c (by decide)
   have x:M.ownsRow 0 369 3 (.slice A l.length s) l.length (PL l).flatten:=by have:=h.own;rw[jB]at this;exact this
   have G:=pP c p o h j n q t;have V:=Cw c 0;have⟨W,X⟩:=bQ m;simp at V W X;clear z C D
   go_region_law (first|(refine step_append_lies _ (by rfl) (.tmp 41) (.tmp 45) 337 (by rfl) 0 369 i0 _ 3 24 underlying337 aa ab ad ae (by rfl) (by decide) (.slice A l.length s) l.length (PL l).flatten (by rfl) ((x.alloc _).drew) ⟨M.heap.size,0,N⟩ 1 1 [I Z k,I Z v,I Z a] (by rfl) (by rfl) (Mr.news_of_block (heap_alloc_new M _)) (by simp[Ni]) (by decide) (by unfold maxLen;omega) (by omega) (Ns _) _ rfl ?_;intro g8 ba w8 g f i y;have d:=eS f ((aV _ _ _ (aB c)).trans c) fun e=>j T e.symm rfl;have f8:=Fw d 0;have r8:=Cw d 0;simp at r8))
   all_goals have⟨c,p,o,h,j,n,q,t⟩:=G.out;have br:=aB d;have HZ:=eP g f i y d;clear g f i d V W X h x;go_wp2_with fail;go_ret2;have⟨g,f,i,y,d⟩:=HZ.out;have⟨c,p,o,h,j,n,q,t⟩:=G.out;exact TX g f i (by simp) d (aB c) p o j n t H.out.1 H.out.2 (by omega)
 ·have bm:0≤r:=by omega
  obtain⟨t,rfl⟩:∃t:Nat,r=t:=⟨r.toNat,by omega⟩;have j:t<l.length:=by omega
  obtain⟨vv,c,p,o,h⟩:=(HH.out.keeps u).ex;obtain⟨x,s,V,rfl,d,g,M,B,y,A,J,f⟩:=h.at j;have hz:=aB c;have F:=aB m;have n:x≠T:=fun e=>mR ⟨J,f⟩ (by rw[e];exact c) (by decide);have z:=Cw c 0;simp at z;have⟨C,D⟩:=bQ m;simp at C D;have G:=eP c p o h f;clear c p o h d f;go_wp2_with fail;refine eK (by kernel_rfl) (iK [0,1,2,3,4,5,6,7] [] [8] (by kernel_rfl) ?_);simp only[aM,d8]
  repeat
   with_reducible refine dS fun K d=>?_
   go_simp
   try first
    |(apply Ei
      intro f c;obtain⟨h,i⟩:=c.cells;go_simp
      rfl)
    |(with_reducible refine aQ ?_ ?_;first|decide|simp[Mv];done)
   refine d _ ?_;clear d K
  with_reducible refine dR ?_
  refine iJ fun R d=>?_;have⟨c,p,o,h,f⟩:=G.out;have P:=fun t=>Fw (aE d f) t;have Q:=(d.cells.1 x _ g).trans y;have U:=(d.cells.1 x _ g).trans A;have q:=h.keeps d;have i:=aE d c;have L:=Nj g d.size;clear B y A z C D c h f;go_wp2_with fail;refine dT ?_;go_wp2_with fail;go_ret2;have h:=q.setB rfl j v a;have f:aF (fun b=>b=x) R ((R.setCell ⟨x,t*3+1,N⟩ (I Z v)).setCell ⟨x,t*3+2,N⟩ (I Z a)):=(dY x _ R _).trans (dY x _ _ _);exact⟨_,_,_,rfl,⟨_,aJ f i fun e=>n e.symm,.inl p,fun b c=>.inl (o b c),h⟩,H.out.1.set t H.out.2,by rw[Od];exact bb,((aF.of_below u own).trans (aF.of_below d _)).trans (f.mono fun b _ c=>by subst c;exact o b rfl)⟩
theorem ve {T:Nat} {own:Nat→Prop} {l:List (Int×Int×Int)} {e':Int} (c:jQ e' l) (f:l.length≤room) (g:1≤room) (h:room≤256) (k v a:Int) (i:0≤v∧v≤65536∧0≤a∧a<e') (w:Mr) (q:gK T own l room w):Mt Y 225 #[.pointer (S ⟨T,0,N⟩),I Z k,.agg #[I Z v,I Z a]] w fun e d=>∃(l':List (Int×Int×Int)) (r:Int) (b:Bool),e=E (.tuple #[I Z r,.bool b])∧gK T (fun b=>own b∨w.heap.size≤b) l' room d∧jQ e' l'∧l'.length≤room∧aF own w d:=by refine(uz c f g h k v a i w q.tight fun b c=>c.2).mono ?_;rintro e d ⟨l',r,b,j,m,n,o,p⟩;exact⟨l',r,b,j,m.mono fun b c=>c.imp (·.1) id,n,o,p.mono fun b _ c=>c.1⟩
structure dU where
 rl:Int
 re:Int
 pl:Int
 pe:Int
 room:Nat
 hv:Int
 rk:List (Int×Int)
 pg:List (Int×Int×Int)
structure mS (t:dU):Prop where
 rr:lA t.rl t.re=true
 pr:lA t.pl t.pe=true
 r1:1≤t.room
 r2:t.room≤256
 h1:1≤t.hv
 h2:t.hv≤65536
 rk:∀x∈t.rk,0≤x.1∧x.1≤65536∧0≤x.2∧x.2<t.re
 rn:t.rk.length≤8
 pg:jQ t.pe t.pg
 pn:t.pg.length≤t.room
def BW (t t':dU):Prop:=t'.rk.length=t.rk.length∧t'.rl=t.rl∧t'.re=t.re∧t'.pl=t.pl∧t'.pe=t.pe∧t'.room=t.room∧t'.hv=t.hv
def pE (l:List (Int×Int)):List Ms:=l.flatMap fun x=>[I Z x.1,I Z x.2]
def dU.row (t:dU) (G T:Nat):Array Ms:=#[I Z t.rl,I Z t.re,I Z t.pl,I Z t.pe,I Z t.room,I Z t.hv,.slice (S ⟨G,0,N⟩) t.rk.length t.rk.length,.pointer (S ⟨T,0,N⟩)]
structure gX (K:Nat) (own:Nat→Prop) (t:dU) (W:Mr):Prop where ex:∃G T,W.heap[K]?=S (O (t.row G T) 279)∧own K∧own G∧W.heap[G]?=S (O (pE t.rk).toArray 275)∧gK T (fun b=>own b∧b≠K∧b≠G) t.pg t.room W
theorem gX.same {K:Nat} {own own':Nat→Prop} {t:dU} (j:gX K own t W) (a:∀b,b<W.heap.size→own b→W'.heap[b]?=W.heap[b]?∧own' b):gX K own' t W':=by obtain⟨G,T,c,f,g,d,i⟩:=j.ex;exact⟨G,T,(a K (aB c) f).1.trans c,(a K (aB c) f).2,(a G (aB d) g).2,(a G (aB d) g).1.trans d,i.same fun b h e=>⟨(a b h e.1).1,(a b h e.1).2,e.2⟩⟩
theorem gX.keeps {K:Nat} {own:Nat→Prop} {t:dU} (e:gX K own t W) (a:aC W W'):gX K own t W':=e.same fun b c d=>⟨a.block b c,d⟩
theorem gX.tight {K:Nat} {own:Nat→Prop} {t:dU} (d:gX K own t W):gX K (fun b=>own b∧b<W.heap.size) t W:=d.same fun b a c=>⟨rfl,c,a⟩
theorem gX.mono {K:Nat} {own a:Nat→Prop} {t:dU} (d:gX K own t W) (c:∀b,own b→a b):gX K a t W:=d.same fun b e d=>⟨rfl,c b d⟩
theorem TY {K:Nat} {own:Nat→Prop} {t:dU} (r:Int) (w:Mr) (b:gX K own t w):Mt Y 222 #[.pointer (S ⟨K,0,N⟩),I Z r] w fun e a=>e=E (.bool (bel r t.rk.length))∧Mu w.heap.size w a:=by
 obtain⟨G,T,a,_⟩:=b.ex;unfold dU.row at a;have d:=aB a;have c:=Cw a 6;simp at c;generalize t.rk.length=n at*;clear b a;by_cases a:0≤r
 ·by_cases b:r<n
  focus have e:bel r n=true:=by simp[bel,a,b]
  rotate_left
  focus have e:bel r n=false:=by simp[bel,b]
  all_goals rw[e];go_in;go_wp2;go_ret;exact⟨rfl,(by repeat first|exact Bl|assumption|refine Ka ?_|refine Ks ?_ (by first|exact Nl|simp<;>omega|omega)|refine Kd ?_|refine Kc ?_ (by assumption))⟩
 ·have e:bel r n=false:=by simp[bel,a]
  rw[e];go_in;go_wp2;go_ret;exact⟨rfl,(by repeat first|exact Bl|assumption|refine Ka ?_|refine Ks ?_ (by first|exact Nl|simp<;>omega|omega)|refine Kd ?_|refine Kc ?_ (by assumption))⟩
def tQ (rl re pl pe room hv:Int):Bool:=lA rl re&&(lA pl pe&&(decide (1≤room)&&(decide (room≤256)&&(decide (1≤hv)&&decide (hv≤65536)))))
theorem TZ (d f g h a i:Int) (w:Mr):Mt Y 84 #[.agg #[I Z d,I Z f,I Z g,I Z h,I Z a,I Z i]] w fun e b=>e=E (.bool (tQ d f g h a i))∧Mu w.heap.size w b:=by
 have t:=aA fun w=>IK d f w;have u:=aA fun w=>IK g h w;have b:=aG w (O #[I Z d,I Z f,I Z g,I Z h,I Z a,I Z i] 29) w.heap.size rfl;have k:aC w (w.alloc (O #[I Z d,I Z f,I Z g,I Z h,I Z a,I Z i] 29)):=aU;unfold tQ;generalize lA d f=y at*;generalize lA g h=z at*;go_in;go_wp2_with fail;refine(t.out _).mono ?_;rintro e v ⟨rfl,c⟩;replace b:=aE c b;replace k:=Kc k c;clear c;have r:=aB b;have⟨l,m,n,b3,o,p⟩:=oC b;simp at l m n b3 o p;cases y
 ·go_wp2_with fail;go_ret;exact⟨rfl,(by repeat first|exact Bl|assumption|refine Ka ?_|refine Ks ?_ (by first|exact Nl|simp<;>omega|omega)|refine Kd ?_|refine Kc ?_ (by assumption))⟩
 go_wp2_with fail;refine(u.out _).mono ?_;rintro e x ⟨rfl,c⟩;replace b:=aE c b;replace k:=Kc k c;clear c r l m n b3 o p;have r:=aB b;have⟨l,m,n,b3,o,p⟩:=oC b;simp at l m n b3 o p;cases z
 ·go_wp2_with fail;go_ret;exact⟨rfl,(by repeat first|exact Bl|assumption|refine Ka ?_|refine Ks ?_ (by first|exact Nl|simp<;>omega|omega)|refine Kd ?_|refine Kc ?_ (by assumption))⟩
 by_cases c:1≤a
 ·by_cases j:a≤256
  ·by_cases q:1≤i
   ·by_cases s:i≤65536;all_goals go_wp2_with fail;go_ret;exact⟨by first|(simp[c,j,q,s];done)|(simp[c,j,q,s];omega),(by repeat first|exact Bl|assumption|refine Ka ?_|refine Ks ?_ (by first|exact Nl|simp<;>omega|omega)|refine Kd ?_|refine Kc ?_ (by assumption))⟩
   ·go_wp2_with fail;go_ret;exact⟨by first|(simp[c,j,q];done)|(simp[c,j,q];omega),(by repeat first|exact Bl|assumption|refine Ka ?_|refine Ks ?_ (by first|exact Nl|simp<;>omega|omega)|refine Kd ?_|refine Kc ?_ (by assumption))⟩
  ·go_wp2_with fail;go_ret;exact⟨by first|(simp[c,j];done)|(simp[c,j];omega),(by repeat first|exact Bl|assumption|refine Ka ?_|refine Ks ?_ (by first|exact Nl|simp<;>omega|omega)|refine Kd ?_|refine Kc ?_ (by assumption))⟩
 ·go_wp2_with fail;go_ret;exact⟨by first|(simp[c];done)|(simp[c];omega),(by repeat first|exact Bl|assumption|refine Ka ?_|refine Ks ?_ (by first|exact Nl|simp<;>omega|omega)|refine Kd ?_|refine Kc ?_ (by assumption))⟩
theorem U4 {c d e f a b:Int} (g:tQ c d e f a b=true):lA c d=true∧lA e f=true∧1≤a∧a≤256∧1≤b∧b≤65536:=by unfold tQ at g;simpa using g
theorem vg {K:Nat} {own:Nat→Prop} {t:dU} (ok:mS t) (p:Int) (w:Mr) (k:gX K own t w):Mt Y 235 #[.pointer (S ⟨K,0,N⟩),I Z p] w fun e c=>∃d a,e=E d∧gX K own a c∧mS a∧BW t a∧aF own w c:=by obtain⟨G,T,a,f,g,d,c⟩:=k.ex;have l:=aA (uy ok.pg p w c);have m:=eP a f g d ok;unfold dU.row at a;have q:=aB a;have n:=Cw a 7;simp at n;clear k a ok d c;go_in;go_wp2_with fail;refine l.out.mono ?_;rintro e r ⟨o,b,rfl,h,i,j,c⟩;go_wp2_with fail;have⟨a,f,g,d,ok⟩:=m.out;refine bodyPost_end (Nw rfl _ _ _) rfl ?_;refine⟨_,{t with pg:=o},rfl,⟨G,T,aJ c a fun k=>k.2.1 rfl,f,g,aJ c d fun k=>k.2.2 rfl,h⟩,⟨ok.rr,ok.pr,ok.r1,ok.r2,ok.h1,ok.h2,ok.rk,ok.rn,i,Ng j ok.pn⟩,⟨rfl,rfl,rfl,rfl,rfl,rfl,rfl⟩,c.mono fun b _ k=>k.1⟩
theorem U6:∀(l:List (Int×Int)) (j:Nat),j<l.length→(pE l)[j*2]?=S (I Z (l.getD j (0,0)).1)∧(pE l)[j*2+1]?=S (I Z (l.getD j (0,0)).2)
 |[],_,a=>by simp at a
 |_::_,0,_=>⟨rfl,rfl⟩
 |c::l,j+1,a=>by
  have a:j<l.length:=by simpa using a
  have b:=U6 l j a;rw[show(j+1)*2=j*2+1+1 by omega];exact b
theorem U7:∀(l:List (Int×Int)) (j:Nat) (v a:Int),j<l.length→((pE l).set (j*2) (I Z v)).set (j*2+1) (I Z a)=pE (l.set j (v,a))
 |[],_,_,_,b=>by simp at b
 |_::_,0,_,_,_=>rfl
 |d::l,j+1,v,a,b=>by
  have b:j<l.length:=by simpa using b
  have c:=U7 l j v a b;rw[show(j+1)*2+1=(j*2+1)+1+1 by omega,show(j+1)*2=(j*2)+1+1 by omega];show I Z d.1::I Z d.2::(((pE l).set (j*2) (I Z v)).set (j*2+1) (I Z a))=I Z d.1::I Z d.2::pE (l.set j (v,a));rw[c]
theorem BX {l:List (Int×Int)} (c:W.heap[G]?=S (O (pE l).toArray 275)) (a:j<l.length):W.cell? ⟨G,j*2,N⟩=S (I Z (l.getD j (0,0)).1)∧W.cell? ⟨G,j*2+1,N⟩=S (I Z (l.getD j (0,0)).2):=by have b:=U6 l j a;rw[Cw c (j*2),Cw c (j*2+1)];simpa using b
theorem LT {l:List (Int×Int)} (c:W.heap[G]?=S (O (pE l).toArray 275)) (b:j<l.length) (v a:Int):((W.setCell ⟨G,j*2,N⟩ (I Z v)).setCell ⟨G,j*2+1,N⟩ (I Z a)).heap[G]?=S (O (pE (l.set j (v,a))).toArray 275):=by rw[Nx _ G (j*2+1) _ _ _ (Hs (j*2) _ c),←U7 l j v a b];simp
theorem vh {K:Nat} {own:Nat→Prop} {t:dU} (ok:mS t) (p:Int) (w:Mr) (d:gX K own t w):Mt Y 236 #[.pointer (S ⟨K,0,N⟩),I Z p] w fun e c=>∃f a,e=E f∧gX K own a c∧mS a∧BW t a∧aF own w c:=by
 have l:=aA (TY p w d);have g:=aH d ok;have⟨h,c⟩:=Ey (bel p t.rk.length);rw[c]at l;clear d ok;cases h
 ·clear c;go_in;go_wp2_with fail;refine l.out.mono ?_;rintro e i ⟨rfl,a⟩;go_wp2_with fail;refine bodyPost_end (Nw rfl _ _ _) rfl ?_;exact⟨_,t,rfl,g.out.1.keeps a,g.out.2,⟨rfl,rfl,rfl,rfl,rfl,rfl,rfl⟩,aF.of_below a _⟩
 ·obtain⟨s,rfl,r⟩:=AZ c
  clear c;go_in;go_wp2_with fail;refine l.out.mono ?_;rintro e i ⟨rfl,a⟩;obtain⟨G,T,c,m,j,d,k⟩:=(g.out.1.keeps a).ex;obtain⟨B,C⟩:=BX d r;have D:=fun s=>Fw d s;have x:=aB d;have q:G≠K:=wH d c (by decide);have u:=eP c m j d k;unfold dU.row at c;have F:=aB c;have v:=Cw c 6;simp at v;have y:(s:Int)<t.rk.length:=by omega
  have z:=g.out.2.rn;clear c d k;go_wp2_with fail;have⟨c,m,j,d,k⟩:=u.out;refine bodyPost_end (Nw rfl _ _ _) rfl ?_;have ok:=g.out.2;have A:=AM ok.rr;have f:aF (fun b=>b=G) i ((i.setCell ⟨G,s*2,N⟩ (I Z 0)).setCell ⟨G,s*2+1,N⟩ (I Z 0)):=(dY G _ i _).trans (dY G _ _ _);have n:(t.rk.set s (0,0)).length=t.rk.length:=Od;refine⟨_,{t with rk:=t.rk.set s (0,0)},rfl,⟨G,T,?_,m,j,LT d r 0 0,k.same fun b h o=>⟨f.block b h o.2.2,o⟩⟩,⟨ok.rr,ok.pr,ok.r1,ok.r2,ok.h1,ok.h2,fun H o=>?_,by rw[n];exact ok.rn,ok.pg,ok.pn⟩,⟨n,rfl,rfl,rfl,rfl,rfl,rfl⟩,(aF.of_below a _).trans (f.mono fun b _ h=>by subst h;exact j)⟩
  ·refine(aJ f c fun e=>q e.symm).trans ?_;unfold dU.row;simp only[n]
  ·rcases List.mem_or_eq_of_mem_set o with o|rfl
   ·exact ok.rk H o
   ·exact⟨Int.le_refl _,by decide,Int.le_refl _,by show(0:Int)<t.re;omega⟩
theorem vj (w:Mr) {ops:Array Oper} {o:Oper} {a:Act} {K:Act→Mr→Prop} {Q:Exit→Act→Mr→Prop} {E:Prop} (h:o.guard=N) (l c:Operand) (t:TypeId) (d:o.op=Op.makeSlice t l c)
 (e:TypeId) (i:TypeInfo) (z:Ms) (size bytes:Nat) (j:P.underlying t=S (.slice e)) (k:P.info? e=S i) (m:i.zero=S z) (b:i.size=size) (f:i.bytes=bytes)
 (n:Nat) (p:a.eval l=.int .i64 (n:Int)) (q:a.eval c=.int .i64 (n:Int)) (u:bytes*n≤281474976710656) (b3:n≤maxLen)
 (r:K (a.put o.dst (.slice (S ⟨w.heap.size,0,N⟩) n n)) (w.alloc (O (madeCells z.cells (n*size)) e))):
 if Region.wanted o (yielded ops a.tmps)=true then Oper.wp P o a w K Q else E:=by
 have s:Region.wanted o (yielded ops a.tmps)=true:=by simp[Region.wanted,h]
 rw[Fp s];subst b;subst f;have b:(n:Int)≤9223372036854775807:=by simp[maxLen]at b3;omega
 have f:(i.bytes:Int)*(n:Int)≤281474976710656:=by
  have g:((i.bytes*n:Nat):Int)≤281474976710656:=by omega
  rwa [Int.natCast_mul]at g
 have g:=run_make (P:=P) w t e i z j k m .i64 .i64 n n (by omega) (Int.le_refl _) f b;simp only[Int.toNat_natCast]at g;unfold Oper.wp;simp[execOp,d,p,q,g,Result.andThen];exact r
theorem vn:(Y.info? 275).map (fun a=>(a.zero,a.size,a.bytes))=S (S (.agg #[I Z 0,I Z 0]),2,16):=by kernel_rfl
def dU.new (rl re pl pe:Int) (room:Nat) (hv:Int) (n:Nat):dU:=⟨rl,re,pl,pe,room,hv,Nd n (0,0),[]⟩
theorem U8:∀n:Nat,pE (Nd n (0,0))=Nd (n*2) (I Z 0)
 |0=>rfl
 |n+1=>by rw[List.replicate_succ,show(n+1)*2=n*2+1+1 by omega,List.replicate_succ,List.replicate_succ,←U8 n];rfl
theorem vo {d f g h i:Int} (q:tQ d f g h room i=true) (hn:1≤n) (aa:n≤8) (w:Mr):Mt Y 124 #[.agg #[I Z d,I Z f,I Z g,I Z h,I Z room,I Z i],I Z n] w fun e l=>∃K:Nat,e=E (.tuple #[.pointer (S ⟨K,0,N⟩),I Z 0])∧gX K (fun b=>w.heap.size≤b) (dU.new d f g h room i n) l∧Mu w.heap.size w l:=by
 obtain⟨_,_,a,k,_,_⟩:=U4 q;obtain⟨R,C,D,F,G⟩:=info_parts vn;have J:=aA fun w=>TZ d f g h room i w;rw[q]at J;have U:=aA fun w=>ux room (by omega) (by omega) w;have c:=aG w (O #[I Z d,I Z f,I Z g,I Z h,I Z room,I Z i] 29) w.heap.size rfl;have j:aC w (w.alloc (O #[I Z d,I Z f,I Z g,I Z h,I Z room,I Z i] 29)):=aU;have ab:¬(n:Int)<1:=by omega
 have Q:¬8<(n:Int):=by omega
 clear q a k;go_in;go_wp2_with fail;refine(J.out _).mono ?_;rintro e w1 ⟨rfl,a⟩;replace c:=aE a c;replace j:=Kc j a;clear a;have y:=aB c;have⟨q,r,s,b3,t,u⟩:=oC c;simp at q r s b3 t u;go_wp2_with fail;refine(U.out _).mono ?_;rintro e z ⟨T,rfl,V,k⟩;replace c:=aE k c;have ad:=j.size;replace j:=Kc j k;clear y q r s b3 t u;have y:=aB c;have⟨q,r,s,b3,t,u⟩:=oC c;simp at q r s b3 t u;go_wp2_with fail;refine eK (by kernel_rfl) (iK [0,1,3] [2,4,5] [6,7] (by kernel_rfl) ?_);simp only[aM,d8]
 repeat
  with_reducible refine dS fun K a=>?_
  go_simp
  try first
   |(apply Ei
     intro l o;obtain⟨p,v⟩:=o.cells;go_simp
     rfl)
   |(with_reducible refine aQ ?_ ?_;first|decide|simp[Mv];done)
  refine a _ ?_;clear a K
 with_reducible refine dR ?_
 with_reducible refine jX fun x l v a=>?_
 refine vj x (by rfl) (.tmp 29) (.tmp 29) 277 (by rfl) 275 R _ 2 16 underlying277 C D F G n (by rfl) (by rfl) (by omega) (by unfold maxLen;omega) ?_;refine a _ _ (K.alloc' l _) ?_;clear a v;with_reducible refine jX fun W o v a=>?_
 go_simp;have L:aC z W:=cH (K.alloc' l _) o;refine a _ _ L ?_;clear a v;with_reducible refine jX fun A p v a=>?_
 go_simp;have B:aC z A:=cH L p;refine a _ _ (K.alloc' B _) ?_;clear a v;refine iJ fun M a=>?_;have v:=tB a;have H:aC (x.alloc (O (madeCells (Ms.agg #[I Z 0,I Z 0]).cells (n*2)) 275)) M:=cH (cH o p) (cH aU a);have X:=tB H;have P:aC z M:=cH (K.alloc' B _) a;have ae:=l.size;have an:=B.size;have ar:x.heap.size<A.heap.size:=DH (cH o p);clear q r s b3 t u y;go_wp2_with fail;refine dT ?_;go_wp2_with fail;go_ret2;have r:=k.size;refine⟨A.heap.size,rfl,⟨x.heap.size,T,?_,by omega,by omega,?_,V.same fun b q s=>⟨P.block b q,by omega,by omega,by omega⟩⟩,aK j P⟩
 ·rw[v];unfold dU.row dU.new;simp
 ·rw[X]
  unfold dU.new;simp only[U8]
  have:madeCells (Ms.agg #[I Z 0,I Z 0]).cells (n*2)=(Nd (n*2) (I Z 0)).toArray:=by
   apply Array.ext';have:∀m,m%2<2:=fun m=>Nat.mod_lt _ (by decide);apply List.ext_getElem
   ·simp[madeCells]
   ·intro u s t;simp[madeCells,Ms.cells];rcases Nat.mod_two_eq_zero_or_one u with q|q<;>rw[q]<;>rfl
  rw[this]
theorem vr {Y T:Nat} {t:dU} (ok:mS t) (i v a:Int) (q:0≤v) (r:v≤65536) (s:0≤a) (u:a<t.pe) (w:Mr) (b:w.heap[Y]?=S (O (t.row G T) 279)) (c:w.heap[B]?=S (O #[.pointer (S ⟨Y,0,N⟩)] 107)):Mt Tryz.prog 199 #[I Z i,.agg #[I Z v,I Z a],.pointer (S ⟨B,0,N⟩)] w fun e d=>e=E (.agg #[I Z (pS v a t.pe),I Z (pT a t.pe)])∧Mu w.heap.size w d:=by
 have x:=aA fun w=>Q6 (l:=t.pl) ok.pr q r s u w;unfold dU.row at b;generalize pS v a t.pe=F at*;generalize pT a t.pe=H at*;have⟨C,d⟩:=Ex ((w.alloc (O #[I Z v,I Z a] 275)).alloc (O #[I Z 0,I Z 0] 275));have g:aC w C:=by rw[d];exact gH
 have h:C.heap[w.heap.size]?=S (O #[I Z v,I Z a] 275):=by rw[d,aV _ _ _ (by simp)];exact aG _ _ _ rfl
 have y:C.heap[w.heap.size+1]?=S (O #[I Z 0,I Z 0] 275):=by rw[d];exact aG _ _ _ (by simp)
 replace b:=aE g b;replace c:=aE g c;have z:=aB b;have j:=aB c;have k:=aB h;have⟨m,n⟩:=iO b 2 3;simp at m n;have f:=Cw c 0;simp at f;have⟨o,p⟩:=bQ h;simp at o p;clear b c ok h;go_in;go_upto_region 1 with fail;rw[←d];clear d;refine eK (by kernel_rfl) (iK [0,1,2,3,4,5,6] [] [7] (by kernel_rfl) ?_);simp only[aM,d8]
 repeat
  with_reducible refine dS fun K b=>?_
  go_simp
  try first
   |(apply Ei
     intro d c;obtain⟨h,A⟩:=c.cells;go_simp
     first
      |(go_at_call 197;with_reducible exact l9 (x.out _))
      |rfl)
   |(with_reducible refine aQ ?_ ?_;first|decide|simp[Mv];done)
  refine b _ ?_;clear b K
 with_reducible refine dR ?_
 refine iJ fun d b=>?_;have h:aC w d:=aK g b;have c:=aE b y;have A:=aB c;have D:=fun J=>Fw c J;clear m n f z j b o p k;have⟨f,b⟩:=bQ c;simp at f b;go_wp2_with fail;refine dT ?_;go_wp2_with fail;refine My (Oa (P:=Tryz.prog) results199 _ _ (w.heap.size+1) 275 #[I Z F,I Z H] (0,0) _ rfl (Nx _ (w.heap.size+1) 1 _ _ _ (Hs 0 _ c)) underlying275 rfl (by kernel_rfl)) rfl ⟨rfl,Ks (Ks h (by show w.heap.size≤w.heap.size+1;omega)) (by show w.heap.size≤w.heap.size+1;omega)⟩
def vt (T:Nat) (own:Nat→Prop) (e':Int) (n room:Nat) (w:Mr) (e:Ending) (w':Mr):Prop:=∃v l',e=E v∧gK T own l' room w'∧jQ e' l'∧l'.length=n∧aF own w w'
theorem vu {Y T0 T:Nat} {t:dU} {own:Nat→Prop} (ok:mS t) (w:Mr) (k:w.heap[Y]?=S (O (t.row G T0) 279)) (x:w.heap[B]?=S (O #[.pointer (S ⟨Y,0,N⟩)] 107)) (f:gK T own t.pg t.room w) (oK:¬own Y) (oB:¬own B):Mt Tryz.prog 198 #[.pointer (S ⟨T,0,N⟩),.func (.func 199) #[] #[.pointer (S ⟨B,0,N⟩)]] w (vt T own t.pe t.pg.length t.room w):=by
 obtain⟨bw,a,o1,g,d⟩:=f.ex;have hm:t.pg.length≤256:=Ng ok.pn ok.r2;have m:=nF k x a o1 g d ok;obtain⟨bv,q,rfl⟩:=d.slice;have hz:=aB a;rw[jB]at*;have y:=Cw a 0;simp at y;have⟨n,hn⟩:=Ey t.pg.length;rw[hn]at y hm m ⊢;clear k x a d f o1 g;go_in;go_wp2_with fail;go_loopw [11] (fun a W=>∃(v:Nat) (l:List (Int×Int×Int)),v≤n∧a=I Z v∧l.length=n∧jQ t.pe l∧W.heap[T]?=S (O #[.slice bv n q,I Z t.room,.func (.func 170) #[] #[]] 339)∧bP 369 3 (.slice bv n q) (PL l) W∧aF (fun b=>(Nh bv n q).ownBlock=S b) w W) fun a _=>n-(intOf a).toNat
 case atStart=>exact⟨0,t.pg,Ns _,rfl,hn,m.out.2.2.2.2.2.2.pg,m.out.2.2.1,m.out.2.2.2.2.2.1,Cl⟩
 case round=>
  obtain⟨v,l,hj,rfl,o,c,a,d,p⟩:=hrel;by_cases ab:v<n
  ·have R:(v:Int)<n:=by omega
   have⟨k,x,_,o1,g,_,ok⟩:=m.out;obtain⟨aa,U,V,he,hx,hg,_,c0,c1,c2,cs,h⟩:=d.at (show v<l.length by omega);simp only[Ms.slice.injEq]at he;obtain⟨rfl,ad,rfl⟩:=he;clear ad;have bd:own aa:=g aa rfl;have e9:=IntWalk.wrap64_in ((v:Int)+1) ⟨by omega,by omega⟩;have bm:=IntWalk.i64_in ((v:Int)+1) ⟨by omega,by omega⟩;have nY:∀b,¬own b→¬(Nh (S ⟨aa,0,N⟩) n q).ownBlock=S b:=fun b f e=>f (g b e);have C:=aJ p k (nY _ oK);have D:=aJ p x (nY _ oB);obtain⟨b1,b2,b3,b4⟩:=c V hx;have ae:aa≠T:=wH h a (by decide);have⟨bn,F⟩:=Ex (wr.alloc (O #[I Z V.1,I Z V.2.1,I Z V.2.2] 369));have i:aC wr bn:=by rw[F];exact Ka (K.refl wr)
   have a5:bn.heap[wr.heap.size]?=S (O #[I Z V.1,I Z V.2.1,I Z V.2.2] 369):=by rw[F];exact aG _ _ _ rfl
   have HT:=aA fun f (j:aC bn f)=>vr ok V.1 V.2.1 V.2.2 b1 b2 b3 b4 f (aE j (aE i C)) (aE j (aE i D));have f:=Q4 (l:=t.pl) b1 b2 b3 b4;have HJ:=mI o c d p h g i f a;have u:=aE i a;clear c d p a k x C D h hx f ok g nY oK oB;go_upto_region 3 with fail;rw[←F];have an:=aB u;have ar:=aB a5;have av:aa<bn.heap.size:=Nj hg i.size;have y:=Cw u 0;simp at y;have⟨y0,z,A⟩:=fM a5;simp at y0 z A;generalize V.1=x0 at*;generalize V.2.1=x1 at*;generalize V.2.2=x2 at*;have⟨z,H⟩:=Ey (pS x1 x2 t.pe);have⟨A,J⟩:=Ey (pT x2 t.pe);rw[H,J]at HT HJ;clear F c0 c1 c2 u a5 i o H J;refine eK (by kernel_rfl) (iK [0,1,2,3,4,5,6,7,8,9,10,11,12] [] [13] (by kernel_rfl) ?_);simp only[aM,d8]
   repeat
    with_reducible refine dS fun K k=>?_
    go_simp
    try first
     |(apply Ei
       intro f a;obtain⟨c,d⟩:=a.cells;go_simp
       first
        |(go_at_call 199;with_reducible exact l9 (HT.out _ a))
        |rfl)
     |(with_reducible refine aQ ?_ ?_;first|decide|simp[Mv];done)
    refine k _ ?_;clear k K
   with_reducible refine dR ?_
   refine iJ fun L M=>?_;have⟨o,c,d,p,h,g,i,f,a⟩:=HJ.out;have P:aC wr L:=aK i M;have j:=d.keeps P;have r:=aE P a;obtain⟨g',U,x',Q,ba,br,_,d0,d1,d2,bs,s⟩:=j.at (show v<l.length by omega);simp only[Ms.slice.injEq,Option.some.injEq,Addr.mk.injEq]at Q;obtain⟨⟨rfl,_⟩,X,bb⟩:=Q;subst bb;clear X;have fg:=fun v=>Fw s v;have HZ:=Hd3 j r (p.trans (aF.of_below P _));clear o c d p h g i f a P j r M y an ar av ba s;go_wp2_with fail;refine dT ?_;go_wp2_with fail;go_roundw
   case rel=>have⟨o,c,_,_,_,_,_,f,_⟩:=HJ.out;have⟨j,r,d⟩:=HZ.out;have a:aF (fun b=>b=aa) L ((L.setCell ⟨aa,v*3+1,N⟩ (I Z z)).setCell ⟨aa,v*3+2,N⟩ (I Z A)):=(dY aa _ L _).trans (dY aa _ _ _);exact⟨v+1,l.set v ((l.getD v (0,0,0)).1,z,A),by omega,by simp[e9],by rw[Od];exact o,c.set v f,aJ a r fun e=>ae e.symm,j.setB o ab z A,d.trans (a.mono fun b _ c=>by subst c;rfl)⟩
   case measure=>simp[intOf,e9];omega
  ·have R:¬(v:Int)<n:=by omega
   go_wp2_with fail;refine bodyPost_end (Nw rfl _ _ _) rfl ?_;exact⟨_,l,rfl,⟨⟨_,a,m.out.2.2.2.1,m.out.2.2.2.2.1,d⟩⟩,c,o,p.mono fun b _ c=>m.out.2.2.2.2.1 b c⟩
def UA (Y:Nat) (own:Nat→Prop) (t:dU) (w:Mr) (e:Ending) (w':Mr):Prop:=∃v t',e=E v∧gX Y own t' w'∧mS t'∧BW t t'∧aF own w w'
def vw (e:Int) (l:List (Int×Int)):Prop:=∀x∈l,0≤x.1∧x.1≤65536∧0≤x.2∧x.2<e
theorem wd (b:j<n) (a:n≤256):wrap64 ((j:Int)+1)=(j:Int)+1∧IntKind.i64.wrap ((j:Int)+1)=(j:Int)+1:=⟨IntWalk.wrap64_in _ ⟨by omega,by omega⟩,IntWalk.i64_in _ ⟨by omega,by omega⟩⟩
theorem we {Y:Nat} {own:Nat→Prop} {t:dU} (ok:mS t) (w:Mr) (L:gX Y own t w) (j:∀b,own b→b<w.heap.size):Mt Tryz.prog 150 #[.pointer (S ⟨Y,0,N⟩)] w (UA Y own t w):=by
 obtain⟨G,T,a,M,J,f,g⟩:=L.ex;have⟨br,c⟩:=Ex (w.alloc (O #[.pointer (S ⟨Y,0,N⟩)] 107));have i:aC w br:=by rw[c];exact aU
 have r:br.heap[w.heap.size]?=S (O #[.pointer (S ⟨Y,0,N⟩)] 107):=by rw[c];exact aG _ _ _ rfl
 have d:=aE i a;have p:=aE i f;have k:=g.keeps i;have ad:G≠Y:=wH f a (by decide);have⟨n,P⟩:=Ey t.rk.length;have ba:n≤8:=by rw[←P];exact ok.rn
 have HX:=mI ok M J j i d p k r;have y:=aB d;have m:=aB r;unfold dU.row at d;rw[P]at d;have⟨z,A,B,C,D,s⟩:=OE d 0 1 2 3 6 7;simp at z A B C D s;have u:=Cw r 0;simp at u;have bb:=aB f;have bd:=aB a;clear L a f g d p k r i ok j;go_in;go_upto_region 1 with fail;rw[←c];clear c;go_wp2_with fail;go_loopw [9] (fun a W=>∃(H:Nat) (l:List (Int×Int)),H≤n∧a=I Z H∧l.length=n∧vw t.re l∧W.heap[G]?=S (O (pE l).toArray 275)∧aF (fun b=>b=G) br W) fun a _=>n-(intOf a).toNat
 case atStart=>exact⟨0,t.rk,Ns _,rfl,P,HX.out.1.rk,HX.out.2.2.2.2.2.2.1,Cl⟩
 case round=>
  obtain⟨H,l,hj,rfl,F,c,f,h⟩:=hrel;have⟨ok,M,J,j,i,d,p,k,r⟩:=HX.out;have a:=aJ h d fun e=>ad e.symm;have x:=aJ h r (by omega);by_cases ae:H<n
  ·have ab:(H:Int)<n:=by omega
   obtain⟨e9,bm⟩:=wd ae (by omega);obtain⟨c0,c1⟩:=BX f (show H<l.length by omega);have L:=c (l.getD H (0,0)) (by rw[Mx,Nn (show H<l.length by omega)];exact List.getElem_mem _);obtain⟨b1,b2,b3,b4⟩:=L;have an:=aB f;have HT:=aA fun w=>Q6 (l:=t.rl) ok.rr b1 b2 b3 b4 w;have o:=Q4 (l:=t.rl) b1 b2 b3 b4;generalize(l.getD H (0,0)).1=x1 at*;generalize(l.getD H (0,0)).2=Q at*;have⟨bs,R⟩:=Ex (wr.alloc (O #[I Z x1,I Z Q] 275));have v:aC wr bs:=by rw[R];exact Ka (K.refl wr)
   have a5:bs.heap[wr.heap.size]?=S (O #[I Z x1,I Z Q] 275):=by rw[R];exact aG _ _ _ rfl
   have HJ:=eQ F c f h v o;have q:=aE v a;have bV:=aE v x;clear c f h o ok j i d p k r a x M J z A B C D s u y m;go_upto_region 4 with fail;rw[←R];have y:=aB q;have ar:=aB a5;have m:=aB bV;have av:G<bs.heap.size:=Nj an v.size;unfold dU.row at q;rw[P]at q;have⟨z,A,B,C,D,s⟩:=OE q 0 1 2 3 6 7;simp at z A B C D s;have⟨y0,y1⟩:=bQ a5;simp at y0 y1;have u:=Cw bV 0;simp at u;have⟨p1,U⟩:=Ey (pS x1 Q t.re);have⟨p2,V⟩:=Ey (pT Q t.re);rw[U,V]at HT HJ;clear R c0 c1 q a5 bV v F U V;refine eK (by kernel_rfl) (iK [0,1,2,3,4,5,6,7,8,9,10,11,12] [] [13] (by kernel_rfl) ?_);simp only[aM,d8]
   repeat
    with_reducible refine dS fun K c=>?_
    go_simp
    try first
     |(apply Ei
       intro g a;obtain⟨d,f⟩:=a.cells;go_simp
       first
        |(go_at_call 197;with_reducible exact l9 (HT.out _))
        |rfl)
     |(with_reducible refine aQ ?_ ?_;first|decide|simp[Mv];done)
    refine c _ ?_;clear c K
   with_reducible refine dR ?_
   refine iJ fun X aa=>?_;have⟨F,c,f,h,v,o⟩:=HJ.out;have k3:aC wr X:=aK v aa;have g:=aE k3 f;obtain⟨d0,d1⟩:=BX g (show H<l.length by omega);have fg:=fun H=>Fw g H;have bn:=aB g;have HZ:=aH g (h.trans (aF.of_below k3 _));clear F c f h v o k3 g aa z A B C D s y0 y1 u y ar m av;go_wp2_with fail;refine dT ?_;go_wp2_with fail;go_roundw
   case rel=>
    have⟨F,c,_,_,_,o⟩:=HJ.out;have⟨g,a⟩:=HZ.out;have d:∀f h,aF (fun b=>b=G) X ((X.setCell ⟨G,H*2,N⟩ f).setCell ⟨G,H*2+1,N⟩ h):=fun f h=>(dY G _ X _).trans (dY G _ _ _);refine⟨H+1,l.set H (_,_),by omega,by simp[e9],by rw[Od];exact F,fun f L=>?_,LT g (show H<l.length by omega) _ _,a.trans (d _ _)⟩;rcases List.mem_or_eq_of_mem_set L with L|rfl
    ·exact c f L
    ·exact o
   case measure=>simp[intOf,e9];omega
  ·have ab:¬(H:Int)<n:=by omega
   have g:l.length=t.rk.length:=by omega
   have q:mS {t with rk:=l}:=⟨ok.rr,ok.pr,ok.r1,ok.r2,ok.h1,ok.h2,c,by show l.length≤8;omega,ok.pg,ok.pn⟩;have o:wr.heap[Y]?=S (O (({t with rk:=l}:dU).row G T) 279):=by rw[a];unfold dU.row;simp only[g]
   have v:gK T (fun b=>own b∧b≠Y∧b≠G) t.pg t.room wr:=k.same fun b c L=>⟨h.block b c L.2.2,L⟩;have Q:=aA (vu (G:=G) (T0:=T) q wr o x v (fun L=>L.2.1 rfl) fun L=>by have:=j _ L.1;omega);have R:=nF a f h c ok i g;have y:=aB a;have m:=aB x;unfold dU.row at a;clear z A B C D s u y m;have y:=aB a;have m:=aB x;have s:=Cw a 7;simp at s;have u:=Cw x 0;simp at u;clear c f h ok j i d p k r a x g q o v;go_wp2_with fail;refine Q.out.mono ?_;rintro e r ⟨v,q,rfl,j,k,o,d⟩;go_wp2_with fail;refine bodyPost_end (Nw rfl _ _ _) rfl ?_;have⟨a,f,h,c,ok,i,g⟩:=R.out;have p:=aJ d a fun L=>L.2.1 rfl;refine⟨_,{t with rk:=l,pg:=q},rfl,⟨G,T,?_,M,J,aJ d f fun L=>L.2.2 rfl,j⟩,⟨ok.rr,ok.pr,ok.r1,ok.r2,ok.h1,ok.h2,c,by show l.length≤8;omega,k,by show q.length≤t.room;rw[o];exact ok.pn⟩,⟨g,rfl,rfl,rfl,rfl,rfl,rfl⟩,?_⟩
   ·rw[p];unfold dU.row;simp only[g]
   ·exact((aF.of_below i own).trans (h.mono fun b _ c=>by subst c;exact J)).trans (d.mono fun b _ c=>c.1)
theorem wg {Y:Nat} {own:Nat→Prop} {t:dU} (ok:mS t) (w:Mr) (k:gX Y own t w):Mt Tryz.prog 150 #[.pointer (S ⟨Y,0,N⟩)] w (UA Y own t w):=by refine(we ok w k.tight fun b a=>a.2).mono ?_;rintro e j ⟨l,c,d,f,g,h,i⟩;exact⟨l,c,d,f.mono fun b a=>a.1,g,h,i.mono fun b _ a=>a.1⟩
end
section
open Go.RowKit
section
variable {P:Program} {ops:Array Oper} {Q:Exit→Act→World→Prop} {md:Region.Mode} {T:List Nat} {w0:World}
def mC (P:Program) (md:Region.Mode) (ops:Array Oper) (Q:Exit→Act→Mr→Prop) (w0:Mr) (T:List Nat):Nat→Array Bool→Act→Mr→Prop
 |0,listed,a,w=>Region.ready md ops listed=[]∧∀W,aC w W→Q .normal a W
 |fuel+1,listed,a,w=>Region.ready md ops listed≠[]∧∀i∈Region.ready md ops listed,∀W,aC w W→wpOp P ops Q i (fun a' w'=>if T.contains i=true then wpAny P md ops Q fuel (listed.setIfInBounds i true) a' w' else aC w0 w'∧mC P md ops Q w0 T fuel (listed.setIfInBounds i true) a' w') a W
theorem UB {fuel:Nat} {b:Array Bool} {a:Act} {w W:Mr} (f:mC P md ops Q w0 T fuel b a w) (d:aC w W):mC P md ops Q w0 T fuel b a W:=by
 cases fuel with
 |zero=>exact⟨f.1,fun W' c=>f.2 W' (cH d c)⟩
 |succ n=>exact⟨f.1,fun g e W' c=>f.2 g e W' (cH d c)⟩
theorem BY:∀(fuel:Nat) (b:Array Bool) (a:Act) (w:Mr),mC P md ops Q w0 T fuel b a w→wpAny P md ops Q fuel b a w
 |0,_,_,_,d=>⟨d.1,d.2 _ (lY _)⟩
 |fuel+1,_,_,_,d=>⟨fun e=>absurd e d.1,fun i f=>wpOp_mono (fun g h c=>by
  split at c
  ·exact c
  ·exact BY fuel _ g h c.2) (d.2 i f _ (lY _))⟩
theorem EX {i n:Nat} {b:Array Bool} {a:Act} {w W:Mr} (H:mC P md ops Q w0 T n b a w) (d:aC w0 w) (c:aC w W):if T.contains i=true then wpAny P md ops Q n b a W else aC w0 W∧mC P md ops Q w0 T n b a W:=by
 split
 ·exact BY _ _ _ _ (UB H c)
 ·exact⟨cH d c,UB H c⟩
theorem wj {i:Nat} {n:Oper} {v:Ms} (hiT:T.contains i=false) (C:ops[i]?=S n) (A:∀j,T.contains j=true→j<ops.size→lU md ops ops.size j i=true) (q:∀(j:Nat) (o:Oper) p b,ops[j]?=S o→o.op≠.select p b)
 (K:∀c a w,Q (.panic c) (a.put n.dst v) w→Q (.panic c) a w):
 ∀(fuel:Nat) (c:Array Bool) (a:Act) (w:Mr),iP md ops c→
  (∀j f,ops[j]?=S f→j≠i→c.getD j true=false→(∀e∈f.after,Region.binds md e=true→e.on≠i)→n.apart ops f=true)→
  i∈Region.ready md ops c→lN P ops w0 n v a→aC w0 w→
  mC P md ops Q w0 T fuel (c.setIfInBounds i true) (a.put n.dst v) w→mC P md ops Q w0 T (fuel+1) c a w:=by
 have D:∀(c:Array Bool),iP md ops c→i∈Region.ready md ops c→∀j f,ops[j]?=S f→(∀e∈f.after,Region.binds md e=true→c.getD e.on false=true)→T.contains j=false:=by
  intro c g m j f h l;cases d:T.contains j with
  |false=>rfl
  |true=>exact(lV m (vL g _ j f h l (A j d (Nz.1 h).1))).elim
 intro fuel
 induction fuel with
 |zero=>
  intro c a w g k m y u H;refine⟨fun V=>(by rw[V]at m;cases m),fun j x W r=>?_⟩;by_cases d:j=i
  ·subst d;exact y.wpOp C (cH u r) fun W' d=>EX H u (cH r d)
  ·have:=ready_mono x d;rw[H.1]at this;cases this
 |succ fuel L=>
  intro c a w g k m y u H;refine⟨fun V=>(by rw[V]at m;cases m),fun j x W r=>?_⟩;obtain⟨s,f,h,l⟩:=mem_ready.1 x;have F:=D c g m j f h l;by_cases d:j=i
  ·subst d;exact y.wpOp C (cH u r) fun W' d=>EX H u (cH r d)
  ·have M:=H.2 j (ready_mono x d) W r
   have B:∀e∈f.after,Region.binds md e=true→e.on≠i:=fun e t z p=>lV m (p▸l e t z);have R:=I8 h (k j f h d s B) (fun p b=>q i n p b C) (fun p b=>q j f p b h) K y M
   have p:∀J ok,ops[J]?=S ok→J≠i→(c.setIfInBounds j true).getD J true=false→
    (∀e∈ok.after,Region.binds md e=true→e.on≠i)→n.apart ops ok=true:=fun J ok U z t G=>by
    refine k J ok U z ?_ G;by_cases z:j=J
    ·subst z;exact s
    ·rw[getD_set_ne true z]at t;exact t
   refine wpOp_mono (fun G U z=>?_) R;obtain⟨z,t⟩:=z;rw[Fn (by rw[F];decide)]at t ⊢;refine⟨t.1,L (c.setIfInBounds j true) G U (oE g x) p (ready_mono m (Ne.symm d)) z t.1 ?_⟩;rw[Array.setIfInBounds_comm _ _ d];exact t.2
theorem wk {i:Nat} {l:Oper} {v:Ms} (r:ops[i]?=S l) (h:∀(j:Nat) (o:Oper) g b,ops[j]?=S o→o.op≠.select g b) (C:∀c a w,Q (.panic c) (a.put l.dst v) w→Q (.panic c) a w):∀(fuel:Nat) (c:Array Bool) (a:Act) (w:Mr),
                                                                                                                                                                      (∀j m,ops[j]?=S m→j≠i→c.getD j true=false→(∀e∈m.after,Region.binds md e=true→e.on≠i)→l.apart ops m=true)→
                                                                                                                                                                      i∈Region.ready md ops c→Yields P ops l v a→aC w0 w→
                                                                                                                                                                      mC P md ops Q w0 T fuel (c.setIfInBounds i true) (a.put l.dst v) w→mC P md ops Q w0 T (fuel+1) c a w:=by
 intro fuel
 induction fuel with
 |zero=>
  intro c a w f k s A H;refine⟨fun M=>(by rw[M]at k;cases k),fun j t W u=>?_⟩;by_cases d:j=i
  ·subst d;exact s.wpOp r (EX H A u)
  ·have:=ready_mono t d;rw[H.1]at this;cases this
 |succ fuel J=>
  intro c a w f k s A H;refine⟨fun M=>(by rw[M]at k;cases k),fun j t W u=>?_⟩;obtain⟨n,m,q,y⟩:=mem_ready.1 t;by_cases d:j=i
  ·subst d;exact s.wpOp r (EX H A u)
  ·have K:=H.2 j (ready_mono t d) W u
   have z:∀e∈m.after,Region.binds md e=true→e.on≠i:=fun e p x g=>lV k (g▸y e p x);have L:=wpOp_put q (f j m q d n z) (fun g b=>h i l g b r) (fun g b=>h j m g b q) C s K
   have g:∀G ok,ops[G]?=S ok→G≠i→(c.setIfInBounds j true).getD G true=false→
    (∀e∈ok.after,Region.binds md e=true→e.on≠i)→l.apart ops ok=true:=fun G ok D x p B=>by
    refine f G ok D x ?_ B;by_cases x:j=G
    ·subst x;exact n
    ·rw[getD_set_ne true x]at p;exact p
   refine wpOp_mono (fun B D x=>?_) L;obtain⟨x,p⟩:=x;by_cases F:T.contains j=true
   ·rw[Fp F]at p ⊢;refine wpAny_first r h C fuel _ B D g (ready_mono k (Ne.symm d)) x ?_;rw[Array.setIfInBounds_comm _ _ d];exact p
   ·rw[Fn F]at p ⊢;refine⟨p.1,J (c.setIfInBounds j true) B D g (ready_mono k (Ne.symm d)) x p.1 ?_⟩;rw[Array.setIfInBounds_comm _ _ d];exact p.2
theorem UC {o:Oper} {v:Ms} {a:Act} (d:YieldsIf P ops (fun _=>True) o v a):Yields P ops o v a:=by
 rcases d with⟨b,c⟩|d
 ·exact .inl ⟨b,fun w=>c w trivial⟩
 ·exact .inr d
theorem EY {l:List Oper} (o:Region.noSelect l.toArray=true) (p:∀z a b s w,Q (.panic z) (a.put b s) w→Q (.panic z) a w) {K:Act→Prop} {n:Nat}:∀(c:List Nat) (b:Array Bool) (a:Act) (w:Mr),iP md l.toArray b→
 tD md l.toArray T c b=true→jW P l.toArray w0 K (aM l c) a→aC w0 w→(∀d,K d→mC P md l.toArray Q w0 T n (bF b c) d w)→mC P md l.toArray Q w0 T (n+c.length) b a w
 |[],b,a,w,g,d,q,h,i=>i a q
 |B::c,b,a,w,g,d,q,h,i=>by
  simp only[tD,Nq]at d;obtain⟨⟨⟨⟨⟨t,u⟩,v⟩,j⟩,r⟩,k⟩:=d;obtain⟨A,d⟩:=Option.isSome_iff_exists.1 t;have x:aM l (B::c)=A::aM l c:=by simp only[aM,lW];rw[Oi]at d;rw[d]
  rw[x]at q;have e:B∈Region.ready md l.toArray b:=by simpa using u
  have m:∃s,lN P l.toArray w0 A s a∧jW P l.toArray w0 K (aM l c) (a.put A.dst s):=by
   unfold jW at q;by_cases f:Region.wanted A (yielded l.toArray a.tmps)=true
   ·rw[Fp f]at q;obtain⟨s,y,z⟩:=q;exact⟨s,.inl ⟨f,y⟩,z⟩
   ·rw[Fn f]at q;exact⟨Mv,.inr ⟨by simpa using f,rfl⟩,q⟩
  obtain⟨s,y,f⟩:=m;refine wj (by simpa using j) d (fun C m _=>?_) (Region.noSelect_spec o) (fun z a w=>p z a _ _ w) (n+c.length) b a w g (Region.free_spec d v) e y h (EY o p c _ _ w (oE g e) k f h i);rw[List.all_eq_true]at r;exact r C (by simpa using m)
def tR (md:Region.Mode) (ops:Array Oper):List Nat→Array Bool→Bool
 |[],_=>true
 |k::ks,listed=>(ops[k]?).isSome&&(Region.ready md ops listed).contains k&&Region.free md ops listed k&&tR md ops ks (listed.setIfInBounds k true)
theorem UD {l:List Oper} (j:Region.noSelect l.toArray=true) (k:∀s a b u w,Q (.panic s) (a.put b u) w→Q (.panic s) a w) {K:Act→Prop} {n:Nat}:∀(c:List Nat) (b:Array Bool) (a:Act) (w:Mr),
 tR md l.toArray c b=true→jD P l.toArray (fun _=>True) K (aM l c) a→aC w0 w→(∀d,K d→mC P md l.toArray Q w0 T n (bF b c) d w)→mC P md l.toArray Q w0 T (n+c.length) b a w
 |[],b,a,w,d,t,e,f=>f a t
 |v::c,b,a,w,d,t,e,f=>by
  simp only[tR,Nq]at d;obtain⟨⟨⟨m,o⟩,p⟩,g⟩:=d;obtain⟨x,d⟩:=Option.isSome_iff_exists.1 m;have q:aM l (v::c)=x::aM l c:=by simp only[aM,lW];rw[Oi]at d;rw[d]
  rw[q]at t;have h:v∈Region.ready md l.toArray b:=by simpa using o
  obtain⟨u,r,i⟩:=I1 t;exact wk d (Region.noSelect_spec j) (fun s a w=>k s a _ _ w) (n+c.length) b a w (Region.free_spec d p) h (UC r) e (UD j k c _ _ w g i e f)
theorem M3 {l:List Oper} {E:List Nat}:∀(c:List Nat) (b:Array Bool) (a:Act) (w:Mr),(∀n∈c,E.contains n=false)→nJ md l.toArray c b=true→oF md l.toArray E (bF b c)=true→
 uF P l.toArray Q w0 (wpList P l.toArray Q (aM l E)) (aM l c) a w→(∀W,aC w W→wpAny P md l.toArray Q (E.length+c.length) b a W)
 |[],b,a,w,h,i,e,v=>fun W j=>t5 (need:=fun _=>false) (C:=fun _=>True) _ _ _ _ (vN E _ _ _ (fun _ _=>rfl) e (v W j))
 |n::c,b,a,w,h,i,e,v=>fun W j=>by
  simp only[nJ,Nq,beq_iff_eq]at i;obtain⟨⟨d,o⟩,f⟩:=i;obtain⟨x,k⟩:=Option.isSome_iff_exists.1 d;have r:aM l (n::c)=x::aM l c:=by simp only[aM,lW];rw[Oi]at k;rw[k]
  rw[r]at v;have g:=v W j;show wpAny P md l.toArray Q ((E.length+c.length)+1) b a W;refine⟨fun p=>(by rw[o]at p;cases p),fun y q=>?_⟩;rw[o]at q;obtain rfl:y=n:=by simpa using q
  unfold wpOp;rw[k];dsimp only;split
  ·rename_i m;rw[Fp m]at g;exact .inl (Oper.wp_mono (fun s t u=>M3 c _ s t (fun n d=>h n (by simp[d])) f e u.2 _ (lY _)) g)
  ·rename_i m;rw[Fn m]at g;exact M3 c _ _ _ (fun n d=>h n (by simp[d])) f e g.2 _ (lY _)
theorem UE {n:Nat} {b:Array Bool} {a:Act} {w:Mr} (d:∀h∈Region.ready md ops b,T.contains h=true) (e:Region.ready md ops b≠[]) (k:∀W,aC w W→wpAny P md ops Q (n+1) b a W):mC P md ops Q w0 T (n+1) b a w:=⟨e,fun h c W f=>wpOp_mono (fun i j g=>by rw[Fp (d h c)];exact g) ((k W f).2 h c)⟩
def UF (l:List Oper) (M U E:List Nat):Bool:=
 Region.noSelect l.toArray&&vR l.toArray&&decide (E.length+U.length+M.length=l.length)&&tD .any l.toArray E M (No l.length false)&&
 tR .any l.toArray U (bF (No l.length false) M)&&oF .any l.toArray E (bF (bF (No l.length false) M) U)&&
 (Region.ready .any l.toArray (bF (bF (No l.length false) M) U)).all (E.contains ·)&&!(Region.ready .any l.toArray (bF (bF (No l.length false) M) U)).isEmpty&&decide (0<E.length)
theorem lS {a:Act} {w:Mr} {l:List Oper} (y z E:List Nat) (b:UF l y z E=true)
 (A:jW P l.toArray w (fun c=>jD P l.toArray (fun _=>True) (fun e=>∀W,aC w W→wpList P l.toArray (gJ Q) (aM l E) e W) (aM l z) c) (aM l y) a):
 wpAny P .any l.toArray (gJ Q) l.toArray.size (No l.toArray.size false) a {w with drawn:=w.drawn+1}:=by
 simp only[UF,Nq,decide_eq_true_eq]at b;obtain⟨⟨⟨⟨⟨⟨⟨⟨i,x⟩,d⟩,o⟩,p⟩,q⟩,j⟩,c⟩,m⟩:=b;have g:l.toArray.size=l.length:=Nv ..;have b:aC w {w with drawn:=w.drawn+1}:=(Mu.refl _ w).drew;have h:=DJ l;rw[g];generalize(No l.length false:Array Bool)=rep at*;rw[←d];refine BY (w0:=w) (T:=E) _ _ _ _ (EY i uE y rep a _ h o A b fun e r=>UD i uE z _ e _ p r b fun s t=>?_);obtain⟨n,k⟩:∃n,E.length=n+1:=⟨E.length-1,by omega⟩;have u:=M3 (P:=P) (Q:=gJ Q) (w0:=w) (E:=E) [] _ s {w with drawn:=w.drawn+1} (fun v f=>by cases f) rfl q fun W f=>t W (cH b f);rw[k];refine UE (fun B v=>?_) (fun f=>by rw[f]at c;cases c) fun W f=>?_
 ·rw[List.all_eq_true]at j;exact j B v
 ·have:=u W f;rw[k]at this;exact this
theorem F0 {l:List Oper} {n:Nat} (h:Region.noSelect l.toArray=true) (i:∀q a b s w,Q (.panic q) (a.put b s) w→Q (.panic q) a w) {K:Act→Prop}:∀(c:List Nat) (b:Array Bool) (a:Act) (w:Mr),
 tR md l.toArray c b=true→jD P l.toArray (fun _=>True) K (aM l c) a→(∀d,K d→wpAny P md l.toArray Q n (bF b c) d w)→wpAny P md l.toArray Q (n+c.length) b a w
 |[],b,a,w,d,r,e=>e a r
 |t::c,b,a,w,d,r,e=>by
  simp only[tR,Nq]at d;obtain⟨⟨⟨j,k⟩,m⟩,f⟩:=d;obtain⟨u,d⟩:=Option.isSome_iff_exists.1 j;have o:aM l (t::c)=u::aM l c:=by simp only[aM,lW];rw[Oi]at d;rw[d]
  rw[o]at r;obtain⟨s,p,g⟩:=I1 r;exact wpAny_take d h m k (fun q a w=>i q a _ _ w) (UC p) (F0 h i c _ _ w f g e)
def UG (l:List Oper) (M:List Nat) (c i:Nat) (U E:List Nat):Bool:=
 Region.noSelect l.toArray&&vR l.toArray&&decide (E.length+1+U.length+1+M.length=l.length)&&tD .any l.toArray (c::(U++E)) M (No l.length false)&&decide (c≠i)&&!(c::(U++E)).contains i&&(l.toArray[c]?).isSome&&(l.toArray[i]?).isSome&&
 (Region.ready .any l.toArray (bF (No l.length false) M)==[c,i])&&(Region.ready .any l.toArray ((bF (No l.length false) M).setIfInBounds i true)==[c])&&
 tR .any l.toArray U ((bF (No l.length false) M).setIfInBounds c true)&&tR .any l.toArray U (((bF (No l.length false) M).setIfInBounds i true).setIfInBounds c true)&&
 oF .any l.toArray (i::E) (bF ((bF (No l.length false) M).setIfInBounds c true) U)&&oF .any l.toArray E (bF (((bF (No l.length false) M).setIfInBounds i true).setIfInBounds c true) U)
theorem UH {a:Act} {w:Mr} {l:List Oper} (aa:List Nat) (c i:Nat) (t E:List Nat) (V:UG l aa c i t E=true)
 (an:jW P l.toArray w (fun B=>∀W,aC w W→
  iA P l.toArray (gJ Q) (fun _=>True) (fun o p=>jD P l.toArray (fun _=>True) (fun b=>wpList P l.toArray (gJ Q) (aM l (i::E)) b p) (aM l t) o) (aM l [c]) B W∧
  iA P l.toArray (gJ Q) (aC w) (fun o p=>∀q,aC p q→iA P l.toArray (gJ Q) (fun _=>True) (fun b e=>jD P l.toArray (fun _=>True) (fun D=>wpList P l.toArray (gJ Q) (aM l E) D e) (aM l t) b) (aM l [c]) o q) (aM l [i]) B W) (aM l aa) a):
 wpAny P .any l.toArray (gJ Q) l.toArray.size (No l.toArray.size false) a {w with drawn:=w.drawn+1}:=by
 simp only[UG,Nq,decide_eq_true_eq,beq_iff_eq,Bool.not_eq_true']at V;obtain⟨⟨⟨⟨⟨⟨⟨⟨⟨⟨⟨⟨⟨F,ab⟩,A⟩,hM⟩,ad⟩,hiT⟩,j⟩,k⟩,X⟩,u⟩,H⟩,J⟩,K⟩,L⟩:=V;have M:l.toArray.size=l.length:=Nv ..;have m:aC w {w with drawn:=w.drawn+1}:=(Mu.refl _ w).drew;have R:=DJ l;obtain⟨oc,j⟩:=Option.isSome_iff_exists.1 j;obtain⟨oi,k⟩:=Option.isSome_iff_exists.1 k;have pc:aM l [c]=[oc]:=by simp only[aM,lW];rw[Oi]at j;rw[j]
 have pi:aM l [i]=[oi]:=by simp only[aM,lW];rw[Oi]at k;rw[k]
 rw[M];generalize(No l.length false:Array Bool)=rep at*;rw[←A];have n:(c::(t++E)).contains c=true:=by simp
 have v:∀(b:Act) (e:Mr),jD P l.toArray (fun _=>True) (fun b=>wpList P l.toArray (gJ Q) (aM l (i::E)) b e) (aM l t) b→wpAny P .any l.toArray (gJ Q) (E.length+1+t.length) ((bF rep aa).setIfInBounds c true) b e:=fun b e g=>F0 F uE t _ b e H g fun x d=>t5 (need:=fun _=>false) (C:=fun _=>True) _ _ _ _ (vN (i::E) _ _ _ (fun _ _=>rfl) K d);have y:∀(b:Act) (e:Mr),jD P l.toArray (fun _=>True) (fun b=>wpList P l.toArray (gJ Q) (aM l E) b e) (aM l t) b→wpAny P .any l.toArray (gJ Q) (E.length+t.length) (((bF rep aa).setIfInBounds i true).setIfInBounds c true) b e:=fun b e g=>F0 F uE t _ b e J g fun x d=>t5 (need:=fun _=>false) (C:=fun _=>True) _ _ _ _ (vN E _ _ _ (fun _ _=>rfl) L d);refine BY (w0:=w) (T:=c::(t++E)) _ _ _ _ (EY F uE aa rep a _ R hM an m fun B h1=>?_);refine⟨fun s=>(by rw[X]at s;cases s),fun ae z W G=>?_⟩;rw[X]at z;obtain⟨r,f⟩:=h1 W (cH m G);rw[pc]at r;rw[pi]at f;have z:ae=c∨ae=i:=by simpa using z
 rcases z with rfl|rfl
 ·unfold wpOp
  rw[j];dsimp only;unfold iA at r;split
  ·rename_i h;rw[Fp h]at r;exact .inl (Oper.wp_mono (fun x w' d=>by first|exact v _ _ d.2|(rw[Fp n];exact v _ _ d.2)) r)
  ·rename_i h;rw[Fn h]at r;first|exact v _ _ r|(rw[Fp n];exact v _ _ r)
 ·have step:∀(o:Act) (p:Mr),(∀q,aC p q→iA P l.toArray (gJ Q) (fun _=>True) (fun b e=>jD P l.toArray (fun _=>True) (fun D=>wpList P l.toArray (gJ Q) (aM l E) D e) (aM l t) b) (aM l [c]) o q)→
   mC P .any l.toArray (gJ Q) w (c::(t++E)) (E.length+t.length+1) ((bF rep aa).setIfInBounds ae true) o p:=fun o p h2=>by
   refine⟨fun s=>(by rw[u]at s;cases s),fun ar hj q U=>?_⟩;rw[u]at hj;obtain rfl:ar=c:=by simpa using hj
   have g:=h2 q U;rw[pc]at g;unfold wpOp;rw[j];dsimp only;unfold iA at g;split
   ·rename_i h;rw[Fp h]at g;exact .inl (Oper.wp_mono (fun x w' d=>by first|exact y _ _ d.2|(rw[Fp n];exact y _ _ d.2)) g)
   ·rename_i h;rw[Fn h]at g;first|exact y _ _ g|(rw[Fp n];exact y _ _ g)
  have en:E.length+1+t.length=E.length+t.length+1:=by omega
  rw[en];unfold wpOp;rw[k];dsimp only;unfold iA at f;split
  ·rename_i h;rw[Fp h]at f;exact .inl (Oper.wp_mono (fun x w' d=>by first|exact⟨d.1,step _ _ d.2⟩|(rw[Fn (by rw[hiT];decide)];exact⟨d.1,step _ _ d.2⟩)) f)
  ·rename_i h;rw[Fn h]at f;first|exact⟨cH m G,step _ _ f⟩|(rw[Fn (by rw[hiT];decide)];exact⟨cH m G,step _ _ f⟩)
end
end
section
open Go.RowKit Go.Shelf
attribute [local go_sem] Oper.semAt_some cK
def UI (Y:Nat) (own:Nat→Prop) (t:dU) (j:Nat) (n:Int) (w:Mr) (e:Ending) (w':Mr):Prop:=∃(a b:Bool) (t':dU),e=E (.tuple #[.agg #[.bool a,.bool b],I Z 0])∧gX Y (fun b=>own b∨w.heap.size≤b) t' w'∧mS t'∧BW t t'∧aF own w w'∧a=nO (t.rk.getD j (0,0)).1 t.rl n∧(t.pg=[]→b=nO 0 t.pl n)
theorem wm {Y:Nat} {own:Nat→Prop} {t:dU} (ok:mS t) (j:Nat) (hj:j<t.rk.length) (p n:Int) (h0:0≤n) (h1:n≤65536) (w:Mr) (ad:gX Y own t w) (c:∀b,own b→b<w.heap.size):Mt Tryz.prog 195 #[.pointer (S ⟨Y,0,N⟩),I Z j,I Z p,I Z n] w (UI Y own t j n w):=by
 obtain⟨G,T,x,y,u,z,H⟩:=ad.ex;obtain⟨cv,s⟩:=Ey t.rk.length;have ba:G≠Y:=wH z x (by decide);have HX:=zI ok y u c x z H ba hj s;have HA:=aA ad;rw[s]at hj;have cf:(j:Int)<cv:=by omega
 clear ad x z H c ok s y u;go_in;go_upto_region 1 with fail;have⟨cp,c⟩:=Ex (w.alloc (O #[.bool false,.bool false] 321));rw[←c];have d:aC w cp:=by rw[c];exact aU
 have f:cp.heap[w.heap.size]?=S (O #[.bool false,.bool false] 321):=by rw[c];exact aG _ _ _ rfl
 have J:=aA (TY (j:Int) cp (HA.out.keeps d));have a:bel (j:Int) t.rk.length=true:=by rw[HX.out.2.2.2.2.2.2.2.2.2];unfold bel;simp;omega
 rw[a]at J;have HU:=aH d f;clear c d f a;go_wp2_with fail;refine J.out.mono ?_;rintro e i ⟨rfl,a⟩;go_upto_region 4 with fail;have⟨ok,y,u,c,x,z,H,bz,g,s⟩:=HX.out;have⟨cu,m⟩:=Ex (i.alloc (O #[.bool false,.bool false] 321));rw[←m];have U:aC w i:=Kc HU.out.1 a;have F:aC w cu:=by rw[m];exact Ka U
 have f:cu.heap[i.heap.size]?=S (O #[.bool false,.bool false] 321):=by rw[m];exact aG _ _ _ rfl
 have A:cu.heap[w.heap.size]?=S (O #[.bool false,.bool false] 321):=aE (Kc (by rw[m];exact aU) Bl) (aE a HU.out.2);have bb:w.heap.size<i.heap.size:=aB (aE a HU.out.2);have h:=aE F x;have k:=aE F z;have ck:=aB z;have cl:=aB x;obtain⟨M,P,q,r⟩:=ok.rk (t.rk.getD j (0,0)) (by rw[Mx,Nn g];exact List.getElem_mem _);have Q:=aA fun W=>Q3 (l:=t.rl) ok.rr M P q r h0 h1 W;obtain⟨X,d1⟩:=BX k g;have d:=Q5 M P h0;have HV:=mI F f A h k bb d q r;unfold dU.row at h;rw[s]at h;have⟨x1,B⟩:=Ey (t.rk.getD j (0,0)).1;have⟨x2,o⟩:=Ey (t.rk.getD j (0,0)).2;have⟨y1,C⟩:=Ey (tE (t.rk.getD j (0,0)).1 n);have⟨z1,L⟩:=Ey (nO (t.rk.getD j (0,0)).1 t.rl n);have HE:=bT B o C L;rw[C,L,B,o]at Q;rw[B]at X;rw[o]at d1;have D:=aB h;have R:=aB k;have v:=aB f;have⟨q0,q1,q6⟩:=pQ h 0 1 6;simp at q0 q1 q6;clear ok y u c x z H s m F f A h k U a J M P q r B o C L d;refine eK (by kernel_rfl) (lS [0,1,2,3,4,5,6,7,8,9,10,11,12,13,14,15,16,17,18,19,20,22] [21] [23,24,25] (by kernel_rfl) ?_);simp only[aM,d8]
 repeat
  with_reducible refine dS fun K a=>?_
  go_simp
  try first
   |(apply Ei
     intro d c;obtain⟨f,h⟩:=c.cells;go_simp
     first
      |(go_at_call 223;with_reducible exact l9 (Q.out _))
      |rfl)
   |(with_reducible refine aQ ?_ ?_;first|decide|simp[Mv];done)
  refine a _ ?_;clear a K
 with_reducible refine dR ?_
 repeat(
  with_reducible refine i9 fun K a=>?_
  go_simp;unfold gI;apply Ei
  ·intro d c;go_simp;exact⟨rfl,rfl⟩
  refine a _ ?_
  clear a K)
 with_reducible refine eZ ?_
 intro w3 c;clear X d1;have⟨F,f,A,h,k,bb,d,q,r⟩:=HV.out;have k3:aC w w3:=Kc F c;have m:=aE c k;have U:=aE c h;have a:=aE c f;have V:=aE c A;have ae:=aB m;have ad:=aB a;have fg:=fun j=>Fw m j;obtain⟨X,d1⟩:=BX m g;have⟨v0,v1⟩:=bQ a;simp at v0 v1;have fb:=fun j=>Fw a j;have br:¬i.heap.size=G:=by omega
 have av:¬G=i.heap.size:=by omega
 have H3:=eP k3 m U a V;clear F f A h k k3 m U a V c q0 q1 q6 D R v Q d q r g;go_wp2_with fail;refine dT ?_;have⟨k3,m,U,a,V⟩:=H3.out;have⟨ok,y,u,c,x,z,H,_,g,s⟩:=HX.out;have⟨F,_,_,_,_,_,d,q,r⟩:=HV.out;have⟨B,o,C,L⟩:=HE.out;have h:aF (fun b=>b=G) w3 ((w3.setCell ⟨G,j*2,N⟩ (I Z y1)).setCell ⟨G,j*2+1,N⟩ (I Z x2)):=(dY G _ w3 _).trans (dY G _ _ _);have rG:=LT m g y1 x2;have⟨Wg,aa⟩:=Ex ((w3.setCell ⟨G,j*2,N⟩ (I Z y1)).setCell ⟨G,j*2+1,N⟩ (I Z x2));rw[←aa]at h rG ⊢;have A:=dY i.heap.size 0 Wg (.bool z1);have f:(Wg.setCell ⟨i.heap.size,0,N⟩ (.bool z1)).heap[i.heap.size]?=S (O #[.bool z1,.bool false] 321):=Nx Wg i.heap.size 0 _ _ _ (aJ h a br);have⟨W5,ab⟩:=Ex (Wg.setCell ⟨i.heap.size,0,N⟩ (.bool z1));rw[←ab]at A f ⊢;have M:=aJ A rG av;have k:=aJ A (aJ h U fun e=>ba e.symm) (by omega);have P:=aJ A (aJ h V (by omega)) (by omega);have Q:aF own w W5:=((aF.of_below k3 own).trans (h.mono fun b _ v=>by subst v;exact u)).next A fun b v=>.inr (by omega);have R:aF (fun b=>b=G) w W5:=((aF.of_below k3 _).trans h).next A fun b v=>.inr (by omega);have J:gK T (fun b=>own b∧b≠Y∧b≠G) t.pg t.room W5:=H.same fun b v D=>⟨R.block b v D.2.2,D⟩;have cm:=AM ok.pr;have HP:=aA (uu (e':=t.pe) (by omega) ok.pg p W5 J);rw[C]at d;rw[o]at q r;have H5:=zI M k f P Q J d q r R;unfold dU.row at k;rw[s]at k;have D:=aB k
 skip
 have q7:=Cw k 7;simp at q7;clear ok y u c x z H s g F d q r B o C L M k f P Q J R ab aa h rG A k3 m U a V X d1 v0 v1 fb fg ae ad H3 HV;go_wp2_with fail;refine HP.out.mono ?_;rintro e F ⟨⟨v6,a6,b6,rfl,p1,p2,p3,p4,m⟩,o⟩;have⟨M,k,f,P,Q,J,d,q,r,R⟩:=H5.out;go_upto_region 6 with fail;have⟨V6,a⟩:=Ex (F.alloc (O #[I Z v6,I Z a6] 275));rw[←a];have⟨ok,y,u,c,x,z,H,_,g,s⟩:=HX.out;have A:aC W5 V6:=by rw[a];exact Ka o
 have B:V6.heap[F.heap.size]?=S (O #[I Z v6,I Z a6] 275):=by rw[a];exact aG _ _ _ rfl
 have r6:=aE A k;have h:=aE A f;have X:i.heap.size<F.heap.size:=Nj (aB f) o.size;have U:=aA fun W=>Q3 (l:=t.pl) ok.pr p1 p2 p3 p4 h0 h1 W;have C:=Q5 p1 p2 h0;have⟨y2,L⟩:=Ey (tE v6 n);have⟨z2,V⟩:=Ey (nO v6 t.pl n);have bv:=aA V;rw[L,V]at U;rw[L]at C;have H6:=mI A B r6 h X C p3 p4 m;unfold dU.row at r6;rw[s]at r6;clear q7 D;have D:=aB r6;have v:=aB B;have⟨q2,q3⟩:=iO r6 2 3;simp at q2 q3;have⟨b0,b1⟩:=bQ B;simp at b0 b1;clear ok y u c x z H s g a A B r6 h X p1 p2 p3 p4 m C L V o M k f P Q J d q r R HP;refine eK (by kernel_rfl) (lS [0,1,2,3,4,5,6,7,8,9] [10] [11,12,13] (by kernel_rfl) ?_);simp only[aM,d8]
 repeat
  with_reducible refine dS fun K a=>?_
  go_simp
  try first
   |(apply Ei
     intro d c;obtain⟨f,h⟩:=c.cells;go_simp
     first
      |(go_at_call 223;with_reducible exact l9 (U.out _))
      |rfl)
   |(with_reducible refine aQ ?_ ?_;first|decide|simp[Mv];done)
  refine a _ ?_;clear a K
 with_reducible refine dR ?_
 repeat(
  with_reducible refine i9 fun K a=>?_
  go_simp;unfold gI;apply Ei
  ·intro d c;go_simp;exact⟨rfl,rfl⟩
  refine a _ ?_
  clear a K)
 with_reducible refine eZ ?_
 intro w7 L;have⟨A,B,r6,h,X,C,p3,p4,m⟩:=H6.out;clear q2 q3 b0 b1 D v;have o:=aE L B;have a:=aE L h;have bs:=aB o;have an:=aB a;have bw:=fun j=>Fw o j;have bx:=fun j=>Fw a j;have⟨b0,b1⟩:=bQ o;simp at b0 b1;have⟨c0,c1⟩:=bQ a;simp at c0 c1;have n1:¬F.heap.size=i.heap.size:=by omega
 have n2:¬i.heap.size=F.heap.size:=by omega
 have H7:=Hd3 L o a;clear A B r6 h X C p3 p4 m o a L U;go_wp2_with fail;refine dT ?_;go_upto_region 7 with fail;have⟨L,o,a⟩:=H7.out;have⟨A,B,r6,h,X,C,p3,p4,m⟩:=H6.out;have⟨M,k,f,P,Q,J,d,q,r,R⟩:=H5.out;have⟨ok,y,u,c,x,z,H,_,g,s⟩:=HX.out;have ad:aF (fun b=>b=F.heap.size) w7 ((w7.setCell ⟨F.heap.size,0,N⟩ (I Z y2)).setCell ⟨F.heap.size,1,N⟩ (I Z a6)):=(dY _ _ w7 _).trans (dY _ _ _ _);have rA:((w7.setCell ⟨F.heap.size,0,N⟩ (I Z y2)).setCell ⟨F.heap.size,1,N⟩ (I Z a6)).heap[F.heap.size]?=S (O #[I Z y2,I Z a6] 275):=by rw[Nx _ F.heap.size 1 _ _ _ (Hs 0 _ o)];rfl
 have⟨Wa,bd⟩:=Ex ((w7.setCell ⟨F.heap.size,0,N⟩ (I Z y2)).setCell ⟨F.heap.size,1,N⟩ (I Z a6));rw[←bd]at ad rA ⊢;have ae:=dY i.heap.size 1 Wa (.bool z2);have rB:(Wa.setCell ⟨i.heap.size,1,N⟩ (.bool z2)).heap[i.heap.size]?=S (O #[.bool z1,.bool z2] 321):=by rw[Nx Wa i.heap.size 1 _ _ _ (aJ ad a n2)];rfl
 have⟨W8,bm⟩:=Ex (Wa.setCell ⟨i.heap.size,1,N⟩ (.bool z2));rw[←bm]at ae rB ⊢;have aa:aF (fun b=>b=F.heap.size∨b=i.heap.size) W5 W8:=((aF.of_below (aK A L) _).trans (ad.mono fun b _ v=>.inl v)).trans (ae.mono fun b _ v=>.inr v);have ar:=aJ ae rA n1;have cc:=c G u;have cd:=c Y y;have ab:=aJ aa P (by omega);have U:=aJ aa M (by omega);have V:=aJ aa k (by omega);have c8:aF own w W8:=Q.next aa fun b v=>.inr (by omega);have bn:gK T (fun b=>own b∧b≠Y∧b≠G) t.pg t.room W8:=J.same fun b v D=>⟨aa.block b v (by have:=c b D.1;omega),D⟩;have HP:=aA fun W (v:aC W8 W)=>ve (e':=t.pe) ok.pg ok.pn ok.r1 ok.r2 p y2 a6 ⟨C.1,C.2,p3,p4⟩ W (bn.keeps v);have H8:=mI U V rB c8 d q r m ab;unfold dU.row at V;rw[s]at V;clear b0 b1 c0 c1 bw bx bs an;have D:=aB V;have v:=aB ar;have q7:=Cw V 7;simp at q7;have⟨b0,b1⟩:=bQ ar;simp at b0 b1;clear ab ok y u c x z H s g A B r6 h X C p3 p4 m M k f P Q J d q r R o a L ad rA bd ae rB bm aa ar U V c8 bn H7 H6 H5;refine eK (by kernel_rfl) (lS [0,1,2,3,4,5] [] [6] (by kernel_rfl) ?_);simp only[aM,d8]
 repeat
  with_reducible refine dS fun K a=>?_
  go_simp
  try first
   |(apply Ei
     intro d c;obtain⟨f,h⟩:=c.cells;go_simp
     rfl)
   |(with_reducible refine aQ ?_ ?_;first|decide|simp[Mv];done)
  refine a _ ?_;clear a K
 with_reducible refine dR ?_
 with_reducible refine eZ ?_
 intro w9 a;have ae:=aA (HP.out w9 a);have ar:=aA a;clear a HP q7 b0 b1 D v;go_wp2_with fail;refine ae.out.mono ?_;rintro e J ⟨l',bn,f,rfl,M,P,Q,o⟩;have⟨U,V,rB,c8,d,q,r,m,ab⟩:=H8.out;have⟨ok,y,u,c,x,z,H,_,g,s⟩:=HX.out;have a:=ar.out;have h:aF (fun b=>own b∧b≠Y∧b≠G) W8 J:=(aF.of_below a _).trans o;have A:=aJ h rB (fun ad=>by have:=c _ ad.1;omega);have an:=aB A;have bd:w.heap.size<J.heap.size:=Nj (by have:=aB rB;omega) h.size;have⟨c0,c1⟩:=bQ A;simp at c0 c1;have ST:=aA (Ai U (Ai V (Ai c8 (Ai h (Ai A (Ai M (Ai P (Ai Q (Ai d (Ai q (Ai r (Ai m a))))))))))));have k:=aJ h ab (fun ad=>by have:=c _ ad.1;omega);have HT:=aA k;have f8:=fun j=>Fw k j;have⟨X,d1⟩:=bQ k;simp at X d1;have n3:¬i.heap.size=w.heap.size:=by omega
 clear U V rB c8 d q r m ok y u c x z H s g a h A M P Q o ab k;go_wp2_with fail;refine dT ?_;go_wp2_with fail;have⟨U,V,c8,h,A,M,P,Q,d,q,r,m,a⟩:=ST.out;have⟨ok,y,u,c,x,z,H,_,g,s⟩:=HX.out;have⟨B,o,C,L⟩:=HE.out;have k:=HT.out;have R:aF (fun b=>b=w.heap.size) J ((J.setCell ⟨w.heap.size,0,N⟩ (.bool z1)).setCell ⟨w.heap.size,1,N⟩ (.bool z2)):=(dY _ _ J _).trans (dY _ _ _ _);have rE:((J.setCell ⟨w.heap.size,0,N⟩ (.bool z1)).setCell ⟨w.heap.size,1,N⟩ (.bool z2)).heap[w.heap.size]?=S (O #[.bool z1,.bool z2] 321):=by rw[Nx _ w.heap.size 1 _ _ _ (Hs 0 _ k)];rfl
 have ab:aF own w ((J.setCell ⟨w.heap.size,0,N⟩ (.bool z1)).setCell ⟨w.heap.size,1,N⟩ (.bool z2)):=(c8.trans (h.mono fun b _ v=>v.1)).next R fun b v=>.inr (by omega);have bs:=c G u;have bw:=c Y y;have bx:w.heap.size≤W8.heap.size:=c8.size;have cn:W8.heap.size≤w9.heap.size:=a.size;have bm:=aB H8.out.2.2.2.2.2.2.2.2;have aa:(t.rk.set j (y1,x2)).length=t.rk.length:=Od;refine My (lin.iF results195 _ _ w.heap.size 321 _ (0,0) _ rfl rE underlying321 rfl (by kernel_rfl)) rfl ⟨z1,z2,{t with rk:=t.rk.set j (y1,x2),pg:=l'},rfl,⟨G,T,?_,.inl y,.inl u,aJ R (aJ h U fun ad=>ad.2.2 rfl) (by omega),M.same fun b v D=>?_⟩,⟨ok.rr,ok.pr,ok.r1,ok.r2,ok.h1,ok.h2,fun cx hx=>?_,by rw[aa];exact ok.rn,P,Q⟩,⟨aa,rfl,rfl,rfl,rfl,rfl,rfl⟩,ab,L.symm,fun hp=>?_⟩
 ·refine(aJ R (aJ h V fun ad=>ad.2.1 rfl) (by omega)).trans ?_;unfold dU.row;simp only[aa]
 ·refine⟨R.block b v fun e=>?_,?_⟩
  ·subst e
   rcases D with D|D
   ·have:=c _ D.1;omega
   ·omega
  ·rcases D with D|D
   ·exact⟨.inl D.1,D.2⟩
   ·exact⟨.inr (by omega),by omega,by omega⟩
 ·rcases List.mem_or_eq_of_mem_set hx with hx|rfl
  ·exact ok.rk cx hx
  ·exact⟨d.1,d.2,q,r⟩
 ·obtain⟨rfl,_⟩:=m hp;exact bv.out.symm
theorem wo {Y:Nat} {own:Nat→Prop} {t:dU} (ok:mS t) (j:Nat) (d:j<t.rk.length) (p n:Int) (f:0≤n) (c:n≤65536) (w:Mr) (o:gX Y own t w):Mt Tryz.prog 195 #[.pointer (S ⟨Y,0,N⟩),I Z j,I Z p,I Z n] w (UI Y own t j n w):=by refine(wm ok j d p n f c w o.tight fun b a=>a.2).mono ?_;rintro e q ⟨r,b,g,c,h,i,k,l,m⟩;exact⟨r,b,g,c,h.mono fun b a=>a.imp (fun o=>o.1) id,i,k,l.mono fun b _ a=>a.1,m⟩
end
end Go.Proofs.YtlbgenenpheheaaGreat
