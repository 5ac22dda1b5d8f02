/- What the six laws Whole.. of the program cuirasstop lean on, part 5: contracts of its functions and laws of what they compute; for all arguments that each theorem names -/
import Derived.Test.YtlbgenenpheheaaGreatB3
import Derived.Carry
import Derived.Deep.CutRange
import Derived.Deep.RegionWith
set_option linter.unusedVariables false
set_option linter.unusedSimpArgs false
set_option maxHeartbeats 100000000
set_option maxRecDepth 100000
namespace Go.Proofs.YtlbgenenpheheaaGreat
open Go.Value renaming int→I
open Go.IntKind renaming i64→Z
open Go.Obj renaming cells→O
open Go.Ending renaming returned→E
open Tryz renaming prog→Y
open Tryz
open _root_.Array renaming length_toList→Oj
open _root_.Bool renaming and_eq_true→Nq
open Go renaming World→Mr,Value→Ms,Calls→Mt,undef→Mv,bodyPost_ret→My,wpQuiet_step→Mz,wpQuiet_nil→Na,callsIn_wide→Nk,results_none→Nw,heap_setCell_same→Nx,results_cell_row→Oa,below_setRow→Ob
open Go.RowKit renaming Below→Mu
open Go.Value renaming slice→Nh,oneCell'→Ni,ownBlock→Ny
open Go.World renaming putObj_heap_other→Ok
open _root_.List renaming getD→Mx,replicate→Nd,range→Nf,getElem?_eq_getElem→Nn,length_map→Np,length_append→Nr,size_toArray→Nv,length_cons→Oc,length_set→Od,getElem?_eq_some_iff→Oe,getElem?_map→Of,getElem?_toArray→Oi
open _root_.Nat renaming le_trans→Ng,lt_of_lt_of_le→Nj,zero_le→Ns,le_succ→Nu
open _root_.Option renaming some→S,none→N
variable {B C D F G H L g i j k n room:Nat} {P:Program} {W W' w w' w1 w2:World} {b d l r res way:Int} {cw:Nat→Prop} {o:Obj} {t:aR} {v:Value} {x:aW}
section
open Go.RowKit Go.Shelf
attribute [local go_sem] Oper.semAt_some cK
theorem wt (W:Mr):(zeroValue 358).run Y W=.ok (.agg #[I Z 0,I Z 0,I Z 0,I Z 0,I Z 0]) W:=by kernel_rfl
theorem UJ:(Y.info? 358).map (fun a=>(a.zero,a.size,a.bytes))=S (S (.agg #[I Z 0,I Z 0,I Z 0,I Z 0,I Z 0]),5,40):=by kernel_rfl
theorem wy {L:List (List Ms)} (i j:Nat) (q:i+1=j) (c:i<L.length) (z:∀h∈L.flatten,h.oneCell'=true) (w:Mr) (g:bP 358 5 v L w):Mt Y 245 #[v,I Z (i:Nat),I Z (j:Nat)] w fun e d=>∃a,e=E a∧bP 358 5 a (L.eraseIdx i) d∧a.ownBlock=v.ownBlock∧aF (fun b=>v.ownBlock=S b) w d:=by
 obtain⟨i0,ae,av,an,ba⟩:=info_parts UJ;obtain⟨f,d⟩:=g;obtain⟨T,⟨rfl,h2⟩|⟨Q,a,r,rfl,bb,D,bd,s,k,p⟩⟩:=f
 ·omega
 have h:=IG L i d c;have y:(L.eraseIdx i).length=L.length-1:=List.length_eraseIdx_of_lt c;have u:∀g∈L.eraseIdx i,g.length=5:=fun g f=>d g (List.mem_of_mem_eraseIdx f);rw[q]at h;generalize f:L.flatten=fl at*;generalize A:L.length=n at*;obtain⟨m,hm⟩:∃m,n=j+m:=⟨n-j,by omega⟩;obtain⟨X,hk⟩:∃X,n=X+1:=⟨n-1,by omega⟩;have U:=Hd3 h y u;clear h y u d f c
 obtain⟨bm,hA,d⟩:∃bm:Addr,(if a=j then S (⟨Q,0,N⟩:Addr)else S ⟨Q,j*5,N⟩)=S bm∧Hid (∀W:Mr,W.heap[Q]?=S (Obj.cells r 358)→∀t h,(fl.drop (j*5))[t]?=S h→W.cell? (bm.add t)=S h):=by
  by_cases f:a=j
  ·refine⟨⟨Q,0,N⟩,by simp[f],fun W V t h c=>?_⟩;rw[List.drop_eq_nil_of_le (by omega)]at c;simp at c
  ·refine⟨⟨Q,j*5,N⟩,by simp[f],fun W V t h c=>?_⟩
   rw[Addr.add_lit,Cw V _];rw[←p,List.getElem?_drop,List.getElem?_take]at c;split at c
   ·simpa using c
   ·cases c
 have⟨F,f⟩:=Ey (fl.drop (j*5));have g:F.length=m*5:=by rw[←f,List.length_drop,T];omega
 have x:∀h∈F,h.oneCell'=true:=fun h c=>z h (by rw[←f]at c;exact List.mem_of_mem_drop c);rw[f]at d;have⟨C,l⟩:=Ey (r.toList.take (i*5)++F++r.toList.drop (i*5+F.length)).toArray;have c:C.size=a*5:=by rw[←l];simp[g,k];omega
 have⟨G,o⟩:=Ey (C.toList.take (X*5)++(#[I Z 0,I Z 0,I Z 0,I Z 0,I Z 0]:Array Ms).toList++C.toList.drop (X*5+5)).toArray;have HY:=aA (Ai D (Ai f (Ai p (Ai U.out (Ai T (Ai x (Ai g (Ai l (Ai o (Ai c (Ai k (Ai hm (Ai hk (Ai q (Ai s d)))))))))))))));have bn:=aB D;have br:((i:Int)==(j:Int))=false:=by simp;omega
 have bs:i≤a:=by omega
 have bv:j≤a:=by omega
 have ar:i≤j:=by omega
 have bw:j≤n:=by omega
 have bx:¬n=i:=by omega
 clear U z f p D T x g l o c k hm hk q s d A;go_in;go_wp2_with fail;refine eK (by kernel_rfl) (iK [0,1,2,3,4,5] [] [6,7] (by kernel_rfl) ?_);simp only[aM,d8]
 repeat
  with_reducible refine dS fun K f=>?_
  go_simp
  try first
   |(apply Ei
     intro d c;obtain⟨g,h⟩:=c.cells;go_simp
     rfl)
   |(with_reducible refine aQ ?_ ?_;first|decide|simp[Mv];done)
  refine f _ ?_;clear f K
 with_reducible refine dR ?_
 refine iJ fun W V=>?_;have⟨D,f,p,U,T,x,g,l,o,c,k,hm,hk,q,s,d⟩:=HY.out;have A:=aE V D;refine PQ W (by rfl) (.tmp 22) (.tmp 25) 126 (by rfl) 358 i0 5 underlying126 ae an Q i a r A (by rfl) bm m (a-j) F ?_ g (d W A) x (by omega) (by rw[g,k];omega) X (by omega) ?_
 ·have:n-j=m:=by omega
  rw[←this];simp[Act.eval,Act.put,hA]
 rw[l];have⟨z,B⟩:=Ey (W.setRow Q C);have R:z.heap[Q]?=S (O C 358):=by rw[←B];exact Hw A C
 have H:aF (fun b=>b=Q) w z:=by rw[←B];exact(aF.of_below V _).trans ⟨rfl,rfl,rfl,by simp[Mr.setRow],fun b _ h=>setRow_other W Q b _ h⟩
 have bz:∀h,(Builtin.clear_ #[126] h #[.slice (S ⟨Q,X*5,N⟩) (n-X) (a-X)]).run Y z=.ok (.tuple #[]) (z.setRow Q G):=fun h=>by rw[←o,show n-X=1 by omega];exact PP (P:=Y) z 126 358 h (.agg #[I Z 0,I Z 0,I Z 0,I Z 0,I Z 0]) underlying126 wt Q _ _ 358 C R (by rw[c];show X*5+5≤_;omega) (by decide)
 have aa:=Hw R G;have J:aF (fun b=>b=Q) w (z.setRow Q G):=H.trans ⟨rfl,rfl,rfl,by simp[Mr.setRow],fun b _ h=>setRow_other z Q b _ h⟩
 have M:bP 358 5 (.slice (S ⟨Q,0,N⟩) X a) (L.eraseIdx i) (z.setRow Q G):=by
  obtain⟨h,y,u⟩:=U;have ab:(L.eraseIdx i).length=X:=by omega
  have ad:G.size=a*5:=by rw[←o];simp[c];omega
  refine⟨⟨by rw[DK _ u],.inr ⟨Q,a,G,by rw[ab],Ns _,aa,by omega,s,ad,?_⟩⟩,u⟩;have e1:(r.toList.take (i*5)++F).length=X*5:=by simp[g,k];omega
  rw[ab,←o,List.append_assoc,List.take_append_of_le_length (by simp[c];omega),List.take_take,Nat.min_self,←l,h,f];rw[←e1,List.take_left,←p,List.take_take,Nat.min_eq_left (by omega)]
 have u:=aH M J;have y:=aB R;have ad:X≤n:=by omega
 have ab:¬a=X:=by omega
 have cc:X≤a:=by omega
 rw[B];clear D f p U T x g l o c k hm hk q s d M J H aa A B HY;go_wp2_with fail;refine dT ?_;go_wp2_with fail;go_ret;exact⟨_,rfl,u.out.1,rfl,u.out.2.mono (fun b _ h=>by subst h;rfl)⟩
structure gT where
 s:Int
 t:Int
 k:Int
 i:Int
 f:Int
def gT.cells (x:gT):List Ms:=[I Z x.s,I Z x.t,I Z x.k,I Z x.i,I Z x.f]
def RL (l:List gT):List (List Ms):=l.map gT.cells
theorem kF (l:List gT):(RL l).length=l.length:=Np _
theorem wz (l:List gT):∀c∈(RL l).flatten,c.oneCell'=true:=fun c a=>by obtain⟨d,b,a⟩:=List.mem_flatten.1 a;obtain⟨e,_,rfl⟩:=List.mem_map.1 b;simp only[gT.cells,List.mem_cons,List.not_mem_nil,or_false]at a;rcases a with rfl|rfl|rfl|rfl|rfl<;>rfl
theorem C0 {l:List gT} (a:j<l.length):(RL l).getD j []=l[j].cells:=by unfold RL;rw[Mx,Of,Nn a];rfl
theorem UK:∀(l:List gT) (i:Nat),(RL l).eraseIdx i=RL (l.eraseIdx i)
 |[],_=>rfl
 |_::_,0=>rfl
 |a::l,i+1=>by show a.cells::(RL l).eraseIdx i=a.cells::RL (l.eraseIdx i);rw[UK l i]
theorem xa (l:List gT):∀b∈RL l,b.length=5:=fun b a=>by obtain⟨c,_,rfl⟩:=List.mem_map.1 a;rfl
theorem UL (s t k i f:Int) (w:Mr):Mt Y 244 #[.agg #[I Z s,I Z t,I Z k,I Z i,I Z f]] w fun e a=>e=E (.bool (k==2))∧Mu w.heap.size w a:=by go_in;go_wp2;go_ret;exact⟨rfl,(by repeat first|exact Bl|assumption|refine Ka ?_|refine Ks ?_ (by first|exact Nl|simp<;>omega|omega)|refine Kd ?_|refine Kc ?_ (by assumption))⟩
theorem xc (s t k i f:Int) (w:Mr):Mt Y 261 #[.agg #[I Z s,I Z t,I Z k,I Z i,I Z f]] w fun e c=>e=E (.bool (!(k==2)))∧Mu w.heap.size w c:=by have d:=aA fun w=>UL s t k i f w;generalize(k==2)=b at*;have g:aC w (w.alloc (O #[I Z s,I Z t,I Z k,I Z i,I Z f] 358)):=aU;go_in;go_wp2_with fail;refine(d.out _).mono ?_;rintro e h ⟨rfl,a⟩;go_wp2_with fail;go_ret;exact⟨rfl,Kc g a⟩
theorem xd {l:List gT} (w:Mr) (d:bP 358 5 v (RL l) w):Mt Y 260 #[v,.func (.func 261) #[] #[]] w fun e j=>(∃a:Int,e=E (I Z a)∧-1≤a∧a<l.length)∧Mu w.heap.size w j:=by
 have h:l.length≤maxLen:=by
  rcases d.cases with⟨_,m⟩|⟨U,o,_,A,c,s,f⟩
  ·rw[←kF,m];exact Ns _
  ·rw[kF]at c;omega
 obtain⟨V,o,rfl⟩:=d.slice;rw[kF]at*;have⟨n,c⟩:=Ey l.length;have B:=aH d c;rw[c]at h ⊢;clear d c;go_in;go_wp2_with fail;go_loopw [8] (fun a W=>∃g:Nat,g≤n∧a=I Z g∧aC w W) fun a _=>n-(intOf a).toNat
 case atStart=>exact⟨0,Ns _,rfl,K.refl w⟩
 case round=>
  obtain⟨g,R,rfl,i⟩:=hrel;by_cases a:g<n
  ·have k:(g:Int)<n:=by omega
   have t:=IntWalk.wrap64_in ((g:Int)+1) ⟨by omega,by unfold maxLen at h;omega⟩;have Q:=IntWalk.i64_in ((g:Int)+1) ⟨by omega,by unfold maxLen at h;omega⟩;have⟨d,c⟩:=B.out;rw[←c]at a;rcases(d.keeps i).cases with⟨_,m⟩|⟨U,z,u,A,p,s,f⟩
   ·have:l.length=0:=by rw[←kF,m];rfl
    omega
   simp only[Ms.slice.injEq]at u;obtain⟨rfl,q,rfl⟩:=u;clear q;have x:=f g 0 _ (by rw[kF];exact a) (by omega) (by rw[C0 a];rfl);have C:=f g 1 _ (by rw[kF];exact a) (by omega) (by rw[C0 a];rfl);have D:=f g 2 _ (by rw[kF];exact a) (by omega) (by rw[C0 a];rfl);have c3:=f g 3 _ (by rw[kF];exact a) (by omega) (by rw[C0 a];rfl);have F:=f g 4 _ (by rw[kF];exact a) (by omega) (by rw[C0 a];rfl);rw[Nat.mul_comm 5 g]at x C D c3 F;rw[Nat.add_zero]at x;rw[c]at a;generalize l[g].s=G at*;generalize l[g].t=H at*;generalize l[g].k=y at*;generalize l[g].i=J at*;generalize l[g].f=L at*;have M:=aA fun j=>xc G H y J L j;generalize(y==2)=b at*;have P:=aA i;clear d c f p s i;go_wp2_with fail;refine(M.out _).mono ?_;rintro e T ⟨rfl,r⟩;have j:=Kc P.out r;cases b
   ·go_wp2_with fail;go_ret;exact⟨⟨_,rfl,by omega,by omega⟩,j⟩
   ·go_wp2_with fail
    go_roundw
    case rel=>exact⟨g+1,by omega,by simp[t],j⟩
    case measure=>simp[intOf,t];omega
  ·have k:¬(g:Int)<n:=by omega
   go_wp2_with fail;go_ret;exact⟨⟨_,rfl,by omega,by omega⟩,i⟩
structure gY (G:Nat) (own:Nat→Prop) (l:List gT) (room:Nat) (W:Mr):Prop where ex:∃v nx lost,W.heap[G]?=S (O #[v,I Z room,I Z nx,.bool lost] 128)∧own G∧(∀g,v.ownBlock=S g→own g)∧bP 358 5 v (RL l) W
theorem gY.same {own own':Nat→Prop} {l:List gT} (k:gY G own l room W) (c:∀b,b<W.heap.size→own b→W'.heap[b]?=W.heap[b]?∧own' b):gY G own' l room W':=by obtain⟨m,i,j,d,f,g,e⟩:=k.ex;exact⟨m,i,j,(c G (aB d) f).1.trans d,(c G (aB d) f).2,fun h a=>(c h (e.lt h a) (g h a)).2,e.same fun h a=>(c h (e.lt h a) (g h a)).1⟩
theorem gY.keeps {own:Nat→Prop} {l:List gT} (e:gY G own l room W) (a:aC W W'):gY G own l room W':=e.same fun b c d=>⟨a.block b c,d⟩
theorem gY.tight {own:Nat→Prop} {l:List gT} (d:gY G own l room W):gY G (fun b=>own b∧b<W.heap.size) l room W:=d.same fun b a c=>⟨rfl,c,a⟩
theorem gY.mono {own a:Nat→Prop} {l:List gT} (d:gY G own l room W) (c:∀b,own b→a b):gY G a l room W:=d.same fun b e d=>⟨rfl,c b d⟩
theorem xf (a:Nat) (f:1≤a) (g:a≤256) (w:Mr):Mt Y 125 #[I Z a] w fun e c=>∃G:Nat,e=E (.tuple #[.pointer (S ⟨G,0,N⟩),I Z 0])∧gY G (fun b=>w.heap.size≤b) [] a c∧Mu w.heap.size w c:=by
 have h:¬(a:Int)<1:=by omega
 have i:¬256<(a:Int):=by omega
 go_in;go_wp2;go_ret2;refine⟨w.heap.size,rfl,⟨⟨.slice N 0 0,_,_,aG _ _ _ rfl,Nl,?_,bP.nil _ _ _⟩⟩,aU⟩;intro j d;simp[Ny]at d
theorem UM {own:Nat→Prop} {l:List gT} (w:Mr) (g:gY G own l room w):Mt Y 33 #[.pointer (S ⟨G,0,N⟩)] w fun e c=>e=E (I Z (l.length:Nat))∧Mu w.heap.size w c:=by obtain⟨k,h,i,a,_,_,b⟩:=g.ex;obtain⟨m,f,rfl⟩:=b.slice;rw[kF]at*;have j:=aB a;have d:=Cw a 0;simp at d;generalize l.length=n at*;clear g a b;go_in;go_wp2;go_ret;exact⟨rfl,(by repeat first|exact Bl|assumption|refine Ka ?_|refine Ks ?_ (by first|exact Nl|simp<;>omega|omega)|refine Kd ?_|refine Kc ?_ (by assumption))⟩
theorem xg {own:Nat→Prop} {l:List gT} (w:Mr) (g:gY G own l room w):Mt Y 243 #[.pointer (S ⟨G,0,N⟩)] w fun e c=>(∃b:Int,e=E (I Z b)∧-1≤b∧b<l.length)∧Mu w.heap.size w c:=by obtain⟨n,i,j,a,_,_,b⟩:=g.ex;have d:=aA (xd w b);have k:=aB a;have f:=Cw a 0;simp at f;clear g a b;go_in;go_wp2_with fail;refine d.out.mono ?_;rintro e m ⟨⟨b,rfl,g,h⟩,a⟩;go_wp2_with fail;go_ret;exact⟨⟨b,rfl,g,h⟩,a⟩
theorem xh {own:Nat→Prop} {l:List gT} (w:Mr) (r:gY G own l room w):Mt Y 153 #[.pointer (S ⟨G,0,N⟩)] w fun e d=>(∃s,e=E s)∧gY G own [] room d∧aF own w d:=by
 obtain⟨s,h,t,a,i,j,g⟩:=r.ex;obtain⟨v,q,rfl⟩:=g.slice;rw[kF]at*;have u:=aB a;have f:=fun c=>Fw a c;have⟨k,m,o,p⟩:=eD a;simp at k m o p;have c:=aH a i;generalize l.length=n at*;clear r a g j;go_in;go_wp2;go_ret;have a:=(dY G 0 w (.slice N 0 0)).trans (dY G 3 (w.setCell ⟨G,0,N⟩ (.slice N 0 0)) (.bool false));refine⟨⟨_,rfl⟩,⟨⟨.slice N 0 0,h,false,?_,c.out.2,?_,bP.nil _ _ _⟩⟩,a.mono fun b _ g=>by subst g;exact c.out.2⟩
 ·exact Nx _ G 3 _ _ _ (Hs 0 _ c.out.1)
 ·intro j g;simp[Ny]at g
def x5 (W:Mr) (X:Nat) (x:gT):Mr:=((((W.setCell ⟨X,0,N⟩ (I Z x.s)).setCell ⟨X,1,N⟩ (I Z x.t)).setCell ⟨X,2,N⟩ (I Z x.k)).setCell ⟨X,3,N⟩ (I Z x.i)).setCell ⟨X,4,N⟩ (I Z x.f)
theorem UN (W:Mr) (X:Nat) (x:gT):aF (fun b=>b=X) W (x5 W X x):=((((dY X 0 W _).trans (dY X 1 _ _)).trans (dY X 2 _ _)).trans (dY X 3 _ _)).trans (dY X 4 _ _)
theorem C7 {X:Nat} (x:gT) {a b c d e:Ms} (f:W.heap[X]?=S (O #[a,b,c,d,e] 358)):(x5 W X x).heap[X]?=S (O #[I Z x.s,I Z x.t,I Z x.k,I Z x.i,I Z x.f] 358):=by unfold x5;rw[Nx _ X 4 _ _ _ (Nx _ X 3 _ _ _ (Nx _ X 2 _ _ _ (Nx _ X 1 _ _ _ (Hs 0 _ f))))];rfl
theorem UO {X:Nat} {own:Nat→Prop} {l:List gT} {B:Int} {C:Bool} (x:gT) {h w8:Mr} {i:Option Addr} {cap c a:Nat}
 (k:w8.ownsRow 0 358 5 (.slice (S ⟨c,0,N⟩) (l.length+1) a) (l.length+1) ((RL l).flatten++x.cells)) (g:(h.drew.alloc o).grownBy w8 (Nh i l.length cap).ownBlock)
 (f:(Nh i l.length cap).ownBlock=S c∨c=H) (M:h.heap.size≤H) (m:w8.heap[G]?=S (O #[.slice i l.length cap,I Z room,I Z B,.bool C] 128)) (J:G<w.heap.size) (P:w.heap.size≤X) (K:X<h.heap.size) (D:own G)
 (F:∀d,(Nh i l.length cap).ownBlock=S d→own d) (r:∀d,(Nh i l.length cap).ownBlock=S d→d≠G) (s:∀d,(Nh i l.length cap).ownBlock=S d→d<w.heap.size) (n:aF own w h):
 gY G (fun b=>own b∨w.heap.size≤b) (l++[x]) room (x5 (w8.setCell ⟨G,0,N⟩ (.slice (S ⟨c,0,N⟩) (l.length+1) a)) X x)∧aF own w (x5 (w8.setCell ⟨G,0,N⟩ (.slice (S ⟨c,0,N⟩) (l.length+1) a)) X x):=by
 have L:=n.size;have p:=dY G 0 w8 (.slice (S ⟨c,0,N⟩) (l.length+1) a);have j:=UN (w8.setCell ⟨G,0,N⟩ (.slice (S ⟨c,0,N⟩) (l.length+1) a)) X x
 have t:bP 358 5 (.slice (S ⟨c,0,N⟩) (l.length+1) a) (RL (l++[x])) w8:=by
  refine⟨?_,xa _⟩;have d:(RL (l++[x])).length=l.length+1:=by rw[kF];simp
  have q:(RL (l++[x])).flatten=(RL l).flatten++x.cells:=by unfold RL;rw[List.map_append,List.flatten_append];simp
  rw[d,q];exact k
 have u:c≠G:=by
  rcases f with d|d
  ·exact r c d
  ·omega
 have v:c≠X:=by
  rcases f with d|d
  ·have:=s c d;omega
  ·omega
 have y:own c∨w.heap.size≤c:=by
  rcases f with d|d
  ·exact .inl (F c d)
  ·right;omega
 have z:aC h (h.drew.alloc o):=Ka (Kd Kr);have A:aF own w w8:=((n.trans (aF.of_below z _)).grown g fun q d=>.inl (F q d));have q:∀b,(Nh (S ⟨c,0,N⟩) (l.length+1) a).ownBlock=S b→c=b:=fun b d=>by simpa[Ny]using d
 refine⟨⟨⟨_,B,C,aJ j (Hs 0 _ m) (by omega),.inl D,fun b d=>by rw[←q b d];exact y,(t.chg p fun b d e=>u ((q b d).trans e)).chg j fun b d e=>v ((q b d).trans e)⟩⟩,?_⟩;exact(A.trans (p.mono fun b _ d=>by subst d;exact D)).next j fun b d=>.inr (by omega)
def UP (G:Nat) (own:Nat→Prop) (l:List gT) (room:Nat) (w:Mr) (e:Ending) (w':Mr):Prop:=∃v l',e=E v∧gY G (fun b=>own b∨w.heap.size≤b) l' room w'∧l'.length≤room∧(l.length<room→l'.length=l.length+1)∧aF own w w'
theorem xi {own:Nat→Prop} {l:List gT} (q:l.length≤room) (h2:room≤256) (s t k i f:Int) (w:Mr) (p:gY G own l room w) (m:∀b,own b→b<w.heap.size):Mt Y 221 #[.pointer (S ⟨G,0,N⟩),.agg #[I Z s,I Z t,I Z k,I Z i,I Z f]] w (UP G own l room w):=by
 obtain⟨i0,db,dd,dg,dl⟩:=info_parts UJ;obtain⟨fg,B,lo,h,oG,n,j⟩:=p.ex;have HX:=eQ h oG n j m q;obtain⟨fl,cn,rfl⟩:=j.slice;rw[kF]at*;have hz:=aB h;have fG:=fun ad=>Fw h ad;have⟨q0,r,y,q3⟩:=eD h;simp at q0 r y q3;clear p h j n oG m;go_in;go_upto_region 3 with fail;have⟨cp,a⟩:=Ey (wrap64 (B+1));rw[a];clear a;have⟨ew,p⟩:=Ex (((w.setCell ⟨G,2,N⟩ (I Z cp)).alloc (O #[I Z B,I Z t,I Z k,I Z i,I Z f] 358)).alloc (O #[I Z 0,I Z 0,I Z 0,I Z 0,I Z 0] 358));rw[←p];have⟨h,oG,n,j,m,q⟩:=HX.out;have a:aF (fun b=>b=G) w ew:=by rw[p];exact(dY G 2 w _).trans (aF.of_below gH _)
 have dn:G<w.heap.size:=aB h;have o:ew.heap[G]?=S (O #[.slice fl l.length cn,I Z room,I Z cp,.bool lo] 128):=by rw[p,aV _ _ _ (by simp;omega),aV _ _ _ (by simp;omega),Hs 2 _ h];rfl
 have v:ew.heap[w.heap.size]?=S (O #[I Z B,I Z t,I Z k,I Z i,I Z f] 358):=by rw[p,aV _ _ _ (by simp)];exact aG _ _ _ (by simp)
 have x:ew.heap[w.heap.size+1]?=S (O #[I Z 0,I Z 0,I Z 0,I Z 0,I Z 0] 358):=by rw[p];exact aG _ _ _ (by simp)
 have g:∀d,(Nh fl l.length cn).ownBlock=S d→d≠G:=fun d c e=>by subst e;exact mR (j.row c) h (by decide)
 have u:bP 358 5 (.slice fl l.length cn) (RL l) ew:=j.chg a fun d c e=>g d c e;have d:gY G own l room ew:=⟨⟨_,cp,lo,o,oG,n,u⟩⟩;have z:=bT d a v x;clear h n j m q a g u d q0 r y q3 hz fG p;have hz:=aB o;have⟨q0,r⟩:=bQ o;simp at q0 r;clear o v x;refine bS (by kernel_rfl) (by kernel_rfl) ?_
 repeat
  with_reducible refine Mz fun K d=>?_
  go_simp
  try first
   |(apply Ei
     intro c a;obtain⟨g,h⟩:=a.cells;go_simp
     rfl)
   |(with_reducible refine aQ ?_ ?_;first|decide|simp[Mv];done)
  refine d _ ?_;clear d K
 with_reducible refine Na ?_
 intro w2 g;have⟨d,a,v,x⟩:=z.out;have hL:=d.keeps g;have u:aF own w w2:=(a.mono fun b _ c=>by subst c;exact oG).trans (aF.of_below g _);have C:=aE g v;have R:=aE g x;clear d a v x q0 r hz z g;by_cases bz:l.length=room
 ·have hf:((l.length:Int)==(room:Int))=true:=by simp;omega
  rw[hf];obtain⟨vv,cc,cu,a,y,n,j⟩:=hL.ex;obtain⟨Q,m,rfl⟩:=j.slice;rw[kF]at*;have hz:=aB a;have fG:=fun ad=>Fw a ad;have q3:=Cw a 3;simp at q3;have g:∀d,(Nh Q l.length m).ownBlock=S d→d≠G:=fun d c e=>by subst e;exact mR (j.row c) a (by decide)
  have ae:=dY G 3 w2 (.bool true);have T:gY G own l room (w2.setCell ⟨G,3,N⟩ (.bool true)):=⟨⟨_,cc,true,(Hs 3 _ a),y,n,j.chg ae fun d c e=>g d c e⟩⟩;have an:=aJ ae C (by omega);have ar:=aJ ae R (by omega);have D:=u.trans (ae.mono fun b _ c=>by subst c;exact y);clear a j g;go_wp2_with fail;have HF:=bT T D an ar;have ds:=aA (xg _ T);clear T D an ar q3 fG hz ae C R u;refine ds.out.mono ?_;rintro e w4 ⟨⟨fm,rfl,ex,dz⟩,av⟩;have⟨T,D,an,ar⟩:=HF.out;have ba:=T.keeps av;have M:=aE av an;have bb:=aE av ar;have bd:aF own w w4:=D.trans (aF.of_below av _);have ea:=bT ba bd M bb;have cd:=aB M;have⟨b0,b1,b2,b3,b4⟩:=gZ M;simp at b0 b1 b2 b3 b4;clear HF ds T D an ar ba bd M bb av;go_wp2_with fail;refine(UL B t k i f w4).mono ?_;rintro e w5 ⟨rfl,bm⟩;clear b0 b1 b2 b3 b4 cd;have⟨ba,bd,M,bb⟩:=ea.out;have z:=ba.keeps bm;have x:=aE bm M;have r:=aE bm bb;have A:aF own w w5:=bd.trans (aF.of_below bm _);have bn:=bT z A x r;clear ea ba bd M bb bm;have cf:=aA bz;have HI:=aA dz;clear bz hf dz;obtain⟨kb,eb⟩:∃kb:Bool,(k==2)=kb:=⟨_,rfl⟩;rw[eb];by_cases ck:kb=false∨fm<0
  ·have cd:=aB x
   have ec:=aB r;have fx:=fun ad=>Fw r ad;have⟨b0,b1,b2,b3,b4⟩:=gZ x;simp at b0 b1 b2 b3 b4;have⟨x0,x1,x2,x3,x4⟩:=gZ r;simp at x0 x1 x2 x3 x4;have ed:¬w.heap.size=G:=by omega
   have cm:¬w.heap.size+1=G:=by omega
   have q:¬w.heap.size=w.heap.size+1:=by omega
   have u:¬w.heap.size+1=w.heap.size:=by omega
   clear z A x r;have d:∀W,W=x5 w5 (w.heap.size+1) ⟨B,t,k,i,f⟩→∃fg a,Ending.returned fg=E fg∧gY G (fun b=>own b∨w.heap.size≤b) a room W∧a.length≤room∧(l.length<room→a.length=l.length+1)∧aF own w W:=fun W j=>by have⟨z,A,x,r⟩:=bn.out;have g:=UN w5 (w.heap.size+1) ⟨B,t,k,i,f⟩;rw[j];have o:=cf.out;refine⟨.bool false,l,rfl,(z.same fun b c h=>⟨g.block b c fun e=>by have:=HX.out.2.2.2.2.1 _ h;omega,h⟩).mono (fun b p=>.inl p),by omega,fun p=>by omega,A.next g fun b c=>.inr (by omega)⟩
   rcases ck with o|o
   ·rw[o];go_wp2_with fail;have⟨z,A,x,r⟩:=bn.out;obtain⟨_,a,_,c,g,h,j⟩:=d _ rfl;refine My (lin.iF results221 _ _ (w.heap.size+1) 358 _ (0,0) _ rfl (C7 ⟨B,t,k,i,f⟩ r) underlying358 rfl (by kernel_rfl)) rfl ⟨_,a,rfl,c,g,h,j⟩
   ·cases kb;all_goals go_wp2_with fail;have⟨z,A,x,r⟩:=bn.out;obtain⟨_,a,_,c,g,h,j⟩:=d _ rfl;refine My (lin.iF results221 _ _ (w.heap.size+1) 358 _ (0,0) _ rfl (C7 ⟨B,t,k,i,f⟩ r) underlying358 rfl (by kernel_rfl)) rfl ⟨_,a,rfl,c,g,h,j⟩
  ·obtain⟨ee,em⟩:kb=true∧¬fm<0:=⟨by cases kb;exact absurd (Or.inl rfl) ck;rfl,fun p=>ck (.inr p)⟩
   rw[ee];obtain⟨ad,rfl⟩:=Int.eq_ofNat_of_zero_le (show 0≤fm by omega);have hj:ad<l.length:=by have:=HI.out;omega
   obtain⟨vv,cc,cu,a,y,n,j⟩:=z.ex;obtain⟨Q,m,rfl⟩:=j.slice;rw[kF]at*;have hz:=aB a;have en:(ad:Int)+1≤1000:=by have:=cf.out;omega
   have eo:=aH (IntWalk.wrap64_in ((ad:Int)+1) ⟨by omega,by omega⟩) (IntWalk.i64_in ((ad:Int)+1) ⟨by omega,by omega⟩);have HD:=aA (wy ad (ad+1) rfl (by rw[kF];exact hj) (wz l) w5 j);rw[UK]at HD;replace HD:Hid (Mt Y 245 #[.slice Q l.length m,I Z (ad:Nat),I Z ((ad:Int)+1)] w5 fun e c=>∃d,e=E d∧bP 358 5 d (RL (l.eraseIdx ad)) c∧d.ownBlock=(Nh Q l.length m).ownBlock∧aF (fun b=>(Nh Q l.length m).ownBlock=S b) w5 c):=HD;have g:∀d,(Nh Q l.length m).ownBlock=S d→d≠G:=fun d c e=>by subst e;exact mR (j.row c) a (by decide)
   have h:∀d,(Nh Q l.length m).ownBlock=S d→d<w.heap.size:=fun d c=>HX.out.2.2.2.2.1 _ (n d c);have ef:=eP a y n g h;have q0:=Cw a 0;simp at q0;clear a n j g h z A x r ck eb;have⟨e9,ep⟩:=eo.out;go_wp2_with fail;clear e9 ep;refine HD.out.mono ?_;rintro e w6 ⟨v6,rfl,U,cv,br⟩;have⟨a,y,n,g,h⟩:=ef.out;have⟨z,A,x,r⟩:=bn.out;have p:=aJ br a fun e=>g G e rfl;have bs:=aJ br x (fun e=>by have:=h _ e;omega);have bv:=aJ br r (fun e=>by have:=h _ e;omega);obtain⟨a6,c6,rfl⟩:=U.slice;have eg:=aB p;have hz:=eg;have er:=fun ad=>Fw p ad;have bw:∀d,(Nh a6 (RL (l.eraseIdx ad)).length c6).ownBlock=S d→own d:=fun d c=>n d (by rw[←cv];exact c);have F:∀d,(Nh a6 (RL (l.eraseIdx ad)).length c6).ownBlock=S d→d≠G:=fun d c=>g d (by rw[←cv];exact c);have H:aF own w w6:=A.trans (br.mono fun b _ c=>n b c);have cx:(l.eraseIdx ad).length+1=l.length:=by rw[List.length_eraseIdx,Fp hj];omega
   have H6:=nF p bs bv U bw F H;have q0:=Cw p 0;simp at q0;clear a n g h z A x r p bs bv U bw F H cv br HD ef bn;go_wp2_with fail;have⟨p,bs,bv,U,bw,F,H⟩:=H6.out;clear q0 er hz eg;obtain⟨bx,V⟩:∃W,W=w6.setCell ⟨G,0,N⟩ (.slice a6 (RL (l.eraseIdx ad)).length c6):=⟨_,rfl⟩;rw[←V];have aa:=dY G 0 w6 (.slice a6 (RL (l.eraseIdx ad)).length c6);rw[←V]at aa;have hL:gY G own (l.eraseIdx ad) room bx:=⟨⟨_,cc,cu,by rw[V];exact Hs 0 _ p,y,bw,U.chg aa fun d c e=>F d c e⟩⟩;have C:=aJ aa bs (by omega);have R:=aJ aa bv (by omega);have u:aF own w bx:=H.trans (aa.mono fun b _ c=>by subst c;exact y);have cz:(l.eraseIdx ad).length<room:=by have:=cf.out;omega
   have eh:=aH cx cz;generalize es:l.eraseIdx ad=l2 at hL cx cz eh;have ev:l2.length≤255:=by omega
   clear es cx cz hj en;clear V aa p bs bv U bw F H H6 y ee em;obtain⟨vv,ez,ff,a,y,n,j⟩:=hL.ex;obtain⟨cl,ab,rfl⟩:=j.slice;rw[kF]at*;have hz:=aB a;have cd:=aB C;have ec:=aB R;have g:∀d,(Nh cl l2.length ab).ownBlock=S d→d≠G:=fun d c e=>by subst e;exact mR (j.row c) a (by decide)
   have h:∀d,(Nh cl l2.length ab).ownBlock=S d→d<w.heap.size:=fun d c=>HX.out.2.2.2.2.1 _ (n d c);have J:bx.ownsRow 0 358 5 (.slice cl l2.length ab) l2.length (RL l2).flatten:=by have:=j.own;rw[kF]at this;exact this
   have HR:=nF a y n j g u h;have e0:=Cw a 0;have⟨e1,e2,e3,e4,e5⟩:=gZ C;simp at e0 e1 e2 e3 e4 e5
   go_region_law (first|(refine step_append_lies _ (by rfl) (.tmp 57) (.tmp 59) 126 (by rfl) 0 358 i0 _ 5 40 underlying126 db dd dg dl (by rfl) (by decide) (.slice cl l2.length ab) l2.length (RL l2).flatten (by rfl) ((J.alloc _).drew) ⟨bx.heap.size,0,N⟩ 1 1 [I Z B,I Z t,I Z k,I Z i,I Z f] (by rfl) (by rfl) (Mr.news_of_block (heap_alloc_new bx _)) (by simp[Ni]) (by decide) (by unfold maxLen;omega) (by omega) (Ns _) _ rfl ?_;intro g8 ei w8 o c v L;have d:=eS c ((aV _ _ _ (aB a)).trans a) fun e=>g G e.symm rfl;have P:=eS c ((aV _ _ _ (aB C)).trans C) (fun e=>by have:=h _ e.symm;omega);have q:=eS c ((aV _ _ _ (aB R)).trans R) (fun e=>by have:=h _ e.symm;omega);have f8:=Fw d 0;have r8:=Cw d 0;simp at r8))
   all_goals
    have⟨a,y,n,j,g,u,h⟩:=HR.out;have et:=aB d;have ek:=aB P;have el:=aB q;have fx:=fun ad=>Fw q ad;have⟨b0,b1,b2,b3,b4⟩:=gZ P;simp at b0 b1 b2 b3 b4;have⟨x0,x1,x2,x3,x4⟩:=gZ q;simp at x0 x1 x2 x3 x4;have HZ:=eQ o c v L d q;have ed:¬w.heap.size=G:=by omega
    have cm:¬w.heap.size+1=G:=by omega
    clear o c v d P q a n j g u h e0 e1 e2 e3 e4 e5 J R;clear C;go_wp2_with fail;have⟨o,c,v,L,d,q⟩:=HZ.out;have⟨a,y,n,j,g,u,h⟩:=HR.out;have hp:=UO (X:=w.heap.size+1) ⟨B,t,k,i,f⟩ o c v (by simp) d dn (by omega) (by omega) y n g h u;refine My (lin.iF results221 _ _ (w.heap.size+1) 358 _ (0,0) _ rfl (C7 ⟨B,t,k,i,f⟩ (aJ (dY G 0 w8 _) q (by omega))) underlying358 rfl (by kernel_rfl)) rfl ⟨_,l2++[⟨B,t,k,i,f⟩],rfl,hp.1,by rw[Nr];have:=eh.out.2;simp;omega,fun p=>by have:=cf.out;omega,hp.2⟩
 ·have hf:((l.length:Int)==(room:Int))=false:=by simp;omega
  rw[hf];go_wp2_with fail;obtain⟨vv,cc,cu,a,y,n,j⟩:=hL.ex;obtain⟨Q,m,rfl⟩:=j.slice;rw[kF]at*;have hz:=aB a;have cd:=aB C;have ec:=aB R;have g:∀d,(Nh Q l.length m).ownBlock=S d→d≠G:=fun d c e=>by subst e;exact mR (j.row c) a (by decide)
  have h:∀d,(Nh Q l.length m).ownBlock=S d→d<w.heap.size:=fun d c=>HX.out.2.2.2.2.1 _ (n d c);have J:w2.ownsRow 0 358 5 (.slice Q l.length m) l.length (RL l).flatten:=by have:=j.own;rw[kF]at this;exact this
  have HR:=nF a y n j g u h;have e0:=Cw a 0;have⟨e1,e2,e3,e4,e5⟩:=gZ C;simp at e0 e1 e2 e3 e4 e5
  go_region_law (first|(refine step_append_lies _ (by rfl) (.tmp 57) (.tmp 59) 126 (by rfl) 0 358 i0 _ 5 40 underlying126 db dd dg dl (by rfl) (by decide) (.slice Q l.length m) l.length (RL l).flatten (by rfl) ((J.alloc _).drew) ⟨w2.heap.size,0,N⟩ 1 1 [I Z B,I Z t,I Z k,I Z i,I Z f] (by rfl) (by rfl) (Mr.news_of_block (heap_alloc_new w2 _)) (by simp[Ni]) (by decide) (by unfold maxLen;omega) (by omega) (Ns _) _ rfl ?_;intro g8 ei w8 o c v L;have d:=eS c ((aV _ _ _ (aB a)).trans a) fun e=>g G e.symm rfl;have P:=eS c ((aV _ _ _ (aB C)).trans C) (fun e=>by have:=h _ e.symm;omega);have q:=eS c ((aV _ _ _ (aB R)).trans R) (fun e=>by have:=h _ e.symm;omega);have f8:=Fw d 0;have r8:=Cw d 0;simp at r8))
  all_goals
   have⟨a,y,n,j,g,u,h⟩:=HR.out;have et:=aB d;have ek:=aB P;have el:=aB q;have fx:=fun ad=>Fw q ad;have⟨b0,b1,b2,b3,b4⟩:=gZ P;simp at b0 b1 b2 b3 b4;have⟨x0,x1,x2,x3,x4⟩:=gZ q;simp at x0 x1 x2 x3 x4;have HZ:=eQ o c v L d q;have ed:¬w.heap.size=G:=by omega
   have cm:¬w.heap.size+1=G:=by omega
   clear o c v d P q a n j g u h e0 e1 e2 e3 e4 e5 J R;clear C;go_wp2_with fail;have⟨o,c,v,L,d,q⟩:=HZ.out;have⟨a,y,n,j,g,u,h⟩:=HR.out;have hp:=UO (X:=w.heap.size+1) ⟨B,t,k,i,f⟩ o c v (by simp) d dn (by omega) (by omega) y n g h u;refine My (lin.iF results221 _ _ (w.heap.size+1) 358 _ (0,0) _ rfl (C7 ⟨B,t,k,i,f⟩ (aJ (dY G 0 w8 _) q (by omega))) underlying358 rfl (by kernel_rfl)) rfl ⟨_,l++[⟨B,t,k,i,f⟩],rfl,hp.1,by rw[Nr];simp;omega,fun p=>by first|(rw[Nr];rfl)|omega,hp.2⟩
theorem xj {own:Nat→Prop} {l:List gT} (d:l.length≤room) (c:room≤256) (s t k i f:Int) (w:Mr) (o:gY G own l room w):Mt Y 221 #[.pointer (S ⟨G,0,N⟩),.agg #[I Z s,I Z t,I Z k,I Z i,I Z f]] w (UP G own l room w):=by refine(xi d c s t k i f w o.tight fun b a=>a.2).mono ?_;rintro e p ⟨q,g,h,c,j,m,n⟩;exact⟨q,g,h,c.mono fun b a=>a.imp (fun o=>o.1) id,j,m,n.mono fun b _ a=>a.1⟩
theorem xm {s c:Int} (h:mN r s b d c way res=true):dA (mO r s b d c way res):=by
 have e:=eM h;have f:=(eE e.1).1;have i:=cM f;have j:=nL f;refine⟨h,?_,?_,?_,Int.le_refl _,e.2.1,Int.le_refl _,?_,?_,?_⟩
 ·show(((Nf _).map Int.ofNat).length:Int)=cU r s b d c-res;rw[Np,List.length_range];omega
 ·show((Nd _ false).length:Int)=cU r s b d c;rw[List.length_replicate];omega
 ·show((Nd r.toNat (-1:Int)).length:Int)=r;rw[List.length_replicate];omega
 ·show 0≤s;omega
 ·intro g a
  have a:g<((Nf (cU r s b d c-res).toNat).map Int.ofNat).length:=a;rw[Np,List.length_range]at a;show 0≤((Nf (cU r s b d c-res).toNat).map Int.ofNat).getD g 0∧((Nf (cU r s b d c-res).toNat).map Int.ofNat).getD g 0<cU r s b d c-res+0;have:((Nf (cU r s b d c-res).toNat).map Int.ofNat).getD g 0=(g:Int):=by rw[Mx,Of,List.getElem?_range a];rfl
  rw[this];omega
 ·intro g a;left;have a:g<(Nd r.toNat (-1:Int)).length:=a;show(Nd r.toNat (-1:Int)).getD g 0=-1;rw[Mx,Nn a,List.getElem_replicate];rfl
theorem UQ (a:i<n):((Nf n).map Int.ofNat).getD i 0=(i:Int):=by rw[Mx,Of,List.getElem?_range a];rfl
theorem xn {s c:Int} (l:mN r s b d c way res=true):cV ⟨mO r s b d c way res,0,0,0,0⟩:=by
 have i:∀j,(mO r s b d c way res).deadB j=false:=fun j=>by unfold aR.deadB mO;simp[Mx,List.getElem?_replicate];intro _;split<;>rfl
 have h:(mO r s b d c way res).lives.length=(cU r s b d c-res).toNat:=by simp[mO]
 refine⟨xm l,.inl ⟨rfl,rfl,rfl,rfl⟩,fun e=>absurd rfl e,fun j e=>?_,fun e=>absurd e (by decide:¬(0:Int)=1),fun e=>absurd e (by decide:¬(0:Int)=2),?_,fun k _=>i _,?_,fun e=>absurd e (by decide:¬(0:Int)=1)⟩
 ·have e:(mO r s b d c way res).deadB j=true:=e;rw[i]at e;cases e
 ·intro k j a g e;have a:k<(mO r s b d c way res).lives.length:=a;have g:j<(mO r s b d c way res).lives.length:=g;rw[h]at a g;have e:((Nf (cU r s b d c-res).toNat).map Int.ofNat).getD k 0=((Nf (cU r s b d c-res).toNat).map Int.ofNat).getD j 0:=e;rw[UQ a,UQ g]at e;omega
 ·intro k j a g _ f;exfalso;have a:k<(Nd r.toNat (-1:Int)).length:=a;have f:(Nd r.toNat (-1:Int)).getD k 0≠-1:=f;rw[Mx,Nn a,List.getElem_replicate]at f;exact f rfl
theorem xp {s c:Int} (g:mN r s b d c way res=true) (w:Mr):Mt Y 123 #[.agg #[I Z r,I Z s,I Z b,I Z d,I Z c,I Z way,I Z res]] w fun e a=>∃f:dH,e=E (.tuple #[f.ar,I Z 0])∧dE f ⟨mO r s b d c way res,0,0,0,0⟩ a∧aC w a∧∀o,f.own o→w.heap.size≤o:=by
 have i:=aA fun w=>np g w;clear g;go_in;go_wp2_with fail;refine(i.out _).mono ?_;rintro e j ⟨B,A,C,D,rfl,k,h,p,q,b3,t⟩;go_wp2_with fail;refine(px _).mono ?_;rintro e l ⟨F,Q,rfl,m,a,u,v⟩;go_wp2_with fail;go_ret2;have f:aC w j:=aK aU h;have g:=aK f a;have x:=f.size;have y:=g.size;have z:w.heap.size+1=(w.alloc (O #[I Z r,I Z s,I Z b,I Z d,I Z c,I Z way,I Z res] 25)).heap.size:=by simp
 refine⟨⟨l.heap.size,B,A,C,D,F,Q⟩,rfl,⟨aG _ _ _ rfl,(k.keeps a).keeps aU,0,m.keeps aU⟩,Ka g,?_⟩;intro o n;rcases n with rfl|rfl|rfl|rfl|rfl|rfl|rfl<;>first|omega|(simp only[];omega)
end
section
open Go.RowKit Go.Shelf
structure aS (K:Nat→Prop) (col:Nat→Nat) (w:Mr) (col':Nat→Nat) (w':Mr):Prop where
 old:∀b,b<w.heap.size→col' b=col b
 chg:aF (fun b=>K (col b)) w w'
theorem aS.refl {K:Nat→Prop} {col:Nat→Nat}:aS K col w col w:=⟨fun _ _=>rfl,Cl⟩
theorem aS.size {K:Nat→Prop} {col a:Nat→Nat} (b:aS K col w a w'):w.heap.size≤w'.heap.size:=b.chg.size
theorem aS.keeps {K:Nat→Prop} {col:Nat→Nat} (a:aC w w'):aS K col w col w':=⟨fun _ _=>rfl,aF.of_below a _⟩
theorem aS.trans {K:Nat→Prop} {d c1 c2:Nat→Nat} {w0:Mr} (e:aS K d w0 c1 w1) (g:aS K c1 w1 c2 w2):aS K d w0 c2 w2:=by
 refine⟨fun b a=>(g.old b (Nj a e.size)).trans (e.old b a),?_⟩;refine e.chg.next g.chg fun b a=>?_;by_cases c:b<w0.heap.size
 ·left;rw[←e.old b c];exact a
 ·right;omega
theorem aS.mono {K K':Nat→Prop} {c a:Nat→Nat} (f:aS K c w a w') (d:∀e,K e→K' e):aS K' c w a w':=⟨f.old,f.chg.mono fun b _ e=>d _ e⟩
theorem aS.at {K:Nat→Prop} {c a:Nat→Nat} {b:Nat} (f:aS K c w a w') (d:w.heap[b]?=S o) (e:¬K (c b)):w'.heap[b]?=S o:=aJ f.chg d e
theorem aS.loc {K:Nat→Prop} {a c:Nat→Nat} {w0:Mr} (e:aS K a w0 c w) (l:Nat) (f:w0.heap.size≤l) (d:aF (fun b=>b=l) w w'):aS K a w0 c w':=⟨e.old,e.chg.next d fun b g=>.inr (by omega)⟩
def fX (col:Nat→Nat) (n m k:Nat):Nat→Nat:=fun b=>if b<n then col b else if b<m then k else 0
theorem nV {col:Nat→Nat} {m b:Nat} (a:b<n):fX col n m k b=col b:=by unfold fX;rw[Fp a]
theorem xT {col:Nat→Nat} {m b:Nat} (c:n≤b) (a:b<m):fX col n m k b=k:=by unfold fX;rw[Fn (by omega),Fp a]
theorem xV {col:Nat→Nat} {m b:Nat} (c:n≤b) (a:m≤b):fX col n m k b=0:=by unfold fX;rw[Fn (by omega),Fn (by omega)]
theorem aS.up {K:Nat→Prop} {col:Nat→Nat} (a:aF (fun b=>K (col b)) w w') (m k:Nat):aS K col w (fX col w.heap.size m k) w':=⟨fun b c=>nV c,a⟩
structure aY where
 r:Int
 s:Int
 b:Int
 d:Int
 c:Int
 way:Int
 res:Int
 m:Int
 rl:Int
 re:Int
 pl:Int
 pe:Int
 room:Nat
 hv:Int
 logn:Nat
 back:Bool
structure lE (x:aY):Prop where
 lay:mN x.r x.s x.b x.d x.c x.way x.res=true
 mode:fN x.m=true
 rules:tQ x.rl x.re x.pl x.pe x.room x.hv=true
 l1:1≤x.logn
 l2:x.logn≤256
structure bH where
 c:aY
 rp:aW
 tk:dU
 lg:List gT
 time:Int
structure eU (s:bH):Prop where
 c:lE s.c
 rp:cV s.rp
 tk:mS s.tk
 lg:s.lg.length≤s.c.logn
 geo:s.rp.t.r=s.c.r∧s.rp.t.s=s.c.s∧s.rp.t.b=s.c.b∧s.rp.t.d=s.c.d∧s.rp.t.c=s.c.c∧s.rp.t.way=s.c.way∧s.rp.t.res=s.c.res
 rul:s.tk.rl=s.c.rl∧s.tk.re=s.c.re∧s.tk.pl=s.c.pl∧s.tk.pe=s.c.pe∧s.tk.room=s.c.room∧s.tk.hv=s.c.hv
 rk:(s.tk.rk.length:Int)=s.c.r
structure fD where
 L:Nat
 K:Nat
 G:Nat
 p:dH
def bH.row (s:bH) (q:fD):Array Ms:=#[I Z s.c.r,I Z s.c.s,I Z s.c.b,I Z s.c.d,I Z s.c.c,I Z s.c.way,I Z s.c.res,I Z s.c.m,I Z s.c.rl,I Z s.c.re,I Z s.c.pl,I Z s.c.pe,I Z s.c.room,I Z s.c.hv,I Z s.c.logn,.bool s.c.back,q.p.ar,.pointer (S ⟨q.K,0,N⟩),.pointer (S ⟨q.G,0,N⟩),I Z s.time]
structure dV (q:fD) (col:Nat→Nat) (s:bH) (W:Mr):Prop where
 row:W.heap[q.L]?=S (O (s.row q) 109)
 cL:col q.L=1
 rep:dE q.p s.rp W
 cR:∀b,q.p.own b→col b=2
 trk:gX q.K (fun b=>col b=3) s.tk W
 log:gY q.G (fun b=>col b=4) s.lg s.c.logn W
 top:∀b,W.heap.size≤b→col b=0
theorem dV.same {q:fD} {col d:Nat→Nat} {s:bH} (f:dV q col s W) (e:∀b,b<W.heap.size→1≤col b→col b≤4→W'.heap[b]?=W.heap[b]?∧d b=col b) (i:∀b,W'.heap.size≤b→d b=0):dV q d s W':=by
 have g:=e q.L (aB f.row) (by rw[f.cL];decide) (by rw[f.cL];decide);have h:=fun b a=>e b (f.rep.lt a) (by rw[f.cR b a];decide) (by rw[f.cR b a];decide);refine⟨g.1.trans f.row,g.2.trans f.cL,f.rep.same fun b a=>(h b a).1,fun b a=>(h b a).2.trans (f.cR b a),f.trk.same fun b a c=>?_,f.log.same fun b a c=>?_,i⟩
 ·have c:col b=3:=c;have:=e b a (by rw[c];decide) (by rw[c];decide);exact⟨this.1,this.2.trans c⟩
 ·have c:col b=4:=c;have:=e b a (by rw[c];decide) (by rw[c];decide);exact⟨this.1,this.2.trans c⟩
theorem dV.chg {q:fD} {col:Nat→Nat} {s:bH} (h:dV q col s W) (c:aF cw W W') (d:∀b,cw b→¬(1≤col b∧col b≤4)):dV q col s W':=h.same (fun b a e f=>⟨c.block b a fun g=>d b g ⟨e,f⟩,rfl⟩) fun b a=>h.top b (Ng c.size a)
theorem dV.keeps {q:fD} {col:Nat→Nat} {s:bH} (b:dV q col s W) (a:aC W W'):dV q col s W':=b.chg (aF.of_below a fun _=>False) fun _ b=>b.elim
theorem dV.setLog {q:fD} {col:Nat→Nat} {s:bH} {l:List gT} (e:dV q col s W) (i:gY q.G (fun b=>col b=4∨W.heap.size≤b) l s.c.logn W') (d:aF (fun b=>col b=4) W W'):dV q (fX col W.heap.size W'.heap.size 4) {s with lg:=l} W'∧aS (fun a=>a=4) col W (fX col W.heap.size W'.heap.size 4) W':=by
 have f:∀b a,col b=a→a≠4→¬col b=4:=fun b a e c g=>c (e.symm.trans g);have g:=aB e.row;refine⟨⟨aJ d e.row (f _ _ e.cL (by decide)),(nV g).trans e.cL,e.rep.chg d fun b a=>f _ _ (e.cR b a) (by decide),fun b a=>(nV (e.rep.lt a)).trans (e.cR b a),e.trk.same fun b a c=>⟨d.block b a (f _ _ c (by decide)),(nV a).trans c⟩,i.same fun b a c=>⟨rfl,?_⟩,fun b a=>xV (Ng d.size a) a⟩,aS.up d _ _⟩;by_cases h:b<W.heap.size
 ·rw[nV h];rcases c with c|c
  ·exact c
  ·omega
 ·exact xT (by omega) a
theorem dV.setTrk {q:fD} {col:Nat→Nat} {s:bH} {t:dU} (e:dV q col s W) (i:gX q.K (fun b=>col b=3∨W.heap.size≤b) t W') (d:aF (fun b=>col b=3) W W'):dV q (fX col W.heap.size W'.heap.size 3) {s with tk:=t} W'∧aS (fun a=>a=3) col W (fX col W.heap.size W'.heap.size 3) W':=by
 have f:∀b a,col b=a→a≠3→¬col b=3:=fun b a e c g=>c (e.symm.trans g);have g:=aB e.row;refine⟨⟨aJ d e.row (f _ _ e.cL (by decide)),(nV g).trans e.cL,e.rep.chg d fun b a=>f _ _ (e.cR b a) (by decide),fun b a=>(nV (e.rep.lt a)).trans (e.cR b a),i.same fun b a c=>⟨rfl,?_⟩,e.log.same fun b a c=>⟨d.block b a (f _ _ c (by decide)),(nV a).trans c⟩,fun b a=>xV (Ng d.size a) a⟩,aS.up d _ _⟩;by_cases h:b<W.heap.size
 ·rw[nV h];rcases c with c|c
  ·exact c
  ·omega
 ·exact xT (by omega) a
theorem dV.setRep {q:fD} {col:Nat→Nat} {s:bH} {y:aW} (f:dV q col s W) (h:dE q.p y W') (g:aF q.p.own W W'):dV q col {s with rp:=y} W'∧aS (fun c=>c=2) col W col W':=by have a:aF (fun b=>col b=2) W W':=g.mono fun b _ c=>f.cR b c;have e:∀b c,col b=c→c≠2→¬col b=2:=fun b c f d i=>d (f.symm.trans i);exact⟨⟨aJ a f.row (e _ _ f.cL (by decide)),f.cL,h,f.cR,f.trk.same fun b c d=>⟨a.block b c (e _ _ d (by decide)),d⟩,f.log.same fun b c d=>⟨a.block b c (e _ _ d (by decide)),d⟩,fun b c=>f.top b (Ng g.size c)⟩,⟨fun _ _=>rfl,a⟩⟩
theorem dV.setTime {q:fD} {col:Nat→Nat} {s:bH} (e:dV q col s W) (x:Int):dV q col {s with time:=x} (W.setCell ⟨q.L,19,N⟩ (I Z x))∧aS (fun a=>a=1) col W col (W.setCell ⟨q.L,19,N⟩ (I Z x)):=by have g:=dY q.L 19 W (I Z x);have c:aF (fun b=>col b=1) W (W.setCell ⟨q.L,19,N⟩ (I Z x)):=g.mono (fun b _ a=>by subst a;exact e.cL);have f:∀b a,col b=a→a≠1→¬col b=1:=fun b a e d h=>d (e.symm.trans h);exact⟨⟨Hs 19 _ e.row,e.cL,e.rep.chg c fun b a=>f _ _ (e.cR b a) (by decide),e.cR,e.trk.same fun b a d=>⟨c.block b a (f _ _ d (by decide)),d⟩,e.log.same fun b a d=>⟨c.block b a (f _ _ d (by decide)),d⟩,fun b a=>e.top b (Ng g.size a)⟩,⟨fun _ _=>rfl,c⟩⟩
def KL (k:Nat):Prop:=1≤k∧k≤4
theorem KL.of (a:1≤i) (b:i≤4) (c:k=i):KL k:=by subst c;exact⟨a,b⟩
def lF (q:fD) (s:bH) (col:Nat→Nat) (w:Mr) (R:bH→Prop) (e:Ending) (w':Mr):Prop:=∃v col' s',e=E v∧dV q col' s' w'∧eU s'∧aS KL col w col' w'∧R s'
abbrev fD.ar (q:fD):Ms:=.pointer (S ⟨q.L,0,N⟩)
theorem eU.withLog {s:bH} (a:eU s) {l:List gT} (b:l.length≤s.c.logn):eU {s with lg:=l}:=⟨a.c,a.rp,a.tk,b,a.geo,a.rul,a.rk⟩
theorem eU.withTime {s:bH} (a:eU s) (x:Int):eU {s with time:=x}:=⟨a.c,a.rp,a.tk,a.lg,a.geo,a.rul,a.rk⟩
theorem eU.withTrk {s:bH} (a:eU s) {t:dU} (b:mS t) (c:BW s.tk t):eU {s with tk:=t}:=by obtain⟨d,e,f,g,h,i,j⟩:=c;obtain⟨c,k,l,m,n,o⟩:=a.rul;exact⟨a.c,a.rp,b,a.lg,a.geo,⟨e.trans c,f.trans k,g.trans l,h.trans m,i.trans n,j.trans o⟩,by show(t.rk.length:Int)=_;rw[d];exact a.rk⟩
end
section
open Go.RowKit Go.Shelf
attribute [local go_sem] Oper.semAt_some cK
def M4 (s s':bH):Prop:=∃l,s'={s with lg:=l}∧(s.lg.length<s.c.logn→l.length=s.lg.length+1)
theorem wI {q:fD} {col:Nat→Nat} {s:bH} (ok:eU s) (k i f:Int) (w:Mr) (h:dV q col s w):Mt Y 194 #[q.ar,I Z k,I Z i,I Z f] w (lF q s col w (M4 s)):=by
 have a:=h.row;have j:=aB a;unfold bH.row at a;have⟨b,c⟩:=iO a 18 19;simp at b c;have d:=aA fun W (g:aC w W) k i f t=>xj ok.lg ok.c.l2 0 t k i f W (h.keeps g).log;have m:=aH h ok;unfold fD.ar;clear h ok a;go_in;go_wp2_with fail;refine eK (by kernel_rfl) (iK [0,1,2,3,4,5,6,7,8,9,10,11] [] [12] (by kernel_rfl) ?_);simp only[aM,d8]
 repeat
  with_reducible refine dS fun K g=>?_
  go_simp
  try first
   |(apply Ei
     intro o a;obtain⟨h,n⟩:=a.cells;go_simp
     rfl)
   |(with_reducible refine aQ ?_ ?_;first|decide|simp[Mv];done)
  refine g _ ?_;clear g K
 with_reducible refine dR ?_
 refine iJ fun n a=>?_;have o:=aA fun k i f t=>d.out n a k i f t;have g:=aA a;clear d a b c j;go_wp2_with fail;refine(o.out _ _ _ _).mono ?_;rintro e u ⟨v,l,rfl,b,c,d,j⟩;go_wp2_with fail;refine dT ?_;go_wp2_with fail;refine bodyPost_end (Nw rfl _ _ _) rfl ?_;have⟨h,ok⟩:=m.out;obtain⟨p,a⟩:=(h.keeps g.out).setLog b j;exact⟨_,_,_,rfl,p,ok.withLog c,(aS.keeps g.out).trans (a.mono fun k r=>KL.of (by decide) (by decide) r),l,rfl,d⟩
def tS (t:aR) (k:Int):Int:=if bel k (cU t.r t.s t.b t.d t.c)=true then t.lie k else 0
def M5 (t:aR) (k:Int):Int:=if bel k (cU t.r t.s t.b t.d t.c)=true then 0 else 12
theorem xq (ok:dA t) (k:Int):0≤tS t k∧tS t k<131072:=by
 unfold tS;split
 ·rename_i a;obtain⟨b,c⟩:=eB a;exact RT ok b
 ·omega
theorem xr {S:Nat} (ok:dA t) (k:Int) (w:Mr) (d:cJ B L D S t w):Mt Y 163 #[.pointer (some ⟨B,0,N⟩),I Z k] w fun e a=>e=E (.tuple #[I Z (tS t k),I Z (M5 t k)])∧Mu w.heap.size w a:=by
 unfold tS M5;cases a:bel k (cU t.r t.s t.b t.d t.c)
 ·exact tw ok k a w d
 ·obtain⟨b,c⟩:=eB a;exact RN ok k b c w d
theorem xt {q:fD} {col:Nat→Nat} {s:bH} (ok:eU s) (k:Int) (w:Mr) (g:dV q col s w):Mt Y 234 #[q.ar,I Z k] w fun e a=>e=E (I Z (tS s.rp.t k*64))∧Mu w.heap.size w a:=by have a:=g.row;have h:=aB a;unfold bH.row at a;have b:=Cw a 16;simp at b;have d:=aA (KZ w g.rep);have f:=aA fun W (c:aC w W)=>xr ok.rp.ok k W (g.rep.keeps c).map;obtain⟨i,j⟩:=xq ok.rp.ok k;generalize tS s.rp.t k=l at*;generalize M5 s.rp.t k=p at*;have m:=IntWalk.wrap64_in (l*64) ⟨by omega,by omega⟩;have n:=IntWalk.i64_in (l*64) ⟨by omega,by omega⟩;unfold fD.ar;clear g ok a;go_in;go_wp2_with fail;refine d.out.mono ?_;rintro e g ⟨rfl,a⟩;go_wp2_with fail;refine(f.out g a).mono ?_;rintro e o ⟨rfl,c⟩;go_wp2_with fail;go_ret;exact⟨by first|rfl|simp<;>omega,Kc a c⟩
def oL (s s':bH):Prop:=∃l t,s'={s with lg:=l,tk:=t}
theorem oL.refl (s:bH):oL s s:=⟨s.lg,s.tk,rfl⟩
theorem oL.trans {a b c:bH} (d:oL a b) (k:oL b c):oL a c:=by obtain⟨l,t,rfl⟩:=d;obtain⟨d,e,rfl⟩:=k;exact⟨d,e,rfl⟩
theorem M4.evd {s a:bH} (b:M4 s a):oL s a:=by obtain⟨l,rfl,_⟩:=b;exact⟨l,s.tk,rfl⟩
theorem lF.keeps {q:fD} {s:bH} {col:Nat→Nat} {w0:Mr} {R:bH→Prop} {e:Ending} (a:aC w0 w) (i:lF q s col w R e w'):lF q s col w0 R e w':=by obtain⟨j,k,b,c,d,f,g,h⟩:=i;exact⟨j,k,b,c,d,f,(aS.keeps a).trans g,h⟩
theorem xu {q:fD} {col:Nat→Nat} {s:bH} (ok:eU s) (k:Int) (w:Mr) (j:dV q col s w):Mt Y 235 #[.pointer (S ⟨q.K,0,N⟩),I Z k] w (lF q s col w (oL s)):=by refine(vg ok.tk k w j.trk).mono ?_;rintro e l ⟨m,t,rfl,c,d,f,g⟩;obtain⟨h,a⟩:=j.setTrk (c.mono fun b i=>.inl i) g;exact⟨m,_,_,rfl,h,ok.withTrk d f,a.mono fun k i=>KL.of (by decide) (by decide) i,s.lg,t,rfl⟩
theorem xv {q:fD} {col:Nat→Nat} {s:bH} (ok:eU s) (k:Int) (w:Mr) (j:dV q col s w):Mt Y 236 #[.pointer (S ⟨q.K,0,N⟩),I Z k] w (lF q s col w (oL s)):=by refine(vh ok.tk k w j.trk).mono ?_;rintro e l ⟨m,t,rfl,c,d,f,g⟩;obtain⟨h,a⟩:=j.setTrk (c.mono fun b i=>.inl i) g;exact⟨m,_,_,rfl,h,ok.withTrk d f,a.mono fun k i=>KL.of (by decide) (by decide) i,s.lg,t,rfl⟩
theorem yc {q:fD} {col:Nat→Nat} {s:bH} (ok:eU s) (o k f g:Int) (w:Mr) (l:dV q col s w):Mt Y 202 #[q.ar,I Z o,.agg #[I Z k,I Z f,I Z g]] w (lF q s col w (oL s)):=by
 have⟨ab,a⟩:=Ex (w.alloc (O #[I Z k,I Z f,I Z g] 331));have c:aC w ab:=by rw[a];exact aU
 have b:ab.heap[w.heap.size]?=S (O #[I Z k,I Z f,I Z g] 331):=by rw[a];exact aG _ _ _ rfl
 have d:col w.heap.size=0:=l.top _ Nl;have h:=eP (l.keeps c) c b d ok;have G:=aB b;have⟨m,i,j⟩:=fM b;simp at m i j;unfold fD.ar;clear l ok c b d;go_in;go_upto_region 1 with fail;rw[←a];clear a;refine bS (by kernel_rfl) (by kernel_rfl) ?_
 repeat
  with_reducible refine Mz fun K b=>?_
  go_simp
  try first
   |(apply Ei
     intro p a;obtain⟨c,d⟩:=a.cells;go_simp
     rfl)
   |(with_reducible refine aQ ?_ ?_;first|decide|simp[Mv];done)
  refine b _ ?_;clear b K
 with_reducible refine Na ?_
 intro w1 t;have HF:=aA fun a W (b:aC w1 W)=>xt h.out.2.2.2.2 a W ((h.out.1.keeps t).keeps b);have u:=aE t h.out.2.2.1;clear m i j G;generalize IntKind.i64.wrap (f*1048576)=f9;generalize IntKind.i64.wrap (g*1048576)=g9;by_cases X:o=1
 ·subst X
  have l:=aB u;have⟨i,j⟩:=iO u 1 2;simp at i j;have V:=aA t;clear u t;go_wp2_with fail;refine bS (by kernel_rfl) (by kernel_rfl) ?_
  repeat
   with_reducible refine Mz fun K b=>?_
   go_simp
   try first
    |(apply Ei
      intro p a;obtain⟨c,d⟩:=a.cells;go_simp
      first
       |(go_at_call 234;with_reducible exact a.call (HF.out _ _ a))
       |rfl)
    |(with_reducible refine aQ ?_ ?_;first|decide|simp[Mv];done)
   refine b _ ?_;clear b K
  with_reducible refine Na ?_
  intro w3 y;clear i j l;generalize tS s.rp.t f*64=f8;generalize tS s.rp.t g*64=g8;have v:=aK V.out y;clear y;have x:=aE v h.out.2.2.1;have l:=aB x;have⟨m,i,j⟩:=fM x;simp at m i j;have H:=aA (h.out.1.keeps v);have n:=aA v;clear x v;by_cases J:k=5
  ·subst J;go_wp2_with fail;refine(wI h.out.2.2.2.2 _ _ _ _ H.out).mono ?_;rintro e M ⟨aa,B,C,rfl,b,c,a,d⟩;clear m i j l;have p:=a.at (aE n.out h.out.2.2.1) (by rw[h.out.2.2.2.1];unfold KL;omega);have l:=aB p;have⟨m,i,j⟩:=fM p;simp at m i j;have r:=bT b c a d;clear b c a d p;go_wp2_with fail;refine bodyPost_end (Nw rfl _ _ _) rfl ?_;have⟨b,c,a,d⟩:=r.out;exact⟨_,B,C,rfl,b,c,((aS.keeps h.out.2.1).trans (aS.keeps n.out)).trans a,d.evd⟩
  ·have e5:(k==5)=false:=by simpa using J
   go_wp2_with fail;refine(wI h.out.2.2.2.2 _ _ _ _ H.out).mono ?_;rintro e M ⟨aa,B,C,rfl,b,c,a,d⟩;clear m i j l;have p:=a.at (aE n.out h.out.2.2.1) (by rw[h.out.2.2.2.1];unfold KL;omega);have l:=aB p;have⟨m,i,j⟩:=fM p;simp at m i j;have r:=bT b c a d;by_cases L:k=6
   ·subst L
    have z:=b.row;have G:=aB z;unfold bH.row at z;have A:=Cw z 17;simp at A;clear b c a d p z;go_wp2_with fail;refine eK (by kernel_rfl) (iK [0,1,2,3,4,5] [] [6] (by kernel_rfl) ?_);simp only[aM,d8]
    repeat
     with_reducible refine dS fun K b=>?_
     go_simp
     try first
      |(apply Ei
        intro p a;obtain⟨c,d⟩:=a.cells;go_simp
        rfl)
      |(with_reducible refine aQ ?_ ?_;first|decide|simp[Mv];done)
     refine b _ ?_;clear b K
    with_reducible refine dR ?_
    refine iJ fun P t=>?_;have Q:=aA (xu r.out.2.1 f P (r.out.1.keeps t));have F:=aA t;have D:=aE t (r.out.2.2.1.at (aE n.out h.out.2.2.1) (by rw[h.out.2.2.2.1];unfold KL;omega));clear A G m i j l;have l:=aB D;have⟨m,i,j⟩:=fM D;simp at m i j;clear t D;go_wp2_with fail;refine Q.out.mono ?_;rintro e w7 ⟨v7,R,T,rfl,u,v,x,y⟩;clear m i j l;have U:=bT u v x y;clear u v x y;go_wp2_with fail;refine dT ?_;go_wp2_with fail;refine bodyPost_end (Nw rfl _ _ _) rfl ?_;have⟨u,v,x,y⟩:=U.out;exact⟨_,R,T,rfl,u,v,((((aS.keeps h.out.2.1).trans (aS.keeps n.out)).trans r.out.2.2.1).trans (aS.keeps F.out)).trans x,r.out.2.2.2.evd.trans y⟩
   ·have z:(k==6)=false:=by simpa using L
    clear b c a d p;go_wp2_with fail;refine bodyPost_end (Nw rfl _ _ _) rfl ?_;have⟨b,c,a,d⟩:=r.out;exact⟨_,B,C,rfl,b,c,((aS.keeps h.out.2.1).trans (aS.keeps n.out)).trans a,d.evd⟩
 ·have V:(o==1)=false:=by simpa using X
  clear u;have x:=aE t h.out.2.2.1;have l:=aB x;have⟨m,i,j⟩:=fM x;simp at m i j;have H:=aA (h.out.1.keeps t);have n:=aA t;clear x t;by_cases J:k=5
  ·subst J;go_wp2_with fail;refine(wI h.out.2.2.2.2 _ _ _ _ H.out).mono ?_;rintro e M ⟨aa,B,C,rfl,b,c,a,d⟩;clear m i j l;have p:=a.at (aE n.out h.out.2.2.1) (by rw[h.out.2.2.2.1];unfold KL;omega);have l:=aB p;have⟨m,i,j⟩:=fM p;simp at m i j;have r:=bT b c a d;clear b c a d p;go_wp2_with fail;refine bodyPost_end (Nw rfl _ _ _) rfl ?_;have⟨b,c,a,d⟩:=r.out;exact⟨_,B,C,rfl,b,c,((aS.keeps h.out.2.1).trans (aS.keeps n.out)).trans a,d.evd⟩
  ·have e5:(k==5)=false:=by simpa using J
   go_wp2_with fail;refine(wI h.out.2.2.2.2 _ _ _ _ H.out).mono ?_;rintro e M ⟨aa,B,C,rfl,b,c,a,d⟩;clear m i j l;have p:=a.at (aE n.out h.out.2.2.1) (by rw[h.out.2.2.2.1];unfold KL;omega);have l:=aB p;have⟨m,i,j⟩:=fM p;simp at m i j;have r:=bT b c a d;by_cases L:k=6
   ·subst L
    have z:=b.row;have G:=aB z;unfold bH.row at z;have A:=Cw z 17;simp at A;clear b c a d p z;go_wp2_with fail;refine eK (by kernel_rfl) (iK [0,1,2,3,4,5] [] [6] (by kernel_rfl) ?_);simp only[aM,d8]
    repeat
     with_reducible refine dS fun K b=>?_
     go_simp
     try first
      |(apply Ei
        intro p a;obtain⟨c,d⟩:=a.cells;go_simp
        rfl)
      |(with_reducible refine aQ ?_ ?_;first|decide|simp[Mv];done)
     refine b _ ?_;clear b K
    with_reducible refine dR ?_
    refine iJ fun P t=>?_;have Q:=aA (xv r.out.2.1 f P (r.out.1.keeps t));have F:=aA t;have D:=aE t (r.out.2.2.1.at (aE n.out h.out.2.2.1) (by rw[h.out.2.2.2.1];unfold KL;omega));clear A G m i j l;have l:=aB D;have⟨m,i,j⟩:=fM D;simp at m i j;clear t D;go_wp2_with fail;refine Q.out.mono ?_;rintro e w7 ⟨v7,R,T,rfl,u,v,x,y⟩;clear m i j l;have U:=bT u v x y;clear u v x y;go_wp2_with fail;refine dT ?_;go_wp2_with fail;refine bodyPost_end (Nw rfl _ _ _) rfl ?_;have⟨u,v,x,y⟩:=U.out;exact⟨_,R,T,rfl,u,v,((((aS.keeps h.out.2.1).trans (aS.keeps n.out)).trans r.out.2.2.1).trans (aS.keeps F.out)).trans x,r.out.2.2.2.evd.trans y⟩
   ·have z:(k==6)=false:=by simpa using L
    clear b c a d p;go_wp2_with fail;refine bodyPost_end (Nw rfl _ _ _) rfl ?_;have⟨b,c,a,d⟩:=r.out;exact⟨_,B,C,rfl,b,c,((aS.keeps h.out.2.1).trans (aS.keeps n.out)).trans a,d.evd⟩
def wJ (v:Ms) (n:Nat) (col:Nat→Nat) (W:Mr):Prop:=∃a cap,v=.slice a n cap∧n≤maxLen∧(n=0∨∃g cur,a=S ⟨g,0,N⟩∧col g=0∧W.heap[g]?=S (O cur 331)∧∀j,j<n→∃x y z:Int,cur[j*3]?=S (I Z x)∧cur[j*3+1]?=S (I Z y)∧cur[j*3+2]?=S (I Z z))
theorem UR:∀(l:List (Int×Int×Int)) (j:Nat),j<l.length→∃a h i:Int,(mB l)[j*3]?=S (I Z a)∧(mB l)[j*3+1]?=S (I Z h)∧(mB l)[j*3+2]?=S (I Z i)
 |[],_,g=>by simp at g
 |a::l,0,_=>⟨a.1,a.2.1,a.2.2,rfl,rfl,rfl⟩
 |a::l,j+1,g=>by
  obtain⟨k,b,m,c,d,f⟩:=UR l j (by simpa using g);have e:mB (a::l)=[I Z a.1,I Z a.2.1,I Z a.2.2]++mB l:=rfl;refine⟨k,b,m,?_,?_,?_⟩
  ·rw[e,List.getElem?_append_right (by simp;omega)];simpa[show(j+1)*3-3=j*3 by omega]using c
  ·rw[e,List.getElem?_append_right (by simp;omega)];simpa[show(j+1)*3+1-3=j*3+1 by omega]using d
  ·rw[e,List.getElem?_append_right (by simp;omega)];simpa[show(j+1)*3+2-3=j*3+2 by omega]using f
theorem gS.rd {base:Nat} {l:List (Int×Int×Int)} {col:Nat→Nat} (a:gS base v l W) (h:∀b,base≤b→col b=0):wJ v l.length col W:=by
 obtain⟨w,⟨rfl,e⟩|⟨x,r,c,rfl,i,j,d,k,s,f⟩⟩:=a
 ·exact⟨N,0,by rw[e],by rw[e];exact Ns _,.inl e⟩
 ·refine⟨_,_,rfl,Ng d k,.inr ⟨x,c,rfl,h x i,j,fun z m=>?_⟩⟩
  obtain⟨A,B,C,n,o,p⟩:=UR l z m;have y:=ud l;have a:∀t u,t<l.length*3→(mB l)[t]?=S u→c[t]?=S u:=fun t u q g=>by rw[←f,List.getElem?_take_of_lt q]at g;simpa using g
  exact⟨A,B,C,a _ _ (by omega) n,a _ _ (by omega) o,a _ _ (by omega) p⟩
theorem wJ.stq {K:Nat→Prop} {c d:Nat→Nat} (k:wJ v n c w) (e:aS K c w d w') (i:¬K 0):wJ v n d w':=by
 obtain⟨m,a,rfl,f,k|⟨l,b,rfl,g,h,j⟩⟩:=k
 ·exact⟨m,a,rfl,f,.inl k⟩
 ·exact⟨_,a,rfl,f,.inr ⟨l,b,rfl,(e.old l (aB h)).trans g,e.at h (by rw[g];exact i),j⟩⟩
theorem mD:¬KL 0:=by unfold KL;omega
theorem F3 {q:fD} {col:Nat→Nat} {s:bH} (ok:eU s) (o:Int) (v:Ms) (n:Nat) (w:Mr) (h:dV q col s w) (a:wJ v n col w):Mt Y 152 #[q.ar,I Z o,v] w (lF q s col w (oL s)):=by
 obtain⟨ba,ae,b,hn,c⟩:=id a;have HV:=aA a;subst b;have H:=aH h ok;have HX:=aA c;clear h ok a c;go_in;go_wp2_with fail;go_loopw [11] (fun a W=>∃(l:Nat) (aa:Nat→Nat) (m:bH),l≤n∧a=I Z l∧dV q aa m W∧eU m∧aS KL col w aa W∧oL s m) fun a _=>n-(intOf a).toNat
 case atStart=>exact⟨0,col,s,Ns _,rfl,H.out.1,H.out.2,aS.refl,oL.refl s⟩
 case round=>
  obtain⟨l,aa,m,hj,rfl,a,ok,b,f⟩:=hrel;by_cases B:l<n
  ·have y:(l:Int)<n:=by omega
   obtain⟨a',X,k,_,r⟩:=HV.out.stq b mD;have e0:n≠0:=by omega
   obtain⟨an,c,rfl,hg,d,t⟩:∃an c,ba=S ⟨an,0,N⟩∧aa an=0∧wr.heap[an]?=S (O c 331)∧∀l,l<n→∃u ab ad:Int,c[l*3]?=S (I Z u)∧c[l*3+1]?=S (I Z ab)∧c[l*3+2]?=S (I Z ad):=by
    injection k with i j g;subst i;rcases r with h|h
    ·exact absurd h e0
    ·exact h
   obtain⟨u,ab,ad,J,L,M⟩:=t l B;have⟨P,Q,R⟩:=pQ d (l*3) (l*3+1) (l*3+2);rw[J]at P;rw[L]at Q;rw[M]at R;have C:(l:Int)+1≤9223372036854775807:=(by have:maxLen=9223372036854775807:=(by decide);omega);have D:=aH (IntWalk.wrap64_in ((l:Int)+1) ⟨by omega,by omega⟩) (IntWalk.i64_in ((l:Int)+1) ⟨by omega,by omega⟩);have F:=aB d;have p:=bT a ok b f;clear a ok b f d t J L M r k C;go_upto_region 3 with fail;have⟨a,ok,b,f⟩:=p.out;have⟨av,x⟩:=Ex (wr.alloc (O #[I Z u,I Z ab,I Z ad] 331));rw[←x];have z:aC wr av:=by rw[x];exact Ka (K.refl wr)
   have A:av.heap[wr.heap.size]?=S (O #[I Z u,I Z ab,I Z ad] 331):=by rw[x];exact aG _ _ _ rfl
   have HC:=aA fun d=>yc ok d u ab ad av (a.keeps z);have HK:=aA z;have G:=aB A;have⟨T,U,V⟩:=fM A;simp at T U V;clear x z A P Q R a ok b f F
   rcases(show u=3∨u=4∨u=5∨((u==3)=false∧(u==4)=false∧(u==5)=false) by
    by_cases g:u=3
    ·exact .inl g
    ·by_cases a:u=4
     ·exact .inr (.inl a)
     ·by_cases b:u=5
      ·exact .inr (.inr (.inl b))
      ·exact .inr (.inr (.inr ⟨by simpa using g,by simpa using a,by simpa using b⟩)))with rfl|rfl|rfl|⟨a,b,d⟩
   all_goals
    go_wp2_with fail;refine(HC.out _).mono ?_;rintro e w5 ⟨v5,c5,s5,rfl,g,h,i,j⟩;clear T U V G;have H5:=bT g h i j;clear g h i j;have⟨e9,ar⟩:=D.out;go_wp2_with fail;go_roundw
    case rel=>have⟨g,h,i,j⟩:=H5.out;exact⟨l+1,c5,s5,by omega,by simp,g,h,(p.out.2.2.1.trans (aS.keeps HK.out)).trans i,p.out.2.2.2.trans j⟩
    case measure=>simp[intOf];omega
  ·have y:¬(l:Int)<n:=by omega
   have p:=bT a ok b f;clear a ok b f;go_wp2_with fail;refine bodyPost_end (Nw rfl _ _ _) rfl ?_;have⟨a,ok,b,f⟩:=p.out;exact⟨_,aa,m,rfl,a,ok,b,f⟩
theorem M6 {y:aW} (a:eF x y):y.t.r=x.t.r∧y.t.s=x.t.s∧y.t.b=x.t.b∧y.t.d=x.t.d∧y.t.c=x.t.c∧y.t.way=x.t.way∧y.t.res=x.t.res:=by rcases a with rfl|⟨b,_,rfl⟩|⟨b,_,rfl⟩<;>exact⟨rfl,rfl,rfl,rfl,rfl,rfl,rfl⟩
theorem eU.withRep {s:bH} (a:eU s) {y:aW} (b:cV y) (c:y.t.r=s.rp.t.r∧y.t.s=s.rp.t.s∧y.t.b=s.rp.t.b∧y.t.d=s.rp.t.d∧y.t.c=s.rp.t.c∧y.t.way=s.rp.t.way∧y.t.res=s.rp.t.res):eU {s with rp:=y}:=by obtain⟨d,e,f,g,h,i,j⟩:=c;obtain⟨c,k,b3,l,m,n,o⟩:=a.geo;exact⟨a.c,b,a.tk,a.lg,⟨d.trans c,e.trans k,f.trans b3,g.trans l,h.trans m,i.trans n,j.trans o⟩,a.rul,a.rk⟩
def yd (q:fD) (s:bH) (col:Nat→Nat) (w:Mr) (e:Ending) (w':Mr):Prop:=∃v n y,e=E v∧wJ v n col w'∧dV q col {s with rp:=y} w'∧eU {s with rp:=y}∧aS KL col w col w'∧eF s.rp y
theorem M7 {q:fD} {col:Nat→Nat} {s:bH} (ok:eU s) (a b:Int) (f:0≤a) (d:a≤2) (w:Mr) (n:dV q col s w):Mt Y 196 #[q.p.ar,.agg #[I Z a,I Z b]] w (yd q s col w):=by refine(uj ok.rp a b f d w n.rep).mono ?_;rintro e o ⟨p,r,l,rfl,g,h,c,i⟩;obtain⟨j,k⟩:=n.setRep h i;exact⟨p,_,r,rfl,g.rd n.top,j,ok.withRep (c.ok ok.rp) (M6 c),k.mono fun t m=>KL.of (by decide) (by decide) m,c⟩
def ye (q:fD) (s:bH) (j:Nat) (n:Int) (col:Nat→Nat) (w:Mr) (e:Ending) (w':Mr):Prop:=∃(a b:Bool) (col':Nat→Nat) (t:dU),e=E (.tuple #[.agg #[.bool a,.bool b],I Z 0])∧dV q col' {s with tk:=t} w'∧eU {s with tk:=t}∧aS KL col w col' w'∧a=nO (s.tk.rk.getD j (0,0)).1 s.tk.rl n∧(s.tk.pg=[]→b=nO 0 s.tk.pl n)
theorem US {q:fD} {col:Nat→Nat} {s:bH} (ok:eU s) (j:Nat) (c:j<s.tk.rk.length) (p n:Int) (d:0≤n) (f:n≤65536) (w:Mr) (u:dV q col s w):Mt Y 195 #[.pointer (S ⟨q.K,0,N⟩),I Z j,I Z p,I Z n] w (ye q s j n col w):=by refine(wo ok.tk j c p n d f w u.trk).mono ?_;rintro e v ⟨x,b,t,rfl,g,h,i,k,l,m⟩;obtain⟨o,a⟩:=u.setTrk g k;exact⟨x,b,_,t,rfl,o,ok.withTrk h i,a.mono fun y r=>KL.of (by decide) (by decide) r,l,m⟩
def UT (s:bH):Prop:=s.tk.pg=[]∧(∀x∈s.tk.rk,x.1=0)∧1<s.tk.rl∧1<s.tk.pl
theorem M9 (a:1<l):nO 0 l 1=false:=by unfold nO tE;simp;omega
def xW (s:bH) (vk:Int) (s':bH):Prop:=∃y l t,eF s.rp y∧s'={s with rp:=y,lg:=l,tk:=t}∧(vk=0→s'=s)∧(vk=1→UT s→s.lg.length<s.c.logn→l.length=s.lg.length+1)
theorem yf {l:List (Int×Int)} (b:∀a∈l,a.1=0):(l.getD j (0,0)).1=0:=by
 by_cases a:j<l.length
 ·rw[Mx,Nn a];exact b _ (List.getElem_mem _)
 ·rw[Mx,List.getElem?_eq_none (by omega)];rfl
theorem yg {A:Nat} {b a h:Nat→Nat} {c d w8 e:Mr} (l:c.heap[A]?=S o) (t:b A=0) (i:aC c d) (f:aS KL b d a w8) (j:aS KL a w8 h e):e.heap[A]?=S o:=by have g:=aE i l;have k:a A=0:=(f.old A (aB g)).trans t;exact j.at (f.at g (by rw[t];exact mD)) (by rw[k];exact mD)
theorem yh {q:fD} {col:Nat→Nat} {s:bH} (ok:eU s) (nk C vf i p:Int) (j:Nat) (f:j<s.tk.rk.length) (w:Mr) (x:dV q col s w):Mt Y 149 #[q.ar,.agg #[I Z nk,I Z C,I Z vf,I Z i,I Z p,I Z j]] w (lF q s col w (xW s C)):=by
 have⟨cn,a⟩:=Ex (w.alloc (O #[I Z nk,I Z C,I Z vf,I Z i,I Z p,I Z j] 150));have d:aC w cn:=by rw[a];exact aU
 have c:cn.heap[w.heap.size]?=S (O #[I Z nk,I Z C,I Z vf,I Z i,I Z p,I Z j] 150):=by rw[a];exact aG _ _ _ rfl
 have g:col w.heap.size=0:=x.top _ Nl;have k:=eQ (x.keeps d) d c g ok f;have D:=aB c;have⟨R,T,b3⟩:=pQ c 1 2 3;simp at R T b3;clear x ok d c g f;go_in;go_upto_region 1 with fail;rw[←a];clear a;by_cases U:C=0
 ·subst U;go_wp2_with fail;refine bodyPost_end (Nw rfl _ _ _) rfl ?_;exact⟨_,col,s,rfl,k.out.1,k.out.2.2.2.2.1,aS.keeps k.out.2.1,s.rp,s.lg,s.tk,eF.refl _,rfl,fun _=>rfl,fun x=>by omega⟩
 have e0:(C==0)=false:=by simpa using U
 by_cases v2:C=2
 ·subst v2;go_wp2_with fail;refine(wI k.out.2.2.2.2.1 _ _ _ _ k.out.1).mono ?_;rintro e w5 ⟨cp,c5,s5,rfl,f,g,d,r⟩;have V:=bT f g d r;clear f g d r;go_wp2_with fail;refine bodyPost_end (Nw rfl _ _ _) rfl ?_;have⟨f,g,d,r⟩:=V.out;obtain⟨l,rfl,o⟩:=r;exact⟨_,c5,_,rfl,f,g,(aS.keeps k.out.2.1).trans d,s.rp,l,s.tk,eF.refl _,rfl,fun x=>by omega,fun x=>by omega⟩
 have e2:(C==2)=false:=by simpa using v2
 by_cases X:C=1
 case' pos=>subst X;go_wp2_with fail;refine(wI k.out.2.2.2.2.1 _ _ _ _ k.out.1).mono ?_;rintro e w5 ⟨cp,c5,s5,rfl,f,g,d,r⟩;go_upto_region 11 with fail;obtain⟨l5,rfl,o⟩:=r;have HN:=aA (fun W (G:aC w5 W)=>US g j k.out.2.2.2.2.2 p 1 (by decide) (by decide) W (f.keeps G))
 case' neg=>
  have e1:(C==1)=false:=by simpa using X
  have aa:=k.out.2.2.2.2.1.tk;have av:=k.out.2.2.2.2.1.rul.2.2.2.2.2;have P:=k.out.1.row;have bm:=aB P;unfold bH.row at P;have ba:=Cw P 13;simp at ba;have HB:=aA (show(0:Int)≤s.c.hv∧s.c.hv≤65536 by rw[←av];exact⟨Int.le_trans (by decide) aa.h1,aa.h2⟩);clear P aa av;go_wp2_with fail;refine(wI k.out.2.2.2.2.1 _ _ _ _ k.out.1).mono ?_;rintro e w5 ⟨cp,c5,s5,rfl,f,g,d,r⟩;clear ba bm;go_upto_region 11 with fail;obtain⟨l5,rfl,o⟩:=r;have HN:=aA fun W (G:aC w5 W)=>US g j k.out.2.2.2.2.2 p s.c.hv HB.out.1 HB.out.2 W (f.keeps G)
 all_goals
  have y:=d.at k.out.2.2.1 (by rw[k.out.2.2.2.1];exact mD);have H:c5 w.heap.size=0:=(d.old _ (aB k.out.2.2.1)).trans k.out.2.2.2.1;have V:=eQ f g d o y H;have a:=f.row;have bb:=aB a;unfold bH.row at a;clear R T b3 D;have D:=aB y;have ab:=Cw a 17;simp at ab;have⟨R,T,b3,u,v⟩:=ZP y 1 2 3 4 5;simp at R T b3 u v;clear f g d o y H a
  first
   |go_cut [5] from 37 to 49 (fun c a=>∃(ar b:Bool) (bn:Nat) (n:Nat→Nat) (t:dU),c=.pointer (S ⟨bn,0,N⟩)∧a.heap[bn]?=S (O #[.bool ar,.bool b] 321)∧n bn=0∧dV q n {s with lg:=l5,tk:=t} a∧eU {s with lg:=l5,tk:=t}∧aS KL col w n a∧a.heap[w.heap.size]?=S (O #[I Z nk,I Z C,I Z vf,I Z i,I Z p,I Z j] 150)∧n w.heap.size=0∧ar=nO (s.tk.rk.getD j (0,0)).1 s.tk.rl s.c.hv∧(s.tk.pg=[]→b=nO 0 s.tk.pl s.c.hv))
   |go_cut [5] from 37 to 49 fun c a=>∃(ar b:Bool) (bn:Nat) (n:Nat→Nat) (t:dU),c=.pointer (S ⟨bn,0,N⟩)∧a.heap[bn]?=S (O #[.bool ar,.bool b] 321)∧n bn=0∧dV q n {s with lg:=l5,tk:=t} a∧eU {s with lg:=l5,tk:=t}∧aS KL col w n a∧a.heap[w.heap.size]?=S (O #[I Z nk,I Z 1,I Z vf,I Z i,I Z p,I Z j] 150)∧n w.heap.size=0∧ar=nO (s.tk.rk.getD j (0,0)).1 s.tk.rl 1∧(s.tk.pg=[]→b=nO 0 s.tk.pl 1)
  case first=>
   refine eK (by kernel_rfl) (UH [0,1,2,3,4,5,6,7,8] 9 13 [10,11,12] [14,15] (by kernel_rfl) ?_);simp only[aM,d8]
   repeat
    with_reducible refine dS fun K a=>?_
    go_simp
    try first
     |(apply Ei
       intro h c;obtain⟨m,x⟩:=c.cells;go_simp
       rfl)
     |(with_reducible refine aQ ?_ ?_;first|decide|simp[Mv];done)
    refine a _ ?_;clear a K
   with_reducible refine dR ?_
   intro W G;have Q:=aA G;clear ab R T b3 u v D bb G;refine⟨?_,?_⟩
   ·skip
    with_reducible refine kZ fun K0 a=>?_
    go_simp;refine(HN.out W Q.out).mono ?_;rintro e J ⟨ar,b,n,t,rfl,h,m,c,B,x⟩;have H6:=eP h m c B x;clear h m c B x;go_simp;refine a _ _ trivial ?_;clear a K0;with_reducible refine lX ?_
    repeat(
     with_reducible refine i9 fun K a=>?_
     go_simp;unfold gI;apply Ei
     ·intro h c;go_simp;exact⟨rfl,rfl⟩
     refine a _ ?_
     clear a K)
    with_reducible refine eZ ?_
    go_wp2_with fail;refine dT ?_;go_wp2_with fail;go_meet;focus have⟨h,m,c,B,x⟩:=H6.out;have⟨f,g,d,o,y,H⟩:=V.out;have G:=Q.out;have F:=c.at (aE G y) (by rw[H];exact mD);have L:n w.heap.size=0:=(c.old _ (aB (aE G y))).trans H;have u:∀a,aC J (J.alloc a):=fun a=>K.alloc (K.refl J) a;exact⟨ar,b,J.heap.size,n,t,rfl,aG _ _ _ rfl,h.top _ Nl,h.keeps (u _),m,((((aS.keeps k.out.2.1).trans d).trans (aS.keeps G)).trans c).trans (aS.keeps (u _)),aE (u _) F,L,B,x⟩
   ·skip
    with_reducible refine kZ fun K0 a=>?_
    go_simp;refine a _ _ (Ka Q.out) ?_;clear a K0;with_reducible refine lX ?_
    intro W2 ad;with_reducible refine kZ fun K0 a=>?_
    go_simp;have z:aC w5 W2:=aK (Ka Q.out) ad;refine(HN.out W2 z).mono ?_;rintro e J ⟨ar,b,n,t,rfl,h,m,c,B,x⟩;have⟨f,g,d,o,y,H⟩:=V.out;have ae:c5 W.heap.size=0:=f.top _ Q.out.size;have bA:W2.heap[W.heap.size]?=S (O #[.bool false,.bool false] 321):=aE ad (aG _ _ _ rfl);have A:=c.at bA (by rw[ae];exact mD);have M:n W.heap.size=0:=(c.old _ (aB bA)).trans ae;have F:=c.at (aE z y) (by rw[H];exact mD);have L:n w.heap.size=0:=(c.old _ (aB (aE z y))).trans H;have bn:w.heap.size≤W.heap.size:=Ng (Ng k.out.2.1.size d.size) Q.out.size;have br:w.heap.size<W.heap.size:=Nj (aB y) Q.out.size;have bd:=aB A;have fA:=fun i=>Fw A i;have⟨a0,a1⟩:=bQ A;simp at a0 a1;have H6:=zI h m c B x A M F L z;clear h m c B x A M F L z f g d o y H ae bA ad;go_simp;refine a _ _ trivial ?_;clear a K0;with_reducible refine lX ?_
    repeat(
     with_reducible refine i9 fun K a=>?_
     go_simp;unfold gI;apply Ei
     ·intro h c;go_simp;exact⟨rfl,rfl⟩
     refine a _ ?_
     clear a K)
    with_reducible refine eZ ?_
    go_wp2_with fail;refine dT ?_;go_wp2_with fail;go_meet
    focus
     have⟨h,m,c,B,x,A,M,F,L,z⟩:=H6.out;have⟨f,g,d,o,y,H⟩:=V.out;have an:aF (fun a=>a=W.heap.size) J ((J.setCell ⟨W.heap.size,0,N⟩ (.bool ar)).setCell ⟨W.heap.size,1,N⟩ (.bool b)):=(dY _ _ J _).trans (dY _ _ _ _);have rA:((J.setCell ⟨W.heap.size,0,N⟩ (.bool ar)).setCell ⟨W.heap.size,1,N⟩ (.bool b)).heap[W.heap.size]?=S (O #[.bool ar,.bool b] 321):=by rw[Nx _ W.heap.size 1 _ _ _ (Hs 0 _ A)];rfl
     exact⟨ar,b,W.heap.size,n,t,rfl,rA,M,h.chg an fun b x=>by subst x;rw[M];omega,m,((((aS.keeps k.out.2.1).trans d).trans (aS.keeps z)).trans c).loc _ bn an,aJ an F (by omega),L,B,x⟩
  case rest=>
   obtain⟨ar,b,bn,n,t,rfl,rA,d,h,m,c,F,L,B,x⟩:=hcut;have bd:=aB rA;clear ab R T b3 u v D bb HN;have⟨a0,a1⟩:=bQ rA;simp at a0 a1;have a:=h.row;have A:=aB a;unfold bH.row at a;have D:=aB F;have f:=Cw a 16;simp at f;have⟨u,v⟩:=iO F 4 5;simp at u v;have o:=eP h m c F L;have M:=aH B x;have an:=aH rA d;clear rA d h m c F L B x a;cases b
   ·cases ar
    ·go_wp2_with fail
     refine bodyPost_end (Nw rfl _ _ _) rfl ?_;have⟨c,ok,a,B,F⟩:=o.out
     first
      |exact⟨_,_,_,rfl,c,ok,a,s.rp,_,_,eF.refl _,rfl,fun x=>absurd x U,fun m=>absurd m X⟩
      |exact⟨_,_,_,rfl,c,ok,a,s.rp,_,_,eF.refl _,rfl,fun x=>absurd x (by omega),fun _ _ d=>V.out.2.2.2.1 d⟩
    ·go_wp2_with fail
     refine eK (by kernel_rfl) (lS [1,2,3,4,5,6,7] [0] [8,9] (by kernel_rfl) ?_);simp only[aM,d8]
     repeat
      with_reducible refine dS fun K a=>?_
      go_simp
      try first
       |(apply Ei
         intro h c;obtain⟨m,x⟩:=c.cells;go_simp
         rfl)
       |(with_reducible refine aQ ?_ ?_;first|decide|simp[Mv];done)
      refine a _ ?_;clear a K
     with_reducible refine dR ?_
     repeat(
      with_reducible refine i9 fun K a=>?_
      go_simp;unfold gI;apply Ei
      ·intro h c;go_simp;exact⟨rfl,rfl⟩
      refine a _ ?_
      clear a K)
     with_reducible refine eZ ?_
     intro w7 G;have g:=aA G;clear G;have⟨c,ok,a,B,F⟩:=o.out;have Q:=aA (M7 ok 2 (j:Int) (by decide) (by decide) w7 (c.keeps g.out));clear c ok a B F f u v D A;go_wp2_with fail;refine Q.out.mono ?_;rintro e R ⟨T,ab,y7,rfl,x,c,ok,a,y⟩;have ad:=aA (F3 ok 2 T ab R c x);have d:=aH a y;clear x c ok a y;go_wp2_with fail;refine ad.out.mono ?_;rintro e L ⟨br,ae,bs,rfl,c,ok,a,⟨bv,bw,rfl⟩⟩;have bb:=aA a;have h:L.heap[w.heap.size]?=_:=a.at (d.out.1.at (aE g.out o.out.2.2.2.1) (by rw[o.out.2.2.2.2];exact mD)) (by rw[o.out.2.2.2.2];exact mD);have H:ae w.heap.size=0:=(a.old _ (aB (d.out.1.at (aE g.out o.out.2.2.2.1) (by rw[o.out.2.2.2.2];exact mD)))).trans o.out.2.2.2.2;have J:=((o.out.2.2.1.trans (aS.keeps g.out)).trans d.out.1).trans a;have m:=c.row;have A:=aB m;have D:=aB h;unfold bH.row at m;have f:=Cw m 16;simp at f;have⟨u,v⟩:=iO h 4 5;simp at u v;have z:=eP c ok J h H;clear c ok a h H J m;go_wp2_with fail;refine dT ?_;go_wp2_with fail;refine bodyPost_end (Nw rfl _ _ _) rfl ?_;have⟨c,ok,a,B,F⟩:=z.out
     first
      |exact⟨_,_,_,rfl,c,ok,a,y7,_,_,d.out.2,rfl,fun x=>absurd x U,fun m=>absurd m X⟩
      |exact⟨_,_,_,rfl,c,ok,a,y7,_,_,d.out.2,rfl,fun x=>absurd x (by omega),fun _ m _=>by have:=M.out.1;rw[yf m.2.1,M9 m.2.2.1]at this;cases this⟩
   ·go_wp2_with fail
    refine eK (by kernel_rfl) (lS [1,2,3,4,5,6,7] [0] [8,9] (by kernel_rfl) ?_);simp only[aM,d8]
    repeat
     with_reducible refine dS fun K a=>?_
     go_simp
     try first
      |(apply Ei
        intro h c;obtain⟨m,x⟩:=c.cells;go_simp
        rfl)
      |(with_reducible refine aQ ?_ ?_;first|decide|simp[Mv];done)
     refine a _ ?_;clear a K
    with_reducible refine dR ?_
    repeat(
     with_reducible refine i9 fun K a=>?_
     go_simp;unfold gI;apply Ei
     ·intro h c;go_simp;exact⟨rfl,rfl⟩
     refine a _ ?_
     clear a K)
    with_reducible refine eZ ?_
    intro w7 G;have g:=aA G;clear G;have⟨c,ok,a,B,F⟩:=o.out;have Q:=aA (M7 ok 1 p (by decide) (by decide) w7 (c.keeps g.out));clear c ok a B F f u v D A;go_wp2_with fail;refine Q.out.mono ?_;rintro e R ⟨T,ab,y7,rfl,x,c,ok,a,y⟩;have ad:=aA (F3 ok 1 T ab R c x);have d:=aH a y;clear x c ok a y;go_wp2_with fail;refine ad.out.mono ?_;rintro e L ⟨br,ae,bs,rfl,c,ok,a,⟨bv,bw,rfl⟩⟩;have bb:=aA a;have h:L.heap[w.heap.size]?=_:=a.at (d.out.1.at (aE g.out o.out.2.2.2.1) (by rw[o.out.2.2.2.2];exact mD)) (by rw[o.out.2.2.2.2];exact mD);have H:ae w.heap.size=0:=(a.old _ (aB (d.out.1.at (aE g.out o.out.2.2.2.1) (by rw[o.out.2.2.2.2];exact mD)))).trans o.out.2.2.2.2;have J:=((o.out.2.2.1.trans (aS.keeps g.out)).trans d.out.1).trans a;have m:=c.row;have A:=aB m;have D:=aB h;unfold bH.row at m;have f:=Cw m 16;simp at f;have⟨u,v⟩:=iO h 4 5;simp at u v;have z:=eP c ok J h H;clear c ok a h H J m;have a:L.heap[bn]?=S (O #[.bool ar,.bool true] 321):=yg an.out.1 an.out.2 g.out d.out.1 bb.out;have bd:=aB a;clear a0 a1;have⟨a0,a1⟩:=bQ a;simp at a0 a1;clear a;go_wp2_with fail;refine dT ?_;cases ar
    ·go_wp2_with fail
     refine bodyPost_end (Nw rfl _ _ _) rfl ?_;have⟨c,ok,a,B,F⟩:=z.out
     first
      |exact⟨_,_,_,rfl,c,ok,a,y7,_,_,d.out.2,rfl,fun x=>absurd x U,fun m=>absurd m X⟩
      |exact⟨_,_,_,rfl,c,ok,a,y7,_,_,d.out.2,rfl,fun x=>absurd x (by omega),fun _ m _=>by have:=M.out.2 m.1;rw[M9 m.2.2.2]at this;cases this⟩
    ·go_wp2_with fail
     refine eK (by kernel_rfl) (lS [1,2,3,4,5,6,7] [0] [8,9] (by kernel_rfl) ?_);simp only[aM,d8]
     repeat
      with_reducible refine dS fun K a=>?_
      go_simp
      try first
       |(apply Ei
         intro h c;obtain⟨m,x⟩:=c.cells;go_simp
         rfl)
       |(with_reducible refine aQ ?_ ?_;first|decide|simp[Mv];done)
      refine a _ ?_;clear a K
     with_reducible refine dR ?_
     repeat(
      with_reducible refine i9 fun K a=>?_
      go_simp;unfold gI;apply Ei
      ·intro h c;go_simp;exact⟨rfl,rfl⟩
      refine a _ ?_
      clear a K)
     with_reducible refine eZ ?_
     intro w8 a;have y:=aA a;clear a;have⟨c,ok,a,B,F⟩:=z.out;have G:=aA (M7 ok 2 (j:Int) (by decide) (by decide) w8 (c.keeps y.out));clear c ok a B F f u v D A;go_wp2_with fail;refine G.out.mono ?_;rintro e H ⟨J,bx,y8,rfl,x,c,ok,a,f⟩;have bz:=aA (F3 ok 2 J bx H c x);have h:=aH a f;clear x c ok a f;go_wp2_with fail;refine bz.out.mono ?_;rintro e cc ⟨cf,cd,ck,rfl,c,ok,a,⟨cl,cm,rfl⟩⟩;have m:cc.heap[w.heap.size]?=_:=a.at (h.out.1.at (aE y.out z.out.2.2.2.1) (by rw[z.out.2.2.2.2];exact mD)) (by rw[z.out.2.2.2.2];exact mD);have B:cd w.heap.size=0:=(a.old _ (aB (h.out.1.at (aE y.out z.out.2.2.2.1) (by rw[z.out.2.2.2.2];exact mD)))).trans z.out.2.2.2.2;have F:=((z.out.2.2.1.trans (aS.keeps y.out)).trans h.out.1).trans a;have x:=c.row;have A:=aB x;have D:=aB m;unfold bH.row at x;have f:=Cw x 16;simp at f;have⟨u,v⟩:=iO m 4 5;simp at u v;have H8:=eP c ok F m B;clear c ok a m B F x;go_wp2_with fail;refine dT ?_;go_wp2_with fail;refine bodyPost_end (Nw rfl _ _ _) rfl ?_;have⟨c,ok,a,B,F⟩:=H8.out
     first
      |exact⟨_,_,_,rfl,c,ok,a,y8,_,_,(d.out.2.trans h.out.2),rfl,fun x=>absurd x U,fun m=>absurd m X⟩
      |exact⟨_,_,_,rfl,c,ok,a,y8,_,_,(d.out.2.trans h.out.2),rfl,fun x=>absurd x (by omega),fun _ m _=>by have:=M.out.2 m.1;rw[M9 m.2.2.2]at this;cases this⟩
theorem yi {y:aW} (o:tO x y):y.t.r=x.t.r∧y.t.s=x.t.s∧y.t.b=x.t.b∧y.t.d=x.t.d∧y.t.c=x.t.c∧y.t.way=x.t.way∧y.t.res=x.t.res:=by
 rcases o with⟨_,rfl⟩|⟨_,o⟩
 ·exact⟨rfl,rfl,rfl,rfl,rfl,rfl,rfl⟩
 ·have:=M6 o
  have e:x.fin.t.r=x.t.r∧x.fin.t.s=x.t.s∧x.fin.t.b=x.t.b∧x.fin.t.d=x.t.d∧x.fin.t.c=x.t.c∧x.fin.t.way=x.t.way∧x.fin.t.res=x.t.res:=by unfold aW.fin;split<;>exact⟨rfl,rfl,rfl,rfl,rfl,rfl,rfl⟩
  obtain⟨a,b,c,d,f,g,h⟩:=this;obtain⟨i,j,b3,k,l,m,n⟩:=e;exact⟨a.trans i,b.trans j,c.trans b3,d.trans k,f.trans l,g.trans m,h.trans n⟩
theorem yj (a b c d:Int) (w:Mr):(Instr.field 63 (.agg #[I Z a,I Z b,I Z c,I Z d]) 0).run Y w=.ok (I Z a) w:=by kernel_rfl
def C9 (s s':bH):Prop:=∃x t,s'={s with time:=x,tk:=t}
def F5 (s s':bH):Prop:=∃y l t,tO s.rp y∧s'={s with rp:=y,lg:=l,tk:=t}
def wK (s s':bH):Prop:=s'={s with lg:=[]}
def yk (q:fD) (s:bH) (col:Nat→Nat) (w:Mr) (e:Ending) (w':Mr):Prop:=∃v n y,e=E (.tuple #[v,I Z 0])∧wJ v n col w'∧dV q col {s with rp:=y} w'∧eU {s with rp:=y}∧aS KL col w col w'∧tO s.rp y
theorem yl {q:fD} {col:Nat→Nat} {s:bH} (ok:eU s) (a:s.rp.k≠0) (w:Mr) (i:dV q col s w):Mt Y 151 #[q.p.ar] w (yk q s col w):=by refine(ur ok.rp a w i.rep).mono ?_;rintro e j ⟨k,m,l,rfl,c,d,b,f⟩;obtain⟨g,h⟩:=i.setRep d f;exact⟨k,_,m,rfl,c.rd i.top,g,ok.withRep (b.ok ok.rp a) (yi b),h.mono fun n a=>KL.of (by decide) (by decide) a,b⟩
theorem ym {q:fD} {col:Nat→Nat} {s:bH} (ok:eU s) (w:Mr) (j:dV q col s w):Mt Y 150 #[.pointer (S ⟨q.K,0,N⟩)] w (lF q s col w fun a=>∃t,a={s with tk:=t}):=by refine(wg ok.tk w j.trk).mono ?_;rintro e k ⟨l,t,rfl,c,d,f,g⟩;obtain⟨h,a⟩:=j.setTrk (c.mono fun b i=>.inl i) g;exact⟨l,_,_,rfl,h,ok.withTrk d f,a.mono fun m i=>KL.of (by decide) (by decide) i,t,rfl⟩
theorem yn {q:fD} {col:Nat→Nat} {s:bH} (ok:eU s) (w:Mr) (h:dV q col s w):Mt Y 153 #[.pointer (S ⟨q.G,0,N⟩)] w (lF q s col w (wK s)):=by refine(xh w h.log).mono ?_;rintro e i ⟨⟨j,rfl⟩,c,d⟩;obtain⟨f,a⟩:=h.setLog (c.mono fun b g=>.inl g) d;exact⟨j,_,_,rfl,f,ok.withLog (by simp),a.mono fun k g=>KL.of (by decide) (by decide) g,rfl⟩
theorem yp {q:fD} {col:Nat→Nat} {s:bH} (ok:eU s) (a b i p:Int) (j:Nat) (g:j<s.tk.rk.length) (w:Mr) (h:dV q col s w):Mt Y 103 #[q.ar,.agg #[I Z 1,I Z a,I Z b,I Z i,I Z p,I Z j]] w (lF q s col w (xW s a)):=by
 have⟨x,c⟩:=Ex (w.alloc (O #[I Z 1,I Z a,I Z b,I Z i,I Z p,I Z j] 150));have d:aC w x:=by rw[c];exact aU
 have f:x.heap[w.heap.size]?=S (O #[I Z 1,I Z a,I Z b,I Z i,I Z p,I Z j] 150):=by rw[c];exact aG _ _ _ rfl
 have k:=aA (yh ok 1 a b i p j g x (h.keeps d));have l:=aA d;have y:=aB f;have⟨m,n,o,b3,r,t⟩:=oC f;simp at m n o b3 r t;clear h ok d f g;go_in;go_upto_region 1 with fail;rw[←c];clear c;go_wp2_with fail;refine k.out.mono ?_;rintro e z h;obtain⟨A,u,v,rfl,c,d,f,g⟩:=lF.keeps l.out h;have H:=bT c d f g;clear c d f g h;go_wp2_with fail;refine bodyPost_end (Nw rfl _ _ _) rfl ?_;have⟨c,d,f,g⟩:=H.out;exact⟨_,u,v,rfl,c,d,f,g⟩
theorem yq {q:fD} {col:Nat→Nat} {s:bH} (ok:eU s) (w:Mr) (k:dV q col s w):Mt Y 103 #[q.ar,.agg #[I Z 4,I Z 0,I Z 0,I Z 0,I Z 0,I Z 0]] w (lF q s col w (wK s)):=by
 have⟨n,b⟩:=Ex (w.alloc (O #[I Z 4,I Z 0,I Z 0,I Z 0,I Z 0,I Z 0] 150));have d:aC w n:=by rw[b];exact aU
 have f:n.heap[w.heap.size]?=S (O #[I Z 4,I Z 0,I Z 0,I Z 0,I Z 0,I Z 0] 150):=by rw[b];exact aG _ _ _ rfl
 have a:=k.keeps d;have h:=aA (yn ok n a);have i:=aA d;have o:=aB f;have j:=Cw f 0;simp at j;have c:=a.row;have m:=aB c;unfold bH.row at c;have g:=Cw c 18;simp at g;clear k ok d f a c;go_in;go_upto_region 1 with fail;rw[←b];clear b;go_wp2_with fail;refine h.out.mono ?_;rintro e p f;obtain⟨r,k,l,rfl,a,b,c,d⟩:=lF.keeps i.out f;have H:=bT a b c d;clear a b c d f;go_wp2_with fail;refine bodyPost_end (Nw rfl _ _ _) rfl ?_;have⟨a,b,c,d⟩:=H.out;exact⟨_,k,l,rfl,a,b,c,d⟩
theorem yr {q:fD} {col:Nat→Nat} {s:bH} (ok:eU s) (w:Mr) (j:dV q col s w):Mt Y 103 #[q.ar,.agg #[I Z 2,I Z 0,I Z 0,I Z 0,I Z 0,I Z 0]] w (lF q s col w (C9 s)):=by
 have⟨u,d⟩:=Ex (w.alloc (O #[I Z 2,I Z 0,I Z 0,I Z 0,I Z 0,I Z 0] 150));have f:aC w u:=by rw[d];exact aU
 have i:u.heap[w.heap.size]?=S (O #[I Z 2,I Z 0,I Z 0,I Z 0,I Z 0,I Z 0] 150):=by rw[d];exact aG _ _ _ rfl
 have a:=j.keeps f;have k:=Hd3 a ok f;have n:=aB i;have l:=Cw i 0;simp at l;have b:=a.row;have g:=aB b;have o:=fun c=>Fw b c;unfold bH.row at b;have⟨c,h⟩:=iO b 17 19;simp at c h;clear j ok f i a b;go_in;go_upto_region 1 with fail;rw[←d];clear d;go_upto_region 6 with fail;generalize wrap64 (s.time+1)=i;have⟨a,ok,f⟩:=k.out;obtain⟨j,d⟩:=a.setTime i;have⟨v,m⟩:=Ex (u.setCell ⟨q.L,19,N⟩ (I Z i));rw[←m]at j d ⊢;have p:=aA (ym (ok.withTime i) v j);have r:=aA d;clear c h n g l o;have b:=j.row;have g:=aB b;unfold bH.row at b;have c:=Cw b 17;simp at c;clear b j d m a ok f;go_wp2_with fail;refine p.out.mono ?_;rintro e j ⟨m,f,l,rfl,a,b,d,⟨t,rfl⟩⟩;have H:=Hd3 a b d;clear a b d;go_wp2_with fail;refine bodyPost_end (Nw rfl _ _ _) rfl ?_;have⟨a,b,d⟩:=H.out;exact⟨_,f,_,rfl,a,b,((aS.keeps k.out.2.2).trans (r.out.mono fun n h=>KL.of (by decide) (by decide) h)).trans d,i,t,rfl⟩
theorem yt {q:fD} {col:Nat→Nat} {s:bH} (ok:eU s) (i:s.rp.k≠0) (w:Mr) (k:dV q col s w):Mt Y 103 #[q.ar,.agg #[I Z 3,I Z 0,I Z 0,I Z 0,I Z 0,I Z 0]] w (lF q s col w (F5 s)):=by
 have⟨y,g⟩:=Ex (w.alloc (O #[I Z 3,I Z 0,I Z 0,I Z 0,I Z 0,I Z 0] 150));have d:aC w y:=by rw[g];exact aU
 have h:y.heap[w.heap.size]?=S (O #[I Z 3,I Z 0,I Z 0,I Z 0,I Z 0,I Z 0] 150):=by rw[g];exact aG _ _ _ rfl
 have a:=k.keeps d;have m:=bT a ok d i;have n:=aA (LH y a.rep);have o:=aB h;have j:=Cw h 0;simp at j;have b:=a.row;have f:=aB b;unfold bH.row at b;have c:=Cw b 16;simp at c;clear k ok d h a b i;go_in;go_upto_region 1 with fail;rw[←g];clear g;go_wp2_with fail;refine n.out.mono ?_;rintro e k ⟨rfl,g⟩;have⟨a,ok,d,i⟩:=m.out;have h:=a.keeps g;have p:=aA (yl ok i k h);have r:=aA (Kc d g);have b:=h.row;clear c f;have f:=aB b;unfold bH.row at b;have c:=Cw b 16;simp at c;have x:=yj s.rp.k s.rp.f s.rp.g s.rp.n k;clear a ok d i g h b j o;go_wp2_with fail;refine p.out.mono ?_;rintro e i ⟨j,o,u,rfl,a,b,ok,d,g⟩;have v:=aA (F3 ok s.rp.k j o i b a);have h:=aH d g;clear a b ok d g c f;go_wp2_with fail;refine v.out.mono ?_;rintro e f ⟨z,d,g,rfl,a,b,c,⟨l,t,rfl⟩⟩;have H:=Hd3 a b c;clear a b c;go_wp2_with fail;refine bodyPost_end (Nw rfl _ _ _) rfl ?_;have⟨a,b,c⟩:=H.out;exact⟨_,d,_,rfl,a,b,((aS.keeps r.out).trans h.out.1).trans c,u,l,t,h.out.2,rfl⟩
end
section
open Go.RowKit Go.Shelf lin
attribute [local go_sem] Oper.semAt_some run_makeMap
def bO.new (r s b d c m:Int):bO:=⟨r,s,b,d,c,m,fun _=>N,[],[]⟩
theorem fF.new {s c m:Int} (a:dF r s b d c=true) (e:fN m=true):fF (bO.new r s b d c m):=⟨a,e,fun h l g=>by injection g,fun f g=>(List.not_mem_nil g).elim,Ns _,Ns _⟩
theorem yu {s c m:Int} (a:dF r s b d c=true) (f:fN m=true) (w:Mr):Mt Y 86 #[.agg #[I Z r,I Z s,I Z b,I Z d,I Z c],I Z m] w fun e g=>∃B,e=E (.tuple #[.pointer (S ⟨B,0,N⟩),I Z 0])∧dX B (fun h=>w.heap.size≤h) (bO.new r s b d c m) 0 g∧Mu w.heap.size w g:=by have z:=aA fun w=>AK a w;have A:=aA fun w=>DP f w;clear a f;have k:(w.alloc (O #[I Z r,I Z s,I Z b,I Z d,I Z c] 23)).heap[w.heap.size]?=S (O #[I Z r,I Z s,I Z b,I Z d,I Z c] 23):=iH (by first|rfl|simp<;>omega|omega);have l:=Lw k 5 rfl;have⟨a,f,g,h,i⟩:=gZ k;have n:=fun o=>Fw k o;have o:=aB k;simp at a f g h i;go_in;go_wp2_with fail;refine(z.out _).mono ?_;rintro e x ⟨rfl,p⟩;clear l a f g h i n o;replace k:x.heap[w.heap.size]?=S (O #[I Z r,I Z s,I Z b,I Z d,I Z c] 23):=aE p k;have t:aC w x:=Kc (aU) p;have l:=Lw k 5 rfl;have⟨a,f,g,h,i⟩:=gZ k;have n:=fun o=>Fw k o;have o:=aB k;simp at a f g h i;go_wp2_with fail;refine(A.out _).mono ?_;rintro e j ⟨rfl,q⟩;clear l a f g h i n o;replace k:j.heap[w.heap.size]?=S (O #[I Z r,I Z s,I Z b,I Z d,I Z c] 23):=aE q k;have u:aC w j:=Kc (t) q;have l:=Lw k 5 rfl;have⟨a,f,g,h,i⟩:=gZ k;have n:=fun o=>Fw k o;have o:=aB k;simp at a f g h i;have y:aC w j:=u;go_wp2_with fail;refine My (v:=.tuple #[.pointer (S ⟨j.heap.size+1,0,N⟩),I Z 0]) (by simp[results,results86,go_sem]) rfl ⟨j.heap.size+1,rfl,?_,Ka (Ka y)⟩;have C:=y.size;refine⟨j.heap.size,.slice N 0 0,.slice N 0 0,by omega,C,fun k D=>(by simp[Ny]at D),fun k D=>(by simp[Ny]at D),fun k D=>(by simp[Ny]at D),aG _ _ _ (by simp),?_,bP.nil _ _ _,bP.nil _ _ _⟩;exact(eT.made j Y 3).same (aV _ _ _ (by simp))
end
section
open Go.RowKit Go.Shelf lin
attribute [local go_sem] Oper.semAt_some Mh
attribute [local simp] Mf Mg
def aZ.right (t:bO) (f:aZ):Bool:=nP f.k f.r f.b f.d f.c f.ch f.bt f.vl t.r t.s t.b t.d t.c t.m
def bO.inj (t:bO) (f:aZ):Int×bO:=
 if f.right t=false then(10,t)else if f.k=1 then(0,t.put (dD f.r f.b f.d f.c) (iT (t.at (dD f.r f.b f.d f.c)) f.bt))
 else if oX f.k=true then(if t.lasts.length<256 then(0,{t with lasts:=t.lasts++[f]})else(14,t))
 else(if t.coming.length<256 then(0,{t with coming:=t.coming++[f]})else(14,t))
theorem F6 {fk fr fb fd fc fch fbt fvl r s b d c m:Int} {x:Bool} (f:nP fk fr fb fd fc fch fbt fvl r s b d c m=x) (w:Mr):Mt Y 154 #[.agg #[I Z fk,I Z fr,I Z fb,I Z fd,I Z fc,I Z fch,I Z fbt,I Z fvl],.agg #[I Z r,I Z s,I Z b,I Z d,I Z c],I Z m] w fun e a=>e=E (.bool x)∧Mu w.heap.size w a:=by subst f;exact fh fk fr fb fd fc fch fbt fvl r s b d c m w
theorem yy {fk fr fb fd fc fch fbt fvl r s b d c m:Int} (a:nP fk fr fb fd fc fch fbt fvl r s b d c m=true):eY r s b d c fr fb fd fc=true:=by unfold nP at a;simp only[Nq]at a;exact a.2.2.2.2.1
theorem ze {fk fr fb fd fc fch fbt fvl r s b d c m:Int} (i:nP fk fr fb fd fc fch fbt fvl r s b d c m=true) (h:oX fk=true):JA m fk fch fbt fvl:=by unfold nP at i;simp only[Nq,decide_eq_true_eq]at i;obtain⟨j,k,l,n,o,f,g,a⟩:=i;have f:=eB f;have g:=eB g;have a:=eB a;unfold oX at h;simp only[Nq,decide_eq_true_eq]at h;refine⟨by omega,by omega,fun _=>⟨f.1,f.2⟩,fun e=>⟨g.1,g.2,a.1,?_⟩⟩;rw[Fn e]at a;exact a.2
section
variable {B:Nat} {own:Nat→Prop} {t:bO} {n:Nat} (fk fr fb fd fc fch fbt fvl:Int)
theorem zf (w:Mr) (r:dX B own t n w) (b:nP fk fr fb fd fc fch fbt fvl t.r t.s t.b t.d t.c t.m=false):Mt Y 104 #[.pointer (S ⟨B,0,N⟩),.agg #[I Z fk,I Z fr,I Z fb,I Z fd,I Z fc,I Z fch,I Z fbt,I Z fvl]] w fun e a=>e=E (I Z 10)∧Mu w.heap.size w a:=by
 have s:=aA fun w=>F6 b w;clear b;obtain⟨C,u,v,-,-,-,-,-,d,-,-,-⟩:=id r;have a:(w.alloc (O #[I Z fk,I Z fr,I Z fb,I Z fd,I Z fc,I Z fch,I Z fbt,I Z fvl] 43)).heap[B]?=S (O #[I Z t.r,I Z t.s,I Z t.b,I Z t.d,I Z t.c,I Z t.m,.map (S C),u,v] 124):=by rw[aV _ _ _ (by have:=aB d;first|omega|(simp;omega))];exact d
 replace d:=a;clear a;have f:(w.alloc (O #[I Z fk,I Z fr,I Z fb,I Z fd,I Z fc,I Z fch,I Z fbt,I Z fvl] 43)).heap[w.heap.size]?=S (O #[I Z fk,I Z fr,I Z fb,I Z fd,I Z fc,I Z fch,I Z fbt,I Z fvl] 43):=iH (by first|rfl|simp<;>omega|omega);have⟨i,j,k,l,m,c,o,p,q⟩:=oS d;have x:=fun a=>Fw d a;have g:=aB d;simp at i j k l m c o p q;have y:=aB f;have z:∀a,aC (w.alloc (O #[I Z fk,I Z fr,I Z fb,I Z fd,I Z fc,I Z fch,I Z fbt,I Z fvl] 43)) a→(Mc ⟨B,0,N⟩ 0 5 #[]).run Y a=.ok #[I Z t.r,I Z t.s,I Z t.b,I Z t.d,I Z t.c] a:=fun a r=>qB (aE r d);have A:∀a,aC (w.alloc (O #[I Z fk,I Z fr,I Z fb,I Z fd,I Z fc,I Z fch,I Z fbt,I Z fvl] 43)) a→(Mc ⟨w.heap.size,0,N⟩ 0 8 #[]).run Y a=.ok #[I Z fk,I Z fr,I Z fb,I Z fd,I Z fc,I Z fch,I Z fbt,I Z fvl] a:=fun a r=>fJ a _ _ 43 (0,0) (aE r f) 8 rfl;have b:aC w (w.alloc (O #[I Z fk,I Z fr,I Z fb,I Z fd,I Z fc,I Z fch,I Z fbt,I Z fvl] 43)):=aU;have h:=Hd3 d f b;clear d f b i j k l m c o p q x g y;go_in;go_wp2_with fail;generalize(w.alloc (O #[I Z fk,I Z fr,I Z fb,I Z fd,I Z fc,I Z fch,I Z fbt,I Z fvl] 43))=k at*;have⟨d,f,b⟩:=h.out;have c:=Cw d 5;simp at c;have g:=aB d;clear d f b;refine bS (by kernel_rfl) (by kernel_rfl) ?_
 repeat
  with_reducible refine Mz fun K d=>?_
  go_simp
  try first
   |(apply Ei
     intro a b;obtain⟨i,j⟩:=b.cells;go_simp
     first
      |(go_at_call 154;exact b.call (s.out _))
      |rfl)
   |(with_reducible refine aQ ?_ ?_;decide)
  refine d _ ?_;clear d K
 with_reducible refine Na ?_
 intro i a;have⟨d,f,b⟩:=h.out;clear c g;replace d:=aE a d;replace f:=aE a f;have c:aC w i:=Kc b a;clear z A a b;clear h;go_wp2_with fail;go_ret;exact⟨rfl,c⟩
theorem zh (ok:fF t) (V:n<maxLen) (w:Mr) (z:dX B own t n w) (c:nP fk fr fb fd fc fch fbt fvl t.r t.s t.b t.d t.c t.m=true) (h:fk=1) (l:List Int) (j:Int) (d:dD fr fb fd fc=j) (g:l=t.at j):Mt Y 104 #[.pointer (S ⟨B,0,N⟩),.agg #[I Z fk,I Z fr,I Z fb,I Z fd,I Z fc,I Z fch,I Z fbt,I Z fvl]] w fun e a=>e=E (I Z 0)∧dX B (fun b=>own b∨w.heap.size≤b) (t.put j (iT l fbt)) (n+1) a∧aF own w a:=by
 have W:=aA fun w=>F6 c w;have a:=yy c;have F:=oI (wA a) ok.right;rw[d]at F;have X:=aA fun w=>SE a d w;have FL:=aA fun w=>QY l (by rw[g];exact ok.at_len j) fbt w;have HE:=aA g;clear c a d g;subst h;obtain⟨ab,vl,vc,-,-,-,-,-,c,-,-,-⟩:=id z;have a:(w.alloc (O #[I Z 1,I Z fr,I Z fb,I Z fd,I Z fc,I Z fch,I Z fbt,I Z fvl] 43)).heap[B]?=S (O #[I Z t.r,I Z t.s,I Z t.b,I Z t.d,I Z t.c,I Z t.m,.map (S ab),vl,vc] 124):=by rw[aV _ _ _ (by have:=aB c;first|omega|(simp;omega))];exact c
 replace c:=a;clear a;have f:(w.alloc (O #[I Z 1,I Z fr,I Z fb,I Z fd,I Z fc,I Z fch,I Z fbt,I Z fvl] 43)).heap[w.heap.size]?=S (O #[I Z 1,I Z fr,I Z fb,I Z fd,I Z fc,I Z fch,I Z fbt,I Z fvl] 43):=iH (by first|rfl|simp<;>omega|omega);have⟨h,i,o,p,q,g,A,r,u⟩:=oS c;have v:=fun j=>Fw c j;have s:=aB c;simp at h i o p q g A r u;have C:=aB f;have k:∀a,aC (w.alloc (O #[I Z 1,I Z fr,I Z fb,I Z fd,I Z fc,I Z fch,I Z fbt,I Z fvl] 43)) a→(Mc ⟨B,0,N⟩ 0 5 #[]).run Y a=.ok #[I Z t.r,I Z t.s,I Z t.b,I Z t.d,I Z t.c] a:=fun a z=>qB (aE z c);have x:∀a,aC (w.alloc (O #[I Z 1,I Z fr,I Z fb,I Z fd,I Z fc,I Z fch,I Z fbt,I Z fvl] 43)) a→(Mc ⟨w.heap.size,0,N⟩ 0 8 #[]).run Y a=.ok #[I Z 1,I Z fr,I Z fb,I Z fd,I Z fc,I Z fch,I Z fbt,I Z fvl] a:=fun a z=>fJ a _ _ 43 (0,0) (aE z f) 8 rfl;have d:aC w (w.alloc (O #[I Z 1,I Z fr,I Z fb,I Z fd,I Z fc,I Z fch,I Z fbt,I Z fvl] 43)):=aU;have m:=Hd3 c f d;clear c f d h i o p q g A r u v s C;go_in;go_wp2_with fail;generalize(w.alloc (O #[I Z 1,I Z fr,I Z fb,I Z fd,I Z fc,I Z fch,I Z fbt,I Z fvl] 43))=U0 at*;have⟨c,f,d⟩:=m.out;have g:=Cw c 5;simp at g;have s:=aB c;clear c f d;refine bS (by kernel_rfl) (by kernel_rfl) ?_
 repeat
  with_reducible refine Mz fun K d=>?_
  go_simp
  try first
   |(apply Ei
     intro a c;obtain⟨h,i⟩:=c.cells;go_simp
     first
      |(go_at_call 154;exact c.call (W.out _))
      |rfl)
   |(with_reducible refine aQ ?_ ?_;decide)
  refine d _ ?_;clear d K
 with_reducible refine Na ?_
 intro G a;have⟨c,f,d⟩:=m.out;clear g s;replace c:=aE a c;replace f:=aE a f;have g:aC w G:=Kc d a;clear k x a d;have o:=Cw f 0;simp at o;have s:=aB c;have C:=aB f;have k:∀a,aC G a→(Mc ⟨B,0,N⟩ 0 5 #[]).run Y a=.ok #[I Z t.r,I Z t.s,I Z t.b,I Z t.d,I Z t.c] a:=fun a z=>qB (aE z c)
 have p:∀a,aC G a→(Mc ⟨w.heap.size,1,N⟩ 0 4 #[]).run Y a=.ok #[I Z fr,I Z fb,I Z fd,I Z fc] a:=fun a z=>lL a w.heap.size 1 [I Z fr,I Z fb,I Z fd,I Z fc] (fun h i d=>by
  rw[Cw (aE z f) _];have:h<4:=(Oe.1 d).1
  match h,this with
  |0,_=>simpa using d
  |1,_=>simpa using d
  |2,_=>simpa using d
  |3,_=>simpa using d)
 have r:=Hd3 c f g;clear c f g m;go_wp2_with fail;refine bS (by kernel_rfl) (by kernel_rfl) ?_
 repeat
  with_reducible refine Mz fun K d=>?_
  go_simp
  try first
   |(apply Ei
     intro a c;obtain⟨h,i⟩:=c.cells;go_simp
     first
      |(go_at_call 133;exact c.call (X.out _))
      |rfl)
   |(with_reducible refine aQ ?_ ?_;decide)
  refine d _ ?_;clear d K
 with_reducible refine Na ?_
 intro H a;have⟨c,f,g⟩:=r.out;replace c:=aE a c;replace f:=aE a f;have m:aC w H:=Kc g a;clear k p a o s C g;have A:=Cw c 6;have g3:=Cw f 6;simp at A g3;have s:=aB c;have C:=aB f;obtain⟨J,L,M,u,o,v,x,y,i,d,p,q⟩:=z.tight.keeps m;rw[i]at c;simp only[Option.some.injEq,Obj.cells.injEq,Array.mk.injEq,List.cons.injEq,Ms.map.injEq,and_true,true_and]at c;obtain⟨hM,P,Q⟩:=c;subst hM P Q;have D:∀a,aC H a→(Instr.lookup 117 (.map (S J)) (I Z j) false).run Y a=.ok (.agg (aD .u8 l)) a:=fun a c=>by have e:=(d.keeps c).lookup underlying3 underlying117 (BE a) (show bN j by unfold bN;omega);rw[e,HE.out];unfold bO.at eJ;cases t.cells j<;>rfl
 have T:=zI m u o v x y i d p q;clear m u o v x y i d p q f r;go_wp2_with fail;refine wpIn_wide.1 (vM (n:=9) 14 (by kernel_rfl) (by kernel_rfl) ?_);simp only[List.drop_succ_cons,List.drop_zero,List.take_succ_cons,List.take_zero]
 repeat
  with_reducible refine Mz fun K d=>?_
  go_simp
  try first
   |(apply Ei
     intro a c;obtain⟨h,i⟩:=c.cells;go_simp
     first
      |(go_at_call 155;exact c.call (FL.out _))
      |rfl)
   |(with_reducible refine aQ ?_ ?_;decide)
  refine d _ ?_;clear d K
 with_reducible refine Na ?_
 intro w9 c;have⟨m,u,o,v,x,y,i,d,p,q⟩:=T.out;obtain⟨W5,U,k,g⟩:=(d.keeps c).update underlying3 underlying117 V (show bN j by unfold bN;omega) (.agg (aD .u8 (iT l fbt)));have HG:=Hd3 c k g;clear m u o v x y i d p q c k g D;gi_wp2_with fail;go_wp2_with fail;go_ret;have⟨m,u,o,v,x,y,i,d,p,q⟩:=T.out;have⟨c,k,g⟩:=HG.out;have kk:=Kc m c;have D:∀b,(own b∧b<w.heap.size)→(own b∨w.heap.size≤b):=fun b z=>.inl z.1;have h:∀b a,H.heap[b]?=S a→b≠J→W5.heap[b]?=S a:=fun b a F z=>aJ g (aE c F) z;refine⟨rfl,⟨J,L,M,D _ u,D _ o,fun R r=>D _ (v R r),fun R r=>D _ (x R r),y,h B _ i fun e=>d.ne i e.symm,?_,p.same fun R r=>?_,q.same fun R r=>?_⟩,?_⟩
 ·have a:(fun aa=>((t.put j (iT l fbt)).cells aa).map eJ)=fun aa=>if aa=j then S (.agg (aD .u8 (iT l fbt)))else(t.cells aa).map eJ:=by
   funext aa;unfold bO.put;simp only;split<;>rfl
  rw[a];exact k
 ·obtain⟨cs,a⟩:=p.row R r;exact(h R _ a fun e=>d.ne a e.symm).trans a.symm
 ·obtain⟨cs,a⟩:=q.row R r;exact(h R _ a fun e=>d.ne a e.symm).trans a.symm
 ·exact(aF.of_below kk own).trans (g.mono fun b _ e=>by rw[e];exact o.1)
theorem Mp (w:Mr) (J:dX B own t n w) (g:nP fk fr fb fd fc fch fbt fvl t.r t.s t.b t.d t.c t.m=true) (P:fk≠1) (E:Int) (Q:List aZ) (L:Nat) (vl h:Ms) (z:Nat) (vx:Ms) (y:oX fk=true∧7=z∧vl=vx∨oX fk=false∧8=z∧h=vx)
 (q:w.heap[B]?=S (O #[I Z t.r,I Z t.s,I Z t.b,I Z t.d,I Z t.c,I Z t.m,.map (S L),vl,h] 124)) (X:Mr→Mr→Ms→Prop)
 (p:Hid (∀W,aC w W→W.heap[B]?=S (O #[I Z t.r,I Z t.s,I Z t.b,I Z t.d,I Z t.c,I Z t.m,.map (S L),vl,h] 124)→Mt Y 156 #[vx,.agg #[I Z fk,I Z fr,I Z fb,I Z fd,I Z fc,I Z fch,I Z fbt,I Z fvl]] W fun e a=>∃s n d,e=.returned (.tuple #[.slice s n d,I Z E])∧X W a (.slice s n d)∧a.heap[B]?=S (O #[I Z t.r,I Z t.s,I Z t.b,I Z t.d,I Z t.c,I Z t.m,.map (S L),vl,h] 124)∧aF (fun b=>own b∧b<w.heap.size) W a))
 (c:∃s n d,vx=.slice s n d) (A:∀w:Mr,own B) {t2:bO}
 (u:∀s k l d W,aC w W→X W d (.slice s k l)→d.heap[B]?=S (O #[I Z t.r,I Z t.s,I Z t.b,I Z t.d,I Z t.c,I Z t.m,.map (S L),vl,h] 124)→aF (fun b=>own b∧b<w.heap.size) W d→dX B (fun b=>own b∨w.heap.size≤b) t2 n (d.setCell ⟨B,z,N⟩ (.slice s k l))):
 Mt Y 104 #[.pointer (S ⟨B,0,N⟩),.agg #[I Z fk,I Z fr,I Z fb,I Z fd,I Z fc,I Z fch,I Z fbt,I Z fvl]] w fun e a=>e=.returned (I Z E)∧dX B (fun b=>own b∨w.heap.size≤b) t2 n a∧aF own w a:=by
 rcases y with⟨a,rfl,rfl⟩|⟨a,rfl,rfl⟩
 all_goals
  have C:=aA fun w=>F6 g w;have D:=aA fun w=>JC a fr fb fd fc fch fbt fvl w;clear g a;obtain⟨R,T,U,c⟩:=c;subst c;have a:(w.alloc (O #[I Z fk,I Z fr,I Z fb,I Z fd,I Z fc,I Z fch,I Z fbt,I Z fvl] 43)).heap[B]?=_:=(aV _ _ _ (aB q)).trans q;replace q:=a;clear a;have f:(w.alloc (O #[I Z fk,I Z fr,I Z fb,I Z fd,I Z fc,I Z fch,I Z fbt,I Z fvl] 43)).heap[w.heap.size]?=S (O #[I Z fk,I Z fr,I Z fb,I Z fd,I Z fc,I Z fch,I Z fbt,I Z fvl] 43):=iH (by first|rfl|simp<;>omega|omega);have⟨o,r,s,v,c,g,x,i,m⟩:=oS q;have F:=fun a=>Fw q a;have k:=aB q;simp at o r s v c g x i m;have G:=aB f;have H:∀a,aC (w.alloc (O #[I Z fk,I Z fr,I Z fb,I Z fd,I Z fc,I Z fch,I Z fbt,I Z fvl] 43)) a→(Mc ⟨B,0,N⟩ 0 5 #[]).run Y a=.ok #[I Z t.r,I Z t.s,I Z t.b,I Z t.d,I Z t.c] a:=fun a J=>qB (aE J q);have j:∀a,aC (w.alloc (O #[I Z fk,I Z fr,I Z fb,I Z fd,I Z fc,I Z fch,I Z fbt,I Z fvl] 43)) a→(Mc ⟨w.heap.size,0,N⟩ 0 8 #[]).run Y a=.ok #[I Z fk,I Z fr,I Z fb,I Z fd,I Z fc,I Z fch,I Z fbt,I Z fvl] a:=fun a J=>fJ a _ _ 43 (0,0) (aE J f) 8 rfl;have d:aC w (w.alloc (O #[I Z fk,I Z fr,I Z fb,I Z fd,I Z fc,I Z fch,I Z fbt,I Z fvl] 43)):=aU;have l:=Hd3 q f d;clear q f d o r s v c g x i m F k G;go_in;go_wp2_with fail;generalize(w.alloc (O #[I Z fk,I Z fr,I Z fb,I Z fd,I Z fc,I Z fch,I Z fbt,I Z fvl] 43))=V at*;have⟨q,f,d⟩:=l.out;have g:=Cw q 5;simp at g;have k:=aB q;clear q f d;refine bS (by kernel_rfl) (by kernel_rfl) ?_
  repeat
   with_reducible refine Mz fun K d=>?_
   go_simp
   try first
    |(apply Ei
      intro a c;obtain⟨i,m⟩:=c.cells;go_simp
      first
       |(go_at_call 154;exact c.call (C.out _))
       |rfl)
    |(with_reducible refine aQ ?_ ?_;decide)
   refine d _ ?_;clear d K
  with_reducible refine Na ?_
  intro x a;have⟨q,f,d⟩:=l.out;clear g k;replace q:=aE a q;replace f:=aE a f;have c:aC w x:=Kc d a;clear H j a d;have k:=Cw f 0;simp at k;have j:=Lw f 8 rfl;have o:=Hd3 q f c;clear q f c l;go_wp2_with fail;refine(D.out _).mono ?_;rintro e r ⟨rfl,a⟩;have⟨q,f,c⟩:=o.out;have d:aC r r.drew:=Kd Kr;replace q:=aE d (aE a q);replace f:=aE d (aE a f);have g:aC w r.drew:=Kc (Kc c a) d;have⟨i,m⟩:=iO q 7 8;simp at i;clear j o k a d c;have j:=Lw f 8 rfl;have o:=aH q g;have v:=aA (p.out _ g q);clear q f g p;go_wp2_with fail
  go_region_with (go_at_call 156;with_reducible refine v.out.mono ?_;rintro e d ⟨s,k,l,rfl,p,c,a⟩;have F:=Cw c 7;have M:=Fw c 7;have G:=Cw c 8;have p5f:=Fw c 8;simp at F G;have H:=Hd3 p c a;clear p c a)
  all_goals clear i m j v;go_wp2_with fail;go_ret;have⟨p,c,a⟩:=H.out;have⟨q,g⟩:=o.out;refine⟨rfl,u s k l d _ g p c a,?_⟩;exact(aF.of_below g own).trans ((a.mono fun b _ i=>i.1).trans (aF.setCell Cl (.inl (A w)) _))
end
end
section
open Go.RowKit Go.Shelf lin
theorem UW {c b:Nat} {f:Int→Option Ms} {L:List aZ} (h:jJ v L W) (d:eT P c b n f W) (e:v.ownBlock=S b):False:=by obtain⟨g,a⟩:=h.row b e;exact d.ne a rfl
theorem zi {own:Nat→Prop} {t:bO} (ok:fF t) (Q:n<maxLen) (f:aZ) (w:Mr) (A:dX B own t n w):Mt Y 104 #[.pointer (S ⟨B,0,N⟩),.agg f.cells.toArray] w fun e d=>e=E (I Z (t.inj f).1)∧dX B (fun b=>own b∨w.heap.size≤b) (t.inj f).2 (n+1) d∧aF own w d:=by
 obtain⟨fk,fr,fb,fd,fc,fch,fbt,fvl⟩:=f;unfold bO.inj aZ.right;simp only;have V:∀W,aC w W→dX B (fun b=>own b∨w.heap.size≤b) t (n+1) W:=fun W g=>(A.keeps g).mono (fun b a=>.inl a) (Nu _);cases K:nP fk fr fb fd fc fch fbt fvl t.r t.s t.b t.d t.c t.m
 ·rw[Fp rfl];refine(zf fk fr fb fd fc fch fbt fvl w A K).mono ?_;rintro e d ⟨rfl,a⟩;exact⟨rfl,V _ a,aF.of_below a _⟩
 rw[Fn (by decide)];by_cases r:fk=1
 ·rw[Fp r];exact zh fk fr fb fd fc fch fbt fvl ok Q w A K r _ _ rfl rfl
 rw[Fn r];cases T:oX fk
 ·rw[Fn (by decide)]
  obtain⟨R,h,i,p,C,y,z,u,m,o,k,l⟩:=A;have L:=aB m;by_cases c:t.coming.length<256
  ·rw[Fp c]
   refine Mt.mono (Mp fk fr fb fd fc fch fbt fvl (own:=own) (n:=n) (t2:={t with coming:=t.coming++[⟨fk,fr,fb,fd,fc,fch,fbt,fvl⟩]}) w ⟨R,h,i,p,C,y,z,u,m,o,k,l⟩ K r 0 [] R h i 8 i (.inr ⟨T,rfl,rfl⟩) m
    (fun W d a=>jJ a (t.coming++[⟨fk,fr,fb,fd,fc,fch,fbt,fvl⟩]) d∧(∀j,a.ownBlock=S j→i.ownBlock=S j∨W.heap.size≤j)∧aF (fun g=>i.ownBlock=S g) W d)
    (aA fun W g q=>(RH t.coming c i W (l.keeps g) ⟨fk,fr,fb,fd,fc,fch,fbt,fvl⟩).mono ?_) (l.slice.elim fun G d=>d.elim fun x a=>⟨G,_,x,a⟩) (fun _=>p) ?_) ?_
   ·rintro e d ⟨A,rfl,s,v,j⟩;obtain⟨G,x,g⟩:=s.slice;subst g;exact⟨G,_,x,rfl,⟨s,v,j⟩,aJ j q fun e=>jJ.ne (l.keeps g) (by decide) q _ e rfl,j.mono fun b _ a=>⟨z b a,l.lt b a⟩⟩
   ·rintro G v x q W g ⟨s,d,M⟩ D P
    have X:=g.size;have hsB:∀b,b≠B→(q.setCell ⟨B,8,N⟩ (.slice G v x)).heap[b]?=q.heap[b]?:=fun b a=>Ho a
    have H:∀j,(Nh G v x).ownBlock=S j→j≠B:=fun j a e=>by
     rcases d j a with A|A
     ·exact(l).ne (by decide) m j A e
     ·omega
    have U:∀j,(Nh G v x).ownBlock=S j→own j∨w.heap.size≤j:=fun j a=>by
     rcases d j a with A|A
     ·exact .inl (z j A)
     ·exact .inr (by omega)
    have F:∀b,b<w.heap.size→i.ownBlock≠S b→q.heap[b]?=w.heap[b]?:=fun b a Q=>(M.block b (by omega) Q).trans (g.block b a);refine⟨R,h,(.slice G v x),.inl p,.inl C,fun j a=>.inl (y j a),U,?_,Hs _ _ D,o.same ((hsB R (o.ne m)).trans (F R o.lt fun e=>UW l o e)),k.same fun j a=>(hsB j (k.ne (by decide) m j a)).trans (F j (k.lt j a) (u j a)),s.same fun j a=>hsB j (H j a)⟩;intro j a J;rcases d j J with A|A
    ·exact u j a A
    ·have:=k.lt j a;omega
   ·rintro e d ⟨rfl,g,a⟩;exact⟨rfl,g.mono (fun _ A=>A) (Nu _),a⟩
  ·rw[Fn c]
   refine Mt.mono (Mp fk fr fb fd fc fch fbt fvl (own:=own) (n:=n) (t2:=t) w ⟨R,h,i,p,C,y,z,u,m,o,k,l⟩ K r 14 [] R h i 8 i (.inr ⟨T,rfl,rfl⟩) m
    (fun W d a=>a=i∧aC W d)
    (aA fun W g q=>(RG t.coming (by omega) ok.cn i W (l.keeps g) ⟨fk,fr,fb,fd,fc,fch,fbt,fvl⟩).mono ?_) (l.slice.elim fun G d=>d.elim fun x a=>⟨G,_,x,a⟩) (fun _=>p) ?_) ?_
   ·rintro e d ⟨rfl,a⟩;obtain⟨G,x,g⟩:=l.slice;exact⟨G,_,x,by rw[g],⟨g.symm,a⟩,aE a q,aF.of_below a _⟩
   ·rintro G v x q W g ⟨s,d⟩ D P
    rw[s];have A:=Kc g d;have e:(q.setCell ⟨B,8,N⟩ i).heap[B]?=q.heap[B]?:=(Hs _ _ D).trans D.symm
    exact(show dX B own t n w from⟨R,h,i,p,C,y,z,u,m,o,k,l⟩).same (fun b a F=>⟨by
     by_cases j:b=B
     ·rw[j,e];exact A.block B L
     ·exact(Ho j).trans (A.block b a),.inl F⟩)
   ·rintro e d ⟨rfl,g,a⟩;exact⟨rfl,g.mono (fun _ A=>A) (Nu _),a⟩
 ·rw[Fp rfl]
  obtain⟨R,h,i,p,C,y,z,u,m,o,k,l⟩:=A;have L:=aB m;by_cases c:t.lasts.length<256
  ·rw[Fp c]
   refine Mt.mono (Mp fk fr fb fd fc fch fbt fvl (own:=own) (n:=n) (t2:={t with lasts:=t.lasts++[⟨fk,fr,fb,fd,fc,fch,fbt,fvl⟩]}) w ⟨R,h,i,p,C,y,z,u,m,o,k,l⟩ K r 0 [] R h i 7 h (.inl ⟨T,rfl,rfl⟩) m
    (fun W d a=>jJ a (t.lasts++[⟨fk,fr,fb,fd,fc,fch,fbt,fvl⟩]) d∧(∀j,a.ownBlock=S j→h.ownBlock=S j∨W.heap.size≤j)∧aF (fun g=>h.ownBlock=S g) W d)
    (aA fun W g q=>(RH t.lasts c h W (k.keeps g) ⟨fk,fr,fb,fd,fc,fch,fbt,fvl⟩).mono ?_) (k.slice.elim fun G d=>d.elim fun x a=>⟨G,_,x,a⟩) (fun _=>p) ?_) ?_
   ·rintro e d ⟨A,rfl,s,v,j⟩;obtain⟨G,x,g⟩:=s.slice;subst g;exact⟨G,_,x,rfl,⟨s,v,j⟩,aJ j q fun e=>jJ.ne (k.keeps g) (by decide) q _ e rfl,j.mono fun b _ a=>⟨y b a,k.lt b a⟩⟩
   ·rintro G v x q W g ⟨s,d,M⟩ D P
    have X:=g.size;have hsB:∀b,b≠B→(q.setCell ⟨B,7,N⟩ (.slice G v x)).heap[b]?=q.heap[b]?:=fun b a=>Ho a
    have H:∀j,(Nh G v x).ownBlock=S j→j≠B:=fun j a e=>by
     rcases d j a with A|A
     ·exact(k).ne (by decide) m j A e
     ·omega
    have U:∀j,(Nh G v x).ownBlock=S j→own j∨w.heap.size≤j:=fun j a=>by
     rcases d j a with A|A
     ·exact .inl (y j A)
     ·exact .inr (by omega)
    have F:∀b,b<w.heap.size→h.ownBlock≠S b→q.heap[b]?=w.heap[b]?:=fun b a Q=>(M.block b (by omega) Q).trans (g.block b a);refine⟨R,(.slice G v x),i,.inl p,.inl C,U,fun j a=>.inl (z j a),?_,Hs _ _ D,o.same ((hsB R (o.ne m)).trans (F R o.lt fun e=>UW k o e)),s.same fun j a=>hsB j (H j a),l.same fun j a=>(hsB j (l.ne (by decide) m j a)).trans (F j (l.lt j a) fun e=>u j e a)⟩;intro j a J;rcases d j a with A|A
    ·exact u j A J
    ·have:=l.lt j J;omega
   ·rintro e d ⟨rfl,g,a⟩;exact⟨rfl,g.mono (fun _ A=>A) (Nu _),a⟩
  ·rw[Fn c]
   refine Mt.mono (Mp fk fr fb fd fc fch fbt fvl (own:=own) (n:=n) (t2:=t) w ⟨R,h,i,p,C,y,z,u,m,o,k,l⟩ K r 14 [] R h i 7 h (.inl ⟨T,rfl,rfl⟩) m
    (fun W d a=>a=h∧aC W d)
    (aA fun W g q=>(RG t.lasts (by omega) ok.ln h W (k.keeps g) ⟨fk,fr,fb,fd,fc,fch,fbt,fvl⟩).mono ?_) (k.slice.elim fun G d=>d.elim fun x a=>⟨G,_,x,a⟩) (fun _=>p) ?_) ?_
   ·rintro e d ⟨rfl,a⟩;obtain⟨G,x,g⟩:=k.slice;exact⟨G,_,x,by rw[g],⟨g.symm,a⟩,aE a q,aF.of_below a _⟩
   ·rintro G v x q W g ⟨s,d⟩ D P
    rw[s];have A:=Kc g d;have e:(q.setCell ⟨B,7,N⟩ h).heap[B]?=q.heap[B]?:=(Hs _ _ D).trans D.symm
    exact(show dX B own t n w from⟨R,h,i,p,C,y,z,u,m,o,k,l⟩).same (fun b a F=>⟨by
     by_cases j:b=B
     ·rw[j,e];exact A.block B L
     ·exact(Ho j).trans (A.block b a),.inl F⟩)
   ·rintro e d ⟨rfl,g,a⟩;exact⟨rfl,g.mono (fun _ A=>A) (Nu _),a⟩
theorem xX:aX 72 kD:=fun b a=>⟨0,by unfold kD;rw[Mx,List.getElem?_replicate,Fp a];rfl,by decide⟩
theorem fF.inj {t:bO} (c:fF t) (f:aZ) (g:∀l b,(l:List Int).length=72→aX 72 l→aX 72 (iT l b)):fF (t.inj f).2:=by
 unfold bO.inj;split
 ·exact c
 rename_i e;have e:nP f.k f.r f.b f.d f.c f.ch f.bt f.vl t.r t.s t.b t.d t.c t.m=true:=by have:=e;unfold aZ.right at this;simpa using this
 split
 ·refine c.put _ (by rw[E3];exact c.at_len _) (g _ _ (c.at_len _) ?_)
  unfold bO.at;cases h:t.cells (dD f.r f.b f.d f.c)with
  |none=>exact xX
  |some l=>exact(c.raw _ l h).2
 split
 ·rename_i i
  split
  ·rename_i d
   refine⟨c.right,c.mode,c.raw,fun j a=>?_,by simp;omega,c.cn⟩;rcases List.mem_append.1 a with a|a
   ·exact c.lasts j a
   ·simp at a;subst a;exact ze e i
  ·exact c
 ·split
  ·rename_i d;exact⟨c.right,c.mode,c.raw,c.lasts,c.ln,by simp;omega⟩
  ·exact c
end
section
open Go.RowKit Go.Shelf lin
attribute [local go_sem] Oper.semAt_some run_makeMap
theorem UX {l:List Int} (i:aX n l) (d:l.length=n) (j:Nat) {v:Int} (f:0≤v) (g:v<256):aX n (l.set j v):=fun h a=>by
 by_cases e:j=h
 ·subst e;refine⟨v.toNat,?_,by omega⟩;rw[Mx,List.getElem?_set_self (by omega),Option.getD_some];omega
 ·obtain⟨m,b,c⟩:=i h a;exact⟨m,by rw[Mx,List.getElem?_set_ne e];exact b,c⟩
theorem zm (a:Nat) (k:Nat) (b:a<256) (c:k<8):bits .xor .u8 (a:Int) (2^k)=((a^^^2^k:Nat):Int)∧a^^^2^k<256:=by
 have:∀a:Fin 256,∀k:Fin 8,bits .xor .u8 (a.val:Int) (2^k.val)=((a.val^^^2^k.val:Nat):Int)∧a.val^^^2^k.val<256:=by decide+kernel
 exact this ⟨a,b⟩ ⟨k,c⟩
theorem UY {l:List Int} (a:l.length=72) (f:aX 72 l) (b:Int):aX 72 (iT l b):=by
 unfold iT;split
 ·rename_i g;obtain⟨m,c,d⟩:=f (b/8).toNat (by omega);rw[c];obtain⟨e,h⟩:=zm m (b%8).toNat d (by omega);rw[e];exact UX f a _ (by omega) (by omega)
 ·exact f
theorem zn {l:List Int} (a:l.length=72) (c:aX 72 l) (b v:Int):aX 72 (tI l b v):=by unfold tI;split;exact c;exact UY a c b
theorem zo {l:List Int} (a:l.length=72) (f:aX 72 l) (m ch v:Int) (b:0≤v) (c:v<256):aX 72 (tM l m ch v):=by
 unfold tM;generalize(jA m).toNat=e
 induction e with
 |zero=>exact f
 |succ e d=>rw[R4];exact UX d (by rw[EA];exact a) _ b c
theorem zq {l:List Int} (a:l.length=72) (h:aX 72 l) {m:Int} {f:aZ} (b:f.ok m) (pr pb pd pc:Int):aX 72 (f.apply m pr pb pd pc l):=by
 obtain⟨i,j,k,c⟩:=b;unfold aZ.apply vX;split
 ·split
  ·exact zn a h _ _
  ·rename_i d;obtain⟨_,_,e,g⟩:=c d;exact zo a h _ _ _ e g
 ·exact h
theorem UZ {m:Int} (pr pb pd pc:Int):∀(L:List aZ) {l:List Int},l.length=72→aX 72 l→(∀f∈L,f.ok m)→aX 72 (oH m pr pb pd pc L l)
 |[],_,_,d,_=>d
 |f::L,l,a,d,b=>by show aX 72 (oH m pr pb pd pc L _);exact UZ pr pb pd pc L (by unfold aZ.apply;rw[JB];exact a) (zq a d (b f (by simp)) _ _ _ _) fun e c=>b e (by simp[c])
theorem fF.at_bts {t:bO} (b:fF t) (i:Int):aX 72 (t.at i):=by
 unfold bO.at;cases a:t.cells i with
 |none=>exact xX
 |some l=>exact(b.raw i l a).2
theorem fF.look_bts {t:bO} (a:fF t) (i:Int):aX 72 (t.look i):=UZ _ _ _ _ t.lasts (a.at_len i) (a.at_bts i) a.lasts
theorem fF.read_len {t:bO} (a:fF t) (i:Int):(t.read i).length=72:=by unfold bO.read;split;exact pC;exact bO.look_len (a.went i) _
theorem fF.read_bts {t:bO} (a:fF t) (i:Int):aX 72 (t.read i):=by unfold bO.read;split;exact xX;exact(a.went i).look_bts _
theorem fF.write {t:bO} (c:fF t) (i:Int) {l:List Int} (a:l.length=72) (b:aX 72 l):fF (t.write i l):=by unfold bO.write;split;exact c.went i;exact(c.went i).put _ a b
theorem fF.inj' {t:bO} (d:fF t) (f:aZ):fF (t.inj f).2:=d.inj f fun l b a c=>UY a c b
structure dP where
 wr:Bool
 i:Int
 wi:Int
 dr:Bool
 ex:Int
 mkd:Bool
def dP.cells (a:dP):List Ms:=[.bool a.wr,I Z a.i,I Z a.wi,.bool a.dr,I Z a.ex,.bool a.mkd]
def jR (v:Ms) (L:List dP) (W:Mr):Prop:=bP 167 6 v (L.map dP.cells) W
structure cF where
 dr:bO
 ghost:Int→Option (List Int)
 marks:Int→Option Int
 accs:List dP
structure iG (t:cF):Prop where
 dr:fF t.dr
 ghost:∀i l,t.ghost i=S l→l.length=72∧aX 72 l
def bY:Nat:=1000000
theorem xY:bY+10≤maxLen:=by decide+kernel
def cF.gh (t:cF) (i:Int):List Int:=(t.ghost i).getD kD
def cF.mark (t:cF) (i:Int):Int:=(t.marks i).getD 0
def fH (B:Nat) (own:Nat→Prop) (t:cF) (n:Nat) (W:Mr):Prop:=
 ∃(D G K:Nat) (va:Ms),own B∧own G∧own K∧(∀g,va.ownBlock=S g→own g)∧G≠K∧
  W.heap[B]?=S (O #[.pointer (S ⟨D,0,N⟩),.map (S G),.map (S K),va] 121)∧dX D (fun b=>own b∧b≠B∧b≠G∧b≠K∧va.ownBlock≠S b) t.dr n W∧
  eT Y 3 G n (fun k=>(t.ghost k).map eJ) W∧eT Y 3 K n (fun k=>(t.marks k).map (I Z)) W∧jR va t.accs W∧t.accs.length≤n
theorem fH.same {own own':Nat→Prop} {t:cF} (d:fH B own t n W) (a:∀b,b<W.heap.size→own b→W'.heap[b]?=W.heap[b]?∧own' b):fH B own' t n W':=by obtain⟨u,G,K,q,j,k,l,m,r,e,s,f,g,c,i⟩:=d;exact⟨u,G,K,q,(a B (aB e) j).2,(a G f.lt k).2,(a K g.lt l).2,fun p d=>(a p (c.lt p d) (m p d)).2,r,(a B (aB e) j).1.trans e,s.same fun b o h=>⟨(a b o h.1).1,(a b o h.1).2,h.2⟩,f.same (a G f.lt k).1,g.same (a K g.lt l).1,c.same fun p d=>(a p (c.lt p d) (m p d)).1,i⟩
theorem fH.keeps {own:Nat→Prop} {t:cF} (e:fH B own t n W) (a:aC W W'):fH B own t n W':=e.same fun b c d=>⟨a.block b c,d⟩
theorem fH.tight {own:Nat→Prop} {t:cF} (d:fH B own t n W):fH B (fun b=>own b∧b<W.heap.size) t n W:=d.same fun b a c=>⟨rfl,c,a⟩
theorem fH.mono {own own':Nat→Prop} {t:cF} {n':Nat} (e:fH B own t n W) (a:∀b,own b→own' b) (c:n≤n'):fH B own' t n' W:=by obtain⟨s,G,K,f,g,h,i,j,k,l,m,o,p,d,r⟩:=e;exact⟨s,G,K,f,a _ g,a _ h,a _ i,fun u q=>a _ (j u q),k,l,m.mono (fun b e=>⟨a _ e.1,e.2⟩) c,o.mono c,p.mono c,d,by omega⟩
theorem zr (W:Mr):(zeroValue 3).run Y W=.ok (I Z 0) W:=by kernel_rfl
def cF.new (r s b d c m:Int):cF:=⟨bO.new r s b d c m,fun _=>N,fun _=>N,[]⟩
theorem iG.new {s c m:Int} (a:dF r s b d c=true) (e:fN m=true):iG (cF.new r s b d c m):=⟨fF.new a e,fun g l f=>by injection f⟩
theorem iG.gh_len {t:cF} (b:iG t) (i:Int):(t.gh i).length=72:=by
 unfold cF.gh;cases a:t.ghost i with
 |none=>exact pC
 |some l=>exact(b.ghost i l a).1
theorem iG.gh_bts {t:cF} (b:iG t) (i:Int):aX 72 (t.gh i):=by
 unfold cF.gh;cases a:t.ghost i with
 |none=>exact xX
 |some l=>exact(b.ghost i l a).2
theorem zs {own:Nat→Prop} {t:cF} (w:Mr) (o:fH B own t n w):Mt Y 26 #[.pointer (S ⟨B,0,N⟩)] w fun e a=>∃r,e=E (.pointer (S ⟨r,0,N⟩))∧dX r own t.dr n w∧w=a:=by obtain⟨r,G,u,s,g,h,i,j,k,d,f,l,m,a,c⟩:=o;have o:=Cw d 0;simp at o;have p:=aA (f.mono (own':=own) (fun b q=>q.1) Nl);clear g h i j k d f l m a c;go_in;go_wp2;go_ret;exact⟨r,rfl,p.out,rfl⟩
theorem F7 {own:Nat→Prop} {t:cF} (w:Mr) (d:fH B own t n w):Mt Y 43 #[.pointer (S ⟨B,0,N⟩)] w fun e a=>e=E (I Z (t.accs.length:Nat))∧w=a:=by obtain⟨q,G,r,p,f,g,h,i,j,c,k,l,m,a,b⟩:=d;have o:=Cw c 3;simp at o;obtain⟨s,u,d⟩:=a.slice;rw[Np]at d;subst d;clear f g h i j c k l m a b;go_in;go_wp2;go_ret;exact⟨rfl,rfl⟩
theorem zu {own:Nat→Prop} {t:cF} (i:Int) (g:bN i) (w:Mr) (f:fH B own t n w):Mt Y 136 #[.pointer (S ⟨B,0,N⟩),I Z i] w fun e a=>e=E (.bool (decide (t.mark i=1)))∧w=a:=by
 obtain⟨u,G,s,r,h,j,k,l,m,c,o,p,d,a,b⟩:=f;have q:=Cw c 2;simp at q;have f:=d.lookup underlying3 underlying118 (zr w) g;replace f:(Instr.lookup 118 (.map (S s)) (I Z i) false).run Y w=.ok (I Z (t.mark i)) w:=by rw[f];unfold cF.mark;cases t.marks i<;>rfl
 clear h j k l m c o p d a b;by_cases b:t.mark i=1
 ·have a:=decide_eq_true b;go_in;go_wp2;go_ret;exact⟨by rw[a];rfl,rfl⟩
 ·have a:=decide_eq_false b;go_in;go_wp2;go_ret;exact⟨by simp[b],rfl⟩
attribute [local simp] Mf Mg
attribute [local go_sem] Mh
theorem zw {s c m:Int} (a:dF r s b d c=true) (f:fN m=true) (w:Mr):Mt Y 54 #[.agg #[I Z r,I Z s,I Z b,I Z d,I Z c],I Z m] w fun e g=>∃B,e=E (.tuple #[.pointer (S ⟨B,0,N⟩),I Z 0])∧fH B (fun h=>w.heap.size≤h) (cF.new r s b d c m) 0 g∧Mu w.heap.size w g:=by
 have o:=aA fun w=>yu a f w;clear a f;have n:(w.alloc (O #[I Z r,I Z s,I Z b,I Z d,I Z c] 23)).heap[w.heap.size]?=S (O #[I Z r,I Z s,I Z b,I Z d,I Z c] 23):=iH (by first|rfl|simp<;>omega|omega);have p:=Lw n 5 rfl;have⟨g,h,i,j,k⟩:=gZ n;have q:=fun a=>Fw n a;have t:=aB n;simp at g h i j k;go_in;go_wp2_with fail;refine(o.out _).mono ?_;rintro e a ⟨u,rfl,l,f⟩;clear n g h i j k q t p;have i:aC w a:=Kc aU f;have h:=aA l.tight;have g:=aA i;clear l f i;go_wp2_with fail;refine My (v:=.tuple #[.pointer (S ⟨a.heap.size+1+1,0,N⟩),I Z 0]) (by simp[results,results54,go_sem]) rfl ⟨a.heap.size+1+1,rfl,?_,Ka (Ka (Ka g.out))⟩;have f:=g.out.size;refine⟨u,a.heap.size,a.heap.size+1,.slice N 0 0,by omega,f,by omega,fun n l=>(by simp[Ny]at l),by omega,aG _ _ _ (by simp),?_,?_,?_,bP.nil _ _ _,Nl⟩
 ·refine h.out.same fun b i j=>⟨(((aV _ _ _ (by simp;omega)).trans (aV _ _ _ (by simp;omega))).trans (aV _ _ _ i)),?_⟩;have k:=j.1;simp at k;exact⟨by omega,by omega,by omega,by omega,fun l=>(by simp[Ny]at l)⟩
 ·exact((eT.made a Y 3).keeps aU).keeps aU
 ·have:=(eT.made (a.alloc (.map #[] 0)) Y 3).keeps (K.alloc Kr (O #[.pointer (S ⟨u,0,N⟩),.map (S a.heap.size),.map (S (a.heap.size+1)),.slice N 0 0] 121));simpa[cF.new]using this
end
section
open Go.RowKit Go.Shelf lin
attribute [local go_sem] Oper.semAt_some Mh
attribute [local simp] Mf Mg
theorem MA:(Y.info? 167).map (fun a=>(a.zero,a.size,a.bytes))=S (S (.agg #[.bool false,I Z 0,I Z 0,.bool false,I Z 0,.bool false]),6,48):=by kernel_rfl
def cF.put (t:cF) (i:Int) (l:List Int) (k:Int):cF:={dr:=t.dr.write i l,ghost:=fun j=>if j=i then S l else t.ghost j,marks:=fun j=>if j=i then S k else t.marks j,accs:=t.accs++[⟨true,i,(t.dr.went i).1,(t.dr.went i).2.1,0,false⟩]}
theorem iG.put {t:cF} (d:iG t) (i:Int) {l:List Int} (k:Int) (b:l.length=72) (c:aX 72 l):iG (t.put i l k):=
 ⟨d.dr.write i b c,fun e f a=>by
  unfold cF.put at a;simp only at a;split at a
  ·injection a with a;subst a;exact⟨b,c⟩
  ·exact d.ghost e f a⟩
theorem K.chg {a b c:Mr} (d:aC a b) (k:aF cw b c):aF cw a c:=(aF.of_below d cw).trans k
theorem aF.keeps {a b c:Mr} (d:aF cw a b) (k:aC b c):aF cw a c:=d.trans (aF.of_below k cw)
theorem K.undrew {b:Mr} (a:aC b W):aC b.drew W:=⟨a.os,a.tape,a.output,a.size,a.block⟩
theorem MB (a:dP):∀c∈a.cells,c.oneCell'=true:=fun c b=>by simp[dP.cells]at b;rcases b with rfl|rfl|rfl|rfl|rfl|rfl<;>rfl
theorem V0 {L:List dP} {a:dP} {v':Ms} (c:jR v L W) (b:w.ownsRow 0 167 6 v' (L.length+1) ((L.map dP.cells).flatten++a.cells)):jR v' (L++[a]) w:=by unfold jR;rw[List.map_append];exact bP.push (x:=a.cells) c rfl (by rw[Np];exact b)
theorem jR.row {L:List dP} (m:jR v L W) (g:Nat) (a:v.ownBlock=S g):∃d,W.heap[g]?=S (O d 167):=by
 obtain⟨⟨i,⟨rfl,j⟩|⟨k,f,b,rfl,h,e,c⟩⟩,l⟩:=m
 ·simp[Ny]at a
 ·simp[Ny]at a;subst a;exact⟨b,e⟩
theorem sL {c b:Nat} {f:Int→Option Ms} {L:List dP} (h:jR v L W) (d:eT P c b n f W) (e:v.ownBlock=S b):False:=by obtain⟨g,a⟩:=h.row b e;exact d.ne a rfl
theorem jR.ne {L:List dP} {y t:Nat} {cs:Array Ms} (h:jR v L W) (c:t≠167) (d:W.heap[y]?=S (O cs t)):∀b,v.ownBlock=S b→b≠y:=fun b f e=>by subst e;obtain⟨g,a⟩:=h.row b f;rw[d]at a;simp at a;exact c a.2
theorem VA {own:Nat→Prop} {t:cF} (ok:iG t) {i:Int} {l:List Int} {k:Int} {ae:Nat} {f:Option Addr} {a g:Nat} {U0 C P w9 W6 p w8:Mr} {y:Nat→Prop} {s4 Q d c:Nat} {i':Int} {d':Bool}
 (h:own B∧own G∧own ae∧(∀z,(Nh f a g).ownBlock=S z→own z)∧G≠ae∧eT Y 3 G n (fun k=>(t.ghost k).map eJ) w∧eT Y 3 ae n (fun k=>(t.marks k).map (I Z)) w∧jR (.slice f a g) t.accs w∧t.accs.length≤n)
 (V:y=fun b=>(own b∧b≠B∧b≠G∧b≠ae∧(Nh f a g).ownBlock≠S b)∧b<w.heap.size) (an:B<w.heap.size) (R:aC w U0.drew) (ar:dX D (fun b=>y b∨s4≤b) (t.dr.write i l) (n+1) C) (br:w.heap.size≤s4) (av:Q<s4∨C.heap.size≤Q) (bs:w.heap.size≤Q)
 (ba:∀b,b<C.heap.size→b≠Q→P.heap[b]?=C.heap[b]?) (W:C.heap.size≤P.heap.size) (r:aF y U0.drew P) (s:aC P w9) (u:aF (fun b=>b=G) w9 W6) (x:aF (fun b=>b=ae) W6 p)
 (X:eT Y 3 G (n+1) (fun j=>if j=i then S (.agg (aD .u8 l))else(t.ghost j).map eJ) p) (aa:eT Y 3 ae (n+1) (fun j=>if j=i then S (I Z k)else(t.marks j).map (I Z)) p)
 (B7:p.heap[B]?=S (O #[.pointer (S ⟨D,0,N⟩),.map (S G),.map (S ae),(.slice f a g)] 121)) (en:a=t.accs.length) (A:(p.drew.alloc o).grownBy w8 (Nh f a g).ownBlock)
 (T:w8.ownsRow 0 167 6 (.slice (S ⟨d,0,N⟩) (a+1) c) (a+1) ((t.accs.map dP.cells).flatten++[.bool true,I Z i,I Z i',.bool d',I Z 0,.bool false])) (ab:(Nh f a g).ownBlock=S d∨d=H) (hH:p.heap.size<H) (B8:w8.heap[B]?=S (O #[.pointer (S ⟨D,0,N⟩),.map (S G),.map (S ae),(.slice f a g)] 121))
 (HE:(⟨true,i,(t.dr.went i).1,(t.dr.went i).2.1,0,false⟩:dP)=⟨true,i,i',d',0,false⟩):
 fH B (fun b=>own b∨w.heap.size≤b) (t.put i l k) (n+1) (w8.setCell ⟨B,3,N⟩ (.slice (S ⟨d,0,N⟩) (a+1) c))∧aF own w (w8.setCell ⟨B,3,N⟩ (.slice (S ⟨d,0,N⟩) (a+1) c)):=by
 obtain⟨h1,h2,h3,h4,h5,h8,h9,m,bb⟩:=h;have V9:=Hs 3 (.slice (S ⟨d,0,N⟩) (a+1) c) B8;have bv:C.heap.size≤p.heap.size:=Ng W (Ng s.size (Ng u.size x.size));have bw:w.heap.size≤p.heap.size:=Ng R.size (Ng r.size (Ng s.size (Ng u.size x.size)));have C8:aF (fun b=>b=B∨(Nh f a g).ownBlock=S b) p (w8.setCell ⟨B,3,N⟩ (.slice (S ⟨d,0,N⟩) (a+1) c)):=(aF.grown ((Cl.drew).alloc _) A fun j h=>.inl (.inr h)).setCell (.inl (.inl rfl)) _;have J:∀z,(Nh f a g).ownBlock=S z→z<w.heap.size:=fun z h=>m.lt z h;have lG:=h8.lt;have lM:=h9.lt;have ad:∀b,y b→b<w.heap.size:=fun b q=>by rw[V]at q;exact q.2
 have F:∀b,y b→own b:=fun b q=>by rw[V]at q;exact q.1.1
 have nA:∀z,(Nh f a g).ownBlock=S z→¬y z:=fun z h q=>by rw[V]at q;exact absurd h q.1.2.2.2.2
 have bd:∀b,b<w.heap.size→¬y b→w9.heap[b]?=w.heap[b]?:=fun b U h=>(s.block b (by have:=R.size;have:=r.size;omega)).trans ((r.block b (Nj U R.size) h).trans (R.block b U));have bm:jR (.slice f a g) t.accs p:=bP.chg (bP.chg (bP.same m fun z h=>bd z (J z h) (nA z h)) u fun z h e=>sL m h8 (e▸h)) x fun z h e=>sL m h9 (e▸h);have bn:∀z,(Nh f a g).ownBlock=S z→z≠B:=bm.ne (by decide) B7
 have L:d<w.heap.size∧(Nh f a g).ownBlock=S d∨p.heap.size<d:=by
  rcases ab with e|e
  ·exact .inl ⟨J _ e,e⟩
  ·exact .inr (by rw[e];exact hH)
 have C5:aF (fun b=>b=B∨b=G∨b=ae∨(Nh f a g).ownBlock=S b) P (w8.setCell ⟨B,3,N⟩ (.slice (S ⟨d,0,N⟩) (a+1) c)):=K.chg s ((u.mono fun b _ e=>.inr (.inl e)).trans ((x.mono fun b _ e=>.inr (.inr (.inl e))).trans (C8.mono fun b _ e=>e.elim .inl (fun e=>.inr (.inr (.inr e))))));refine⟨⟨D,G,ae,.slice (S ⟨d,0,N⟩) (a+1) c,.inl h1,.inl h2,.inl h3,fun z h=>?_,h5,V9,?_,?_,?_,?_,?_⟩,?_⟩
 ·simp[Ny]at h
  subst h;rcases L with q|q
  ·exact .inl (h4 _ q.2)
  ·exact .inr (by omega)
 ·refine ar.tight.same fun b U ho=>?_
  obtain⟨M,bx⟩:=ho
  have j:b≠B∧b≠G∧b≠ae∧(Nh f a g).ownBlock≠S b:=by
   rcases M with q|q
   ·rw[V]at q;exact q.1.2
   ·exact⟨fun e=>by have:=an;omega,by omega,by omega,fun e=>by have:=J _ e;omega⟩
  have hp:b≠Q:=by
   rcases M with q|q
   ·have:=ad _ q;omega
   ·rcases av with e|e<;>omega
  refine⟨(C5.block b (Nj U W) fun e=>?_).trans (ba b U hp),?_,j.1,j.2.1,j.2.2.1,fun e=>?_⟩
  ·rcases e with e|e|e|e
   ·exact j.1 e
   ·exact j.2.1 e
   ·exact j.2.2.1 e
   ·exact j.2.2.2 e
  ·rcases M with q|q
   ·exact .inl (F b q)
   ·exact .inr (by omega)
  ·simp[Ny]at e
   rcases L with q|q
   ·exact j.2.2.2 (e▸q.2)
   ·omega
 ·have:=X.chg C8 fun e=>e.elim (fun e=>X.ne B7 e) fun e=>sL m h8 e;rw[show(fun j=>((t.put i l k).ghost j).map eJ)=fun j=>if j=i then S (.agg (aD .u8 l))else(t.ghost j).map eJ from funext fun j=>by unfold cF.put;simp only;split<;>rfl];exact this
 ·have:=aa.chg C8 fun e=>e.elim (fun e=>aa.ne B7 e) fun e=>sL m h9 e;rw[show(fun j=>((t.put i l k).marks j).map (I Z))=fun j=>if j=i then S (I Z k)else(t.marks j).map (I Z) from funext fun j=>by unfold cF.put;simp only;split<;>rfl];exact this
 ·show jR _ (t.accs++[_]) _
  rw[HE]
  have j:(w8.setCell ⟨B,3,N⟩ (.slice (S ⟨d,0,N⟩) (a+1) c)).heap[d]?=w8.heap[d]?:=heap_setCell_other _ _ _ _ (show d≠B from fun e=>by
   rcases L with q|q
   ·exact bn d q.2 e
   ·have:=aB B7;omega)
  refine bP.same (V0 (v:=.slice f a g) (w:=w8) m (by rw[←en];exact T)) fun z h=>?_;simp[Ny]at h;subst h;exact j
 ·show(t.accs++[_]).length≤n+1;simp;exact bb
 ·exact K.chg R ((r.mono fun b _ q=>F b q).next C5 (fun b e=>by
   rcases e with e|e|e|e
   ·exact .inl (e▸h1)
   ·exact .inl (e▸h2)
   ·exact .inl (e▸h3)
   ·exact .inl (h4 _ e)))
theorem VB {own:Nat→Prop} {t:cF} (ok:iG t) (T:n<bY) (i:Int) (l:List Int) (hl:l.length=72) (k:Int) (w:Mr) (M:fH B own t n w) (r:eC t.dr.r t.dr.s t.dr.b t.dr.d t.dr.c i=true):Mt Y 148 #[.pointer (S ⟨B,0,N⟩),.int .i64 i,.agg (aD .u8 l),.int .i64 k] w fun e a=>e=E (.int .i64 0)∧fH B (fun b=>own b∨w.heap.size≤b) (t.put i l k) (n+1) a∧aF own w a:=by
 obtain⟨eh,G,ds,va,h1,h2,h3,h4,h5,u,v,D,F,q,an⟩:=id M;obtain⟨z,A,a⟩:=q.slice;rw[Np]at a;have⟨s,h⟩:=Ex t.accs.length;rw[←h]at a;subst a;have cm:=aB u;have j:=v.tight;obtain⟨R,d⟩:∃R:Nat→Prop,R=fun b=>(own b∧b≠B∧b≠G∧b≠ds∧(Nh z s A).ownBlock≠S b)∧b<w.heap.size:=⟨_,rfl⟩;rw[←d]at j;have U:∀b,R b→b<w.heap.size:=fun b M=>by rw[d]at M;exact M.2
 have WR:=aA fun W (a:aC w W)=>pk ok.dr (by have:=xY;unfold bY at*;omega) i l hl W (j.keeps a) r;have⟨f,o⟩:=Ex (t.dr.went i).1;have⟨g,p⟩:=Ex (t.dr.went i).2.1;have HE:=aA (show(⟨true,i,(t.dr.went i).1,(t.dr.went i).2.1,0,false⟩:dP)=⟨true,i,f,g,0,false⟩ by rw[o,p]);rw[←o,←p]at WR;have a:(w.alloc (O (aD .u8 l) 79)).heap[w.heap.size]?=S (O (aD .u8 l) 79):=aG _ _ _ rfl;have c:(w.alloc (O (aD .u8 l) 79)).heap[B]?=S (O #[.pointer (S ⟨eh,0,N⟩),.map (S G),.map (S ds),(.slice z s A)] 121):=(aV _ _ _ cm).trans u;have m:bN i:=by have:=oI r ok.dr.right;unfold bN;omega
 have HH:=mI h1 h2 h3 h4 h5 D F q an;have HN:=Hd3 h T m;have ar:(aD .u8 l).size=72:=by rw[aP,hl]
 have HQ:=Hd3 a c (show aC w (w.alloc (O (aD .u8 l) 79)) from aU);have HO:=aA d;clear j d h1 h2 h3 h4 h5 u v D F q an h o p r a c m;go_in;go_wp2_with fail;generalize(w.alloc (O (aD .u8 l) 79))=h at*;have⟨a,c,q⟩:=HQ.out;have o:aC h h.drew:=Kd Kr;replace a:=aE o a;replace c:=aE o c;have m:aC w h.drew:=Kc q o;have r:=Cw c 0;simp at r;have LX:=Lw a 72 ar;have ec:=aA (WR.out _ m);have ya:(h.alloc (O #[.int .i64 0,.bool false] 165)).drew.heap[h.heap.size]?=S (O #[.int .i64 0,.bool false] 165):=aG _ _ _ rfl;have d:aC h.drew (h.alloc (O #[.int .i64 0,.bool false] 165)).drew:=K.undrew (Kd aU);have ed:=aA (WR.out _ (Kc m d));have p:=Lw (aE d a) 72 ar;have dz:w.heap.size≤h.heap.size:=m.size;have HA:=aH ya d;have j:=Hd3 a c m;have ei:Y.underlying 79=S (.array 72 5):=by kernel_rfl
 have y1:(Y.info? 79).map (·.size)=S (aD .u8 l).toList.length:=by rw[Oj,ar];kernel_rfl
 have y2:(aD .u8 l).toList.length=72:=by rw[Oj,ar]
 have C:∀W:Mr,W.heap[B]?=S (O #[.pointer (S ⟨eh,0,N⟩),.map (S G),.map (S ds),(.slice z s A)] 121)→W.heap[w.heap.size]?=S (O (aD .u8 l) 79)→W.cell? ⟨B,0,N⟩=S (.pointer (S ⟨eh,0,N⟩))∧W.rangeAt w.heap.size 0 (aD .u8 l).toList:=fun W h1 h2=>⟨Cw h1 0,JW h2⟩;have ee:B≠h.heap.size:=by have:=aB c;simp at this;omega
 have ef:w.heap.size≠h.heap.size:=by have:=aB a;simp at this;omega
 have X:=C _ c a;have aa:=C _ (aE d c) (aE d a);clear a c m q o ya d LX p r
 go_region_held3 (fun a=>a.cell? ⟨B,0,N⟩=S (.pointer (S ⟨eh,0,N⟩))∧a.rangeAt w.heap.size 0 (aD .u8 l).toList) (first|exact X|exact aa|exact cf|exact av|exact cl) (first|(go_at_call 193;with_reducible refine ec.out.mono ?_;rintro e d ⟨rfl,ba,H⟩;have J:=aJ H j.out.2.1 (fun M=>by rw[HO.out]at M;exact absurd rfl M.1.2.1);have L:=aJ H j.out.1 (fun M=>by have:=U _ M;omega);have cf:=C d J L;have av:=C (d.alloc (O #[.int .i64 f,.bool g] 165)) ((aV _ _ _ (aB J)).trans J) ((aV _ _ _ (aB L)).trans L);have cl:=C (d.alloc (O #[.int .i64 0,.bool false] 165)) ((aV _ _ _ (aB J)).trans J) ((aV _ _ _ (aB L)).trans L);have bb:=aH ba H;have SP:(Me ⟨d.heap.size,0,N⟩ [.int .i64 f,.bool g] 0).run Y (d.alloc (O #[.int .i64 0,.bool false] 165))=.ok () (d.alloc (O #[.int .i64 f,.bool g] 165)):=Mi d 165 _ #[.int .i64 f,.bool g] (by kernel_rfl) rfl (by simp[Ni]);clear ba H)|(go_at_call 193;with_reducible refine ed.out.mono ?_;rintro e d ⟨rfl,ba,H⟩;have J:=aJ H (aE HA.out.2 j.out.2.1) (fun M=>by rw[HO.out]at M;exact absurd rfl M.1.2.1);have L:=aJ H (aE HA.out.2 j.out.1) (fun M=>by have:=U _ M;omega);have cf:=C d J L;have av:=C (d.setRow h.heap.size #[.int .i64 f,.bool g]) ((So ee).trans J) ((So ef).trans L);have yb:=aJ H HA.out.1 (fun M=>by have:=U _ M;omega);have bb:=aH ba (K.chg HA.out.2 H);have SP:=Sw yb #[.int .i64 f,.bool g] rfl (by simp[Ni]);have HY:=aA yb;clear ba H yb))
 ·skip
  have ab:=bb.out.2;have ck:=ab.size;have hsA:=j.out.2.2.size;have hp:(d.alloc (O #[.int .i64 f,.bool g] 165)).heap[d.heap.size]?=S (O #[.int .i64 f,.bool g] 165):=aG _ _ _ rfl;have a:aF R h.drew (d.alloc (O #[.int .i64 f,.bool g] 165)):=ab.alloc _;have bd:∀b,b<d.heap.size→b≠d.heap.size→(d.alloc (O #[.int .i64 f,.bool g] 165)).heap[b]?=d.heap[b]?:=fun b m _=>aV _ _ _ m;have bm:w.heap.size≤d.heap.size:=Ng hsA ck;have cn:w.heap.size<h.drew.heap.size:=aB j.out.1;have hx:(d.alloc (O #[.int .i64 f,.bool g] 165)).heap[w.heap.size]?=S (O (aD .u8 l) 79):=aJ a j.out.1 (fun M=>by have:=U _ M;omega);have hB:(d.alloc (O #[.int .i64 f,.bool g] 165)).heap[B]?=S (O #[.pointer (S ⟨eh,0,N⟩),.map (S G),.map (S ds),(.slice z s A)] 121):=aJ a j.out.2.1 (fun M=>by rw[HO.out]at M;exact absurd rfl M.1.2.1);have cp:d.heap.size≤(d.alloc (O #[.int .i64 f,.bool g] 165)).heap.size:=by simp[Mr.setRow]
  have c:=eQ a bd hx hB hp bm;clear ab ck hsA cn hx hB hp bm a bd;go_wp2_with fail;clear X aa cf av SP J L cl;generalize(d.alloc (O #[.int .i64 f,.bool g] 165))=U5 at*;have q1:U5.cell? ⟨B,1,N⟩=S (.map (S G)):=Cw c.out.2.2.2.1 1;have zB:=aB c.out.2.2.2.1;have LX:∀a,aC U5 a→(Mc ⟨w.heap.size,0,N⟩ 0 72 #[]).run Y a=.ok (aD .u8 l) a:=fun a M=>fJ a _ _ 79 (0,0) (aE M c.out.2.2.1) 72 ar;refine wpIn_wide.1 (vM (n:=9) 6 (by kernel_rfl) (by kernel_rfl) ?_);simp only[List.drop_succ_cons,List.drop_zero,List.take_succ_cons,List.take_zero]
  repeat
   with_reducible refine Mz fun K o=>?_
   go_simp
   try first
    |(apply Ei
      intro a m;obtain⟨p,q⟩:=m.cells;go_simp
      rfl)
    |(with_reducible refine aQ ?_ ?_;decide)
   refine o _ ?_;clear o K
  with_reducible refine Na ?_
  intro w9 r;have bn:aF R h.drew w9:=aF.keeps c.out.1 r;have v:∀b,b<w.heap.size→¬R b→w9.heap[b]?=w.heap[b]?:=fun b m T=>(bn.block b (Nj m j.out.2.2.size) T).trans (j.out.2.2.block b m);have⟨h1,h2,h3,h4,h5,D,F,q,an⟩:=HH.out;have nG:¬R G:=fun M=>by rw[HO.out]at M;exact absurd rfl M.1.2.2.1
  have nM:¬R ds:=fun M=>by rw[HO.out]at M;exact absurd rfl M.1.2.2.2.1
  have nA:∀J,(Nh z s A).ownBlock=S J→¬R J:=fun J p M=>by rw[HO.out]at M;exact absurd p M.1.2.2.2.2
  have lm:=xY;have⟨en,T,m⟩:=HN.out;obtain⟨W6,bz,br,a⟩:=(D.same (v G D.lt nG)).update underlying3 underlying117 (by unfold bY at*;omega) m (.agg (aD .u8 l));have bs:=(F.same (v ds F.lt nM)).chg a fun e=>h5 e.symm;have bv:jR (.slice z s A) t.accs W6:=bP.chg (bP.same q fun J p=>v J (q.lt J p) (nA J p)) a fun J p e=>sL q D (e▸p);have B9:=aE r c.out.2.2.2.1;have bw:B≠G:=fun e=>(D.same (v G D.lt nG)).ne B9 e.symm;have bx:B≠ds:=fun e=>(F.same (v ds F.lt nM)).ne B9 e.symm;have B6:=aJ a B9 bw;have P6:=aJ a (aE r c.out.2.2.2.2.1) (fun e=>by have:=D.lt;have:=c.out.2.2.2.2.2;omega);obtain⟨V,ad,P,o⟩:=bs.update underlying3 underlying118 (by unfold bY at*;omega) m (.int .i64 k);have q2:W6.cell? ⟨B,2,N⟩=S (.map (S ds)):=Cw B6 2;have x:jR (.slice z s A) t.accs V:=bP.chg bv o fun J p e=>sL q F (e▸p);have y:=aJ o B6 bx;have u:=aJ o P6 (fun e=>by have:=F.lt;have:=c.out.2.2.2.2.2;omega);have Q:=br.chg o h5;have HG:=pP r a o Q P x y u;clear bn v h1 h2 h3 h4 h5 D F q an nG nM nA en m br a bs bv B9 bw bx B6 P6 P o x y u Q r LX q1 zB lm;gi_wp2_with fail;go_wp2_with fail;clear bz ad q2;have⟨r,a,o,Q,P,x,y,u⟩:=HG.out;obtain⟨i0,cu,cv,cx,cz⟩:=info_parts MA;have⟨en,T,m⟩:=HN.out;have cc:V.ownsRow 0 167 6 (.slice z s A) s (t.accs.map dP.cells).flatten:=by have:=x.own;rw[Np,←en]at this;exact this
  have db:∀J,(Nh z s A).ownBlock=S J→J≠B:=x.ne (by decide) y;have zB:=aB y;have zP:=aB u;have e0:=Cw y 3;simp at e0;have dd:d.heap.size≠B:=fun e=>by rw[e,y]at u;simp at u
  have lm:=xY;have eg:s≤n:=by have:=HH.out.2.2.2.2.2.2.2.2;omega
  clear en;have C:∀W:Mr,W.heap[d.heap.size]?=S (O #[.int .i64 f,.bool g] 165)→(Mc ⟨d.heap.size,0,N⟩ 0 2 #[]).run Y W=.ok #[.int .i64 f,.bool g] W:=fun W M=>fJ W _ _ 165 (0,0) M 2 rfl;have dg:∀J,(Nh z s A).ownBlock=S J→J≠d.heap.size:=x.ne (by decide) u;have X:=C V.drew u;have aa:=C (V.drew.alloc (O #[.bool true,.int .i64 i,.int .i64 f,.bool g,.int .i64 0,.bool false] 167)) ((aV _ _ _ (aB u)).trans u)
  go_region_law (first|(refine step_append_lies _ (by rfl) (.tmp 40) (.tmp 44) 119 (by rfl) 0 167 i0 _ 6 48 underlying119 cu cv cx cz (by rfl) (by decide) (.slice z s A) s (t.accs.map dP.cells).flatten (by rfl) ((cc.alloc _).drew) ⟨V.heap.size,0,N⟩ 1 1 [.bool true,.int .i64 i,.int .i64 f,.bool g,.int .i64 0,.bool false] (by rfl) (by rfl) (Mr.news_of_block (heap_alloc_new V _)) (MB ⟨true,i,f,g,0,false⟩) (by decide) (by unfold bY at*;omega) (by unfold bY at*;omega) (Ns _) _ rfl ?_;intro g8 ea w8 ae p cd eb;have B8:=eS p ((aV _ _ _ (aB y)).trans y) fun e=>db _ e.symm rfl;have P8:=eS p ((aV _ _ _ (aB u)).trans u) fun e=>dg _ e.symm rfl;have b8:=Cw B8 3;have f8:=Fw B8 3;simp at b8;have dl:=C w8 P8;have dn:∀q,(Mc ⟨d.heap.size,0,N⟩ 0 2 #[]).run Y (w8.setCell ⟨B,3,N⟩ q)=.ok #[.int .i64 f,.bool g] (w8.setCell ⟨B,3,N⟩ q):=fun q=>C _ ((Ho dd).trans P8)))
  all_goals clear b8 f8 e0 X aa dl dn C;go_wp2_with fail;go_ret;exact⟨by rfl,VA ok HH.out HO.out cm j.out.2.2 bb.out.1 (show w.heap.size≤h.drew.heap.size from dz) (.inr Nl) c.out.2.2.2.2.2 c.out.2.1 cp c.out.1 r a o Q P y HN.out.1 p ae cd (by simp) B8 HE.out⟩
 ·skip
  have ab:=bb.out.2;have ck:=ab.size;have hsA:=j.out.2.2.size;have hp:=Hw HY.out #[.int .i64 f,.bool g];have a:aF R h.drew (d.setRow h.heap.size #[.int .i64 f,.bool g]):=ab.next (cw':=fun i=>i=h.heap.size) ⟨rfl,rfl,rfl,by simp[Mr.setRow],fun b _ T=>So T⟩ fun i e=>.inr (by rw[e];exact Nl);have bd:∀b,b<d.heap.size→b≠h.heap.size→(d.setRow h.heap.size #[.int .i64 f,.bool g]).heap[b]?=d.heap[b]?:=fun b _ T=>So T;have bm:w.heap.size≤h.heap.size:=dz;have cn:w.heap.size<h.drew.heap.size:=aB j.out.1;have hx:(d.setRow h.heap.size #[.int .i64 f,.bool g]).heap[w.heap.size]?=S (O (aD .u8 l) 79):=aJ a j.out.1 (fun M=>by have:=U _ M;omega);have hB:(d.setRow h.heap.size #[.int .i64 f,.bool g]).heap[B]?=S (O #[.pointer (S ⟨eh,0,N⟩),.map (S G),.map (S ds),(.slice z s A)] 121):=aJ a j.out.2.1 (fun M=>by rw[HO.out]at M;exact absurd rfl M.1.2.1);have cp:d.heap.size≤(d.setRow h.heap.size #[.int .i64 f,.bool g]).heap.size:=by simp[Mr.setRow]
  have c:=eQ a bd hx hB hp bm;clear ab ck hsA cn hx hB hp bm a bd;go_wp2_with fail;clear X aa cf av SP J L;generalize(d.setRow h.heap.size #[.int .i64 f,.bool g])=U5 at*;have q1:U5.cell? ⟨B,1,N⟩=S (.map (S G)):=Cw c.out.2.2.2.1 1;have zB:=aB c.out.2.2.2.1;have LX:∀a,aC U5 a→(Mc ⟨w.heap.size,0,N⟩ 0 72 #[]).run Y a=.ok (aD .u8 l) a:=fun a M=>fJ a _ _ 79 (0,0) (aE M c.out.2.2.1) 72 ar;refine wpIn_wide.1 (vM (n:=9) 6 (by kernel_rfl) (by kernel_rfl) ?_);simp only[List.drop_succ_cons,List.drop_zero,List.take_succ_cons,List.take_zero]
  repeat
   with_reducible refine Mz fun K o=>?_
   go_simp
   try first
    |(apply Ei
      intro a m;obtain⟨p,q⟩:=m.cells;go_simp
      rfl)
    |(with_reducible refine aQ ?_ ?_;decide)
   refine o _ ?_;clear o K
  with_reducible refine Na ?_
  intro w9 r;have bn:aF R h.drew w9:=aF.keeps c.out.1 r;have v:∀b,b<w.heap.size→¬R b→w9.heap[b]?=w.heap[b]?:=fun b m T=>(bn.block b (Nj m j.out.2.2.size) T).trans (j.out.2.2.block b m);have⟨h1,h2,h3,h4,h5,D,F,q,an⟩:=HH.out;have nG:¬R G:=fun M=>by rw[HO.out]at M;exact absurd rfl M.1.2.2.1
  have nM:¬R ds:=fun M=>by rw[HO.out]at M;exact absurd rfl M.1.2.2.2.1
  have nA:∀J,(Nh z s A).ownBlock=S J→¬R J:=fun J p M=>by rw[HO.out]at M;exact absurd p M.1.2.2.2.2
  have lm:=xY;have⟨en,T,m⟩:=HN.out;obtain⟨W6,bz,br,a⟩:=(D.same (v G D.lt nG)).update underlying3 underlying117 (by unfold bY at*;omega) m (.agg (aD .u8 l));have bs:=(F.same (v ds F.lt nM)).chg a fun e=>h5 e.symm;have bv:jR (.slice z s A) t.accs W6:=bP.chg (bP.same q fun J p=>v J (q.lt J p) (nA J p)) a fun J p e=>sL q D (e▸p);have B9:=aE r c.out.2.2.2.1;have bw:B≠G:=fun e=>(D.same (v G D.lt nG)).ne B9 e.symm;have bx:B≠ds:=fun e=>(F.same (v ds F.lt nM)).ne B9 e.symm;have B6:=aJ a B9 bw;have P6:=aJ a (aE r c.out.2.2.2.2.1) (fun e=>by have:=D.lt;have:=c.out.2.2.2.2.2;omega);obtain⟨V,ad,P,o⟩:=bs.update underlying3 underlying118 (by unfold bY at*;omega) m (.int .i64 k);have q2:W6.cell? ⟨B,2,N⟩=S (.map (S ds)):=Cw B6 2;have x:jR (.slice z s A) t.accs V:=bP.chg bv o fun J p e=>sL q F (e▸p);have y:=aJ o B6 bx;have u:=aJ o P6 (fun e=>by have:=F.lt;have:=c.out.2.2.2.2.2;omega);have Q:=br.chg o h5;have HG:=pP r a o Q P x y u;clear bn v h1 h2 h3 h4 h5 D F q an nG nM nA en m br a bs bv B9 bw bx B6 P6 P o x y u Q r LX q1 zB lm;gi_wp2_with fail;go_wp2_with fail;clear bz ad q2;have⟨r,a,o,Q,P,x,y,u⟩:=HG.out;obtain⟨i0,cu,cv,cx,cz⟩:=info_parts MA;have⟨en,T,m⟩:=HN.out;have cc:V.ownsRow 0 167 6 (.slice z s A) s (t.accs.map dP.cells).flatten:=by have:=x.own;rw[Np,←en]at this;exact this
  have db:∀J,(Nh z s A).ownBlock=S J→J≠B:=x.ne (by decide) y;have zB:=aB y;have zP:=aB u;have e0:=Cw y 3;simp at e0;have dd:h.heap.size≠B:=fun e=>by rw[e,y]at u;simp at u
  have lm:=xY;have eg:s≤n:=by have:=HH.out.2.2.2.2.2.2.2.2;omega
  clear en;have C:∀W:Mr,W.heap[h.heap.size]?=S (O #[.int .i64 f,.bool g] 165)→(Mc ⟨h.heap.size,0,N⟩ 0 2 #[]).run Y W=.ok #[.int .i64 f,.bool g] W:=fun W M=>fJ W _ _ 165 (0,0) M 2 rfl;have dg:∀J,(Nh z s A).ownBlock=S J→J≠h.heap.size:=x.ne (by decide) u;have X:=C V.drew u;have aa:=C (V.drew.alloc (O #[.bool true,.int .i64 i,.int .i64 f,.bool g,.int .i64 0,.bool false] 167)) ((aV _ _ _ (aB u)).trans u)
  go_region_law (first|(refine step_append_lies _ (by rfl) (.tmp 40) (.tmp 44) 119 (by rfl) 0 167 i0 _ 6 48 underlying119 cu cv cx cz (by rfl) (by decide) (.slice z s A) s (t.accs.map dP.cells).flatten (by rfl) ((cc.alloc _).drew) ⟨V.heap.size,0,N⟩ 1 1 [.bool true,.int .i64 i,.int .i64 f,.bool g,.int .i64 0,.bool false] (by rfl) (by rfl) (Mr.news_of_block (heap_alloc_new V _)) (MB ⟨true,i,f,g,0,false⟩) (by decide) (by unfold bY at*;omega) (by unfold bY at*;omega) (Ns _) _ rfl ?_;intro g8 ea w8 ae p cd eb;have B8:=eS p ((aV _ _ _ (aB y)).trans y) fun e=>db _ e.symm rfl;have P8:=eS p ((aV _ _ _ (aB u)).trans u) fun e=>dg _ e.symm rfl;have b8:=Cw B8 3;have f8:=Fw B8 3;simp at b8;have dl:=C w8 P8;have dn:∀q,(Mc ⟨h.heap.size,0,N⟩ 0 2 #[]).run Y (w8.setCell ⟨B,3,N⟩ q)=.ok #[.int .i64 f,.bool g] (w8.setCell ⟨B,3,N⟩ q):=fun q=>C _ ((Ho dd).trans P8)))
  all_goals clear b8 f8 e0 X aa dl dn C;go_wp2_with fail;go_ret;exact⟨by rfl,VA ok HH.out HO.out cm j.out.2.2 bb.out.1 (by simp;omega) (.inl (by simp)) c.out.2.2.2.2.2 c.out.2.1 cp c.out.1 r a o Q P y HN.out.1 p ae cd (by simp) B8 HE.out⟩
end
section
open Go.RowKit Go.Shelf lin
attribute [local go_sem] Oper.semAt_some cK
section
attribute [local simp] Mf Mg
attribute [local go_sem] Mh
theorem zx {own:Nat→Prop} {t:cF} (ok:iG t) (h:n<bY) (i:Int) (l:List Int) (f:l.length=72) (w:Mr) (g:fH B own t n w) (c:eC t.dr.r t.dr.s t.dr.b t.dr.d t.dr.c i=true):Mt Y 102 #[.pointer (S ⟨B,0,N⟩),I Z i,.agg (aD .u8 l)] w fun e a=>e=E (I Z 0)∧fH B (fun b=>own b∨w.heap.size≤b) (t.put i l 0) (n+1) a∧aF own w a:=by
 have d:(aD .u8 l).size=72:=by rw[aP,f]
 have a:aC w (w.alloc (O (aD .u8 l) 79)):=aU;have p:=fJ (P:=Y) (w.alloc (O (aD .u8 l) 79)) w.heap.size _ 79 (0,0) (aG _ _ _ rfl) 72 d;have j:=aA (VB ok h i l f 0 (w.alloc (O (aD .u8 l) 79)) (g.tight.keeps a) c);have k:=aA a;clear g a c;go_in;go_wp2_with fail;refine j.out.mono ?_;rintro e a ⟨rfl,m,o⟩;go_wp2_with fail;go_ret;exact⟨rfl,m.mono (fun b c=>c.imp (fun g=>g.1) fun g=>by simp at g;omega) Nl,K.chg k.out (o.mono fun b _ c=>c.1)⟩
theorem zy {own:Nat→Prop} {t:cF} (ok:iG t) (h:n<bY) (i:Int) (l:List Int) (f:l.length=72) (w:Mr) (g:fH B own t n w) (c:eC t.dr.r t.dr.s t.dr.b t.dr.d t.dr.c i=true):Mt Y 101 #[.pointer (S ⟨B,0,N⟩),I Z i,.agg (aD .u8 l)] w fun e a=>e=E (I Z 0)∧fH B (fun b=>own b∨w.heap.size≤b) (t.put i l 1) (n+1) a∧aF own w a:=by
 have d:(aD .u8 l).size=72:=by rw[aP,f]
 have a:aC w (w.alloc (O (aD .u8 l) 79)):=aU;have p:=fJ (P:=Y) (w.alloc (O (aD .u8 l) 79)) w.heap.size _ 79 (0,0) (aG _ _ _ rfl) 72 d;have j:=aA (VB ok h i l f 1 (w.alloc (O (aD .u8 l) 79)) (g.tight.keeps a) c);have k:=aA a;clear g a c;go_in;go_wp2_with fail;refine j.out.mono ?_;rintro e a ⟨rfl,m,o⟩;go_wp2_with fail;go_ret;exact⟨rfl,m.mono (fun b c=>c.imp (fun g=>g.1) fun g=>by simp at g;omega) Nl,K.chg k.out (o.mono fun b _ c=>c.1)⟩
def cF.inj (t:cF) (f:aZ):cF:={t with dr:=(t.dr.inj f).2}
theorem iG.inj {t:cF} (a:iG t) (f:aZ):iG (t.inj f):=⟨a.dr.inj' f,a.ghost⟩
end
theorem Aa {own:Nat→Prop} {t:cF} (ok:iG t) (U:n<bY) (f:aZ) (w:Mr) (o:fH B own t n w) (a:∀b,own b→b<w.heap.size):Mt Y 64 #[.pointer (S ⟨B,0,N⟩),.agg f.cells.toArray] w fun e c=>e=E (I Z (t.dr.inj f).1)∧fH B (fun b=>own b∨w.heap.size≤b) (t.inj f) (n+1) c∧aF own w c:=by
 obtain⟨aa,G,V,z,h,i,j,k,p,l,x,q,r,c,d⟩:=o;have⟨X,o⟩:=Ex (w.alloc (O f.cells.toArray 43));have m:aC w X:=by rw[o];exact aU
 have s:X.heap[w.heap.size]?=S (O f.cells.toArray 43):=by rw[o];exact aG _ _ _ rfl
 have u:=aA fun W (g:aC w W)=>zi ok.dr (by have:=xY;unfold bY at*;omega) f W (x.keeps g);have A:=aA (Ai h (Ai i (Ai j (Ai k (Ai p (Ai l (Ai q (Ai r (Ai c (Ai d (Ai a m)))))))))));have g:=aE m l;have R:=aB g;have v:=aB s;unfold aZ.cells at s;have C:=Cw g 0;simp at C;have⟨D,F,H,b3,J,L,M,P⟩:=OF s;simp at D F H b3 J L M P;clear h i j k p l x q r c d a m g s;unfold aZ.cells at*;have⟨e1,x⟩:=Ey (t.dr.inj f).1;rw[x]at u ⊢;go_in;go_upto_region 1 with fail;rw[←o];clear o;refine eK (by kernel_rfl) (iK [0,1,2,3,4] [] [5,6] (by kernel_rfl) ?_);simp only[aM,d8]
 repeat
  with_reducible refine dS fun K d=>?_
  go_simp
  try first
   |(apply Ei
     intro c a;obtain⟨g,h⟩:=a.cells;go_simp
     rfl)
   |(with_reducible refine aQ ?_ ?_;first|decide|simp[Mv];done)
  refine d _ ?_;clear d K
 with_reducible refine dR ?_
 refine iJ fun Q g=>?_;have⟨h,i,j,k,p,l,q,r,c,d,a,m⟩:=A.out;have s:aC w Q:=aK m g;have y:=aA (u.out Q s);have T:=aA s;clear h i j k p l q r c d a m s g u C D F H b3 J L M P R v;go_wp2_with fail;refine y.out.mono ?_;rintro e v ⟨rfl,C,D⟩;go_wp2_with fail;refine dT ?_;go_wp2_with fail;go_ret;have⟨h,i,j,k,p,l,q,r,c,d,a,m⟩:=A.out;have s:=T.out;have g:aF (fun b=>own b∧b≠B∧b≠G∧b≠V∧z.ownBlock≠S b) w v:=K.chg s D;refine⟨rfl,⟨aa,G,V,z,.inl h,.inl i,.inl j,fun H u=>.inl (k H u),p,aJ g l fun o=>o.2.1 rfl,?_,(q.chg g fun o=>o.2.2.1 rfl).mono (Nu _),(r.chg g fun o=>o.2.2.2.1 rfl).mono (Nu _),c.chg g fun H u o=>o.2.2.2.2 u,by show t.accs.length≤n+1;omega⟩,g.mono fun b _ o=>o.1⟩;refine C.mono (fun b o=>?_) Nl;rcases o with o|o
 ·exact⟨.inl o.1,o.2⟩
 ·have J:=s.size;have L:=a _ h;have M:=a _ i;have P:=a _ j;refine⟨.inr (by omega),by omega,by omega,by omega,fun F=>?_⟩;have:=a _ (k _ F);omega
theorem Ab {own:Nat→Prop} {t:cF} (ok:iG t) (d:n<bY) (f:aZ) (w:Mr) (i:fH B own t n w):Mt Y 64 #[.pointer (S ⟨B,0,N⟩),.agg f.cells.toArray] w fun e c=>e=E (I Z (t.dr.inj f).1)∧fH B (fun b=>own b∨w.heap.size≤b) (t.inj f) (n+1) c∧aF own w c:=(Aa ok d f w i.tight fun b a=>a.2).mono (fun e c ⟨a,g,h⟩=>⟨a,g.mono (fun b a=>a.imp (fun i=>i.1) id) Nl,h.mono fun b _ a=>a.1⟩)
def dP.ast (a:dP):Bool:=a.dr||decide (a.wi≠a.i)
theorem Ac (a:dP) (w:Mr):Mt Y 109 #[.agg a.cells.toArray] w fun e b=>e=E (.bool a.ast)∧Mu w.heap.size w b:=by unfold dP.ast dP.cells;cases a.dr<;>by_cases c:a.wi=a.i;all_goals go_in;go_wp2;go_ret;exact⟨by simp[c],(by repeat first|exact Bl|assumption|refine Ka ?_|refine Ks ?_ (by first|exact Nl|simp<;>omega|omega)|refine Kd ?_|refine Kc ?_ (by assumption))⟩
end
section
open Go.RowKit Go.Shelf lin
attribute [local go_sem] Oper.semAt_some cK Mh
attribute [local simp] Mf Mg
def oM (p:List Nat):Nat→List Nat
 |0=>[0,0,0,0]
 |k+1=>(oM p k).set k (gev p (gexp k))
def gM (w v:List Nat):List Nat:=oM (w++v) 4
theorem CA (p:List Nat):∀a,(oM p a).length=4
 |0=>rfl
 |a+1=>by show((oM p a).set _ _).length=4;rw[Od,CA p a]
theorem VC {p:List Nat} (a:bM p):∀c,bM (oM p c)
 |0=>fun d b=>by simp[oM]at b;omega
 |c+1=>(VC a c).set _ (xQ a _)
theorem xZ {t:Nat} {l:List Nat} (b:W.heap[g]?=S (O (aT l).toArray t)) (a:j<l.length):W.cell? ⟨g,j,N⟩=S (.int .u8 (l.getD j 0:Nat)):=by rw[Cw b j,Oi];exact kL l a
theorem Ad (d v:List Nat) (M:d.length=36) (Q:v.length=3) (h:bM d) (i:bM v) (w:Mr) (z:mA C F g w):Mt Y 241 #[.pointer (S ⟨C,0,N⟩),.agg (aT d).toArray,.agg (aT v).toArray] w fun e c=>e=E (.agg (aT (gM d v)).toArray)∧Mu w.heap.size w c:=by
 have⟨br,t⟩:=Ex (aT d).toArray;have⟨bs,u⟩:=Ex (aT v).toArray;rw[←t,←u];have HH:=aA z;have bb:br.size=36:=by rw[t,Nv,fC,M]
 have bd:bs.size=3:=by rw[u,Nv,fC,Q]
 have U:=eQ t u M Q h i;clear z t u M Q h i;go_in;go_wp2_with fail;refine vO [1,3] [] [] [0] [2,4,5] (by kernel_rfl) (by kernel_rfl) ?_;simp only[aM,d8]
 repeat(
  with_reducible refine i9 fun K f=>?_
  go_simp;unfold gI;apply Ei
  ·intro c a;go_simp;exact⟨rfl,rfl⟩
  refine f _ ?_
  clear f K)
 with_reducible refine eZ ?_
 repeat(
  with_reducible refine i9 fun K f=>?_
  go_simp;unfold gI;apply Ei
  ·intro c a;obtain⟨h,i⟩:=a.cells;go_simp;exact⟨rfl,rfl⟩
  refine f _ ?_
  clear f K)
 with_reducible refine eZ ?_
 repeat
  with_reducible refine Mz fun K f=>?_
  go_simp
  try first
   |(apply Ei
     intro c a;obtain⟨h,i⟩:=a.cells;go_simp
     rfl)
   |(with_reducible refine aQ ?_ ?_;decide)
  refine f _ ?_;clear f K
 with_reducible refine Na ?_
 intro w9 a;with_reducible refine kZ fun c f=>?_
 go_simp;refine f _ _ (Ka a) ?_;clear f c;with_reducible refine lX ?_
 have⟨t,u,M,Q,h,i⟩:=U.out;obtain⟨y,c⟩:∃W,W=w9.alloc (O #[] 5):=⟨_,rfl⟩;rw[←c];obtain⟨m,l⟩:∃s,s=w9.heap.size:=⟨_,rfl⟩;rw[←l];have f:aC w y:=by rw[c];exact Ka (Kc zQ a)
 have bm:w.heap.size+4≤m:=by rw[l];have:=a.size;simp at this;omega
 have J:y.ownsRow m 5 1 (.slice (S ⟨m,0,N⟩) 0 0) 0 []:=by rw[c,l];exact⟨rfl,.inr ⟨w9.heap.size,0,#[],rfl,Nl,aG _ _ _ rfl,Nl,Ns _,rfl,rfl⟩⟩
 have o:∀b k,((((w.alloc (O br 352)).alloc (O bs 243)).alloc (O #[.int .u8 0,.int .u8 0,.int .u8 0,.int .u8 0] 249)).alloc (O #[.int .u8 0,.int .u8 0,.int .u8 0,.int .u8 0] 249)).heap[b]?=S k→y.heap[b]?=S k:=fun b k z=>by rw[c];exact aE aU (aE a z)
 have z:y.heap[w.heap.size]?=S (O (aT d).toArray 352):=by rw[←t];exact o _ _ (zH (by first|rfl|simp<;>omega|omega))
 have r:y.heap[w.heap.size+1]?=S (O (aT v).toArray 243):=by rw[←u];exact o _ _ (nE (by first|rfl|simp<;>omega|omega))
 have k:y.heap[w.heap.size+1+1]?=S (O #[.int .u8 0,.int .u8 0,.int .u8 0,.int .u8 0] 249):=o _ _ (gQ (by first|rfl|simp<;>omega|omega));have q:y.heap[w.heap.size+1+1+1]?=S (O #[.int .u8 0,.int .u8 0,.int .u8 0,.int .u8 0] 249):=o _ _ (iH (by first|rfl|simp<;>omega|omega));obtain⟨i0,V,aa,ab,ad⟩:=info_parts lO;have HR:=eP f z r k q;have z4:m≤y.heap.size:=by rw[c,l];simp
 clear a l c f o z r k q t u h i
 have AR:Hid (∀W' c,y.grownBy W' (S m)→W'.ownsRow m 5 1 c (0+36) ([]++aT d)→∃i t,c=.slice i 36 t∧m≤W'.heap.size∧Hid (aC w W'∧W'.ownsRow m 5 1 (.slice i 36 t) 36 (aT d)∧W'.heap[w.heap.size+1]?=S (O (aT v).toArray 243)∧W'.heap[w.heap.size+1+1]?=S (O #[.int .u8 0,.int .u8 0,.int .u8 0,.int .u8 0] 249)∧W'.heap[w.heap.size+1+1+1]?=S (O #[.int .u8 0,.int .u8 0,.int .u8 0,.int .u8 0] 249))):=aA (fun W' c a h=>by
  have⟨f,z,r,k,q⟩:=HR.out;obtain⟨i,t,rfl⟩:=own_slice h;rw[List.nil_append]at h
  exact⟨i,t,rfl,Ng z4 a.size,aA ⟨sI f a fun o l=>by injection l;omega,h,eS a r fun e=>by injection e;omega,eS a k fun e=>by injection e;omega,eS a q fun e=>by injection e;omega⟩⟩)
 go_wp2_with(first|(at_builtin;refine wpList_append_own_at _ rfl _ _ 158 rfl m 5 i0 _ 1 1 underlying158 V aa ab ad rfl (by decide) _ _ _ rfl J ⟨w.heap.size,0,N⟩ 36 36 (aT d) rfl (by rw[fC,M]) (AW HR.out.2.1) (xO d) (by unfold maxLen;omega) (by omega) (by omega) ?_;intro v3 w3 B r _ A;obtain⟨a3,c3,rfl,z3,H3⟩:=AR.out _ _ r B;clear B r A AR)|(at_builtin;refine wpList_append_own_at _ rfl _ _ 158 rfl m 5 i0 _ 1 1 underlying158 V aa ab ad rfl (by decide) _ _ _ rfl H3.out.2.1 ⟨w.heap.size+1,0,N⟩ 3 3 (aT v) rfl (by rw[fC,Q]) (AW H3.out.2.2.1) (xO v) (by unfold maxLen;omega) (by omega) (by omega) ?_;intro v4 L a c _ A;obtain⟨a4,c4,rfl⟩:=own_slice a));have⟨k3,o3,av,ae,an⟩:=H3.out;rw[←xS]at a;have⟨p,R⟩:=Ex (d++v);rw[←R]at a;have⟨t,u,_,_,h,i⟩:=U.out;have z:p.length=39:=by rw[R,Nr];omega
 have ar:bM p:=by rw[R];exact h.app i
 have D:fP (.slice a4 39 c4) p L:=fP.base (base:=m) (by rw[z];exact a);have G:∀o,(Nh a3 36 c3).ownBlock=S o→w.heap.size+4≤o:=fun o l=>by have:=(Mr.ownsRow.lt o3 o l).1;omega
 have f:aC w L:=sI k3 c (fun o l=>by have:=G o l;omega);have k:=eS c ae (fun e=>by have:=G _ e.symm;omega);have q:=eS c an (fun e=>by have:=G _ e.symm;omega);rcases D.cases with⟨_,h0⟩|⟨T,cp,o,_,_,H⟩
 ·rw[h0]at z;simp at z
 simp at o;obtain⟨rfl,l,rfl⟩:=o;clear l;have bn:w.heap.size+4≤T:=by have:=(Mr.ownsRow.lt a T rfl).1;omega
 have ba:=aA R;have HP:=aH ar z;have HX:=bT f k q H;clear k3 o3 av ae an a D t u h i G f k H c A H3 R z ar HR J;have⟨X,a⟩:=Ex (w.heap.size+1+1+1);rw[←a]at q HX ⊢;have an:w.heap.size+1+1<X∧X<w.heap.size+4:=by omega
 clear a;go_wp2_with fail;go_loopw [15] (fun s W=>∃o:Nat,o≤4∧s=I Z o∧W.heap[X]?=S (O (aT (oM p o)).toArray 249)∧aF (fun b=>b=X) L W) fun s _=>4-(intOf s).toNat
 case atStart=>exact⟨0,by omega,rfl,q,Cl⟩
 case round=>
  obtain⟨o,l,rfl,h,i⟩:=hrel;by_cases D:o<4
  ·have ar:(o:Int)<4:=by omega
   have⟨f,k,_,H⟩:=HX.out;have ae:w.heap.size≤L.heap.size:=f.size;have t:aC w wr:=((aF.of_below f fun _=>False).next i fun b a=>.inr (by have a:b=X:=a;omega)).below Nl fun a z=>z.elim;obtain⟨⟨cap,R,_,_⟩,hF,hG⟩:=HH.out.keeps t;have c0:=Cw R 0;simp at c0;have cz:=aB R;have u:=H.chg i (by show T≠X;omega);have⟨e,z⟩:=Ey (gexp o);have⟨av,hz⟩:=Ey (gev p e);have e8:e<256:=by rw[←z];exact wC o
   have HE:=aA fun c (l:aC wr c)=>KG (F:=F) (n:=(o:Int)) (x:=e) (by omega) (by omega) (by rw[←z];congr 1;omega) c (hF.keeps l)
   have HV:Hid (∀c,aC wr c→Mt Y 259 #[.pointer (S ⟨F,0,N⟩),.slice (S ⟨T,0,N⟩) 39 c4,.int .u8 e] c fun A a=>A=E (.int .u8 av)∧Mu c.heap.size c a):=aA (fun c l=>by
    have:=tm (F:=F) (g:=T) (off:=0) (cap:=c4) (x:=e) p (by rw[HP.out.2];omega) HP.out.1 e8 c (hF.keeps l) (u.keeps l).lt (fun j a=>by rw[Nat.zero_add];exact(u.keeps l).cell (kL p a))
    rw[HP.out.2,hz]at this;exact this)
   have c3:=xZ h (j:=o) (by rw[CA];exact D);have HS:=aA (show oM p (o+1)=(oM p o).set o av by rw[←hz,←z];rfl);have HY:=aH h i;generalize(oM p o).getD o 0=y0 at*;have f3:=Fw h o;have z3:=aB h;clear f k H t R hF hG u z hz h i q;go_wp2_with fail;refine uK _ (by kernel_rfl) (by kernel_rfl) rfl ?_;simp only[List.dropLast]
   repeat
    with_reducible refine Mz fun K f=>?_
    go_simp
    try first
     |(apply Ei
       intro c a;obtain⟨h,i⟩:=a.cells;go_simp
       first
        |(go_at_call 174;with_reducible exact a.call (HE.out _ a))
        |(go_at_call 259;with_reducible exact a.call (HV.out _ a))
        |rfl)
     |(with_reducible refine aQ ?_ ?_;decide)
    refine f _ ?_;clear f K
   with_reducible refine Na ?_
   intro A a;have⟨h,i⟩:=HY.out;have c:=aE a h;have c9:=xZ c (j:=o) (by rw[CA];exact D);have f9:=Fw c o;have z9:=aB c;have G:(A.setCell ⟨X,o,N⟩ (.int .u8 (av:Int))).heap[X]?=S (O (aT (oM p (o+1))).toArray 249):=by rw[HS.out,BN,←List.setIfInBounds_toArray];exact Hs o _ c
   have J:aF (fun b=>b=X) L (A.setCell ⟨X,o,N⟩ (.int .u8 (av:Int))):=aF.setCell (cw:=fun b=>b=X) (i.trans (aF.of_below a _)) (p:=⟨X,o,N⟩) (.inl rfl) _;have HZ:=aH G J;clear h i c G J c3 f3 z3 a;go_wp2_with fail;go_roundw
   case rel=>exact⟨o+1,by omega,by go_num,HZ.out.1,HZ.out.2⟩
   case measure=>simp[intOf];omega
  ·have a:o=4:=by omega
   subst a;have⟨f,k,_,H⟩:=HX.out;have ae:w.heap.size≤L.heap.size:=f.size;have t:aC w wr:=((aF.of_below f fun _=>False).next i fun b a=>.inr (by have a:b=X:=a;omega)).below Nl fun a z=>z.elim;have u:=aJ i k (by omega);obtain⟨A,a⟩:∃c,c=(aT (oM p 4)).toArray:=⟨_,rfl⟩;rw[←a]at h;have z:A.size=4:=by rw[a,Nv,fC,CA]
   have G:A.all (·.oneCell')=true:=by rw[a];exact wF _
   have R:=Lw h 4 z;have S7:=Sw u A (by rw[z];rfl) G;have c:=Hw u A;have J:=Hd3 a c t;clear f k H t u h i a c q HX;go_wp2_with fail;have⟨a,c,t⟩:=J.out;refine My (Oa (P:=Y) results241 _ _ (w.heap.size+1+1) 249 A (0,0) (.array 4 5) rfl c (by kernel_rfl) rfl (by rw[z];kernel_rfl)) rfl ⟨?_,Ob t (by omega) _⟩;unfold gM;rw[←ba.out,a]
end
section
open Go.RowKit Go.Shelf lin
theorem MC {a b:Type} {f:a→Option b} {g:a→b}:∀(l:List a),(∀d∈l,f d=S (g d))→l.mapM f=S (l.map g)
 |[],_=>rfl
 |d::l,e=>by rw[List.mapM_cons,e d (by simp),MC l fun h c=>e h (by simp[c])];rfl
theorem VD (D:Nat) (a:Nat) (c:a<256):Y.keyLits (D+1) 5 [.int .u8 (a:Int)]=S [.int .u8 (a:Int)]:=by
 have b:(Lit.int .u8 (a:Int)).wf=true:=by simp[Lit.wf,IntKind.min,IntKind.max,IntKind.bits,IntKind.signed];omega
 unfold Program.keyLits;rw[show Y.underlying 5=S (.int .u8) from by kernel_rfl];simp[b]
theorem VE:Y.cellsOf 5=1:=by kernel_rfl
theorem VF (D n:Nat) (l:List Nat) (f:l.length=n) (d:bM l):(Nf n).mapM (fun a=>Y.keyLits (D+1) 5 (((aT l).drop (a*Y.cellsOf 5)).take (Y.cellsOf 5)))=S ((Nf n).map fun a=>[Lit.int .u8 ((l.getD a 0:Nat):Int)]):=by
 refine MC _ fun a b=>?_;have b:=List.mem_range.1 b;rw[VE,Nat.mul_one]
 have e:((aT l).drop a).take 1=[.int .u8 ((l.getD a 0:Nat):Int)]:=by
  have c:a<(aT l).length:=by rw[fC];omega
  rw[List.drop_eq_getElem_cons c];have:=kL l (j:=a) (by omega);rw[Nn c]at this;injection this with this;rw[this];rfl
 rw[e];exact VD _ _ (d.get a)
theorem Ae {t:Nat} (k:Y.underlying t=S (.array n 5)) (a b:List Nat) (g:a.length=n) (h:b.length=n) (m:bM a) (o:bM b) (w:Mr):(Op.equal t (.agg (aT a).toArray) (.agg (aT b).toArray)).run Y w=.ok (decide (a=b)) w:=by
 obtain⟨x,f,_⟩:=info_parts lO;have v:=run_equalIn_array (P:=Y) w 9999 (aT a).toArray (aT b).toArray k f;obtain⟨A,p,d⟩:=run_eqItems_plain (P:=Y) w 9998 (e:=5) (by kernel_rfl) (aT a).toArray (aT b).toArray (D:=1) (D':=1) (Nf n) _ _ (VF 0 n a g m) (VF 0 n b h o);have q:(Op.equal t (.agg (aT a).toArray) (.agg (aT b).toArray)).run Y w=.ok A w:=v.trans p;rw[q];congr 1;rw[Bool.eq_iff_iff,d,decide_eq_true_eq];constructor
 ·intro v
  have r:=congrArg (fun l=>l.map (fun j=>match j with|Lit.int _ s=>s.toNat|_=>0)) v
  have c:∀l:List Nat,l.length=n→(((Nf n).map fun i=>[Lit.int .u8 ((l.getD i 0:Nat):Int)]).flatten).map (fun j=>match j with|Lit.int _ s=>s.toNat|_=>0)=l:=fun l y=>by
   rw[List.map_flatten,List.map_map];apply List.ext_getElem?;intro i
   rw[show(List.map ((List.map fun j=>match j with|Lit.int _ s=>s.toNat|_=>0)∘fun i=>[Lit.int .u8 ((l.getD i 0:Nat):Int)]) (Nf n)).flatten=(Nf n).map fun i=>l.getD i 0 from by
    generalize Nf n=z
    induction z with
    |nil=>rfl
    |cons j z u=>rw[List.map_cons,List.flatten_cons,u];simp]
   rw[Of];by_cases j:i<n
   ·rw[List.getElem?_range j,Option.map_some,Mx,Nn (by omega)];rfl
   ·rw[List.getElem?_eq_none (by simp;omega),List.getElem?_eq_none (by omega)];rfl
  have:=r;simp only[c a g,c b h]at this;exact this
 ·rintro rfl;rfl
end
section
open Go.RowKit Go.Shelf lin
attribute [local go_sem] Oper.semAt_some
@[reducible] def vd (k p:Int) (v:Nat):Ms:=.agg #[I Z k,I Z p,.int .u8 (v:Int)]
def iC (a b c d:Nat):Int×Int×Nat:=
 if a=0∧b=0∧c=0∧d=0 then(0,-1,0)else if a=0∨b=0 then(3,-1,0)
 else if b=gmul a (gdiv b a)∧c=gmul b (gdiv b a)∧d=gmul c (gdiv b a)∧glog (gdiv b a)<39 then(if glog (gdiv b a)<36 then(1,(glog (gdiv b a):Nat),a)else(2,(glog (gdiv b a):Nat),a))else(3,-1,0)
theorem MD (w:Mr):Mt Y 257 #[] w fun e a=>e=E (.agg #[I Z 3,I Z (-1),.int .u8 0])∧Mu w.heap.size w a:=by go_in;go_wp2;exact My (Oa (P:=Y) results257 _ _ w.heap.size 349 #[I Z 3,I Z (-1),.int .u8 0] (0,0) _ rfl (aG _ _ _ rfl) underlying349 rfl (by kernel_rfl)) rfl ⟨rfl,aU⟩
theorem ME (a b c d:Nat) (f:a<256) (g:b<256) (h:c<256) (i:d<256) (w:Mr):(Op.equalIn 10000 249 (.agg #[.int .u8 a,.int .u8 b,.int .u8 c,.int .u8 d]) (.agg #[.int .u8 0,.int .u8 0,.int .u8 0,.int .u8 0])).run Y w=.ok (decide (a=0∧b=0∧c=0∧d=0)) w:=by have:=Ae (t:=249) (n:=4) (by kernel_rfl) [a,b,c,d] [0,0,0,0] rfl rfl (fun j e=>by simp at e;omega) (fun j e=>by simp at e;omega) w;simp only[List.cons.injEq,and_true]at this;exact this
theorem Af (w:Mr):Mt Y 240 #[.pointer (S ⟨C,0,N⟩),.agg #[.int .u8 0,.int .u8 0,.int .u8 0,.int .u8 0]] w fun e a=>e=E (vd 0 (-1) 0)∧Mu w.heap.size w a:=by have a:=fun w=>ME 0 0 0 0 (by omega) (by omega) (by omega) (by omega) w;simp only[show((0:Nat):Int)=0 from rfl,and_self,decide_true]at a;go_in;go_wp2;refine My (Oa (P:=Y) results240 _ _ (w.heap.size+1) 349 #[I Z 0,I Z (-1),.int .u8 0] (0,0) _ rfl (aG _ _ _ (by simp)) underlying349 rfl (by kernel_rfl)) rfl ⟨?_,gH⟩;rfl
structure oN (w w2:Mr) (a b c d:Nat):Prop where
 k:aC w w2
 s:w2.heap[w.heap.size]?=S (O #[.int .u8 a,.int .u8 b,.int .u8 c,.int .u8 d] 249)
 o:w2.heap[w.heap.size+1]?=S (O #[I Z 0,I Z 0,.int .u8 0] 349)
theorem oN.init (w:Mr) (a b c d:Nat):oN w ((w.alloc (O #[.int .u8 a,.int .u8 b,.int .u8 c,.int .u8 d] 249)).alloc (O #[I Z 0,I Z 0,.int .u8 0] 349)) a b c d:=⟨gH,gQ rfl,aG _ _ _ (by simp)⟩
theorem oN.keeps {f:Mr} {a b c d:Nat} (g:oN w w2 a b c d) (e:aC w2 f):oN w f a b c d:=⟨Kc g.k e,aE e g.s,aE e g.o⟩
theorem oN.facts {a b c d:Nat} (e:oN w w2 a b c d):w2.cell? ⟨w.heap.size+1,0,N⟩=S (I Z 0)∧w2.cell? ⟨w.heap.size+1,1,N⟩=S (I Z 0)∧w2.cell? ⟨w.heap.size+1,2,N⟩=S (.int .u8 0)∧(∀f,w2.frozen? ⟨w.heap.size+1,f,N⟩=false)∧w.heap.size+1<w2.heap.size:=by refine⟨?_,?_,?_,fun f=>Fw e.o f,aB e.o⟩<;>rw[Cw e.o _]<;>rfl
theorem oN.fin {a b c d:Nat} (e:oN w w2 a b c d) (x y z:Ms):(((w2.setCell ⟨w.heap.size+1,0,N⟩ x).setCell ⟨w.heap.size+1,1,N⟩ y).setCell ⟨w.heap.size+1,2,N⟩ z).heap[w.heap.size+1]?=S (O #[x,y,z] 349)∧Mu w.heap.size w (((w2.setCell ⟨w.heap.size+1,0,N⟩ x).setCell ⟨w.heap.size+1,1,N⟩ y).setCell ⟨w.heap.size+1,2,N⟩ z):=⟨Nx _ _ 2 _ _ _ (Nx _ _ 1 _ _ _ (Hs 0 _ e.o)),Ks (Ks (Ks e.k (by show w.heap.size≤w.heap.size+1;omega)) (by show w.heap.size≤w.heap.size+1;omega)) (by show w.heap.size≤w.heap.size+1;omega)⟩
theorem oN.ret {a b c d:Nat} {T:Array Ms} {x:Ms} {y z:Int} {v:Nat} (i:oN w w2 a b c d) (f:T.getD 4 Mv=.pointer (S ⟨w.heap.size+1,0,N⟩)) (g:vd y z v=x):bodyPost Y Tryz.f240 (fun e h=>e=E x∧Mu w.heap.size w h) .ret {tmps:=T,defers:=[]} (((w2.setCell ⟨w.heap.size+1,0,N⟩ (I Z y)).setCell ⟨w.heap.size+1,1,N⟩ (I Z z)).setCell ⟨w.heap.size+1,2,N⟩ (.int .u8 (v:Int))):=My (Oa (P:=Y) results240 _ _ (w.heap.size+1) 349 #[I Z y,I Z z,.int .u8 (v:Int)] (0,0) _ f (i.fin _ _ _).1 underlying349 rfl (by kernel_rfl)) rfl ⟨by rw[←g],(i.fin _ _ _).2⟩
theorem Ag (a b c d:Nat):(aT [a,b,c,d]).toArray=#[.int .u8 a,.int .u8 b,.int .u8 c,.int .u8 d]:=rfl
theorem Ah (a b c d:Nat) (i:a<256) (n:b<256) (o:c<256) (p:d<256) (q:¬(a=0∧b=0∧c=0∧d=0)) (k:a=0∨b=0) (w:Mr) (u:mA C F g w):Mt Y 240 #[.pointer (S ⟨C,0,N⟩),.agg #[.int .u8 a,.int .u8 b,.int .u8 c,.int .u8 d]] w fun e f=>e=E (vd 3 (-1) 0)∧Mu w.heap.size w f:=by
 have r:=fun w=>ME a b c d i n o p w;rw[decide_eq_false q]at r;have s:=aA u
 obtain⟨A,e,l,t⟩:∃A e:Int,(e=16∨(e=0∧A=0))∧Hid (∀f,aC w f→Mt Y 242 #[.pointer (S ⟨F,0,N⟩),.int .u8 b,.int .u8 a] f fun j h=>j=E (.tuple #[.int .u8 A,I Z e])∧Mu f.heap.size f h):=by
  by_cases h:a=0
  ·subst h;exact⟨0,16,.inl rfl,aA fun f _=>qr b f⟩
  ·have m:b=0:=by omega
   subst m;refine⟨0,0,.inr ⟨rfl,rfl⟩,aA fun f j=>?_⟩;have:=KH (F:=F) 0 a (by omega) i h f (u.fld.keeps j);rw[show gdiv 0 a=0 from Fp (.inl rfl)]at this;exact this
 clear u q k i n o p;go_in;go_wp2;have h:=aA (oN.init w a b c d);generalize(w.alloc (O #[.int .u8 a,.int .u8 b,.int .u8 c,.int .u8 d] 249)).alloc (O #[I Z 0,I Z 0,.int .u8 0] 349)=o at h ⊢;obtain⟨⟨x,i,_,_⟩,_,_⟩:=s.out.keeps h.out.k;have k:=Cw i 0;simp at k;have p:=aB i;have⟨m,n⟩:=bQ h.out.s;simp at m n;have q:=aB h.out.s;have u:Hid (∀f,aC o f→aC w f):=aA fun f j=>Kc h.out.k j;clear i;refine bS (by kernel_rfl) (by kernel_rfl) ?_
 repeat
  with_reducible refine Mz fun K j=>?_
  go_simp
  try first
   |(apply Ei
     intro f i;obtain⟨y,z⟩:=i.cells;go_simp
     first
      |(go_at_call 242;with_reducible exact i.call (t.out _ (u.out _ i)))
      |rfl)
   |(with_reducible refine aQ ?_ ?_;decide)
  refine j _ ?_;clear j K
 with_reducible refine Na ?_
 intro y f;have i:=aA (h.out.keeps f);clear k p m n q f;have k:=Fw i.out.o 0;rcases l with rfl|⟨rfl,rfl⟩;all_goals go_wp2_with fail;refine(MD _).mono ?_;rintro e m ⟨rfl,f⟩;have j:=aA (i.out.keeps f);obtain⟨n,p,q,z,B⟩:=j.out.facts;clear f;go_wp2_with fail;exact j.out.ret (v:=0) rfl rfl
theorem Aj (a b c d:Nat) (m:a<256) (n:b<256) (o:c<256) (p:d<256) (aa:a≠0) (av:b≠0) (w:Mr) (ab:mA C F g w):Mt Y 240 #[.pointer (S ⟨C,0,N⟩),.agg #[.int .u8 a,.int .u8 b,.int .u8 c,.int .u8 d]] w fun e f=>e=E (vd (iC a b c d).1 (iC a b c d).2.1 (iC a b c d).2.2)∧Mu w.heap.size w f:=by
 have q:=fun w=>ME a b c d m n o p w;rw[decide_eq_false (by omega)]at q;have P:=aA ab;have⟨bx,h⟩:=Ey (vd (iC a b c d).1 (iC a b c d).2.1 (iC a b c d).2.2);rw[h];unfold iC at h;rw[Fn (by omega),Fn (by omega)]at h;have HD:=aA fun f (i:aC w f)=>KH (F:=F) b a n m aa f (ab.fld.keeps i);have Q:=T9 b a;have ad:gdiv b a≠0:=by unfold gdiv;rw[Fn (by omega)];exact BP (by omega)
 generalize gdiv b a=ar at*;have HV:=aA h;have HM:=aA fun f (i:aC w f) an k=>BK (F:=F) an ar k Q f (ab.fld.keeps i);have HL:=aA fun f (i:aC w f)=>qt (F:=F) ar Q ad f (ab.fld.keeps i);have ba:((ar:Int)==0)=false:=by simp;omega
 have HB:Hid (bM [a,b,c,d]):=aA (fun an k=>by simp at k;omega);clear ab h m n o p;go_in;go_wp2;have z:=aA (oN.init w a b c d);generalize(w.alloc (O #[.int .u8 a,.int .u8 b,.int .u8 c,.int .u8 d] 249)).alloc (O #[I Z 0,I Z 0,.int .u8 0] 349)=w2 at z ⊢;obtain⟨⟨H,m,_,_⟩,_,_⟩:=P.out.keeps z.out.k;have o:=Cw m 0;simp at o;have u:=aB m;have⟨n,r⟩:=bQ z.out.s;simp at n r;have L:=aB z.out.s;have KW:Hid (∀f,aC w2 f→aC w f):=aA fun f i=>Kc z.out.k i;clear m;refine bS (by kernel_rfl) (by kernel_rfl) ?_
 repeat
  with_reducible refine Mz fun K k=>?_
  go_simp
  try first
   |(apply Ei
     intro f h;obtain⟨m,p⟩:=h.cells;go_simp
     first
      |(go_at_call 242;with_reducible exact h.call (HD.out _ (KW.out _ h)))
      |rfl)
   |(with_reducible refine aQ ?_ ?_;decide)
  refine k _ ?_;clear k K
 with_reducible refine Na ?_
 intro w9 f;have H9:=aA (z.out.keeps f);clear o u n r L f q;go_wp2_with fail;go_loopw [7] (fun s W=>∃G:Nat,1≤G∧G≤4∧s=I Z G∧(∀j,1≤j→j<G→[a,b,c,d].getD j 0=gmul ([a,b,c,d].getD (j-1) 0) ar)∧aC w9 W) fun s _=>4-(intOf s).toNat
 case atStart=>exact⟨1,by omega,by omega,rfl,fun j J R=>by omega,Bl⟩
 case round=>
  obtain⟨G,bb,bd,rfl,A,t⟩:=hrel;have n:=H9.out.keeps t;by_cases bm:G<4
  ·obtain⟨M,q⟩:∃M,G=M+1:=⟨G-1,by omega⟩
   have bn:M<3:=by omega
   have br:(G:Int)<4:=by omega
   have bs:(M:Int)<4:=by omega
   have e1:Hid (wrap64 ((G:Int)-1)=M∧IntKind.i64.wrap ((G:Int)-1)=M):=aA ⟨(IntWalk.wrap64_in _ ⟨by omega,by omega⟩).trans (by omega),(IntWalk.i64_in _ ⟨by omega,by omega⟩).trans (by omega)⟩;have T:=xZ (l:=[a,b,c,d]) n.s (j:=G) (by simp;omega);have U:=xZ (l:=[a,b,c,d]) n.s (j:=M) (by simp;omega);have dz:=aB n.s;have x8:=HB.out.get M;have y8:=HB.out.get G;have HP:=aA A;have⟨an,k⟩:=Ey ([a,b,c,d].getD M 0);obtain⟨bv,x⟩:∃an,[a,b,c,d].getD G 0=an:=⟨_,rfl⟩;rw[k]at U x8;rw[x]at T y8;have V:=aA fun f (i:aC wr f)=>HM.out f (Kc n.k i) an x8;have ae:=mQ an ar;have⟨bw,y⟩:=Ey (gmul an ar);rw[y]at V ae;obtain⟨⟨H,m,_,_⟩,_,_⟩:=P.out.keeps n.k;have o:=Cw m 0;simp at o;have u:=aB m;have L:=Hd3 k x y;have i:=Hd3 n t q;clear m k x y A n t q;by_cases B:bv=bw
   ·have hE:((bv:Int)==(bw:Int))=true:=by simp[B]
    subst B;have⟨X,D⟩:=e1.out;go_wp2_with fail;refine bS (by kernel_rfl) (by kernel_rfl) ?_
    repeat
     with_reducible refine Mz fun K k=>?_
     go_simp
     try first
      |(apply Ei
        intro f h;obtain⟨m,p⟩:=h.cells;go_simp
        first
         |(go_at_call 209;with_reducible exact h.call (V.out _ h))
         |rfl)
      |(with_reducible refine aQ ?_ ?_;decide)
     refine k _ ?_;clear k K
    with_reducible refine Na ?_
    intro w7 r;have f:=aA (Kc i.out.2.1 r);clear r X D U T dz o u;go_wp2_with fail;go_roundw
    case rel=>
     have⟨_,_,q⟩:=i.out;have⟨k,x,y⟩:=L.out;refine⟨G+1,by omega,by omega,by go_num,fun j J R=>?_,f.out⟩;by_cases h:j<G
     ·exact HP.out j J h
     ·have:j=G:=by omega
      subst this;rw[x,show j-1=M by omega,k,y]
    case measure=>simp[intOf];omega
   ·have hE:((bv:Int)==(bw:Int))=false:=by simp;omega
    have⟨X,D⟩:=e1.out;go_wp2_with fail;refine bS (by kernel_rfl) (by kernel_rfl) ?_
    repeat
     with_reducible refine Mz fun K k=>?_
     go_simp
     try first
      |(apply Ei
        intro f h;obtain⟨m,p⟩:=h.cells;go_simp
        first
         |(go_at_call 209;with_reducible exact h.call (V.out _ h))
         |rfl)
      |(with_reducible refine aQ ?_ ?_;decide)
     refine k _ ?_;clear k K
    with_reducible refine Na ?_
    intro w7 r;have H7:=aA (i.out.1.keeps r);clear r X D U T dz o u;go_wp2_with fail;refine(MD _).mono ?_;rintro e w5 ⟨rfl,f⟩;have p:=aA (H7.out.keeps f);obtain⟨q0,q1,q2,qf,qz⟩:=p.out.facts;clear f;go_wp2_with fail;refine p.out.ret (v:=0) rfl ?_;have⟨_,_,q⟩:=i.out;have⟨k,x,y⟩:=L.out;have h:=HV.out;rw[Fn fun ab=>?_]at h
    ·exact h
    ·obtain⟨J,R,h3,_⟩:=ab
     apply B;rw[←x,←y,←k,q];rcases M with _|_|_|M
     ·exact J
     ·exact R
     ·exact h3
     ·omega
  ·have i:G=4:=by omega
   subst i;have h:=HV.out;have x:=A 1 (by omega) (by omega);have y:=A 2 (by omega) (by omega);have B:=A 3 (by omega) (by omega);have q:=aA (HL.out wr n.k);have⟨D,f⟩:=Ey (glog ar);rw[f]at h q;have R:D<255:=by rw[←f];exact uL Q
   obtain⟨⟨H,m,_,_⟩,_,_⟩:=P.out.keeps n.k;have o:=Cw m 0;simp at o;have u:=aB m;have i:=aA n;clear m f A n t;have m:D<39→(if D<36 then vd 1 D a else vd 2 D a)=bx:=fun k=>by rw[Fp ⟨x,y,B,k⟩]at h;rw[←h];split<;>rfl
   by_cases k:D<39
   ·have r:=aA (m k)
    clear m h x y B;have A:¬(39:Int)≤(D:Int):=by omega
    go_wp2_with fail;refine q.out.mono ?_;rintro e w5 ⟨rfl,f⟩;have p:=aA (i.out.keeps f);obtain⟨q0,q1,q2,qf,qz⟩:=p.out.facts;have n:=Cw p.out.s 0;simp at n;have L:=aB p.out.s;clear f o u;by_cases t:D<36
    ·have J:¬(36:Int)≤(D:Int):=by omega
     go_wp2_with fail;have:=r.out;rw[Fp t]at this;exact p.out.ret (v:=a) rfl this
    ·have J:(36:Int)≤(D:Int):=by omega
     go_wp2_with fail;have:=r.out;rw[Fn t]at this;exact p.out.ret (v:=a) rfl this
   ·have r:Hid (vd 3 (-1) 0=bx):=aA (by rw[Fn fun ab=>k ab.2.2.2]at h;exact h)
    clear m h x y B;have A:(39:Int)≤(D:Int):=by omega
    go_wp2_with fail;refine q.out.mono ?_;rintro e w5 ⟨rfl,f⟩;have p:=aA (i.out.keeps f);clear f o u;go_wp2_with fail;refine(MD _).mono ?_;rintro e m ⟨rfl,f⟩;have h:=aA (p.out.keeps f);obtain⟨q0,q1,q2,qf,qz⟩:=h.out.facts;clear f;go_wp2_with fail;exact h.out.ret (v:=0) rfl r.out
theorem Ak (a b c d:Nat) (i:a<256) (j:b<256) (k:c<256) (l:d<256) (w:Mr) (m:mA C F g w):Mt Y 240 #[.pointer (S ⟨C,0,N⟩),.agg #[.int .u8 a,.int .u8 b,.int .u8 c,.int .u8 d]] w fun e f=>e=E (vd (iC a b c d).1 (iC a b c d).2.1 (iC a b c d).2.2)∧Mu w.heap.size w f:=by
 by_cases h:a=0∧b=0∧c=0∧d=0
 ·obtain⟨rfl,rfl,rfl,rfl⟩:=h;exact Af w
 ·by_cases f:a=0∨b=0
  ·have:=Ah (F:=F) (g:=g) a b c d i j k l h f w m;unfold iC;rw[Fn h,Fp f];exact this
  ·exact Aj a b c d i j k l (by omega) (by omega) w m
end
section
open Go.RowKit Go.Shelf lin
attribute [local go_sem] Oper.semAt_some Mh
attribute [local simp] Mf Mg
def nW (s:List Nat):Int×Int×Nat:=iC (s.getD 0 0) (s.getD 1 0) (s.getD 2 0) (s.getD 3 0)
def mE (w:List Nat) (x:Int×Int×Nat):List Nat:=if x.1=1 then xat w x.2.1.toNat x.2.2 else w
theorem VG (a b c d:Nat) (e:a<256):(iC a b c d).2.2<256∧((iC a b c d).1=1→0≤(iC a b c d).2.1∧(iC a b c d).2.1<36):=by
 unfold iC;split
 ·exact⟨by decide,fun f=>by cases f⟩
 split
 ·exact⟨by decide,fun f=>by simp at f⟩
 split
 ·split
  ·exact⟨e,fun _=>by simp;omega⟩
  ·exact⟨e,fun f=>by simp at f⟩
 ·exact⟨by decide,fun f=>by simp at f⟩
structure wL (w W:Mr) (d:Array Ms) (Z:Array Ms):Prop where
 k:aC w W
 d:W.heap[w.heap.size]?=S (O d 352)
 z:W.heap[w.heap.size+1+1]?=S (O Z 248)
 o:W.heap[w.heap.size+1+1+1]?=S (O #[I .i64 0,I .i64 0,.int .u8 0] 349)
theorem wL.init (w:Mr) (D a b:Array Ms):wL w ((((w.alloc (O D 352)).alloc (O a 243)).alloc (O b 248)).alloc (O #[I .i64 0,I .i64 0,.int .u8 0] 349)) D b∧((((w.alloc (O D 352)).alloc (O a 243)).alloc (O b 248)).alloc (O #[I .i64 0,I .i64 0,.int .u8 0] 349)).heap[w.heap.size+1]?=S (O a 243):=⟨⟨zQ,zH (by first|rfl|simp<;>omega|omega),gQ (by first|rfl|simp<;>omega|omega),iH (by first|rfl|simp<;>omega|omega)⟩,nE (by first|rfl|simp<;>omega|omega)⟩
theorem wL.keeps {d c:Array Ms} (b:wL w W d c) (a:aC W W'):wL w W' d c:=⟨Kc b.k a,aE a b.d,aE a b.z,aE a b.o⟩
theorem CB {fn:Func} {p q:Tmp} {c a:TypeId} (z:fn.results=#[.cell p c,.cell q a]) (tmps:Array Ms) (w:Mr) (g:Nat) (t:TypeId) (cs:Array Ms) (fr:Nat×Nat) (d:TypeDesc)
 (e:Nat) (r:TypeId) (b:Array Ms) (f:Nat×Nat) (h:TypeDesc)
 (s:tmps.getD p Mv=.pointer (S ⟨g,0,N⟩)) (u:w.heap[g]?=S (O cs t fr))
 (v:P.underlying c=S d) (x:(match d with|.struct _|.array _ _=>true|_=>false)=true) (y:(P.info? c).map (·.size)=S cs.size)
 (i:tmps.getD q Mv=.pointer (S ⟨e,0,N⟩)) (j:w.heap[e]?=S (O b r f))
 (k:P.underlying a=S h) (l:(match h with|.struct _|.array _ _=>true|_=>false)=true) (m:(P.info? a).map (·.size)=S b.size):
 (results fn tmps).run P w=.ok (.tuple #[.agg cs,.agg b]) w:=by
 have n:tmps[p]?.getD Mv=.pointer (S ⟨g,0,N⟩):=by simpa using s
 have o:tmps[q]?.getD Mv=.pointer (S ⟨e,0,N⟩):=by simpa using i
 simp[results,z,n,o,asAddr,run_loadVar_row w g t c cs fr d u v x y,run_loadVar_row w e r a b f h j k l m]
theorem VH {t:Nat} {m:List Nat} (e:W.heap[g]?=S (O (aT m).toArray t)) (d:m.length=j+n):(Mc ⟨g,j,N⟩ 0 n #[]).run Y W=.ok (aT (m.drop j)).toArray W:=by
 have b:(aT (m.drop j)).length=n:=by rw[fC,List.length_drop];omega
 have:=lL (P:=Y) W g j (aT (m.drop j)) (fun f h a=>by
  have c:=(Oe.1 a).1;rw[fC,List.length_drop]at c;rw[Cw e (j+f),Oi,←a]
  unfold aT;rw[List.map_drop,List.getElem?_drop])
 rwa [b]at this
theorem Al (d v:List Nat) (u:d.length=36) (i:v.length=3) (r:bM d) (f:bM v) (w:Mr) (o:mA C F g w):Mt Y 215 #[.pointer (S ⟨C,0,N⟩),.agg (aT d).toArray,.agg (aT v).toArray] w fun e h=>e=E (.tuple #[.agg (aT ((mE d (nW (gM d v))).drop 4)).toArray,vd (nW (gM d v)).1 (nW (gM d v)).2.1 (nW (gM d v)).2.2])∧Mu w.heap.size w h:=by
 have HS:=aA fun h (L:aC w h)=>Ad (C:=C) (F:=F) (g:=g) d v u i r f h (o.keeps L);have a:bM (gM d v):=VC (r.app f) 4
 obtain⟨x,A,B,D,l⟩:∃c b h e,gM d v=[c,b,h,e]:=by
  have:=CA (d++v) 4
  match hq:oM (d++v) 4,this with
  |[c,b,h,e],_=>exact⟨c,b,h,e,hq⟩
 rw[l]at HS a ⊢;have X:=aA fun h (L:aC w h)=>Ak (C:=C) (F:=F) (g:=g) x A B D (a x (by simp)) (a A (by simp)) (a B (by simp)) (a D (by simp)) h (o.keeps L);have H:=VG x A B D (a x (by simp));show Mt _ _ _ _ fun e h=>e=E (.tuple #[.agg (aT ((mE d (iC x A B D)).drop 4)).toArray,vd (iC x A B D).1 (iC x A B D).2.1 (iC x A B D).2.2])∧_;obtain⟨⟨ar,k,c⟩,t⟩:∃cc,iC x A B D=cc:=⟨_,rfl⟩;rw[t]at X H ⊢;simp only at X H ⊢;have⟨cf,s⟩:=Ex (aT d).toArray;have⟨cm,h⟩:=Ex (aT v).toArray;rw[←s,←h]at HS ⊢;have bd:cf.size=36:=by rw[s,Nv,fC,u]
 have bm:cm.size=3:=by rw[h,Nv,fC,i]
 have aa:=Hd3 s u r;clear o s h u i r f l a t;go_in;go_wp2_with fail;generalize a:(#[Ms.int .u8 0,Ms.int .u8 0,Ms.int .u8 0,Ms.int .u8 0,Ms.int .u8 0,Ms.int .u8 0,Ms.int .u8 0,Ms.int .u8 0,Ms.int .u8 0,Ms.int .u8 0,Ms.int .u8 0,Ms.int .u8 0,Ms.int .u8 0,Ms.int .u8 0,Ms.int .u8 0,Ms.int .u8 0,Ms.int .u8 0,Ms.int .u8 0,Ms.int .u8 0,Ms.int .u8 0,Ms.int .u8 0,Ms.int .u8 0,Ms.int .u8 0,Ms.int .u8 0,Ms.int .u8 0,Ms.int .u8 0,Ms.int .u8 0,Ms.int .u8 0,Ms.int .u8 0,Ms.int .u8 0,Ms.int .u8 0,Ms.int .u8 0]:Array Ms)=Z at*;have zZ:Z.size=32:=by rw[←a];rfl
 have M:=aA (wL.init w cf cm Z);clear a;generalize(((w.alloc (O cf 352)).alloc (O cm 243)).alloc (O Z 248)).alloc (O #[I .i64 0,I .i64 0,.int .u8 0] 349)=w4 at M ⊢;have f:=Lw M.out.1.d 36 bd;have h:=Lw M.out.2 3 bm;have i:=aB M.out.1.d;have l:=aB M.out.2;go_simp;go_wp2_with fail;refine(HS.out _ M.out.1.k).mono ?_;rintro e w5 ⟨rfl,a⟩;have H5:=aA (M.out.1.keeps a);rw[Ag];clear a f h i l;go_wp2_with fail;refine(X.out _ H5.out.k).mono ?_;rintro e o ⟨rfl,a⟩;have f:=H5.out.keeps a;have S6:(Me ⟨o.heap.size,0,N⟩ [I .i64 ar,I .i64 k,.int .u8 (c:Int)] 0).run Y (o.alloc (O #[I .i64 0,I .i64 0,.int .u8 0] 349))=.ok () (o.alloc (O #[I .i64 ar,I .i64 k,.int .u8 (c:Int)] 349)):=Mi o 349 _ #[I .i64 ar,I .i64 k,.int .u8 (c:Int)] (by kernel_rfl) rfl (by simp[Ni]);have y:=aH (f.keeps (K.alloc (K.refl o) (O #[I .i64 ar,I .i64 k,.int .u8 (c:Int)] 349))) (show(o.alloc (O #[I .i64 ar,I .i64 k,.int .u8 (c:Int)] 349)).heap[o.heap.size]?=_ from aG _ _ _ rfl);have h6:w.heap.size+4≤o.heap.size:=by have:=aB f.o;omega
 clear a f;by_cases L:ar=1
 ·subst L
  have bn:((1:Int)==1)=true:=rfl;obtain⟨ck,cd⟩:=H.2 rfl;obtain⟨f,br⟩:∃f:Nat,k=f:=⟨k.toNat,by omega⟩;subst br;have cl:f<36:=by omega
  go_wp2_with fail;generalize o.alloc (O #[I .i64 1,I .i64 (f:Int),.int .u8 (c:Int)] 349)=U0 at y ⊢;have⟨s,u,r⟩:=aa.out;have x8:=r.get f;have i:=y.out.1.d;rw[s]at i;have c1:=xZ i (j:=f) (by omega);have⟨v0,v1,v2⟩:=fM y.out.2;simp at v0 v1 v2;have vz:=aB y.out.2;have rz:=aB i;have⟨cc,t⟩:=Ey (d.getD f 0);rw[t]at c1 x8;have e5:=u8_xor_nat cc c x8 H.1;have HX:=bT t s u i;clear t s u r i S6;refine uK _ (by kernel_rfl) (by kernel_rfl) rfl ?_;simp only[List.dropLast]
  repeat
   with_reducible refine Mz fun K i=>?_
   go_simp
   try first
    |(apply Ei
      intro h a;obtain⟨l,p⟩:=a.cells;go_simp
      rfl)
    |(with_reducible refine aQ ?_ ?_;decide)
   refine i _ ?_;clear i K
  with_reducible refine Na ?_
  intro U9 J;have⟨t,s,u,i⟩:=HX.out;have Q:=y.out.1.keeps J;have z:=aE J y.out.2;have G:=aE J i;have c9:=xZ G (j:=f) (by omega);have f9:=Fw G f;have z9:=aB G;have H8:=Hd3 Q z G;clear c1 v0 v1 v2 vz rz J t s i Q z G;go_wp2_with fail;have⟨Q,z,G⟩:=H8.out;have⟨t,s,u,i⟩:=HX.out;obtain⟨m,V,p⟩:∃m:List Nat,m=mE d (1,f,c)∧m.length=36:=⟨_,rfl,by unfold mE;rw[Fp rfl,BM,u]⟩;have ab:=aA V;have av:m=d.set f (cc^^^c):=by rw[V];unfold mE xat;rw[Fp rfl];simp only[Int.toNat_natCast];rw[t]
  have ba:wL w (U9.setCell ⟨w.heap.size,f,N⟩ (.int .u8 ((cc^^^c:Nat):Int))) (aT m).toArray Z∧(U9.setCell ⟨w.heap.size,f,N⟩ (.int .u8 ((cc^^^c:Nat):Int))).heap[o.heap.size]?=S (O #[I .i64 1,I .i64 (f:Int),.int .u8 (c:Int)] 349):=⟨⟨Ks Q.k Nl,by rw[av,BN,←List.setIfInBounds_toArray];exact Hs f _ G,by rw[Ho (by show w.heap.size+1+1≠w.heap.size;omega)];exact Q.z,by rw[Ho (by show w.heap.size+1+1+1≠w.heap.size;omega)];exact Q.o⟩,by rw[Ho (by show o.heap.size≠w.heap.size;omega)];exact z⟩;have HU:=aA ba;clear ba av V Q z G t s i c9 f9 z9;generalize U9.setCell ⟨w.heap.size,f,N⟩ (.int .u8 ((cc^^^c:Nat):Int))=ad at HU ⊢;have⟨R,h⟩:=Ex (aT (m.drop 4)).toArray;have q:R.size=32:=by rw[h,Nv,fC,List.length_drop,p]
  have⟨hW,h8⟩:=HU.out;have T:aC ad ad.drew:=Kd (K.refl ad);have a:=hW.keeps T;have l:=aE T h8;have hR:=aA (show R=(aT (m.drop 4)).toArray from h);have ae:=VH a.d (j:=4) (n:=32) (by rw[p]);rw[←h]at ae;have bs:=Lw l 3 rfl;have SX:=Sw a.z R (by rw[q,zZ]) (by rw[h];exact wF _);have U1:=Hw a.z R;have U:(ad.drew.setRow (w.heap.size+1+1) R).heap[w.heap.size+1+1+1]?=S (O #[I .i64 0,I .i64 0,.int .u8 0] 349):=(So (by omega)).trans a.o;have U3:(ad.drew.setRow (w.heap.size+1+1) R).heap[o.heap.size]?=S (O #[I .i64 1,I .i64 (f:Int),.int .u8 (c:Int)] 349):=(So (by omega)).trans l;have bb:=Lw U3 3 rfl;have SY:(Me ⟨w.heap.size+1+1+1,0,N⟩ [I .i64 1,I .i64 (f:Int),.int .u8 (c:Int)] 0).run Y (ad.drew.setRow (w.heap.size+1+1) R)=.ok () ((ad.drew.setRow (w.heap.size+1+1) R).setRow (w.heap.size+1+1+1) #[I .i64 1,I .i64 (f:Int),.int .u8 (c:Int)]):=jV (ad.drew.setRow (w.heap.size+1+1) R) (w.heap.size+1+1+1) #[I .i64 0,I .i64 0,.int .u8 0] #[I .i64 1,I .i64 (f:Int),.int .u8 (c:Int)] 349 U rfl (by simp[Ni]);have V2:=Hw U #[I .i64 1,I .i64 (f:Int),.int .u8 (c:Int)];have V1:((ad.drew.setRow (w.heap.size+1+1) R).setRow (w.heap.size+1+1+1) #[I .i64 1,I .i64 (f:Int),.int .u8 (c:Int)]).heap[w.heap.size+1+1]?=_:=(So (by omega)).trans U1;have bv:=aB a.z;have bw:=aB a.o;have bx:=aB l;have bz:=aB a.d;have an:=aA a.k;clear hW h8 a l U1 U U3 T h;have AA:∀W,(Instr.arrayAt 248 (.slice (S ⟨w.heap.size,4,N⟩) 32 32)).run Y W=.ok (.pointer (S ⟨w.heap.size,4,N⟩)) W:=fun W=>Go.run_arrayAt W 248 5 32 _ 32 32 (by kernel_rfl) Nl;go_region
  go_wp2_with fail;refine My (CB (P:=Y) results215 _ _ (w.heap.size+1+1) 248 R (0,0) (.array 32 5) (w.heap.size+1+1+1) 349 #[I .i64 1,I .i64 (f:Int),.int .u8 (c:Int)] (0,0) _ rfl V1 (by kernel_rfl) rfl (by rw[q];kernel_rfl) rfl V2 underlying349 rfl (by kernel_rfl)) rfl ⟨?_,Ob (Ob an.out (by omega) _) (by omega) _⟩;rw[hR.out,ab.out]
 ·have bn:(ar==1)=false:=by simp[L]
  go_wp2_with fail;generalize o.alloc (O #[I .i64 ar,I .i64 k,.int .u8 (c:Int)] 349)=ad at y ⊢;obtain⟨m,V,p,a⟩:∃m:List Nat,m=mE d (ar,k,c)∧m.length=36∧cf=(aT m).toArray:=⟨d,by unfold mE;rw[Fn L],aa.out.2.1,aa.out.1⟩;have ab:=aA V;rw[a]at y;have⟨R,h⟩:=Ex (aT (m.drop 4)).toArray;have q:R.size=32:=by rw[h,Nv,fC,List.length_drop,p]
  have HU:=y;clear V S6 a;have⟨hW,h8⟩:=HU.out;have T:aC ad ad.drew:=Kd (K.refl ad);have a:=hW.keeps T;have l:=aE T h8;have hR:=aA (show R=(aT (m.drop 4)).toArray from h);have ae:=VH a.d (j:=4) (n:=32) (by rw[p]);rw[←h]at ae;have bs:=Lw l 3 rfl;have SX:=Sw a.z R (by rw[q,zZ]) (by rw[h];exact wF _);have U1:=Hw a.z R;have U:(ad.drew.setRow (w.heap.size+1+1) R).heap[w.heap.size+1+1+1]?=S (O #[I .i64 0,I .i64 0,.int .u8 0] 349):=(So (by omega)).trans a.o;have U3:(ad.drew.setRow (w.heap.size+1+1) R).heap[o.heap.size]?=S (O #[I .i64 ar,I .i64 k,.int .u8 (c:Int)] 349):=(So (by omega)).trans l;have bb:=Lw U3 3 rfl;have SY:(Me ⟨w.heap.size+1+1+1,0,N⟩ [I .i64 ar,I .i64 k,.int .u8 (c:Int)] 0).run Y (ad.drew.setRow (w.heap.size+1+1) R)=.ok () ((ad.drew.setRow (w.heap.size+1+1) R).setRow (w.heap.size+1+1+1) #[I .i64 ar,I .i64 k,.int .u8 (c:Int)]):=jV (ad.drew.setRow (w.heap.size+1+1) R) (w.heap.size+1+1+1) #[I .i64 0,I .i64 0,.int .u8 0] #[I .i64 ar,I .i64 k,.int .u8 (c:Int)] 349 U rfl (by simp[Ni]);have V2:=Hw U #[I .i64 ar,I .i64 k,.int .u8 (c:Int)];have V1:((ad.drew.setRow (w.heap.size+1+1) R).setRow (w.heap.size+1+1+1) #[I .i64 ar,I .i64 k,.int .u8 (c:Int)]).heap[w.heap.size+1+1]?=_:=(So (by omega)).trans U1;have bv:=aB a.z;have bw:=aB a.o;have bx:=aB l;have bz:=aB a.d;have an:=aA a.k;clear hW h8 a l U1 U U3 T h;have AA:∀W,(Instr.arrayAt 248 (.slice (S ⟨w.heap.size,4,N⟩) 32 32)).run Y W=.ok (.pointer (S ⟨w.heap.size,4,N⟩)) W:=fun W=>Go.run_arrayAt W 248 5 32 _ 32 32 (by kernel_rfl) Nl;go_region
  go_wp2_with fail;refine My (CB (P:=Y) results215 _ _ (w.heap.size+1+1) 248 R (0,0) (.array 32 5) (w.heap.size+1+1+1) 349 #[I .i64 ar,I .i64 k,.int .u8 (c:Int)] (0,0) _ rfl V1 (by kernel_rfl) rfl (by rw[q];kernel_rfl) rfl V2 underlying349 rfl (by kernel_rfl)) rfl ⟨?_,Ob (Ob an.out (by omega) _) (by omega) _⟩;rw[hR.out,ab.out]
end
section
open Go.RowKit Go.Shelf lin
attribute [local go_sem] Oper.semAt_some
def y6 (x:List Nat×List Int):List Ms:=aT x.1++x.2.map (I Z)
def gC (H:Nat) (x:List Nat×List Int) (W:Mr):Prop:=d7 283 H (y6 x) W∧x.1.length=74∧x.2.length=256
theorem gC.keeps {x:List Nat×List Int} (b:gC H x W) (a:aC W W'):gC H x W':=⟨b.1.keeps a,b.2⟩
theorem gC.chg {x:List Nat×List Int} (c:gC H x W) (a:aF cw W W') (b:¬cw H):gC H x W':=⟨c.1.chg a b,c.2⟩
theorem gC.lt {x:List Nat×List Int} (a:gC H x W):H<W.heap.size:=a.1.lt
theorem gC.col {x:List Nat×List Int} (b:gC H x W) (a:j<74):W.cell? ⟨H,j,N⟩=S (.int .u8 (x.1.getD j 0:Nat)):=b.1.cell (by
 unfold y6
 rw[List.getElem?_append_left (by rw[fC,b.2.1];exact a),kL _ (by rw[b.2.1];exact a)])
theorem gC.whose {x:List Nat×List Int} (b:gC H x W) (a:j<256):W.cell? ⟨H,74+j,N⟩=S (I Z (x.2.getD j 0)):=b.1.cell (by
 unfold y6
 rw[List.getElem?_append_right (by rw[fC,b.2.1];omega),fC,b.2.1,Nat.add_sub_cancel_left,Of,Mx,Nn (by rw[b.2.2];exact a)];rfl)
theorem gC.setCol {x:List Nat×List Int} (c:gC H x W) (b:j<74) (a:Nat):gC H (x.1.set j a,x.2) (W.setCell ⟨H,j,N⟩ (.int .u8 (a:Int))):=by refine⟨?_,by rw[Od];exact c.2.1,c.2.2⟩;have:=c.1.set j (.int .u8 (a:Int));unfold y6 at this ⊢;rw[List.set_append_left _ _ (by rw[fC,c.2.1];exact b),←BN]at this;exact this
theorem gC.setWhose {x:List Nat×List Int} (b:gC H x W) (c:j<256) (a:Int):gC H (x.1,x.2.set j a) (W.setCell ⟨H,74+j,N⟩ (I Z a)):=by refine⟨?_,b.2.1,by rw[Od];exact b.2.2⟩;have:=b.1.set (74+j) (I Z a);unfold y6 at this ⊢;rw[List.set_append_right _ _ (by rw[fC,b.2.1];omega),fC,b.2.1,Nat.add_sub_cancel_left,←List.map_set]at this;exact this
def yA (x:List Nat×List Int) (i a:Nat):List Nat×List Int:=(x.1.set i a,x.2.set a (i:Int))
theorem F8 {x:List Nat×List Int} (i a:Nat) (c:i<74) (d:a<256) (w:Mr) (f:gC H x w):Mt Y 171 #[.pointer (S ⟨H,0,N⟩),I Z i,.int .u8 a] w fun e g=>e=E (.tuple #[])∧gC H (yA x i a) g∧aF (fun b=>b=H) w g:=by
 have g:=f.col c;have h:=f.whose d;have m:=fun j=>f.1.frozen j;have n:=f.lt;have k:(i:Int)<74:=by omega
 have l:(a:Int)<256:=by omega
 generalize x.1.getD i 0=o at g;generalize x.2.getD a 0=q at h;have j:=Hd3 f c d;clear f;go_in;go_wp2;go_region
 all_goals
  go_wp2
  go_end0
  have⟨f,c,d⟩:=j.out;exact⟨rfl,((f.setCol c a).setWhose d (i:Int)).keeps (Kd Kr),aF.drew (aF.setCell (cw:=fun b=>b=H) (aF.setCell (cw:=fun b=>b=H) Cl (p:=⟨H,i,N⟩) (.inl rfl) _) (p:=⟨H,74+a,N⟩) (.inl rfl) _)⟩
def wM (k x:Nat):Bool:=decide (lin.popc x=k)
def nX (k:Nat):List Nat:=(Nf 256).filter (wM k)
def qD (k t:Nat):Nat:=((Nf t).filter (wM k)).length
def nZ (k:Nat):List (Array Ms):=(nX k).map fun(x:Nat)=>#[I .u8 (x:Int)]
theorem Am {t:Nat} (a:lin.popc t=k):qD k (t+1)=qD k t+1:=by
 unfold qD;rw[List.range_succ,List.filter_append,Nr];have:[t].filter (wM k)=[t]:=by simp[wM,a]
 rw[this];rfl
theorem An {t:Nat} (a:lin.popc t≠k):qD k (t+1)=qD k t:=by
 unfold qD;rw[List.range_succ,List.filter_append,Nr];have:[t].filter (wM k)=[]:=by simp[wM,a]
 rw[this];rfl
theorem Ao (k:Nat):(nZ k).length=qD k 256:=by unfold nZ nX qD;rw[Np]
theorem Ap {t:Nat} (b:t<256) (c:lin.popc t=k):(nZ k)[qD k t]?=S #[.int .u8 (t:Int)]:=by
 have e:Nf 256=Nf t++(t::(Nf (255-t)).map (t+1+·)):=by
  have a:Nf 256=Nf (t+(256-t)):=by congr 1;omega
  rw[a,List.range_add,show 256-t=(255-t)+1 by omega,List.range_succ_eq_map,List.map_cons,List.map_map];congr 2;apply List.map_congr_left;intro d _;simp;omega
 unfold nZ nX qD;rw[Of,e,List.filter_append,List.getElem?_append_right Nl,Nat.sub_self,List.filter_cons_of_pos (by simp[wM,c])];rfl
theorem Ar:Go.Proofs.YtlbgenenpheheaaGreat.popc 255=8:=by decide+kernel
theorem As (w:Mr):Mt Y 207 #[] w fun e b=>e=E (I Z 8)∧w=b:=by have a:=RX 255 (by omega) w;rw[Ar]at a;go_in;go_wp2_with fail;refine a.mono ?_;rintro e c ⟨rfl,rfl⟩;go_wp2_with fail;go_ret;exact⟨rfl,rfl⟩
theorem VI (n k:Nat) (w:Mr):Mt Y 172 #[I Z n,I Z k] w fun e a=>e=E (.func (.func 206) #[] #[.pointer (S ⟨w.heap.size+1,0,N⟩),.pointer (S ⟨w.heap.size,0,N⟩)])∧a=(w.alloc (O #[I Z n] 3)).alloc (O #[I Z k] 3):=by go_in;go_wp2;go_ret;exact⟨rfl,rfl⟩
theorem VJ (H B k:Nat) (U:k≤8) (W:Mr) (f:W.heap[H]?=S (O #[I Z 8] 3)) (b:W.heap[B]?=S (O #[I Z k] 3)):pW Y 206 #[.pointer (S ⟨B,0,N⟩),.pointer (S ⟨H,0,N⟩)] (nZ k) (fun a=>a=H∨a=B) W:=by
 intro V X aa Jx R a g d h c;have J:=aA h;have z:=aA g;have D:=aA a;have i:=Cw f 0;have l:=Cw b 0;simp at i l;have zN:=aB f;have L:=aB b;have M:=aA c;have r:=aH f b;have k0:¬(k:Int)<0:=by omega
 have k8:¬(8:Int)<(k:Int):=by omega
 clear h g d a c f b;refine(Nk (n:=9)).1 ?_;refine callsIn_of_wp func206 rfl trivial ?_ rfl;simp only[ntmps206,Nv,Oc,List.length_nil,Nat.reduceAdd,Nat.reduceSub,Array.replicate_succ,Array.replicate_zero,List.push_toArray,List.append_toArray,List.nil_append,List.cons_append];gi_wp2_with fail;refine wpIn_wide.2 ?_;refine bS (by kernel_rfl) (by kernel_rfl) ?_
 repeat
  with_reducible refine Mz fun K b=>?_
  go_simp
  try first
   |(apply Ei
     intro f a;obtain⟨c,d⟩:=a.cells;go_simp
     first
      |(go_at_call 207;with_reducible exact a.same (As _))
      |rfl)
   |(with_reducible refine aQ ?_ ?_;decide)
  refine b _ ?_;clear b K
 with_reducible refine Na ?_
 intro w9 a;have g:=aA a;have b:=Cw (aE a r.out.1) 0;simp at b;have c:=aB (aE a r.out.1);clear a i l;have a:decide ((k:Int)<0)=false:=decide_eq_false (by omega);have d:decide ((8:Int)<(k:Int))=false:=decide_eq_false (by omega);gi_wp2_with fail;clear a d b c
 gi_loopw [21] (fun s wr=>∃t:Nat,t≤256∧s=.int .u64 t∧wr.heap[H]?=S (O #[I Z 8] 3)∧wr.heap[B]?=S (O #[I Z k] 3)∧aa (qD k t) wr∧W.heap.size≤wr.heap.size) fun s _=>256-(intOf s).toNat
 case atStart=>exact⟨0,by omega,rfl,aE g.out r.out.1,aE g.out r.out.2,z.out _ _ _ M.out g.out,g.out.size⟩
 case round=>
  obtain⟨t,ht,rfl,f,b,q,o⟩:=hrel;have m:=Hd3 q f b;by_cases u:t<256
  ·have T:(t:Int)<256:=by omega
   have l:=Cw b 0;simp at l;have L:=aB b;have h:=aA fun w=>lin.DX t (by omega) w;have ct:IntKind.u8.wrap (t:Int)=t:=by rw[IntKind.wrap_u8];omega
   by_cases j:lin.popc t=k
   ·rw[j]at h
    clear q f b;gi_wp2_with fail;refine vM 8 (by kernel_rfl) (by kernel_rfl) ?_;simp only[List.take,List.drop]
    repeat
     with_reducible refine Mz fun K b=>?_
     go_simp
     try first
      |(apply Ei
        intro f a;obtain⟨c,d⟩:=a.cells;go_simp
        first
         |(go_at_call 157;with_reducible exact a.same (h.out _))
         |rfl)
      |(with_reducible refine aQ ?_ ?_;decide)
     refine b _ ?_;clear b K
    with_reducible refine Na ?_
    intro v a;have c:=aA a;have i:wr.heap.size≤v.heap.size:=a.size;obtain⟨fn,F,C,G,hy,P⟩:=J.out _ _ v 8 (Ap u j) (z.out _ _ _ m.out.1 a) (Ng o i);have A:=aA j;clear a j l;gi_wp2_with fail;refine P.mono ?_;rintro e Q ⟨d,⟨rfl,x⟩|⟨rfl,y⟩⟩
    ·have f:=aJ d (aE c.out m.out.2.1) fun a=>D.out H a (.inl rfl)
     have j:=aJ d (aE c.out m.out.2.2) fun a=>D.out B a (.inr rfl);have b:W.heap.size≤Q.heap.size:=Ng (Ng o i) d.size;have a:=aH f j;have p:=aA x;clear x d f j;gi_wp2_with fail;go_roundw
     case rel=>exact⟨t+1,by omega,by go_num,a.out.1,a.out.2,by rw[Am A.out];exact p.out,b⟩
     case measure=>simp[intOf];omega
    ·have p:=aA y;clear y;gi_wp2_with fail;refine My (Nw rfl _ _ _) rfl ?_;exact⟨⟨_,rfl⟩,.inr p.out⟩
   ·have A:=aA j
    have⟨x,d⟩:=Ey (lin.popc t);rw[d]at h j;have p:((x:Int)==(k:Int))=false:=by simp;omega
    clear q f b j d;gi_wp2_with fail;refine wpIn_wide.2 ?_;refine bS (by kernel_rfl) (by kernel_rfl) ?_
    repeat
     with_reducible refine Mz fun K b=>?_
     go_simp
     try first
      |(apply Ei
        intro f a;obtain⟨c,d⟩:=a.cells;go_simp
        first
         |(go_at_call 157;with_reducible exact a.same (h.out _))
         |rfl)
      |(with_reducible refine aQ ?_ ?_;decide)
     refine b _ ?_;clear b K
    with_reducible refine Na ?_
    intro v a;have c:=aA a;have i:wr.heap.size≤v.heap.size:=a.size;clear a l;gi_wp2_with fail;go_roundw
    case rel=>exact⟨t+1,by omega,by go_num,aE c.out m.out.2.1,aE c.out m.out.2.2,by rw[An A.out];exact z.out _ _ _ m.out.1 c.out,Ng o i⟩
    case measure=>simp[intOf];omega
  ·have a:t=256:=by omega
   subst a;have a:Hid (aa (nZ k).length wr):=by rw[Ao];exact aA q
   clear u f b q;gi_wp2_with fail
   go_end0
   exact⟨⟨_,rfl⟩,.inl a.out⟩
end
section
open Go.RowKit
variable {P:Program}
def fQ (D:Nat):Deferred:={target:=.collected D,args:=#[]}
def gN (lo:Nat) (W:Mr):List Deferred→Prop
 |[]=>True
 |d::ds=>∃D,d=fQ D∧lo≤D∧W.heap[D]?=S (.deferred (S []))∧(∀D',fQ D'∈ds→D'≠D)∧gN lo W ds
theorem gN.same {b:Nat} {W W':Mr}:∀{a:List Deferred},gN b W a→(∀e,b≤e→fQ e∈a→W.heap[e]?=S (.deferred (S []))→W'.heap[e]?=S (.deferred (S [])))→gN b W' a
 |[],_,_=>trivial
 |m::a,i,c=>by obtain⟨e,rfl,d,f,g,h⟩:=i;exact⟨e,rfl,d,c e d (by simp) f,g,h.same fun i j k l=>c i j (by simp[k]) l⟩
theorem gN.chg {a:Nat} {cw:Nat→Prop} {W W':Mr} {c:List Deferred} (h:gN a W c) (e:aF cw W W') (f:∀b,cw b→b<a∨W.heap.size≤b):gN a W' c:=h.same fun j i _ d=>aJ e d (fun g=>by rcases f j g with h|h;omega;have:=aB d;omega)
theorem gN.lt {c:Nat} {W:Mr}:∀{a:List Deferred},gN c W a→∀b,fQ b∈a→b<W.heap.size
 |[],_,b,i=>by simp at i
 |l::a,i,b,d=>by
  obtain⟨f,rfl,j,g,k,h⟩:=i;rcases List.mem_cons.1 d with e|e
  ·have:b=f:=by unfold fQ at e;injection e with i _;injection i
   subst this;exact aB g
  ·exact h.lt b e
theorem gN.cons {a D:Nat} {w W:Mr} {b:List Deferred} (d:gN a w b) (j:gN a W b) (i:w.heap.size≤D) (c:a≤D) (f:W.heap[D]?=S (.deferred (S []))):gN a W (fQ D::b):=⟨D,rfl,c,f,fun g h e=>by have:=d.lt g h;omega,j⟩
theorem uR {F:Fence} {n:Nat} {fn:Func} {tmps:Array Ms} {R:Ending→Mr→Prop} {c:Nat}:∀(a:List Deferred) (W:Mr),gN c W a→
 (∀W':Mr,aF (fun b=>c≤b) W W'→(∀(b:Nat) (o:Obj),W.heap[b]?=S o→(∀s,o≠Obj.deferred s)→W'.heap[b]?=S o)→∃d,(results fn tmps).run P W'=.ok d W'∧R (E d) W')→LeavesInM F n P fn tmps R a .returning W
 |[],W,_,d=>d W Cl (fun _ _ g _=>g)
 |q::a,W,g,d=>by
  obtain⟨p,rfl,i,f,j,k⟩:=g;refine⟨by simp,.inl ⟨_,_,rfl,run_takeDeferred f,?_⟩⟩;refine uR a _ (k.same fun g m h l=>by rw[Ok (j g h)];exact l) fun W' l m=>d W' ?_ ?_
  ·exact aF.trans (aF.putObj (cw:=fun b=>c≤b) Cl (.inl i) _) l
  ·intro b o g h
   refine m b o ?_ h;have:b≠p:=fun e=>by subst e;rw[g]at f;cases f;exact h _ rfl
   rw[Ok this];exact g
end
end Go.Proofs.YtlbgenenpheheaaGreat
