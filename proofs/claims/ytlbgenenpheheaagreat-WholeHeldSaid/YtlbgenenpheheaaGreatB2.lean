/- What the six laws Whole.. of the program cuirasstop lean on, part 3: contracts of its functions and laws of what they compute; for all arguments that each theorem names -/
import Derived.Test.YtlbgenenpheheaaGreatB1
import Derived.Laws.BitsAllLaws
set_option linter.unusedVariables false
set_option linter.unusedSimpArgs false
set_option maxHeartbeats 100000000
set_option maxRecDepth 100000
namespace Go.Proofs.YtlbgenenpheheaaGreat
open Go.Value renaming int→I
open Go.IntKind renaming i64→Z
open Go.Obj renaming cells→O
open Go.Ending renaming returned→E
open Tryz renaming prog→Y
open Tryz
open _root_.Array renaming replicate→No
open _root_.Bool renaming and_eq_true→Nq
open Go renaming World→Mr,Value→Ms,Calls→Mt,undef→Mv,bodyPost_ret→My,wpQuiet_step→Mz,wpQuiet_nil→Na,heap_setCell_same→Nx,results_cell_row→Oa,below_setRow→Ob
open Go.RowKit renaming Below→Mu
open Go.Value renaming slice→Nh,oneCell'→Ni,ownBlock→Ny
open _root_.List renaming getD→Mx,replicate→Nd,range→Nf,getElem?_eq_getElem→Nn,length_map→Np,length_append→Nr,size_toArray→Nv,length_cons→Oc,length_set→Od,getElem?_eq_some_iff→Oe,getElem?_map→Of,getElem?_toArray→Oi
open _root_.Nat renaming lt_of_lt_of_le→Nj,zero_le→Ns,le_succ→Nu,mod_eq_of_lt→Og
open _root_.Option renaming some→S,none→N
variable {B D F L R g i j k n:Nat} {P:Program} {W W' w w' w1 w2:World} {a b d f l r res way:Int} {cw:Nat→Prop} {o:Obj} {t:aR} {v:Value}
section
open Go.RowKit Go.Shelf lin
attribute [local go_sem] Oper.semAt_some BB
theorem mn {S:Nat} (ok:dA t) {k g n:Int} (l:Int) (b:bel l (t.seen*t.c)=false) (w:Mr) (h:cJ B L D S t w):Mt Y 46 #[.agg #[I Z k,I Z f,I Z g,I Z n],.pointer (some ⟨B,0,N⟩),I Z l] w fun e a=>e=E (.tuple #[I Z 0,I Z 0,I Z 0,I Z 12])∧Mu w.heap.size w a:=by
 have c:=aA fun a (d:aC w a)=>ls ok l b a (h.keeps d);have d:=aG w (O #[I Z k,I Z f,I Z g,I Z n] 63) w.heap.size rfl;have a:aC w (w.alloc (O #[I Z k,I Z f,I Z g,I Z n] 63)):=aU;clear h ok b;go_in;go_wp2_with(go_at_call 75;(with_reducible refine(c.out _ a).mono ?_);rintro e h ⟨rfl,b⟩;replace a:=Kc a b;clear b)
 (try simp only[Exit.inBlock,Exit.then])
 refine My (pB rfl _ _ _) rfl ?_;exact⟨rfl,a⟩
def aR.ix (t:aR) (l:Int):Int:=t.lie (t.home l)*64+l%t.c
def aR.rk (t:aR) (l:Int):Int:=t.ph (t.home l)/16384
def aR.route (t:aR) (k f g n l:Int):Int:=
 if k=1∧t.home l=f then(if l%t.c<n then t.pos 1 g (l%t.c)else t.ix l)
 else if k=2∧t.rk l=f then(if fK t.d t.c (t.ix l)<n then t.pos 2 g (fK t.d t.c (t.ix l))else t.ix l)else t.ix l
theorem pZ (ok:dA t) (b:bel l (t.seen*t.c)=true):0≤t.home l∧t.home l<cU t.r t.s t.b t.d t.c∧t.home l<t.seen+t.pages:=by obtain⟨c,d⟩:=eB b;have h:=cM (eE (eM ok.right).1).1;have e:=ok.bd;have f:0≤l/t.c:=Int.ediv_nonneg c (by omega);have g:l/t.c<t.seen:=Int.ediv_lt_of_lt_mul (by omega) d;have a:=ok.lives;have:=ok.live (l/t.c).toNat (by omega);unfold aR.home;omega
theorem mp (ok:dA t) {p i:Int} (d:0≤p) (o:0≤i) (n:i<t.c):∃c b f:Int,t.ph p=16384*c+1024*b+f∧0≤c∧c<t.r∧0≤b∧b<t.b∧0≤f∧f<t.d∧
 t.ph p/16384=c∧(t.ph p*64+i)/1048576=c∧(t.ph p*64+i)/65536%16=b∧(t.ph p*64+i)/64%1024=f∧(t.ph p*64+i)%64=i:=by
 have a:=(eE (eM ok.right).1).1;have q:=cM a;obtain⟨g,h,j,k,l,m,_,_⟩:=vT a t.way p d;refine⟨jY t.way t.r t.b t.d p,jZ t.way t.r t.b t.d p,jP t.way t.r t.b t.d p,rfl,g,h,j,k,l,m,?_⟩;have e:t.ph p=16384*jY t.way t.r t.b t.d p+1024*jZ t.way t.r t.b t.d p+jP t.way t.r t.b t.d p:=rfl;generalize jY t.way t.r t.b t.d p=c at*;generalize jZ t.way t.r t.b t.d p=b at*;generalize jP t.way t.r t.b t.d p=f at*;omega
theorem mq (ok:dA t) {i:Int} (c:0≤a) (f:a<t.b) (g:0≤b) (h:b<t.d) (j:0≤i) (k:i<t.c):0≤(a*t.d+b)*t.c+i∧(a*t.d+b)*t.c+i<t.b*t.d*t.c:=by have l:0≤a*t.d:=Int.mul_nonneg c (by omega);have d:(a+1)*t.d≤t.b*t.d:=Int.mul_le_mul_of_nonneg_right (by omega) (by omega);rw[Int.add_mul,Int.one_mul]at d;have m:0≤(a*t.d+b)*t.c:=Int.mul_nonneg (by omega) (by omega);have e:(a*t.d+b+1)*t.c≤t.b*t.d*t.c:=Int.mul_le_mul_of_nonneg_right (by omega) (by omega);rw[Int.add_mul _ 1,Int.one_mul]at e;omega
theorem RV (ok:dA t) (j:bel l (t.seen*t.c)=true) (k:t.spareB (t.rk l)=false):eC t.r t.s t.b t.d t.c (t.ix l)=true∧bel (fK t.d t.c (t.ix l)) (t.cnt 2)=true:=by
 obtain⟨m,_,_⟩:=pZ ok j;have a:=(eE (eM ok.right).1).1;have v:=cM a;have d:=Int.emod_nonneg l (show t.c≠0 by omega);have f:=Int.emod_lt_of_pos l (show 0<t.c by omega);obtain⟨A,b,B,e,w,x,n,o,p,q,y,r,g,h,i⟩:=mp ok m d f;have c:t.ix l=t.ph (t.home l)*64+l%t.c:=by unfold aR.ix aR.lie;have:t.ph (t.home l)/16384=t.rk l:=rfl;rw[this,k,Fn (by decide)]
 rw[c];have z:=mq ok n o p q d f;have s:=sE a;have u:t.cnt 2=kK t.r t.s t.b t.d t.c:=rfl;constructor
 ·unfold eC eY bel;rw[r,g,h,i,a];simp;omega
 ·unfold fK bel;rw[g,h,i,u,s.1];simp;omega
theorem mr {S:Nat} (ok:dA t) {g n:Int} (j:lD t 0 f g n) (l:Int) (d:bel l (t.seen*t.c)=true) (w:Mr) (h:cJ B L D S t w):Mt Y 46 #[.agg #[I Z 0,I Z f,I Z g,I Z n],.pointer (some ⟨B,0,N⟩),I Z l] w fun e a=>e=E (.tuple #[I Z (t.ix l),I Z (t.home l),I Z (t.rk l),I Z 0])∧Mu w.heap.size w a:=by
 have o:=aA fun a (b:aC w a)=>vZ ok l d a (h.keeps b);replace o:Hid (∀a,aC w a→Mt Y 75 #[.pointer (some ⟨B,0,N⟩),I Z l] a fun e b=>e=E (.tuple #[I Z (t.ix l),I Z (t.home l),I Z (t.rk l),I Z 0])∧Mu a.heap.size a b):=o;have q:=aA fun a (b:aC w a)=>uJ ok j a (h.keeps b);have r:=aA (lC h);generalize t.ix l=s at*;generalize t.home l=u at*;generalize t.rk l=v at*;have b:=aG w (O #[I Z 0,I Z f,I Z g,I Z n] 63) w.heap.size rfl;have c:aC w (w.alloc (O #[I Z 0,I Z f,I Z g,I Z n] 63)):=aU;clear h ok j d;go_in;go_wp2_with(first|(go_at_call 75;(with_reducible refine(o.out _ c).mono ?_);rintro e p ⟨rfl,a⟩;replace b:=aE a b;replace c:=Kc c a;have⟨d,h,i,k⟩:=eD b;simp at d h i k;have m:=aB b;clear a)|(go_at_call 76;(with_reducible refine(q.out _ c).mono ?_);rintro e p ⟨rfl,a⟩;replace b:=aE a b;replace c:=Kc c a;have⟨d,h,i,k⟩:=eD b;simp at d h i k;have m:=aB b;clear a)|(go_at_call 77;(with_reducible refine(r.out _ c).mono ?_);rintro e p ⟨rfl,a⟩;replace b:=aE a b;replace c:=Kc c a;have⟨d,h,i,k⟩:=eD b;simp at d h i k;have m:=aB b;clear a))
 (try simp only[Exit.inBlock,Exit.then])
 refine My (pB rfl _ _ _) rfl ?_;exact⟨rfl,(by repeat first|exact Bl|assumption|refine Ka ?_|refine Ks ?_ (by first|exact Nl|simp<;>omega|omega)|refine Kd ?_|refine Kc ?_ (by assumption))⟩
theorem mt {S:Nat} (ok:dA t) {g n:Int} (j:lD t 1 f g n) (l:Int) (d:bel l (t.seen*t.c)=true) (b:t.home l≠f) (w:Mr) (h:cJ B L D S t w):Mt Y 46 #[.agg #[I Z 1,I Z f,I Z g,I Z n],.pointer (some ⟨B,0,N⟩),I Z l] w fun e a=>e=E (.tuple #[I Z (t.ix l),I Z (t.home l),I Z (t.rk l),I Z 0])∧Mu w.heap.size w a:=by
 have o:=aA fun a (c:aC w a)=>vZ ok l d a (h.keeps c);replace o:Hid (∀a,aC w a→Mt Y 75 #[.pointer (some ⟨B,0,N⟩),I Z l] a fun e c=>e=E (.tuple #[I Z (t.ix l),I Z (t.home l),I Z (t.rk l),I Z 0])∧Mu a.heap.size a c):=o;have q:=aA fun a (c:aC w a)=>uJ ok j a (h.keeps c);have r:=aA (lC h);have s:(t.home l==f)=false:=by simpa using b
 clear b;generalize t.ix l=u at*;generalize t.home l=v at*;generalize t.rk l=x at*;have b:=aG w (O #[I Z 1,I Z f,I Z g,I Z n] 63) w.heap.size rfl;have c:aC w (w.alloc (O #[I Z 1,I Z f,I Z g,I Z n] 63)):=aU;clear h ok j d;go_in;go_wp2_with(first|(go_at_call 75;(with_reducible refine(o.out _ c).mono ?_);rintro e p ⟨rfl,a⟩;replace b:=aE a b;replace c:=Kc c a;have⟨d,h,i,k⟩:=eD b;simp at d h i k;have m:=aB b;clear a)|(go_at_call 76;(with_reducible refine(q.out _ c).mono ?_);rintro e p ⟨rfl,a⟩;replace b:=aE a b;replace c:=Kc c a;have⟨d,h,i,k⟩:=eD b;simp at d h i k;have m:=aB b;clear a)|(go_at_call 77;(with_reducible refine(r.out _ c).mono ?_);rintro e p ⟨rfl,a⟩;replace b:=aE a b;replace c:=Kc c a;have⟨d,h,i,k⟩:=eD b;simp at d h i k;have m:=aB b;clear a))
 (try simp only[Exit.inBlock,Exit.then])
 refine My (pB rfl _ _ _) rfl ?_;exact⟨rfl,(by repeat first|exact Bl|assumption|refine Ka ?_|refine Ks ?_ (by first|exact Nl|simp<;>omega|omega)|refine Kd ?_|refine Kc ?_ (by assumption))⟩
theorem mu {S:Nat} (ok:dA t) {g n:Int} (j:lD t 1 f g n) (l:Int) (h:bel l (t.seen*t.c)=true) (d:t.home l=f) (y:¬l%t.c<n) (w:Mr) (k:cJ B L D S t w):Mt Y 46 #[.agg #[I Z 1,I Z f,I Z g,I Z n],.pointer (some ⟨B,0,N⟩),I Z l] w fun e a=>e=E (.tuple #[I Z (t.ix l),I Z (t.home l),I Z (t.rk l),I Z 0])∧Mu w.heap.size w a:=by
 have p:=aA fun a (c:aC w a)=>vZ ok l h a (k.keeps c);replace p:Hid (∀a,aC w a→Mt Y 75 #[.pointer (some ⟨B,0,N⟩),I Z l] a fun e c=>e=E (.tuple #[I Z (t.ix l),I Z (t.home l),I Z (t.rk l),I Z 0])∧Mu a.heap.size a c):=p;have u:=aA fun a (c:aC w a)=>uJ ok j a (k.keeps c);have v:=aA (lC k);have a:=cM (eE (eM ok.right).1).1;have r:¬t.c=0:=by omega
 have x:(t.c==0)=false:=by simpa using r
 have z:=Int.tmod_eq_emod_of_nonneg (b:=t.c) (eB h).1;have c:=Int.emod_nonneg l (show t.c≠0 by omega);have i:=Int.emod_lt_of_pos l (show 0<t.c by omega);rw[d]at p ⊢;clear d;generalize l%t.c=m at*;clear a c i;generalize t.ix l=A at*;generalize t.home l=C at*;generalize t.rk l=F at*;have c:=aG w (O #[I Z 1,I Z f,I Z g,I Z n] 63) w.heap.size rfl;have d:aC w (w.alloc (O #[I Z 1,I Z f,I Z g,I Z n] 63)):=aU;clear k ok j h;go_in;go_wp2_with(first|(go_at_call 75;(with_reducible refine(p.out _ d).mono ?_);rintro e s ⟨rfl,a⟩;replace c:=aE a c;replace d:=Kc d a;have⟨h,i,k,o⟩:=eD c;simp at h i k o;have q:=aB c;clear a)|(go_at_call 76;(with_reducible refine(u.out _ d).mono ?_);rintro e s ⟨rfl,a⟩;replace c:=aE a c;replace d:=Kc d a;have⟨h,i,k,o⟩:=eD c;simp at h i k o;have q:=aB c;clear a)|(go_at_call 77;(with_reducible refine(v.out _ d).mono ?_);rintro e s ⟨rfl,a⟩;replace c:=aE a c;replace d:=Kc d a;have⟨h,i,k,o⟩:=eD c;simp at h i k o;have q:=aB c;clear a))
 (try simp only[Exit.inBlock,Exit.then])
 refine My (pB rfl _ _ _) rfl ?_;exact⟨rfl,(by repeat first|exact Bl|assumption|refine Ka ?_|refine Ks ?_ (by first|exact Nl|simp<;>omega|omega)|refine Kd ?_|refine Kc ?_ (by assumption))⟩
theorem mw {S:Nat} (ok:dA t) {g n:Int} (j:lD t 1 f g n) (l:Int) (h:bel l (t.seen*t.c)=true) (d:t.home l=f) (A:l%t.c<n) (w:Mr) (p:cJ B L D S t w):Mt Y 46 #[.agg #[I Z 1,I Z f,I Z g,I Z n],.pointer (some ⟨B,0,N⟩),I Z l] w fun e a=>e=E (.tuple #[I Z (t.pos 1 g (l%t.c)),I Z (t.home l),I Z (t.rk l),I Z 0])∧Mu w.heap.size w a:=by
 have q:=aA fun a (c:aC w a)=>vZ ok l h a (p.keeps c);replace q:Hid (∀a,aC w a→Mt Y 75 #[.pointer (some ⟨B,0,N⟩),I Z l] a fun e c=>e=E (.tuple #[I Z (t.ix l),I Z (t.home l),I Z (t.rk l),I Z 0])∧Mu a.heap.size a c):=q;have v:=aA fun a (c:aC w a)=>uJ ok j a (p.keeps c);have x:=aA (lC p);have r:=cM (eE (eM ok.right).1).1;have u:¬t.c=0:=by omega
 have z:(t.c==0)=false:=by simpa using u
 have C:=Int.tmod_eq_emod_of_nonneg (b:=t.c) (eB h).1;have k:=Int.emod_nonneg l (show t.c≠0 by omega);have o:=Int.emod_lt_of_pos l (show 0<t.c by omega);have y:=aA fun a (c:aC w a)=>JS (i:=l%t.c) ok j (by unfold bel;rw[decide_eq_true k,decide_eq_true (show l%t.c<t.cnt 1 from o)];rfl) a (p.keeps c);generalize t.pos 1 g (l%t.c)=F at*;rw[d]at q ⊢;clear d;generalize l%t.c=m at*;clear r k o;generalize t.ix l=G at*;generalize t.home l=H at*;generalize t.rk l=J at*;have c:=aG w (O #[I Z 1,I Z f,I Z g,I Z n] 63) w.heap.size rfl;have d:aC w (w.alloc (O #[I Z 1,I Z f,I Z g,I Z n] 63)):=aU;clear p ok j h;go_in;go_wp2_with(first|(go_at_call 75;(with_reducible refine(q.out _ d).mono ?_);rintro e s ⟨rfl,a⟩;replace c:=aE a c;replace d:=Kc d a;have⟨h,k,o,p⟩:=eD c;simp at h k o p;have r:=aB c;clear a)|(go_at_call 76;(with_reducible refine(v.out _ d).mono ?_);rintro e s ⟨rfl,a⟩;replace c:=aE a c;replace d:=Kc d a;have⟨h,k,o,p⟩:=eD c;simp at h k o p;have r:=aB c;clear a)|(go_at_call 77;(with_reducible refine(x.out _ d).mono ?_);rintro e s ⟨rfl,a⟩;replace c:=aE a c;replace d:=Kc d a;have⟨h,k,o,p⟩:=eD c;simp at h k o p;have r:=aB c;clear a)|(go_at_call 79;(with_reducible refine(y.out _ (Ka d)).mono ?_);rintro e s ⟨rfl,a⟩))
 (try simp only[Exit.inBlock,Exit.then])
 refine My (pB rfl _ _ _) rfl ?_;exact⟨rfl,(by repeat first|exact Bl|assumption|refine Ka ?_|refine Ks ?_ (by first|exact Nl|simp<;>omega|omega)|refine Kd ?_|refine Kc ?_ (by assumption))⟩
theorem mx {S:Nat} (ok:dA t) {g n:Int} (j:lD t 2 f g n) (l:Int) (d:bel l (t.seen*t.c)=true) (b:t.rk l≠f) (w:Mr) (h:cJ B L D S t w):Mt Y 46 #[.agg #[I Z 2,I Z f,I Z g,I Z n],.pointer (some ⟨B,0,N⟩),I Z l] w fun e a=>e=E (.tuple #[I Z (t.ix l),I Z (t.home l),I Z (t.rk l),I Z 0])∧Mu w.heap.size w a:=by
 have o:=aA fun a (c:aC w a)=>vZ ok l d a (h.keeps c);replace o:Hid (∀a,aC w a→Mt Y 75 #[.pointer (some ⟨B,0,N⟩),I Z l] a fun e c=>e=E (.tuple #[I Z (t.ix l),I Z (t.home l),I Z (t.rk l),I Z 0])∧Mu a.heap.size a c):=o;have q:=aA fun a (c:aC w a)=>uJ ok j a (h.keeps c);have r:=aA (lC h);have s:(t.rk l==f)=false:=by simpa using b
 clear b;generalize t.ix l=u at*;generalize t.home l=v at*;generalize t.rk l=x at*;have b:=aG w (O #[I Z 2,I Z f,I Z g,I Z n] 63) w.heap.size rfl;have c:aC w (w.alloc (O #[I Z 2,I Z f,I Z g,I Z n] 63)):=aU;clear h ok j d;go_in;go_wp2_with(first|(go_at_call 75;(with_reducible refine(o.out _ c).mono ?_);rintro e p ⟨rfl,a⟩;replace b:=aE a b;replace c:=Kc c a;have⟨d,h,i,k⟩:=eD b;simp at d h i k;have m:=aB b;clear a)|(go_at_call 76;(with_reducible refine(q.out _ c).mono ?_);rintro e p ⟨rfl,a⟩;replace b:=aE a b;replace c:=Kc c a;have⟨d,h,i,k⟩:=eD b;simp at d h i k;have m:=aB b;clear a)|(go_at_call 77;(with_reducible refine(r.out _ c).mono ?_);rintro e p ⟨rfl,a⟩;replace b:=aE a b;replace c:=Kc c a;have⟨d,h,i,k⟩:=eD b;simp at d h i k;have m:=aB b;clear a))
 (try simp only[Exit.inBlock,Exit.then])
 refine My (pB rfl _ _ _) rfl ?_;exact⟨rfl,(by repeat first|exact Bl|assumption|refine Ka ?_|refine Ks ?_ (by first|exact Nl|simp<;>omega|omega)|refine Kd ?_|refine Kc ?_ (by assumption))⟩
theorem my {S:Nat} (ok:dA t) {g n:Int} (j:lD t 2 f g n) (l:Int) (c:bel l (t.seen*t.c)=true) (b:t.rk l=f) (x:¬fK t.d t.c (t.ix l)<n) (w:Mr) (h:cJ B L D S t w):Mt Y 46 #[.agg #[I Z 2,I Z f,I Z g,I Z n],.pointer (some ⟨B,0,N⟩),I Z l] w fun e a=>e=E (.tuple #[I Z (t.ix l),I Z (t.home l),I Z (t.rk l),I Z 0])∧Mu w.heap.size w a:=by
 have q:=aA fun a (d:aC w a)=>vZ ok l c a (h.keeps d);replace q:Hid (∀a,aC w a→Mt Y 75 #[.pointer (some ⟨B,0,N⟩),I Z l] a fun e d=>e=E (.tuple #[I Z (t.ix l),I Z (t.home l),I Z (t.rk l),I Z 0])∧Mu a.heap.size a d):=q;have s:=aA fun a (d:aC w a)=>uJ ok j a (h.keeps d);have u:=aA (lC h)
 have i:t.spareB (t.rk l)=false:=by
  rcases j with⟨h,_⟩|⟨h,_⟩|⟨_,_,_,_,h,_⟩
  ·omega
  ·omega
  ·rw[b];exact h
 obtain⟨a,d⟩:=RV ok c i;have v:=aA fun w=>RR a w;clear i a d;rw[b]at q ⊢;clear b;generalize fK t.d t.c (t.ix l)=m at*;generalize t.ix l=z at*;generalize t.home l=A at*;generalize t.rk l=C at*;have b:=aG w (O #[I Z 2,I Z f,I Z g,I Z n] 63) w.heap.size rfl;have k:aC w (w.alloc (O #[I Z 2,I Z f,I Z g,I Z n] 63)):=aU;clear h ok j c;go_in;go_wp2_with(first|(go_at_call 75;(with_reducible refine(q.out _ k).mono ?_);rintro e r ⟨rfl,a⟩;replace b:=aE a b;replace k:=Kc k a;have⟨c,d,h,i⟩:=eD b;simp at c d h i;have o:=aB b;clear a)|(go_at_call 76;(with_reducible refine(s.out _ k).mono ?_);rintro e r ⟨rfl,a⟩;replace b:=aE a b;replace k:=Kc k a;have⟨c,d,h,i⟩:=eD b;simp at c d h i;have o:=aB b;clear a)|(go_at_call 77;(with_reducible refine(u.out _ k).mono ?_);rintro e r ⟨rfl,a⟩;replace b:=aE a b;replace k:=Kc k a;have⟨c,d,h,i⟩:=eD b;simp at c d h i;have o:=aB b;clear a)|(go_at_call 78;(with_reducible refine(v.out _).mono ?_);rintro e y ⟨rfl,p⟩;replace b:=aE p ((aV _ (Obj.cells #[I Z t.r,I Z t.s,I Z t.b,I Z t.d,I Z t.c] 23) w.heap.size o).trans b);replace k:=Kc (Ka k) p;have⟨c,d,h,i⟩:=eD b;simp at c d h i;have o:=aB b;clear p))
 (try simp only[Exit.inBlock,Exit.then])
 refine My (pB rfl _ _ _) rfl ?_;exact⟨rfl,(by repeat first|exact Bl|assumption|refine Ka ?_|refine Ks ?_ (by first|exact Nl|simp<;>omega|omega)|refine Kd ?_|refine Kc ?_ (by assumption))⟩
theorem nf {S:Nat} (ok:dA t) {g n:Int} (j:lD t 2 f g n) (l:Int) (h:bel l (t.seen*t.c)=true) (k:t.rk l=f) (z:fK t.d t.c (t.ix l)<n) (w:Mr) (o:cJ B L D S t w):Mt Y 46 #[.agg #[I Z 2,I Z f,I Z g,I Z n],.pointer (some ⟨B,0,N⟩),I Z l] w fun e a=>e=E (.tuple #[I Z (t.pos 2 g (fK t.d t.c (t.ix l))),I Z (t.home l),I Z (t.rk l),I Z 0])∧Mu w.heap.size w a:=by
 have r:=aA fun a (b:aC w a)=>vZ ok l h a (o.keeps b);replace r:Hid (∀a,aC w a→Mt Y 75 #[.pointer (some ⟨B,0,N⟩),I Z l] a fun e b=>e=E (.tuple #[I Z (t.ix l),I Z (t.home l),I Z (t.rk l),I Z 0])∧Mu a.heap.size a b):=r;have u:=aA fun a (b:aC w a)=>uJ ok j a (o.keeps b);have v:=aA (lC o)
 have p:t.spareB (t.rk l)=false:=by
  rcases j with⟨o,_⟩|⟨o,_⟩|⟨_,_,_,_,o,_⟩
  ·omega
  ·omega
  ·rw[k];exact o
 obtain⟨c,d⟩:=RV ok h p;have x:=aA fun w=>RR c w;have y:=aA fun a (b:aC w a)=>JS (i:=fK t.d t.c (t.ix l)) ok j d a (o.keeps b);generalize t.pos 2 g (fK t.d t.c (t.ix l))=C at*;clear p c d;rw[k]at r ⊢;clear k;generalize fK t.d t.c (t.ix l)=m at*;generalize t.ix l=F at*;generalize t.home l=G at*;generalize t.rk l=H at*;have b:=aG w (O #[I Z 2,I Z f,I Z g,I Z n] 63) w.heap.size rfl;have c:aC w (w.alloc (O #[I Z 2,I Z f,I Z g,I Z n] 63)):=aU;clear o ok j h;go_in;go_wp2_with(first|(go_at_call 75;(with_reducible refine(r.out _ c).mono ?_);rintro e s ⟨rfl,a⟩;replace b:=aE a b;replace c:=Kc c a;have⟨d,h,k,o⟩:=eD b;simp at d h k o;have p:=aB b;clear a)|(go_at_call 76;(with_reducible refine(u.out _ c).mono ?_);rintro e s ⟨rfl,a⟩;replace b:=aE a b;replace c:=Kc c a;have⟨d,h,k,o⟩:=eD b;simp at d h k o;have p:=aB b;clear a)|(go_at_call 77;(with_reducible refine(v.out _ c).mono ?_);rintro e s ⟨rfl,a⟩;replace b:=aE a b;replace c:=Kc c a;have⟨d,h,k,o⟩:=eD b;simp at d h k o;have p:=aB b;clear a)|(go_at_call 78;(with_reducible refine(x.out _).mono ?_);rintro e A ⟨rfl,q⟩;replace b:=aE q ((aV _ (Obj.cells #[I Z t.r,I Z t.s,I Z t.b,I Z t.d,I Z t.c] 23) w.heap.size p).trans b);replace c:=Kc (Ka c) q;have⟨d,h,k,o⟩:=eD b;simp at d h k o;have p:=aB b;clear q)|(go_at_call 79;(with_reducible refine(y.out _ c).mono ?_);rintro e s ⟨rfl,a⟩;replace c:=Kc c a;clear a))
 (try simp only[Exit.inBlock,Exit.then])
 refine My (pB rfl _ _ _) rfl ?_;exact⟨rfl,(by repeat first|exact Bl|assumption|refine Ka ?_|refine Ks ?_ (by first|exact Nl|simp<;>omega|omega)|refine Kd ?_|refine Kc ?_ (by assumption))⟩
theorem ng {S:Nat} (ok:dA t) {k g n:Int} (j:lD t k f g n) (l:Int) (c:bel l (t.seen*t.c)=true) (w:Mr) (d:cJ B L D S t w):Mt Y 46 #[.agg #[I Z k,I Z f,I Z g,I Z n],.pointer (some ⟨B,0,N⟩),I Z l] w fun e a=>e=E (.tuple #[I Z (t.route k f g n l),I Z (t.home l),I Z (t.rk l),I Z 0])∧Mu w.heap.size w a:=by
 unfold aR.route;rcases id j with⟨rfl,rfl,rfl,rfl⟩|⟨rfl,_⟩|⟨rfl,_⟩
 ·rw[Fn (by omega),Fn (by omega)];exact mr ok j l c w d
 ·by_cases a:t.home l=f
  ·rw[Fp ⟨rfl,a⟩]
   by_cases b:l%t.c<n
   ·rw[Fp b];exact mw ok j l c a b w d
   ·rw[Fn b];exact mu ok j l c a b w d
  ·rw[Fn (by omega),Fn (by omega)];exact mt ok j l c a w d
 ·rw[Fn (by omega)]
  by_cases a:t.rk l=f
  ·rw[Fp ⟨rfl,a⟩]
   by_cases b:fK t.d t.c (t.ix l)<n
   ·rw[Fp b];exact nf ok j l c a b w d
   ·rw[Fn b];exact my ok j l c a b w d
  ·rw[Fn (by omega)];exact mx ok j l c a w d
end
section
open Go.RowKit Go.Shelf lin
attribute [local go_sem] Oper.semAt_some
def aR.putSpare (t:aR) (j:Nat) (x:Int):aR:={t with spares:=t.spares.set j x}
def aR.putLive (t:aR) (l:List Int):aR:={t with lives:=l}
def aR.putDead (t:aR) (j:Nat):aR:={t with dead:=t.dead.set j true}
theorem cJ.setS {S:Nat} (q:cJ B L D S t W) (j:Nat) (x:Int):cJ B L D S (t.putSpare j x) (W.setCell ⟨S,j,N⟩ (I Z x)):=by
 obtain⟨r,s,i,k,u,l⟩:=q.nB;obtain⟨⟨m,h,a,d,b,f,c⟩,n,o,p,g⟩:=q;have e:(t.spares.set j x).length=t.spares.length:=Od;refine⟨⟨m,h,?_,d,b,by show(t.spares.set j x).length≤h;rw[e];exact f,c⟩,n.same (Ho (Ne.symm k.symm)),o.same (Ho l),?_,g⟩
 ·rw[heap_setCell_other W ⟨S,j,N⟩ B _ (Ne.symm i),a];unfold aR.row aR.putSpare;simp only[e]
 ·have:=p.set j (I Z x);rw[←List.map_set]at this;exact this
theorem cJ.setD {S:Nat} (q:cJ B L D S t W) (j:Nat):cJ B L D S (t.putDead j) (W.setCell ⟨D,j,N⟩ (.bool true)):=by
 obtain⟨r,h,s,u,i,k⟩:=q.nB;obtain⟨⟨l,m,a,d,b,f,c⟩,n,o,p,g⟩:=q;have e:(t.dead.set j true).length=t.dead.length:=Od;refine⟨⟨l,m,?_,d,b,f,c⟩,n.same (Ho (Ne.symm i)),?_,p.same (Ho (Ne.symm k)),g⟩
 ·rw[heap_setCell_other W ⟨D,j,N⟩ B _ (Ne.symm h),a];unfold aR.row aR.putDead;simp only[e]
 ·have:=o.set j (.bool true);rw[←List.map_set]at this;exact this
theorem cJ.setL {S:Nat} (q:cJ B L D S t W) (j:Nat) (x:Int):cJ B L D S (t.putLive (t.lives.set j x)) (W.setCell ⟨L,j,N⟩ (I Z x)):=by
 obtain⟨i,r,s,k,l,u⟩:=q.nB;obtain⟨⟨h,m,a,d,b,f,c⟩,n,o,p,g⟩:=q;have e:(t.lives.set j x).length=t.lives.length:=Od;refine⟨⟨h,m,?_,by show(t.lives.set j x).length≤h;rw[e];exact d,b,f,c⟩,?_,o.same (Ho l),p.same (Ho (Ne.symm k)),g⟩
 ·rw[heap_setCell_other W ⟨L,j,N⟩ B _ (Ne.symm i),a];unfold aR.row aR.putLive;simp only[e]
 ·have:=n.set j (I Z x);rw[←List.map_set]at this;exact this
theorem nh {S:Nat} (ok:dA t) (k x:Int) (c:bel k t.spares.length=true) (i:t.spares.getD k.toNat 0=-1) (j:bel (x-t.r) t.ranks=true) (w:Mr) (T:cJ B L D S t w):Mt Y 232 #[.pointer (some ⟨B,0,N⟩),I Z k,I Z x] w fun e l=>e=E (I Z 0)∧cJ B L D S (t.putSpare k.toNat x) l∧aF (fun b=>b=S) w l:=by
 obtain⟨⟨U,V,a,H,r,J,s⟩,u,v,y,M⟩:=id T;unfold aR.row at a;have m:=aB a;have⟨f,g,d⟩:=pQ a 0 9 11;simp at f g d;have n:=aA fun w=>pA c w;have o:=aA fun w=>pA j w;obtain⟨P,rfl,z⟩:=AZ c;rw[Int.toNat_natCast]at i ⊢;have A:=cM (eE (eM ok.right).1).1;have l:=eB j;have p:=ok.r0;have q:=ok.r1;have C:=IntWalk.wrap64_in (x-t.r) ⟨by omega,by omega⟩;have Q:=IntWalk.i64_in (x-t.r) ⟨by omega,by omega⟩;have R:(P:Int)<t.spares.length:=by omega
 have F:=aA (show(t.spares.map (I Z))[P]?=some (I Z (-1)) by rw[←i,Of,Mx,Nn z];rfl);have G:=aA a;have h:=aA T;clear a u v y T ok c i j A l p q;go_in;go_wp2;refine bS (by kernel_rfl) (by kernel_rfl) ?_
 repeat
  with_reducible refine Mz fun K c=>?_
  go_simp
  try first
   |(apply Ei
     intro l a;obtain⟨i,j⟩:=a.cells;go_simp
     first
      |(go_at_call 97;with_reducible exact a.call (n.out _))
      |(go_at_call 97;with_reducible exact a.call (o.out _))
      |rfl)
   |(with_reducible refine aQ ?_ ?_;decide)
  refine c _ ?_;clear c K
 with_reducible refine Na ?_
 intro l c;obtain⟨i,j⟩:=c.cells;clear f g d;have a:=aE c G.out;have⟨f,g,d⟩:=pQ a 0 9 11;simp at f g d;have m:=aB a;clear i j a;have C:=(h.out.spares.keeps c).cell F.out;have a:=(h.out.spares.keeps c).frozen P;have i:=(h.out.spares.keeps c).lt;go_wp2;go_ret;exact⟨rfl,(h.out.keeps c).setS P x,(aF.of_below c fun b=>b=S).setCell (.inl rfl) _⟩
def aR.retire (t:aR) (h x9:Int):aR:={t with dead:=t.dead.set h.toNat true,lives:=t.lives.map (fun x=>if x=h then x9 else x)}
def sF (l:List Int) (h x9:Int) (k:Nat) (l':List Int):Prop:=l'.length=l.length∧(∀i,i<k→l'.getD i 0=if l.getD i 0=h then x9 else l.getD i 0)∧(∀i,k≤i→l'.getD i 0=l.getD i 0)
theorem sF.yes {l l':List Int} {h a:Int} (r:sF l h a k l') (i:k<l.length) (e:l.getD k 0=h):sF l h a (k+1) (l'.set k a):=by
 obtain⟨j,b,m⟩:=r
 have c:∀d,(l'.set k a).getD d 0=if d=k then a else l'.getD d 0:=fun d=>by
  rw[List.getD_eq_getElem?_getD,List.getElem?_set,List.getD_eq_getElem?_getD];split
  ·rename_i e;subst e;rw[Fp rfl,Fp (by omega)];rfl
  ·rename_i e;rw[Fn (Ne.symm e)]
 refine⟨by rw[Od];exact j,fun d f=>?_,fun d f=>?_⟩
 ·rw[c];split
  ·rename_i g;subst g;rw[Fp e]
  ·exact b d (by omega)
 ·rw[c,Fn (by omega)];exact m d (by omega)
theorem sF.no {l l':List Int} {g c:Int} (r:sF l g c k l') (e:l.getD k 0≠g):sF l g c (k+1) l':=by
 obtain⟨i,b,h⟩:=r;refine⟨i,fun d f=>?_,fun d f=>h d (by omega)⟩;by_cases a:d=k
 ·subst a;rw[Fn e];exact h d (Nat.le_refl d)
 ·exact b d (by omega)
theorem sF.eq {l l':List Int} {d a:Int} (r:sF l d a l.length l'):l'=l.map (fun c=>if c=d then a else c):=by obtain⟨f,b,h⟩:=r;refine List.ext_getElem (by rw[f,Np]) fun g c e=>?_;have:=b g (by omega);rw[List.getD_eq_getElem?_getD,Nn c,List.getD_eq_getElem?_getD,Nn (by omega)]at this;rw[List.getElem_map];exact this
theorem ni {S:Nat} (ok:dA t) (m x:Int) (v:bel m t.dead.length=true) (z:t.dead.getD m.toNat false=false) (d:bel (x-t.seen) t.pages=true) (f:t.dead.getD x.toNat false=false) (o:m≠x) (w:Mr) (W:cJ B L D S t w):Mt Y 231 #[.pointer (some ⟨B,0,N⟩),I Z m,I Z x] w fun e w'=>e=E (I Z 0)∧cJ B L D S (t.retire m x) w'∧aF (fun b=>b=D∨b=L) w w':=by
 obtain⟨⟨cl,cs,c,ad,X,ae,aa⟩,hL,hD,hS,an⟩:=id W;unfold aR.row at c;have g:=aB c;have⟨G,H,P,Q,R,T,U,l,r⟩:=OH c 0 1 2 3 4 5 6 8 10;simp at G H P Q R T U l r;have q:=ok.bd;have u:=ok.dead;obtain⟨i,h⟩:∃n,n=t.lives.length:=⟨_,rfl⟩;have k:=ok.lives;rw[←h]at k;have⟨bn,A⟩:=Ey t.seen;have HS:=aA fun w=>JL ok A w;rw[A]at q d k;have J:=aA fun w=>pA v w;have M:=aA fun w=>pA d w;have C:=eB d;have e9:=IntWalk.wrap64_in (x-bn) ⟨by omega,by omega⟩;have ar:=IntWalk.i64_in (x-bn) ⟨by omega,by omega⟩;obtain⟨j,rfl,hj⟩:=AZ v;obtain⟨F,rfl⟩:∃F:Nat,x=F:=⟨x.toNat,by omega⟩;rw[Int.toNat_natCast]at z f;have hi:F<t.dead.length:=by omega
 have av:(j:Int)<t.dead.length:=by omega
 have ba:(F:Int)<t.dead.length:=by omega
 have ab:(i:Int)<1000000:=by omega
 have bb:((j:Int)==(F:Int))=false:=by simpa using o
 have V:=aA (show(t.dead.map Ms.bool)[j]?=some (.bool false)∧(t.dead.map Ms.bool)[F]?=some (.bool false) from⟨by rw[←z,Of,Mx,Nn hj];rfl,by rw[←f,Of,Mx,Nn hi];rfl⟩);have HR:=aA c;have HH:=aA W;have y:=aA h;have p:t.retire (j:Int) (F:Int)=(t.putDead j).putLive (t.lives.map fun x=>if x=(j:Int)then(F:Int)else x):=by unfold aR.retire aR.putDead aR.putLive;rw[Int.toNat_natCast]
 replace p:=aA p;clear c hL hD hS W ok v z d f q C u A o k h;go_in;go_wp2;refine bS (by kernel_rfl) (by kernel_rfl) ?_
 repeat
  with_reducible refine Mz fun K d=>?_
  go_simp
  try first
   |(apply Ei
     intro w' c;obtain⟨f,h⟩:=c.cells;go_simp
     first
      |(go_at_call 97;with_reducible exact c.call (J.out _))
      |(go_at_call 97;with_reducible exact c.call (M.out _))
      |(go_at_call 45;with_reducible exact c.call (HS.out _))
      |rfl)
   |(with_reducible refine aQ ?_ ?_;decide)
  refine d _ ?_;clear d K
 with_reducible refine Na ?_
 intro z q;have o:=aA (HH.out.keeps q);have c:=aE q HR.out;clear G H P Q R T U l r g;have⟨r,l⟩:=iO c 7 8;simp at r l;have g:=aB c;have f:=fun j=>Fw c j;have u:=o.out.dead.cell V.out.1;have h:=o.out.dead.cell V.out.2;have R:=o.out.dead.frozen j;have k:=o.out.dead.lt;have P:=o.out.nB.2.1;rw[←y.out]at r;clear c;go_wp2_with fail;have v:=o.out.setD j;have d:aF (fun b=>b=D∨b=L) w (z.setCell ⟨D,j,N⟩ (.bool true)):=(aF.of_below q fun b=>b=D∨b=L).setCell (.inl (.inl rfl)) _;have⟨G,c⟩:=Ex (z.setCell ⟨D,j,N⟩ (.bool true));have Q:G.cell? ⟨B,7,N⟩=_:=(by rw[c];exact Mr.cell?_of_block (w:=z) (a:=⟨B,7,N⟩) (Ho (Ne.symm P)):_=z.cell? ⟨B,7,N⟩).trans r;rw[←c]at v d ⊢;clear r l g R k c u h f;replace v:=aH v d;clear d;go_loopw [66] (fun s wr=>∃(l:Nat) (k:List Int),l≤i∧s=I Z l∧sF t.lives j F l k∧cJ B L D S ((t.putDead j).putLive k) wr∧wr.heap[B]?=G.heap[B]?∧aF (fun b=>b=D∨b=L) w wr) fun s _=>i-(intOf s).toNat
 case atStart=>exact⟨0,t.lives,by omega,rfl,⟨rfl,fun F W=>absurd W (by omega),fun F W=>rfl⟩,v.out.1,rfl,v.out.2⟩
 case round=>
  obtain⟨l,k,hk,rfl,f,c,g,h⟩:=hrel;by_cases A:l<i
  ·have U:(l:Int)<i:=by omega
   have C:k.length=i:=by rw[f.1,y.out]
   have r:wr.cell? ⟨B,7,N⟩=_:=(Mr.cell?_of_block (w:=G) (w':=wr) (a:=⟨B,7,N⟩) g).trans Q;have u:=c.lives.ints (j:=l) (show l<k.length by omega);have R:=c.lives.frozen l;have W:=c.lives.lt;have bd:=c.ltB;replace u:wr.cell? ⟨L,l,N⟩=some (I Z (t.lives.getD l 0)):=by rw[u,←f.2.2 l (Nat.le_refl l)];rfl
   have T:=bT f c g h;by_cases d:t.lives.getD l 0=(j:Int)
   ·rw[d]at u
    have H:=aA d;clear f c g h d C;go_wp2_with fail;go_roundw
    case rel=>have⟨f,c,g,h⟩:=T.out;exact⟨l+1,k.set l F,by omega,by go_num,f.yes (by rw[←y.out];exact A) H.out,c.setL l F,(Ho (Ne.symm c.nB.1)).trans g,h.setCell (.inl (.inr rfl)) _⟩
    case measure=>simp[intOf];omega
   ·have bm:(t.lives.getD l 0==(j:Int))=false:=by simpa using d
    have H:=aA (f.no d);generalize t.lives.getD l 0=br at*;clear f c g h C;go_wp2_with fail;go_roundw
    case rel=>have⟨f,c,g,h⟩:=T.out;exact⟨l+1,k,by omega,by go_num,H.out,c,g,h⟩
    case measure=>simp[intOf];omega
  ·have d:l=i:=by omega
   subst d;clear A;go_wp2_with fail;go_ret;refine⟨rfl,?_,h⟩;rw[p.out,←sF.eq (by rw[←y.out];exact f)];exact c
end
section
open Go.RowKit Go.Shelf lin
attribute [local go_sem] Oper.semAt_some cK
theorem nj:(Y.info? 4).map (fun a=>(a.zero,a.size,a.bytes))=S (S (.bool false),1,1):=by kernel_rfl
theorem nm {f p d:Mr} {t:Nat} {a:Array Ms} {v':Ms} (k:aF (fun b=>b=B) f p) (g:p.heap[B]?=S (O a t)) (m:B<f.heap.size) (c:∀n,v.ownBlock=S n→f.heap.size≤n) (h:(p.alloc o).grownBy d v.ownBlock):d.heap[B]?=S (O a t)∧aF (fun b=>b=B) f (d.setCell ⟨B,i,N⟩ v')∧(d.setCell ⟨B,i,N⟩ v').heap[B]?=S (O (a.setIfInBounds i v') t):=by have j:d.heap[B]?=S (O a t):=eS h ((aV _ _ _ (aB g)).trans g) (fun e=>by have:=c _ e.symm;omega);exact⟨j,((k.alloc o).grown h fun n l=>.inr (c n l)).setCell (.inl rfl) _,Hs i v' j⟩
theorem RW {c z a:Mr} {t:Nat} {d:Array Ms} {v':Ms} {l:List Int} {x:Int} (k:aF (fun b=>b=B) c z) (m:z.heap[B]?=S (O d t)) (g:B<c.heap.size) (q:eV z c.heap.size v l) (r:(z.alloc o).grownBy a v.ownBlock) (e:a.ownsRow c.heap.size 3 1 v' (l.length+1) (l.map (I Z)++[I Z x])) (s:l.length=n) (u:d[i]?=S v):∃A C,v'=.slice A (n+1) C∧B<a.heap.size∧a.frozen? ⟨B,i,N⟩=false∧a.cell? ⟨B,i,N⟩=S v∧Hid (aF (fun b=>b=B) c (a.setCell ⟨B,i,N⟩ v')∧(a.setCell ⟨B,i,N⟩ v').heap[B]?=S (O (d.setIfInBounds i v') t)∧eV (a.setCell ⟨B,i,N⟩ v') c.heap.size v' (l++[x])):=by obtain⟨f,w,y⟩:=nm (i:=i) (v':=v') k m g (fun j h=>(q.own j h).1) r;have h:=eV.push e;obtain⟨A,C,j⟩:=h.slice;rw[Nr,List.length_singleton,s]at j;exact⟨A,C,j,aB f,Fw f i,(Cw f i).trans u,aA ⟨w,y,h.chg (cw:=fun b=>b=B) ((aF.refl (fun b=>b=B) _).setCell (p:=⟨B,i,N⟩) (.inl rfl) v') (fun F G=>by have D:F=B:=G;omega)⟩⟩
theorem nn {z:Ms} {t:Nat} {l:List Ms} (W:Mr) (b:l=Nd n z):d7 t W.heap.size l (W.alloc (O (madeCells #[z] n) t)):=⟨_,aG _ _ _ rfl,fun d e a=>by
 subst b;rw[List.getElem?_replicate]at a;split at a
 ·rename_i c;injection a with a;subst a;unfold madeCells;rw[Array.getElem?_map,Array.getElem?_range,Fp c];simp[Nat.mod_one]
 ·cases a⟩
def mO (r s b d c way res:Int):aR:=⟨r,s,b,d,c,way,res,(Nf (cU r s b d c-res).toNat).map Int.ofNat,Nd (cU r s b d c).toNat false,Nd r.toNat (-1),0,0⟩
theorem np {s c:Int} (u:mN r s b d c way res=true) (w:Mr):Mt Y 167 #[.agg #[I Z r,I Z s,I Z b,I Z d,I Z c,I Z way,I Z res]] w fun e h=>∃B bs av ab:Nat,e=E (.tuple #[.pointer (S ⟨B,0,N⟩),I Z 0])∧cJ B bs av ab (mO r s b d c way res) h∧aC w h∧w.heap.size≤B∧w.heap.size≤bs∧w.heap.size≤av∧w.heap.size≤ab:=by
 have HR:=aA fun w=>JJ u w;have Q:=aA fun w=>JK u rfl w;obtain⟨y,a⟩:∃y:Nat,cU r s b d c=y:=⟨_,(Int.toNat_of_nonneg (by obtain⟨f,g,h,j⟩:=eM u;omega)).symm⟩;have HP:=aA fun w=>xM a w;have f:=nL (eE (eM u).1).1;rw[a]at Q f;have bw:y≤131072:=by omega
 have bx:=run_make_row' (P:=Y) 193 4 (.bool false) 1 underlying193 nj rfl .i64 .i64 y (by omega) (by omega);have V:=aA a;have g:=cM (eE (eM u).1).1;obtain⟨_,ba,bb,z⟩:=eM u;rw[a]at z;have bz:1≤r∧r≤8:=by omega
 clear u a f g;have h:=aG w (O #[I Z r,I Z s,I Z b,I Z d,I Z c,I Z way,I Z res] 25) w.heap.size rfl;go_in;go_wp2_with(go_at_call 73;refine(HR.out _).mono ?_;rintro e R ⟨rfl,k⟩);have f:=aE k h;have⟨p,q,u,A,C,D,F⟩:=x7 f;simp at p q u A C D F;have v:=aB f;replace f:=aA f;clear h;refine vO [1] [0,2] [3] [4] [5,6,7] (by kernel_rfl) (by kernel_rfl) ?_;simp only[aM,d8]
 repeat(
  with_reducible refine i9 fun K a=>?_
  go_simp;unfold gI;apply Ei
  ·intro h g;go_simp;exact⟨rfl,rfl⟩
  refine a _ ?_
  clear a K)
 with_reducible refine eZ ?_
 repeat(
  with_reducible refine i9 fun K a=>?_
  go_simp;unfold gI;apply Ei
  ·intro h g;obtain⟨j,l⟩:=g.cells;go_simp;exact⟨rfl,rfl⟩
  refine a _ ?_
  clear a K)
 with_reducible refine eZ ?_
 repeat
  with_reducible refine Mz fun K a=>?_
  go_simp
  try first
   |(apply Ei
     intro h g;obtain⟨j,l⟩:=g.cells;go_simp
     first
      |(go_at_call 74;with_reducible exact g.call (HP.out _))
      |rfl)
   |(with_reducible refine aQ ?_ ?_;decide)
  refine a _ ?_;clear a K
 with_reducible refine Na ?_
 intro l g;with_reducible refine kZ fun h a=>?_
 go_simp;refine a _ _ (Ka g) ?_;clear a h;with_reducible refine lX ?_
 go_wp2_with fail;rw[cK];obtain⟨t,a⟩:∃W,W=(l.alloc (O (madeCells #[.bool false] y) 4)).alloc (O #[I Z r,I Z s,I Z b,I Z d,I Z c,I Z way,I Z res,.slice N 0 0,.slice (S ⟨l.heap.size,0,N⟩) y y,.slice N 0 0,I Z 0,I Z 0] 195):=⟨_,rfl⟩;have h:t.heap[l.heap.size+1]?=S (O #[I Z r,I Z s,I Z b,I Z d,I Z c,I Z way,I Z res,.slice N 0 0,.slice (S ⟨l.heap.size,0,N⟩) y y,.slice N 0 0,I Z 0,I Z 0] 195):=by rw[a];exact aG _ _ _ (by simp)
 have o:d7 4 l.heap.size ((Nd y false).map Ms.bool) t:=by rw[a];exact(nn l (by simp)).keeps aU
 have m:aC l t:=by rw[a];exact gH
 have G:t.heap.size=l.heap.size+2:=by rw[a];simp
 rw[←a];clear a;have⟨B,J⟩:=Ex (l.heap.size+1);have⟨av,a⟩:=Ex l.heap.size;rw[←J]at h ⊢;rw[←a]at h o;have cc:w.heap.size<R.heap.size:=v;have H:R.heap.size≤l.heap.size:=g.size;have j:=aE m (aE g f.out);clear p q u A C D F v;have⟨p,q,u,A,C,D,F⟩:=x7 j;simp at p q u A C D F;have v:=aB j;have cd:av<B:=by omega
 have cf:R.heap.size≤av:=by omega
 have bm:B<t.heap.size:=by omega
 rw[←a];have T:=aA (show aC w t from Kc (Kc (Kc aU k) g) m);obtain⟨n,x⟩:∃n:Nat,(y:Int)-res=n:=⟨((y:Int)-res).toNat,by omega⟩;rw[x]at Q;have HN:=aA x;have ck:n≤131072:=by omega
 have cm:1≤n:=by omega
 clear x k g m J a G H;go_wp2_with(go_at_call 45;refine(Q.out _).mono ?_;rintro e m ⟨rfl,g⟩);have a:aC t m:=g;have cn:t.heap.size≤m.heap.size:=a.size;have x:=aE a j;have X:=aE a h;obtain⟨i0,G,H,J,L⟩:=info_parts AY;have HD:=aA (o.keeps a);replace T:=aA (show aC w m from Kc T.out a);clear p q u A C D F v h o f j;have aa:B<m.heap.size:=by omega
 clear g a;go_wp2_with fail;go_loopw [18] (fun f W=>∃(C:Nat) (bd:Ms),C≤n∧f=I Z C∧W.heap[B]?=S (O #[I Z r,I Z s,I Z b,I Z d,I Z c,I Z way,I Z res,bd,.slice (S ⟨av,0,N⟩) y y,.slice N 0 0,I Z 0,I Z 0] 195)∧aF (fun b=>b=B) m W∧eV W m.heap.size bd ((Nf C).map Int.ofNat)) fun f _=>n-(intOf f).toNat
 case atStart=>exact⟨0,.slice N 0 0,by omega,rfl,X,Cl,eV.nil _ _⟩
 case round=>
  obtain⟨C,bd,M,rfl,a,j,k⟩:=hrel;have g:((Nf C).map Int.ofNat).length=C:=by simp
  by_cases D:C<n
  ·have ab:(C:Int)<n:=by omega
   obtain⟨bv,ca,A⟩:=k.slice;rw[g]at A;have ad:m.heap.size≤wr.heap.size:=j.size;have o:=Hd3 a j k;subst A;have p:=Cw a 7;simp at p;have v:=aB a;have fB:=Fw a 7;clear a j k g;go_wp2_with(at_builtin;refine wpList_append_own_at _ rfl _ _ 54 rfl m.heap.size 3 i0 _ 1 8 underlying54 G H J L rfl (by decide) _ _ _ rfl (Mr.ownsRow.alloc o.out.2.2 _) ⟨wr.heap.size,0,N⟩ 1 1 [I Z C] rfl rfl (cell_one_new _ _ _) (by simp[Ni]) (by rw[Np,List.length_range];unfold maxLen;omega) (by rw[Np,List.length_range];omega) (by simp;omega) ?_;intro v' w6 h f _ q;obtain⟨a6,c6,rfl,z6,f6,d6,u⟩:=RW (i:=7) o.out.2.1 o.out.1 aa o.out.2.2 f h (n:=C) (by simp) rfl;clear h f q);go_wp2_with fail;go_roundw
   case rel=>exact⟨C+1,_,by omega,by go_num,u.out.2.1,u.out.1,by rw[List.range_succ,List.map_append];exact u.out.2.2⟩
   case measure=>simp[intOf];omega
  ·have f:C=n:=by omega
   subst f;have ae:B<wr.heap.size:=by have:=j.size;omega
   have h:=(j.block w.heap.size (by omega) (by omega)).trans x;have r0:=Cw h 0;simp at r0;have cp:=aB h;rcases k.cases with⟨_,U⟩|⟨bs,cl,rfl,cu,cv,F,an,cx⟩
   ·exfalso;have:=congrArg List.length U;simp at this;omega
   rw[g]at F a;have HL:=aA (d7.own k);obtain⟨p,f⟩:∃p:Nat,r=p:=⟨r.toNat,by omega⟩;have bn:1≤p∧p≤8:=by omega
   have HC:=aA j;have br:m.heap.size≤wr.heap.size:=j.size;have ar:=aA f;rw[f]at r0;clear D M k h x f j g;obtain⟨x,rfl⟩:∃f,f=wr:=⟨_,rfl⟩;go_wp2_with fail;go_loopw [35] (fun f W=>∃(M:Nat) (bd:Ms),M≤p∧f=I Z M∧W.heap[B]?=S (O #[I Z r,I Z s,I Z b,I Z d,I Z c,I Z way,I Z res,.slice (S ⟨bs,0,N⟩) C cl,.slice (S ⟨av,0,N⟩) y y,bd,I Z 0,I Z 0] 195)∧aF (fun b=>b=B) x W∧eV W x.heap.size bd (Nd M (-1))) fun f _=>p-(intOf f).toNat
   case atStart=>exact⟨0,.slice N 0 0,by omega,rfl,a,Cl,eV.nil _ _⟩
   case round=>
    obtain⟨M,bd,hj,rfl,a,j,k⟩:=hrel;have g:(Nd M (-1:Int)).length=M:=List.length_replicate;by_cases D:M<p
    ·have ab:(M:Int)<p:=by omega
     obtain⟨bv,ca,A⟩:=k.slice;rw[g]at A;have ad:x.heap.size≤wr.heap.size:=j.size;have o:=Hd3 a j k;subst A;have q9:=Cw a 9;simp at q9;have v:=aB a;have fB:=Fw a 9;clear a j k g;go_wp2_with(at_builtin;refine wpList_append_own_at _ rfl _ _ 54 rfl x.heap.size 3 i0 _ 1 8 underlying54 G H J L rfl (by decide) _ _ _ rfl (Mr.ownsRow.alloc o.out.2.2 _) ⟨wr.heap.size,0,N⟩ 1 1 [I Z (-1)] rfl rfl (cell_one_new _ _ _) (by simp[Ni]) (by rw[List.length_replicate];unfold maxLen;omega) (by rw[List.length_replicate];omega) (by simp;omega) ?_;intro v' w6 h f _ q;obtain⟨a6,c6,rfl,z6,f6,d6,u⟩:=RW (i:=9) o.out.2.1 o.out.1 ae o.out.2.2 f h (n:=M) List.length_replicate rfl;clear h f q);go_wp2_with fail;go_roundw
     case rel=>exact⟨M+1,_,by omega,by go_num,u.out.2.1,u.out.1,by rw[List.replicate_succ'];exact u.out.2.2⟩
     case measure=>simp[intOf];omega
    ·have f:M=p:=by omega
     subst f;go_wp2_with fail;go_ret2;rcases k.cases with⟨_,U⟩|⟨ab,cs,rfl,ad,bv,f,v,cz⟩
     ·exfalso;have:=congrArg List.length U;simp at this;omega
     rw[g]at f a;have h:cU r s b d c=y:=V.out;have o:(mO r s b d c way res).lives=(Nf C).map Int.ofNat:=by show(Nf (cU r s b d c-res).toNat).map Int.ofNat=_;rw[h,HN.out,Int.toNat_natCast]
     have A:(mO r s b d c way res).dead=Nd y false:=by show Nd (cU r s b d c).toNat false=_;rw[h,Int.toNat_natCast]
     have q:(mO r s b d c way res).spares=Nd M (-1):=by show Nd r.toNat (-1)=_;rw[ar.out,Int.toNat_natCast]
     refine⟨B,bs,av,ab,rfl,⟨⟨cl,cs,?_,?_,an,?_,v⟩,?_,?_,?_,by omega⟩,?_,by omega,by omega,by omega,by omega⟩
     ·unfold aR.row;rw[o,A,q,Np,List.length_range,List.length_replicate,List.length_replicate];exact a
     ·rw[o,Np,List.length_range];exact F
     ·rw[q,List.length_replicate];exact f
     ·rw[o];exact HL.out.chg j (by omega)
     ·rw[A];exact(HD.out.chg HC.out (by omega)).chg j (by omega)
     ·rw[q];exact d7.own k
     ·exact((aF.of_below T.out fun _=>False).next HC.out fun i u=>.inr (by omega)).next j (fun i u=>.inr (by omega)) |>.below Nl fun i u=>u.elim
end
section
structure aW where
 t:aR
 k:Int
 f:Int
 g:Int
 n:Int
structure cV (x:aW):Prop where
 ok:dA x.t
 job:lD x.t x.k x.f x.g x.n
 nlt:x.k≠0→x.n<x.t.cnt x.k
 dd:∀j,x.t.deadB j=true→j<x.t.seen+x.t.pages
 pg:x.k=1→x.t.seen≤x.g∧x.g<x.t.seen+x.t.pages∧∀i,i<x.t.lives.length→x.t.lives.getD i 0≠x.g
 rg:x.k=2→x.t.r≤x.g∧x.g<x.t.r+x.t.ranks∧∀i,i<x.t.spares.length→x.t.spares.getD i 0≠x.g
 li:∀i j,i<x.t.lives.length→j<x.t.lives.length→x.t.lives.getD i 0=x.t.lives.getD j 0→i=j
 ld:∀i,i<x.t.lives.length→x.t.deadB (x.t.lives.getD i 0)=false
 si:∀i j,i<x.t.spares.length→j<x.t.spares.length→x.t.spares.getD i 0=x.t.spares.getD j 0→x.t.spares.getD i 0≠-1→i=j
 pf:x.k=1→x.f<x.t.seen+x.t.pages
def aW.startP (x:aW) (a:Int):aW:=⟨x.t.setPages (x.t.pages+1),1,a,x.t.seen+x.t.pages,0⟩
def aW.startR (x:aW) (a:Int):aW:=⟨x.t.setRanks (x.t.ranks+1),2,a,x.t.r+x.t.ranks,0⟩
def aW.canP (x:aW) (a:Int):Prop:=x.k=0∧0≤a∧a<cU x.t.r x.t.s x.t.b x.t.d x.t.c∧x.t.deadB a=false∧x.t.pages≠x.t.res∧a<x.t.seen+x.t.pages
def aW.canR (x:aW) (a:Int):Prop:=x.k=0∧0≤a∧a<x.t.r∧x.t.spareB a=false∧x.t.ranks≠x.t.s
def eF (x y:aW):Prop:=y=x∨(∃a,x.canP a∧y=x.startP a)∨∃a,x.canR a∧y=x.startR a
theorem eF.refl (x:aW):eF x x:=.inl rfl
theorem eF.trans {x y z:aW} (e:eF x y) (k:eF y z):eF x z:=by
 rcases e with rfl|⟨d,c,rfl⟩|⟨d,c,rfl⟩
 ·exact k
 ·rcases k with rfl|⟨b,a,rfl⟩|⟨b,a,rfl⟩
  ·exact .inr (.inl ⟨d,c,rfl⟩)
  ·exact absurd a.1 (by decide:(1:Int)≠0)
  ·exact absurd a.1 (by decide:(1:Int)≠0)
 ·rcases k with rfl|⟨b,a,rfl⟩|⟨b,a,rfl⟩
  ·exact .inr (.inr ⟨d,c,rfl⟩)
  ·exact absurd a.1 (by decide:(2:Int)≠0)
  ·exact absurd a.1 (by decide:(2:Int)≠0)
theorem eF.busy {x y:aW} (c:eF x y) (b:x.k≠0):y=x:=by
 rcases c with rfl|⟨d,a,rfl⟩|⟨d,a,rfl⟩
 ·rfl
 ·exact absurd a.1 b
 ·exact absurd a.1 b
theorem dA.pos (ok:dA t):1≤t.cnt 1∧1≤t.cnt 2:=by have a:=(eE (eM ok.right).1).1;have c:=cM a;have b:=sE a;refine⟨by show 1≤lB 1 _ _ _ _ _;unfold lB;rw[Fp rfl];omega,?_⟩;show 1≤lB 2 _ _ _ _ _;unfold lB;rw[Fn (by decide),Fp rfl,b.1];omega
theorem cV.startP {x:aW} (b:cV x) (c:x.canP a):cV (x.startP a):=by
 obtain⟨k,f,g,h,l,m⟩:=c;have i:=b.ok.bd;have j:=b.ok.pos.1;refine⟨⟨b.ok.right,b.ok.lives,b.ok.dead,b.ok.spares,?_,?_,b.ok.r0,b.ok.r1,?_,b.ok.spare⟩,.inr (.inl ⟨rfl,Int.le_refl _,?_,jO f g,jO ?_ ?_,?_,h,?_⟩),fun _=>j,?_,fun _=>⟨?_,?_,?_⟩,fun e=>absurd e (by decide:(1:Int)≠2),b.li,b.ld,b.si,fun _=>?_⟩
 ·show 0≤x.t.pages+1;omega
 ·show x.t.pages+1≤x.t.res;omega
 ·intro d c;have:=b.ok.live d c;show 0≤x.t.lives.getD d 0∧x.t.lives.getD d 0<x.t.seen+(x.t.pages+1);omega
 ·show 0≤x.t.c;have:=cM (eE i.2.2.2.2.2.2.2).1;omega
 ·show 0≤x.t.seen+x.t.pages;omega
 ·show x.t.seen+x.t.pages<cU x.t.r x.t.s x.t.b x.t.d x.t.c;omega
 ·show a≠x.t.seen+x.t.pages;omega
 ·show x.t.deadB (x.t.seen+x.t.pages)=false
  by_cases e:x.t.deadB (x.t.seen+x.t.pages)=true
  ·have:=b.dd _ e;omega
  ·simpa using e
 ·intro d c;have:=b.dd d c;show d<x.t.seen+(x.t.pages+1);omega
 ·show x.t.seen≤x.t.seen+x.t.pages;omega
 ·show x.t.seen+x.t.pages<x.t.seen+(x.t.pages+1);omega
 ·intro d c;have:=b.ok.live d c;show x.t.lives.getD d 0≠x.t.seen+x.t.pages;omega
 ·show a<x.t.seen+(x.t.pages+1);omega
theorem cV.startR {x:aW} (b:cV x) (c:x.canR a):cV (x.startR a):=by
 obtain⟨k,f,g,h,l⟩:=c;have i:=b.ok.pos.2;have m:=b.ok.r0;have n:=b.ok.r1;have j:=sE (eE (eM b.ok.right).1).1;refine⟨⟨b.ok.right,b.ok.lives,b.ok.dead,b.ok.spares,b.ok.p0,b.ok.p1,?_,?_,b.ok.live,?_⟩,.inr (.inr ⟨rfl,Int.le_refl _,?_,jO f g,h,jO ?_ ?_⟩),fun _=>i,b.dd,fun e=>absurd e (by decide:(2:Int)≠1),fun _=>⟨?_,?_,?_⟩,b.li,b.ld,b.si,fun e=>absurd e (by decide:(2:Int)≠1)⟩
 ·show 0≤x.t.ranks+1;omega
 ·show x.t.ranks+1≤x.t.s;omega
 ·intro d c;have:=b.ok.spare d c;show x.t.spares.getD d 0=-1∨(x.t.r≤x.t.spares.getD d 0∧x.t.spares.getD d 0<x.t.r+(x.t.ranks+1));omega
 ·show 0≤kK x.t.r x.t.s x.t.b x.t.d x.t.c;rw[j.1];omega
 ·show 0≤x.t.r+x.t.ranks-x.t.r;omega
 ·show x.t.r+x.t.ranks-x.t.r<x.t.s;omega
 ·show x.t.r≤x.t.r+x.t.ranks;omega
 ·show x.t.r+x.t.ranks<x.t.r+(x.t.ranks+1);omega
 ·intro d c;have:=b.ok.spare d c;have o:=cM (eE (eM b.ok.right).1).1;show x.t.spares.getD d 0≠x.t.r+x.t.ranks;omega
theorem eF.ok {x y:aW} (b:eF x y) (ok:cV x):cV y:=by
 rcases b with rfl|⟨c,a,rfl⟩|⟨c,a,rfl⟩
 ·exact ok
 ·exact ok.startP a
 ·exact ok.startR a
def aW.fin (x:aW):aW:=if x.k=1 then⟨x.t.retire x.f x.g,0,0,0,0⟩else⟨x.t.putSpare x.f.toNat x.g,0,0,0,0⟩
theorem BC {l:List Int} {g:Int} (a:i<l.length):(l.map fun b=>if b=f then g else b).getD i 0=if l.getD i 0=f then g else l.getD i 0:=by rw[Mx,Of,Nn a,Mx,Nn a];rfl
theorem nr {l:List Bool} {b:Bool} (a:i<l.length):(l.set i b).getD j false=if i=j then b else l.getD j false:=by
 by_cases e:i=j
 ·subst e;rw[Fp rfl,Mx,List.getElem?_set_self a];rfl
 ·rw[Fn e,Mx,List.getElem?_set_ne e,Mx]
theorem xN {l:List Int} (a:i<l.length):(l.set i b).getD j 0=if i=j then b else l.getD j 0:=by
 by_cases e:i=j
 ·subst e;rw[Fp rfl,Mx,List.getElem?_set_self a];rfl
 ·rw[Fn e,Mx,List.getElem?_set_ne e,Mx]
theorem JT {g:Int} (c:bel f t.dead.length=true) (j:Int):(t.retire f g).deadB j=(t.deadB j||decide (j=f)):=by
 obtain⟨d,h⟩:=eB c;have e:(t.retire f g).deadB j=(bel j (t.dead.set f.toNat true).length&&(t.dead.set f.toNat true).getD j.toNat false):=rfl;rw[e,Od,nr (by omega)];unfold aR.deadB;by_cases a:j=f
 ·subst a;rw[c];simp
 ·by_cases b:bel j t.dead.length=true
  ·have:=eB b;rw[Fn (by omega),b];simp[a]
  ·simp[b,a]
theorem cV.fin {x:aW} (d:cV x) (q:x.k≠0):cV x.fin:=by
 have A:=d.ok.bd;rcases d.job with⟨e,_⟩|⟨e,r,s,k,t,o,B,u⟩|⟨e,r,s,k,t,o⟩
 ·exact absurd e q
 ·obtain⟨v,w,i⟩:=d.pg e
  obtain⟨y,z⟩:=eB k;have l:bel x.f x.t.dead.length=true:=by rw[d.ok.dead];exact k
  unfold aW.fin;rw[Fp e];have C:(x.t.retire x.f x.g).seen=x.t.seen:=rfl;refine⟨⟨d.ok.right,?_,?_,d.ok.spares,d.ok.p0,d.ok.p1,d.ok.r0,d.ok.r1,?_,d.ok.spare⟩,.inl ⟨rfl,rfl,rfl,rfl⟩,fun e=>absurd rfl e,?_,fun e=>absurd e (by decide:(0:Int)≠1),fun e=>absurd e (by decide:(0:Int)≠2),?_,?_,d.si,fun e=>absurd e (by decide:(0:Int)≠1)⟩
  ·show((x.t.lives.map _).length:Int)=_;rw[Np];exact d.ok.lives
  ·show((x.t.dead.set _ _).length:Int)=_;rw[Od];exact d.ok.dead
  ·intro g a
   have a:g<x.t.lives.length:=by simpa[aR.retire]using a
   have:=d.ok.live g a;show 0≤(x.t.lives.map _).getD g 0∧(x.t.lives.map _).getD g 0<x.t.seen+x.t.pages;rw[BC a];split<;>omega
  ·intro m c
   rw[JT l]at c;show m<x.t.seen+x.t.pages;rcases Bool.or_eq_true _ _▸c with c|c
   ·exact d.dd m c
   ·have c:m=x.f:=by simpa using c
    subst c;have:=d.pf e;omega
  ·intro g m a c
   have a:g<x.t.lives.length:=by simpa[aR.retire]using a
   have c:m<x.t.lives.length:=by simpa[aR.retire]using c
   show(x.t.lives.map _).getD g 0=(x.t.lives.map _).getD m 0→_;rw[BC a,BC c];intro j;refine d.li g m a c ?_;split at j
   ·rename_i p;split at j
    ·rename_i b;rw[p,b]
    ·exact absurd j.symm (i m c)
   ·split at j
    ·exact absurd j (i g a)
    ·exact j
  ·intro g a
   have a:g<x.t.lives.length:=by simpa[aR.retire]using a
   show(x.t.retire x.f x.g).deadB ((x.t.lives.map _).getD g 0)=false;rw[BC a,JT l];split
   ·rw[u];simpa using fun j=>o j.symm
   ·rename_i p;rw[d.ld g a];simpa using p
 ·obtain⟨v,w,i⟩:=d.rg e
  obtain⟨y,z⟩:=eB k;have n:=d.ok.spares;have h:x.f.toNat<x.t.spares.length:=by omega
  unfold aW.fin;rw[Fn (by rw[e];decide)];have f:(x.t.putSpare x.f.toNat x.g).spares.length=x.t.spares.length:=Od;refine⟨⟨d.ok.right,d.ok.lives,d.ok.dead,?_,d.ok.p0,d.ok.p1,d.ok.r0,d.ok.r1,d.ok.live,?_⟩,.inl ⟨rfl,rfl,rfl,rfl⟩,fun e=>absurd rfl e,d.dd,fun e=>absurd e (by decide:(0:Int)≠1),fun e=>absurd e (by decide:(0:Int)≠2),d.li,d.ld,?_,fun e=>absurd e (by decide:(0:Int)≠1)⟩
  ·show(((x.t.putSpare x.f.toNat x.g).spares.length:Nat):Int)=x.t.r;rw[f];exact n
  ·intro g a
   have a:g<x.t.spares.length:=by rw[←f];exact a
   show(x.t.spares.set _ _).getD g 0=-1∨(x.t.r≤(x.t.spares.set _ _).getD g 0∧(x.t.spares.set _ _).getD g 0<x.t.r+x.t.ranks);rw[xN h];have:=d.ok.spare g a;split<;>omega
  ·intro g m a c
   have a:g<x.t.spares.length:=by rw[←f];exact a
   have c:m<x.t.spares.length:=by rw[←f];exact c
   show(x.t.spares.set _ _).getD g 0=(x.t.spares.set _ _).getD m 0→(x.t.spares.set _ _).getD g 0≠-1→_;rw[xN h,xN h];intro j D;split at j
   ·rename_i p;split at j
    ·rename_i b;omega
    ·exact absurd j.symm (i m c)
   ·rename_i p
    rw[Fn p]at D;split at j
    ·exact absurd j (i g a)
    ·exact d.si g m a c j D
def tO (x y:aW):Prop:=(x.n+1≠x.t.cnt x.k∧y={x with n:=x.n+1})∨(x.n+1=x.t.cnt x.k∧eF x.fin y)
theorem lD.setN {k g n n':Int} (c:lD t k f g n) (d:k≠0) (a:0≤n') (b:n'≤t.cnt k):lD t k f g n':=by
 rcases c with⟨e,_⟩|⟨e,_,_,c⟩|⟨e,_,_,c⟩
 ·exact absurd e d
 ·subst e;exact .inr (.inl ⟨rfl,a,b,c⟩)
 ·subst e;exact .inr (.inr ⟨rfl,a,b,c⟩)
theorem tO.ok {x y:aW} (d:tO x y) (ok:cV x) (a:x.k≠0):cV y:=by
 rcases d with⟨b,rfl⟩|⟨b,c⟩
 ·have:=ok.nlt a;have:=ok.job.next;exact⟨ok.ok,ok.job.setN a (by show 0≤x.n+1;omega) (by show x.n+1≤_;omega),fun _=>by show x.n+1<x.t.cnt x.k;omega,ok.dd,ok.pg,ok.rg,ok.li,ok.ld,ok.si,ok.pf⟩
 ·exact c.ok (ok.fin a)
end
variable {x:aW}
section
open Go.RowKit
def iR:Nat→Nat→Nat
 |0,_=>0
 |f+1,n=>n%2+iR f (n/2)
theorem IW (f:Nat):iR f 0=0:=by
 induction f with
 |zero=>rfl
 |succ f a=>simp[iR,a]
def popc (n:Nat):Nat:=iR 64 n
theorem AS:popc 0=0:=IW 64
theorem IY (f:Nat):∀n,0<n→n<2^f→iR f (n&&& (n-1))+1=iR f n:=by
 induction f with
 |zero=>intro n h a;omega
 |succ f c=>
  intro n h a;have d:(n&&& (n-1))/2=n/2&&& (n-1)/2:=Nat.and_div_two
  have e:(n&&& (n-1))%2=0:=by
   have b:¬(n&&& (n-1))%2=1:=fun b=>by have:=Nat.and_mod_two_eq_one.1 b;omega
   omega
  simp only[iR];rw[d,e];by_cases g:n%2=1
  ·rw[show(n-1)/2=n/2 from by omega,Nat.and_self];omega
  ·have b:(n-1)/2=n/2-1:=by omega
   rw[b];have:=c (n/2) (by omega) (by rw[Nat.pow_succ]at a;omega);omega
theorem IZ (b:0<n) (a:n<18446744073709551616):popc (n&&& (n-1))+1=popc n:=IY 64 n b a
theorem DW (f:Nat):∀n,iR f n≤f:=by
 induction f with
 |zero=>intro n;exact Nl
 |succ f a=>intro n;have:=a (n/2);simp only[iR];omega
theorem J0 (n:Nat):popc n≤64:=DW 64 n
attribute [irreducible] popc iR
theorem ns (a b:Nat) (c:a<4294967296) (e:b<4294967296):bits .and .u32 (a:Int) (b:Int)=((a&&& b:Nat):Int):=by have d:a&&& b<4294967296:=Nat.lt_of_le_of_lt Nat.and_le_left c;show IntKind.u32.wrap (((BitVec.ofInt 32 (a:Int)&&& BitVec.ofInt 32 (b:Int)).toNat:Nat):Int)=_;rw[BitVec.ofInt_natCast,BitVec.ofInt_natCast];simp only[BitVec.toNat_and,BitVec.toNat_ofNat];rw[Og (by omega),Og (by omega),IntKind.wrap_u32];omega
theorem nt (a:Int) (b:0≤a) (c:a<256):bits .and .u8 a 127=a%128:=by obtain⟨d,rfl⟩:=Int.eq_ofNat_of_zero_le b;show IntKind.u8.wrap (((BitVec.ofInt 8 (d:Int)&&& BitVec.ofInt 8 ((127:Nat):Int)).toNat:Nat):Int)=_;rw[BitVec.ofInt_natCast,BitVec.ofInt_natCast];simp only[BitVec.toNat_and,BitVec.toNat_ofNat];rw[Og (by omega),show 127%2^8=2^7-1 from rfl,Nat.and_two_pow_sub_one_eq_mod,IntKind.wrap_u8];omega
theorem nu (x:Int):bits .and .i64 x 1=x%2:=sX x 1 (by decide)
theorem DX (x:Nat) (k:x<4294967296) (w:Mr):Mt Y 216 #[.int .u32 x] w fun e a=>e=E (I Z (popc x:Nat))∧w=a:=by
 have p:=J0 x;generalize a:popc x=P at*;have b:=aA a;clear a;go_in;go_wp2
 go_loop [0,3] (fun a n=>∃m i:Nat,a=.int .u32 m∧n=I Z i∧m<4294967296∧i+popc m=P) fun a _=>(intOf a).toNat
 case atStart=>exact⟨x,0,rfl,rfl,k,by have:=b.out;omega⟩
 case round=>
  obtain⟨m,i,rfl,rfl,s,a⟩:=hrel;by_cases c:m=0
  ·subst c;rw[AS]at a;have d:=aA a;clear a;go_wp2;go_ret;exact⟨rZ (by have:=d.out;omega),rfl⟩
  ·have d:=IZ (n:=m) (by omega) (by omega)
   have t:m&&& (m-1)≤m-1:=Nat.and_le_right;have f:=ns m (m-1) (by omega) (by omega);have g:((m:Int)-1)=((m-1:Nat):Int):=by omega
   have q:((m:Int)==0)=false:=by simp;omega
   have r:1≤m:=by omega
   have j:i≤64:=by omega
   have l:Hid (i+popc m=P):=a;have o:Hid (popc (m&&& (m-1))+1=popc m):=d;have h:Hid (bits .and .u32 (m:Int) ((m:Int)-1)=((m&&& (m-1):Nat):Int)):=by show _=_;rw[g];exact f
   clear a d f g c;go_wp2;go_round
   case rel=>exact⟨m&&& (m-1),i+1,by rw[h.out],by go_num,by omega,by have:=l.out;have:=o.out;omega⟩
   case measure=>rw[h.out];simp[intOf];omega
theorem nv (x:Nat) (b:x<4294967296) (w:Mr):Mt Y 187 #[.int .u32 x] w fun e a=>e=E (I Z ((popc x:Nat)%2:Int))∧w=a:=by go_in;go_wp2_with(go_at_call 216;refine(DX x b _).mono ?_;rintro e a ⟨rfl,rfl⟩);go_ret;exact⟨rZ (nu _),rfl⟩
theorem JU (a:Int) (x:Nat) (b:a%8388608=(x:Int)) (w:Mr):Mt Y 139 #[I Z a] w fun e c=>e=E (I Z ((popc x:Nat)%2:Int))∧w=c:=by
 have f:x<8388608:=by have:=Int.emod_lt_of_pos a (show(0:Int)<8388608 by omega);omega
 have d:Hid (bits .and .i64 a 8388607=(x:Int)):=by show _=_;rw[ZU,b]
 clear b;go_in;go_wp2_with fail;try rw[d.out]
 rw[show(x:Int)%4294967296=(x:Int) from Int.emod_eq_of_lt (by omega) (by omega)];refine(nv x (by omega) _).mono ?_;rintro e c ⟨rfl,rfl⟩;go_wp2_with fail;go_ret;exact⟨rfl,rfl⟩
theorem JV (a:Int) (w:Mr):Mt Y 159 #[I Z a] w fun e b=>e=E (.agg #[.int .u8 (a%256),.int .u8 (a/256%256),.int .u8 (a/65536%128)])∧Mu w.heap.size w b:=by have b:=Int.emod_nonneg (a/65536) (show(256:Int)≠0 by omega);have c:=Int.emod_lt_of_pos (a/65536) (show(0:Int)<256 by omega);go_in;go_wp2;rw[nt _ b c,show a/65536%256%128=a/65536%128 from Int.emod_emod_of_dvd _ (by decide)];exact My (v:=.agg #[.int .u8 (a%256),.int .u8 (a/256%256),.int .u8 (a/65536%128)]) (by simp[results,results159,go_sem]) rfl ⟨rfl,Bl.alloc Nl _⟩
section
variable {P:Program} {ops:Array Oper} {C:World→Prop} {Q:Exit→Act→World→Prop} {md:Region.Mode}
def BH (P:Program) (md:Region.Mode) (ops:Array Oper) (C:Mr→Prop) (Q:Exit→Act→Mr→Prop) (n:Nat):Nat→Array Bool→Act→Prop
 |0,_,_=>False
 |fuel+1,listed,a=>Region.ready md ops listed≠[]∧∀i∈Region.ready md ops listed,
  if i=n then fuel=0∧Region.ready md ops (listed.setIfInBounds n true)=[]∧∀w,C w→wpOp P ops Q n (Q .normal) a w
  else qOp P ops C i (BH P md ops C Q n fuel (listed.setIfInBounds i true)) a
theorem T3 {n:Nat}:∀(fuel:Nat) (b:Array Bool) (a:Act) (w:Mr),C w→BH P md ops C Q n fuel b a→wpAny P md ops Q fuel b a w
 |0,_,_,_,_,m=>m.elim
 |fuel+1,b,a,w,g,m=>⟨fun j=>absurd j m.1,fun o k=>by
  have c:=m.2 o k;by_cases e:o=n
  ·rw[Fp e]at c;obtain⟨rfl,f,l⟩:=c;subst e;exact wpOp_mono (fun h i d=>⟨f,d⟩) (l w g)
  ·rw[Fn e]at c;exact wpOp_of_qOp g (fun h i f d=>T3 fuel _ h i f d) c⟩
theorem pq {n i:Nat} {m B:Oper} {v:Ms} (T:i≠n) (D:ops[i]?=S m) (K:ops[n]?=S B) (u:∃e∈B.after,Region.binds md e=true∧e.on=i) (p:∀(j:Nat) (o:Oper) l b,ops[j]?=S o→o.op≠.select l b):∀(fuel:Nat) (c:Array Bool) (a:Act),
                                                                                                                                                                                    (∀j k,ops[j]?=S k→j≠i→c.getD j true=false→(∀e∈k.after,Region.binds md e=true→e.on≠i)→m.apart ops k=true)→
                                                                                                                                                                                    i∈Region.ready md ops c→YieldsIn P ops C m v a→
                                                                                                                                                                                    BH P md ops C Q n fuel (c.setIfInBounds i true) (a.put m.dst v)→BH P md ops C Q n (fuel+1) c a:=by
 intro fuel
 induction fuel with
 |zero=>intro c a _ _ _ H;exact H.elim
 |succ fuel L=>
  intro c a g w F H;refine⟨fun U=>(by rw[U]at w;cases w),fun j G=>?_⟩;obtain⟨q,k,d,r⟩:=mem_ready.1 G
  have x:∀e:Nat,e=i→c.getD e false=true→False:=fun e l h=>by
   have s:=(mem_ready.1 w).1;rw[l]at h;rcases Nat.lt_or_ge i c.size with f|f
   ·simp[f]at s h;rw[s]at h;cases h
   ·simp[Array.getElem?_eq_none f]at h
  by_cases t:j=n
  ·subst t;rw[K]at d;cases d;obtain⟨e,l,s,f⟩:=u;exact(x e.on f (r e l s)).elim
  ·rw[Fn t]
   by_cases f:j=i
   ·subst f;exact F.qOp D H
   ·have h:=H.2 j (ready_mono G f)
    rw[Fn t]at h;have z:∀e∈k.after,Region.binds md e=true→e.on≠i:=fun e l s y=>x e.on y (r e l s);have M:=qOp_put d (g j k d f q z) (fun l b=>p i m l b D) (fun l b=>p j k l b d) F h
    have l:∀J ok,ops[J]?=S ok→J≠i→(c.setIfInBounds j true).getD J true=false→
     (∀e∈ok.after,Region.binds md e=true→e.on≠i)→m.apart ops ok=true:=fun J ok R y s A=>by
     refine g J ok R y ?_ A;by_cases y:j=J
     ·subst y;exact q
     ·rw[getD_set_ne true y]at s;exact s
    refine qOp_mono (fun y s=>L (c.setIfInBounds j true) y l (ready_mono w (Ne.symm f)) s.1 ?_) M;rw[Array.setIfInBounds_comm _ _ f];exact s.2
def BI (md:Region.Mode) (ops:Array Oper) (n:Nat):Nat→Nat→Array Bool→Bool
 |0,_,listed=>Region.ready md ops listed==[n]&&(Region.ready md ops (listed.setIfInBounds n true)).isEmpty
 |m+1,k,listed=>(Region.ready md ops listed).contains k&&Region.free md ops listed k&&(match ops[n]? with|some on=>on.after.any fun e=>Region.binds md e&&e.on==k|none=>false)&&
   BI md ops n m (k+1) (listed.setIfInBounds k true)
def KA (md:Region.Mode) (ops:Array Oper):Bool:=Region.noSelect ops&&BI md ops (ops.size-1) (ops.size-1) 0 (No ops.size false)
theorem T4 {n:Nat} (p:Region.noSelect ops=true):∀(l:List Oper) (k:Nat) (b:Array Bool) (a:Act),(∀c,c<l.length→l[c]?=ops[k+c]?)→k+l.length=n→
 BI md ops n l.length k b=true→wpQuiet P ops C (fun i=>∀c,C c→wpOp P ops Q n (Q .normal) i c) l a→BH P md ops C Q n (l.length+1) b a
 |[],k,b,a,_,_,c,y=>by
  simp only[List.length_nil,BI,Nq,beq_iff_eq,List.isEmpty_iff]at c;obtain⟨q,g⟩:=c;refine⟨by rw[q];simp,fun f d=>?_⟩;rw[q]at d;have:f=n:=by simpa using d
  rw[Fp this];exact⟨rfl,g,y⟩
 |z::l,k,b,a,r,s,c,y=>by
  have h:ops[k]?=S z:=by simpa using(r 0 (by simp)).symm
  simp only[Oc,BI,Nq]at c;obtain⟨⟨⟨t,u⟩,d⟩,m⟩:=c;simp only[Oc]at s;cases j:ops[n]? with
  |none=>rw[j]at d;cases d
  |some v=>
   rw[j]at d;have f:∃e∈v.after,Region.binds md e=true∧e.on=k:=by rw[Array.any_eq_true']at d;obtain⟨e,c,g⟩:=d;simp only[Nq,beq_iff_eq]at g;exact⟨e,c,g⟩
   have o:qOp P ops C k (wpQuiet P ops C (fun i=>∀c,C c→wpOp P ops Q n (Q .normal) i c) l) a:=by unfold qOp;simp only[h];exact y
   obtain⟨A,i,w⟩:=yieldsIn_of_qOp h o;exact pq (by omega) h j f (Region.noSelect_spec p) (l.length+1) b a (Region.free_spec h u) (by simpa using t) i (T4 p l (k+1) _ _ (fun c x=>by have:=r (c+1) (by simpa using x);simpa[Nat.add_assoc,Nat.add_comm 1 c]using this) (by omega) m w)
theorem KB {d e:Act→Prop} (g:∀a,d a→e a):∀(l:List Oper) (a:Act),wpQuiet P ops C d l a→wpQuiet P ops C e l a
 |[],a,b=>g a b
 |h::l,a,b=>by
  unfold wpQuiet at b ⊢;split
  ·rename_i c;rw[Fp c]at b;exact Oper.quiet_mono (fun f=>KB g l f) b
  ·rename_i c;rw[Fn c]at b;exact KB g l _ b
theorem pt {id:Nat} {a:Act} {w:Mr} {l:List Oper} {o:Oper} (k:P.follows .mixedOrders=true) (d:KA .any l.toArray=true) (h:l.getLast?=S o) (m:C {w with drawn:=w.drawn+1})
 (q:wpQuiet P l.toArray C (fun i=>∀b,C b→wpList P l.toArray Q [o] i b) l.dropLast a):(Code.region id l.toArray true).wp P Q a w:=by
 have e:l≠[]:=by rintro rfl;cases h
 have c:0<l.length:=List.length_pos_iff.2 e;have f:l.toArray[l.length-1]?=S o:=by rw[Oi,←List.getLast?_eq_getElem?];exact h
 simp only[KA,Nq,Nv]at d;refine wp_region_any k (T3 (n:=l.length-1) _ _ _ _ m ?_)
 have:=T4 (P:=P) (C:=C) (Q:=Q) (md:=.any) d.1 l.dropLast 0 (No l.toArray.size false) a (fun g b=>by
  rw[List.length_dropLast]at b
  rw[Nat.zero_add,Oi,List.getElem?_dropLast,Fp b]) (by rw[List.length_dropLast,Nat.zero_add])
  (by rw[List.length_dropLast];simpa using d.2) (by
   refine KB (fun i p b g=>?_) _ _ q;have j:=p b g;unfold wpList at j;unfold wpOp;rw[f]
   exact j)
 rw[List.length_dropLast]at this;simpa[Nat.sub_add_cancel c]using this
theorem uK {id:Nat} {a:Act} {w:Mr} {l:List Oper} (o:Oper) (c:P.follows .mixedOrders=true) (d:KA .any l.toArray=true) (e:l.getLast?=S o)
 (g:wpQuiet P l.toArray (aC w) (fun f=>∀b,aC w b→wpList P l.toArray Q [o] f b) l.dropLast a):(Code.region id l.toArray true).wp P Q a w:=
 pt (C:=aC w) c d e (show Mu w.heap.size w _ from(Mu.refl _ w).drew) g
end
end
section
open Go.RowKit Go.Shelf lin
theorem od (a b:Nat) (c:a<256) (e:b<256):bits .and .u8 (a:Int) (b:Int)=((a&&& b:Nat):Int):=by have d:a&&& b<256:=Nat.lt_of_le_of_lt Nat.and_le_left c;show IntKind.u8.wrap (((BitVec.ofInt 8 (a:Int)&&& BitVec.ofInt 8 (b:Int)).toNat:Nat):Int)=_;rw[BitVec.ofInt_natCast,BitVec.ofInt_natCast];simp only[BitVec.toNat_and,BitVec.toNat_ofNat];rw[Og (by omega),Og (by omega),IntKind.wrap_u8];omega
theorem oe (a b:Nat) (c:a<256) (d:b<256):bits .xor .u8 (a:Int) (b:Int)=((a^^^b:Nat):Int):=by have e:a^^^b<256:=Nat.xor_lt_two_pow (n:=8) c d;show IntKind.u8.wrap (((BitVec.ofInt 8 (a:Int)^^^BitVec.ofInt 8 (b:Int)).toNat:Nat):Int)=_;rw[BitVec.ofInt_natCast,BitVec.ofInt_natCast];simp only[BitVec.toNat_xor,BitVec.toNat_ofNat];rw[Og (by omega),Og (by omega),IntKind.wrap_u8];omega
theorem RX (x:Nat) (k:x<256) (w:Mr):Mt Y 237 #[.int .u8 x] w fun e a=>e=E (I Z (Go.Proofs.YtlbgenenpheheaaGreat.popc x:Nat))∧w=a:=by
 have p:=Go.Proofs.YtlbgenenpheheaaGreat.J0 x;generalize a:Go.Proofs.YtlbgenenpheheaaGreat.popc x=P at*;have b:=aA a;clear a;go_in;go_wp2
 go_loop [0,3] (fun a n=>∃m i:Nat,a=.int .u8 m∧n=I Z i∧m<256∧i+Go.Proofs.YtlbgenenpheheaaGreat.popc m=P) fun a _=>(intOf a).toNat
 case atStart=>exact⟨x,0,rfl,rfl,k,by have:=b.out;omega⟩
 case round=>
  obtain⟨m,i,rfl,rfl,s,a⟩:=hrel;by_cases c:m=0
  ·subst c;rw[Go.Proofs.YtlbgenenpheheaaGreat.AS]at a;have d:=aA a;clear a;go_wp2;go_ret;exact⟨rZ (by have:=d.out;omega),rfl⟩
  ·have d:=Go.Proofs.YtlbgenenpheheaaGreat.IZ (n:=m) (by omega) (by omega)
   have t:m&&& (m-1)≤m-1:=Nat.and_le_right;have f:=od m (m-1) (by omega) (by omega);have g:((m:Int)-1)=((m-1:Nat):Int):=by omega
   have q:((m:Int)==0)=false:=by simp;omega
   have r:1≤m:=by omega
   have j:i≤64:=by omega
   have l:Hid (i+Go.Proofs.YtlbgenenpheheaaGreat.popc m=P):=a;have o:Hid (Go.Proofs.YtlbgenenpheheaaGreat.popc (m&&& (m-1))+1=Go.Proofs.YtlbgenenpheheaaGreat.popc m):=d;have h:Hid (bits .and .u8 (m:Int) ((m:Int)-1)=((m&&& (m-1):Nat):Int)):=by show _=_;rw[g];exact f
   clear a d f g c;go_wp2;go_round
   case rel=>exact⟨m&&& (m-1),i+1,by rw[h.out],by go_num,by omega,by have:=l.out;have:=o.out;omega⟩
   case measure=>rw[h.out];simp[intOf];omega
attribute [local go_sem] Oper.semAt_some
def diffN (a b:List Int):Nat→Nat
 |0=>0
 |k+1=>diffN a b k+Go.Proofs.YtlbgenenpheheaaGreat.popc ((a.getD k 0).toNat^^^(b.getD k 0).toNat)
theorem RY (a b:List Int) (k:Nat):diffN a b k≤64*k:=by
 induction k with
 |zero=>exact Nl
 |succ k c=>have:=Go.Proofs.YtlbgenenpheheaaGreat.J0 ((a.getD k 0).toNat^^^(b.getD k 0).toNat);unfold diffN;omega
def unlN (a b:List Int):Nat→Nat
 |0=>0
 |k+1=>unlN a b k+(if a.getD k 0=b.getD k 0 then 0 else 1)
theorem RZ (a b:List Int) (k:Nat):unlN a b k≤k:=by
 induction k with
 |zero=>exact Nl
 |succ k c=>unfold unlN;split<;>omega
theorem og (a b:List Int) (r t:Ms) (w:Mr) (c:a.length=b.length) (T:a.length≤72) (d:aX a.length a) (f:aX a.length b) (h:iU r a w) (i:iU t b w):Mt Y 212 #[r,t] w fun e g=>e=E (I Z (diffN a b a.length:Nat))∧Mu w.heap.size w g:=by
 obtain⟨A,B,ca,rfl,U,C,g⟩:=h;obtain⟨D,F,cb,rfl,G,H,b3⟩:=i;rw[←c];rw[←c]at G b3;clear c;generalize c:a.length=n at*;have i:=bT g b3 d f;have V:=aA c;clear g b3 d f c;have Q:(n:Int)≤72:=by omega
 go_in;go_wp2_with fail;go_loopw [5,23] (fun s c wr=>∃f:Nat,f≤n∧s=I Z (diffN a b f:Nat)∧c=I Z f∧aC w wr) fun _ c _=>n-(intOf c).toNat
 case atStart=>exact⟨0,by omega,rfl,rfl,Kr⟩
 case round=>
  obtain⟨f,W,rfl,rfl,g⟩:=hrel;by_cases c:f<n
  ·have R:(f:Int)<n:=by omega
   obtain⟨J,m,j⟩:=i.out.2.2.1 f c;obtain⟨K,o,k⟩:=i.out.2.2.2 f c;have L:=(g.cell (p:=⟨A,B+f,N⟩) C).trans (i.out.1 f c);have M:=(g.cell (p:=⟨D,F+f,N⟩) H).trans (i.out.2.1 f c);rw[m]at L;rw[o]at M;have q:=oe J K j k;have d:J^^^K<256:=Nat.xor_lt_two_pow (n:=8) j k;have P:=RY a b f;have u:=Go.Proofs.YtlbgenenpheheaaGreat.J0 (J^^^K);have h:diffN a b (f+1)=diffN a b f+Go.Proofs.YtlbgenenpheheaaGreat.popc (J^^^K):=by show diffN a b f+Go.Proofs.YtlbgenenpheheaaGreat.popc ((a.getD f 0).toNat^^^(b.getD f 0).toNat)=_;rw[m,o];rfl
   have⟨s,v⟩:=Ex (diffN a b f);rw[←v]at h P ⊢;have⟨X,x⟩:=Ex (J^^^K);rw[←x]at q d u h;have y:=aA fun w=>RX X d w;have⟨p,l⟩:=Ex (Go.Proofs.YtlbgenenpheheaaGreat.popc X);rw[←l]at y u h;have z:=aH h g;clear h g v x l m o d;go_wp2_with(go_at_call 237;refine(y.out _).mono ?_;rintro e w1 ⟨rfl,rfl⟩);go_roundw
   case rel=>exact⟨f+1,by omega,by rw[z.out.1,Int.natCast_add],by go_num,z.out.2⟩
   case measure=>simp[intOf];omega
  ·have d:f=n:=by omega
   subst d;clear c;go_wp2_with fail;go_ret;exact⟨rfl,g⟩
theorem oh (m:Int) (H:m≠1) (a b:List Int) (l o:Ms) (w:Mr) (c:a.length=b.length) (J:a.length≤72) (f:iU l a w) (g:iU o b w):Mt Y 181 #[I Z m,l,o] w fun e d=>e=E (I Z (unlN a b a.length:Nat))∧Mu w.heap.size w d:=by
 obtain⟨t,u,ca,rfl,K,v,d⟩:=f;obtain⟨x,y,cb,rfl,z,A,b3⟩:=g;rw[←c];rw[←c]at z b3;clear c;generalize c:a.length=n at*;have q:=aH d b3;have L:=aA c;clear d b3 c;have F:(n:Int)≤72:=by omega
 go_in;go_wp2_with fail;go_loopw [7,17] (fun s c wr=>∃f:Nat,f≤n∧s=I Z (unlN a b f:Nat)∧c=I Z f∧aC w wr) fun _ c _=>n-(intOf c).toNat
 case atStart=>exact⟨0,by omega,rfl,rfl,Kr⟩
 case round=>
  obtain⟨f,M,rfl,rfl,d⟩:=hrel;by_cases g:f<n
  ·have G:(f:Int)<n:=by omega
   have B:=(d.cell (p:=⟨t,u+f,N⟩) v).trans (q.out.1 f g);have C:=(d.cell (p:=⟨x,y+f,N⟩) A).trans (q.out.2 f g);have D:=RZ a b f;have c:unlN a b (f+1)=unlN a b f+(if a.getD f 0=b.getD f 0 then 0 else 1):=rfl;have⟨s,r⟩:=Ex (unlN a b f);rw[←r]at c D ⊢;have⟨P,j⟩:=Ex (a.getD f 0);have⟨Q,k⟩:=Ex (b.getD f 0);rw[←j,←k]at c;rw[←j]at B;rw[←k]at C;clear r j k;by_cases i:P=Q
   ·rw[Fp i]at c
    have h:=aH c d;clear c d;go_wp2_with fail;go_roundw
    case rel=>exact⟨f+1,by omega,by rw[h.out.1];rfl,by go_num,h.out.2⟩
    case measure=>simp[intOf];omega
   ·rw[Fn i]at c
    have h:=aH c d;clear c d;go_wp2_with fail;go_roundw
    case rel=>exact⟨f+1,by omega,by rw[h.out.1,Int.natCast_add];rfl,by go_num,h.out.2⟩
    case measure=>simp[intOf];omega
  ·have c:f=n:=by omega
   subst c;clear g;go_wp2_with fail;go_ret;exact⟨rfl,d⟩
def unlV (m:Int) (a b:List Int):Nat:=if m=1 then diffN a b a.length else unlN a b a.length
theorem ol (m:Int) (a b:List Int) (d f:Ms) (w:Mr) (c:a.length=b.length) (g:a.length≤72) (l:aX a.length a) (n:aX a.length b) (h:iU d a w) (i:iU f b w):Mt Y 181 #[I Z m,d,f] w fun e j=>e=E (I Z (unlV m a b:Nat))∧Mu w.heap.size w j:=by
 unfold unlV;by_cases j:m=1
 ·subst j;rw[Fp rfl];have C:=aA (og a b d f w c g l n h i);clear c g l n h i;go_in;go_wp2_with(go_at_call 212;refine C.out.mono ?_;rintro e o ⟨rfl,k⟩);go_ret;exact⟨rfl,k⟩
 ·rw[Fn j];exact oh m j a b d f w c g h i
end
section
open Go.RowKit Go.Shelf lin
attribute [local go_sem] Oper.semAt_some Mh
attribute [local simp] Mf Mg
def expN (m:Int) (n:Nat) (a b:List Int):Nat→Nat
 |0=>0
 |k+1=>max (expN m n a b k) (unlV m (cG a n k) (cG b n k))
def expV (m:Int) (a b:List Int):Nat:=expN m (iQ m).toNat a b (jA m).toNat
theorem S2 (m:Int) (a b:List Int):unlV m a b≤64*a.length:=by
 unfold unlV;split
 ·exact RY _ _ _
 ·have:=RZ a b a.length;omega
theorem S4 (m:Int) (n:Nat) (a b:List Int) (c:n≤36) (k:Nat):expN m n a b k≤2304:=by
 induction k with
 |zero=>exact Ns _
 |succ k d=>
  have e:=S2 m (cG a n k) (cG b n k);have f:(cG a n k).length≤n:=by unfold cG;rw[List.length_take];exact Nat.min_le_left _ _
  unfold expN;omega
theorem BD {l:List Int} (a:aX 72 l) (n k:Nat) (d:n*k+n≤72):aX n (cG l n k):=fun c b=>by rw[oZ l n k c b];exact a (n*k+c) (by omega)
def qA (B:Nat) (a b:List Int) (W w':Mr):Prop:=w'.rangeAt B 0 (aD .u8 a).toList∧w'.rangeAt (B+1) 0 (aD .u8 b).toList∧w'.heap[B]?=S (O (aD .u8 a) 79)∧w'.heap[B+1]?=S (O (aD .u8 b) 79)∧aC W w'
theorem JW {l:List Int} (b:W.heap[B]?=S (O (aD .u8 l) 79)):W.rangeAt B 0 (aD .u8 l).toList:=fun c d a=>by rw[Nat.zero_add,Cw b c];simpa using a
theorem qA.mk {a b:List Int} (c:w'.heap[B]?=S (O (aD .u8 a) 79)) (d:w'.heap[B+1]?=S (O (aD .u8 b) 79)) (e:aC W w'):qA B a b W w':=⟨JW c,JW d,c,d,e⟩
theorem qA.next {a b:List Int} (d:qA B a b W w1) (c:Mu w1.heap.size w1 w2):qA B a b W w2:=qA.mk (aE c d.2.2.1) (aE c d.2.2.2.1) (Kc d.2.2.2.2 c)
theorem om (m:Int) (l:fN m=true) (a b:List Int) (f:a.length=72) (i:b.length=72) (o:aX 72 a) (q:aX 72 b) (w:Mr):Mt Y 135 #[I Z m,.agg (aD .u8 a),.agg (aD .u8 b)] w fun e c=>e=E (I Z (expV m a b:Nat))∧Mu w.heap.size w c:=by
 obtain⟨n,g,j,p,B,aa,k⟩:∃n d:Nat,iQ m=(n:Int)∧jA m=(d:Int)∧(n:Int)≤36∧(d:Int)≤8∧n*d=72:=by
  rcases J9 m with⟨_,h,c⟩|⟨_,h,c⟩|⟨_,_,c⟩
  ·exact⟨9,8,h,c,by omega,by omega,rfl⟩
  ·exact⟨36,2,h,c,by omega,by omega,rfl⟩
  ·rw[c]at l;cases l
 have c:expV m a b=expN m n a b g:=by unfold expV;rw[j,p];rfl
 rw[c];have V:=aA fun w=>E8 p w;have H:=aA fun(d:Nat) (h:(d:Int)<jA m) w=>xG a f m n d j h w;have J:=aA fun(d:Nat) (h:(d:Int)<jA m) w=>xG b i m n d j h w;rw[p]at H J;have h:=eQ k f i o q B;have K:72=(aD .u8 a).toList.length:=by simp[aD,f]
 have L:72=(aD .u8 b).toList.length:=by simp[aD,i]
 have X:(Y.info? 79).map (·.size)=S (aD .u8 a).toList.length:=by rw[←K];kernel_rfl
 have y2:(Y.info? 79).map (·.size)=S (aD .u8 b).toList.length:=by rw[←L];kernel_rfl
 have C:=underlying79;clear c j p k l f i o q;go_in;go_wp2_with fail;refine(V.out _).mono ?_;rintro e w1 ⟨rfl,c⟩;have i:qA w.heap.size a b w w1:=qA.mk (aE c (gQ (by first|rfl|simp<;>omega|omega))) (aE c (iH (by first|rfl|simp<;>omega|omega))) (Kc gH c);clear c;go_wp2_with fail;go_loopw [7,11] (fun s c wr=>∃d:Nat,d≤g∧s=I Z (expN m n a b d:Nat)∧c=I Z d∧qA w.heap.size a b w wr) fun _ c _=>g-(intOf c).toNat
 case atStart=>exact⟨0,by omega,rfl,rfl,i⟩
 case round=>
  obtain⟨d,p,rfl,rfl,q⟩:=hrel;clear i;by_cases r:d<g
  ·have t:(d:Int)<g:=by omega
   have i:expN m n a b (d+1)=max (expN m n a b d) (unlV m (cG a n d) (cG b n d)):=rfl;have D:=S4 m n a b (by omega) d;have⟨s,u⟩:=Ex (expN m n a b d);rw[←u]at i D ⊢;have c:n*d+n≤72:=by have:n*(d+1)≤n*g:=Nat.mul_le_mul_left _ r;rw[h.out.1,Nat.mul_add,Nat.mul_one]at this;exact this
   have j:=pX a n d (by rw[h.out.2.1];exact c);have M:=pX b n d (by rw[h.out.2.2.1];exact c);have ad:=aA fun f k w=>ol m (cG a n d) (cG b n d) f k w (by rw[j,M]) (by rw[j];omega) (by rw[j];exact BD h.out.2.2.2.1 n d c) (by rw[j];exact BD h.out.2.2.2.2.1 n d c);have P:=S2 m (cG a n d) (cG b n d);rw[j]at P;have⟨ab,v⟩:=Ex (unlV m (cG a n d) (cG b n d));rw[←v]at i P ad;have HS:=aA i;have F:=aA fun w=>H.out d t w;have G:=aA fun w=>J.out d t w;clear u i v j M c;have f:=q;unfold qA at q;go_wp2;have Q:aC wr wr.drew:=Kd Kr;have LA:∀W,aC wr W→(Mc ⟨w.heap.size,0,N⟩ 0 72 #[]).run Y W=.ok (aD .u8 a) W:=fun W c=>fJ W w.heap.size _ 79 (0,0) (aE c f.2.2.1) 72 (by rw[aP,h.out.2.1]);have LB:∀W,aC wr W→(Mc ⟨w.heap.size+1,0,N⟩ 0 72 #[]).run Y W=.ok (aD .u8 b) W:=fun W c=>fJ W (w.heap.size+1) _ 79 (0,0) (aE c f.2.2.2.1) 72 (by rw[aP,h.out.2.2.1]);have k:=aA f;clear q f C X y2 K L
   go_region_with (first|(go_at_call 182;with_reducible refine(F.out _).mono ?_;rintro e w2 ⟨v1,rfl,x,y⟩;have R:aC wr w2:=Kc Q y)|(go_at_call 182;with_reducible refine(G.out _).mono ?_;rintro e w3 ⟨v2,rfl,z,l⟩;have T:aC wr w3:=Kc R l)|(go_at_call 181;refine(ad.out _ _ _ (iU.keeps x l) z).mono ?_;rintro e w4 ⟨rfl,A⟩;have U:aC wr w4:=Kc T A))
   all_goals have o:=aA U
   all_goals clear x y R z l T A U LA LB Q
   all_goals go_wp2_with fail
   all_goals go_roundw
   all_goals first
    |(simp[intOf];omega)
    |(refine⟨d+1,by omega,?_,by go_num,qA.mk (aE o.out k.out.2.2.1) (aE o.out k.out.2.2.2.1) (Kc k.out.2.2.2.2 o.out)⟩
      rw[HS.out]
      first
       |(congr 1;split<;>omega)
       |rw[show max s ab=s by omega]
       |rw[show max s ab=ab by omega])
  ·have c:d=g:=by omega
   subst c;have f:=aA q;clear q r;go_wp2_with fail;go_ret;exact⟨rfl,f.out.2.2.2.2⟩
def kD:List Int:=Nd 72 0
theorem pC:kD.length=72:=by simp[kD]
def eJ (l:List Int):Ms:=.agg (aD .u8 l)
structure bO where
 r:Int
 s:Int
 b:Int
 d:Int
 c:Int
 m:Int
 cells:Int→Option (List Int)
 lasts:List aZ
 coming:List aZ
def bO.at (t:bO) (i:Int):List Int:=(t.cells i).getD kD
structure fF (t:bO):Prop where
 right:dF t.r t.s t.b t.d t.c=true
 mode:fN t.m=true
 raw:∀i l,t.cells i=S l→l.length=72∧aX 72 l
 lasts:∀f∈t.lasts,f.ok t.m
 ln:t.lasts.length≤256
 cn:t.coming.length≤256
theorem fF.at_len {t:bO} (b:fF t) (i:Int):(t.at i).length=72:=by
 unfold bO.at;cases a:t.cells i with
 |none=>exact pC
 |some l=>exact(b.raw i l a).1
def dX (B:Nat) (own:Nat→Prop) (t:bO) (n:Nat) (W:Mr):Prop:=
 ∃(M:Nat) (vl vc:Ms),own B∧own M∧(∀g,vl.ownBlock=S g→own g)∧(∀g,vc.ownBlock=S g→own g)∧(∀g,vl.ownBlock=S g→vc.ownBlock≠S g)∧
  W.heap[B]?=S (O #[I Z t.r,I Z t.s,I Z t.b,I Z t.d,I Z t.c,I Z t.m,.map (S M),vl,vc] 124)∧
  eT Y 3 M n (fun k=>(t.cells k).map eJ) W∧jJ vl t.lasts W∧jJ vc t.coming W
theorem dX.same {own own':Nat→Prop} {t:bO} (a:dX B own t n W) (c:∀b,b<W.heap.size→own b→W'.heap[b]?=W.heap[b]?∧own' b):dX B own' t n W':=by obtain⟨q,m,o,i,j,k,l,p,e,f,g,h⟩:=a;exact⟨q,m,o,(c B (aB e) i).2,(c q f.lt j).2,fun d a=>(c d (g.lt d a) (k d a)).2,fun d a=>(c d (h.lt d a) (l d a)).2,p,(c B (aB e) i).1.trans e,f.same (c q f.lt j).1,g.same fun d a=>(c d (g.lt d a) (k d a)).1,h.same fun d a=>(c d (h.lt d a) (l d a)).1⟩
theorem dX.keeps {own:Nat→Prop} {t:bO} (e:dX B own t n W) (a:aC W W'):dX B own t n W':=e.same fun b c d=>⟨a.block b c,d⟩
theorem JX (B:Nat) (cs:List Ms) (r s b d c m:Int) (g:Nat) (vl a:Ms) (w:Mr) (q:w.heap[B]?=S (O #[I Z r,I Z s,I Z b,I Z d,I Z c,I Z m,.map (S g),vl,a] 124)):Mt Y 69 #[.pointer (S ⟨B,0,N⟩)] w fun e f=>e=E (I Z m)∧w=f:=by have f:=Cw q 5;simp at f;clear q;go_in;go_wp2;go_ret;exact⟨rfl,rfl⟩
theorem oq (B:Nat) (r s b d c m:Int) (i:Nat) (vl f:Ms) (w:Mr) (q:w.heap[B]?=S (O #[I Z r,I Z s,I Z b,I Z d,I Z c,I Z m,.map (S i),vl,f] 124)):Mt Y 87 #[.pointer (S ⟨B,0,N⟩)] w fun e a=>e=E (.agg #[I Z r,I Z s,I Z b,I Z d,I Z c])∧Mu w.heap.size w a:=by
 have g:∀W,W.heap[B]?=S (O #[I Z r,I Z s,I Z b,I Z d,I Z c,I Z m,.map (S i),vl,f] 124)→(Mc ⟨B,0,N⟩ 0 5 #[]).run Y W=.ok #[I Z r,I Z s,I Z b,I Z d,I Z c] W:=fun W j=>lL W B 0 [I Z r,I Z s,I Z b,I Z d,I Z c] (fun h k a=>by
  rw[Nat.zero_add,Cw j h];have:h<5:=(Oe.1 a).1
  match h,this with
  |0,_=>simpa using a
  |1,_=>simpa using a
  |2,_=>simpa using a
  |3,_=>simpa using a
  |4,_=>simpa using a)
 have a:=g (w.alloc (O #[I Z 0,I Z 0,I Z 0,I Z 0,I Z 0] 23)) ((aV _ _ _ (aB q)).trans q);have h:(Me ⟨w.heap.size,0,N⟩ [I Z r,I Z s,I Z b,I Z d,I Z c] 0).run Y (w.alloc (O #[I Z 0,I Z 0,I Z 0,I Z 0,I Z 0] 23))=.ok () (w.alloc (O #[I Z r,I Z s,I Z b,I Z d,I Z c] 23)):=Mi w 23 _ #[I Z r,I Z s,I Z b,I Z d,I Z c] (by kernel_rfl) rfl (by simp[Ni]);clear g;go_in;go_wp2;refine My (Oa (P:=Y) results87 _ _ w.heap.size 23 #[I Z r,I Z s,I Z b,I Z d,I Z c] (0,0) _ rfl (aG _ _ _ rfl) underlying23 rfl (by kernel_rfl)) rfl ⟨rfl,aU⟩
theorem qB {s c m:Int} {g:Nat} {vl e:Ms} (h:W.heap[B]?=S (O #[I Z r,I Z s,I Z b,I Z d,I Z c,I Z m,.map (S g),vl,e] 124)):(Mc ⟨B,0,N⟩ 0 5 #[]).run Y W=.ok #[I Z r,I Z s,I Z b,I Z d,I Z c] W:=lL W B 0 [I Z r,I Z s,I Z b,I Z d,I Z c] (fun f i a=>by
 rw[Nat.zero_add,Cw h f];have:f<5:=(Oe.1 a).1
 match f,this with
 |0,_=>simpa using a
 |1,_=>simpa using a
 |2,_=>simpa using a
 |3,_=>simpa using a
 |4,_=>simpa using a)
theorem tP:zeroCells79=aD .u8 kD:=by kernel_rfl
theorem S8:zeroCells79.all (·.oneCell')=true:=by rw[tP];exact dG _ _
theorem BE (W:Mr):(zeroValue 79).run Y W=.ok (eJ kD) W:=by unfold eJ;rw[←tP];kernel_rfl
theorem EK {s c i:Int} (f:eC r s b d c i=true) (w:Mr):Mt Y 21 #[.agg #[I Z r,I Z s,I Z b,I Z d,I Z c],I Z i] w fun e a=>e=E (.tuple #[.agg #[I Z (i/1048576),I Z (i/65536%16),I Z (i/64%1024),I Z (i%64)],I Z 0])∧Mu w.heap.size w a:=by have:=DN r s b d c i w;rw[f]at this;exact this
theorem ot {s c i:Int} (f:eC r s b d c i=false) (w:Mr):Mt Y 21 #[.agg #[I Z r,I Z s,I Z b,I Z d,I Z c],I Z i] w fun e a=>e=E (.tuple #[.agg #[I Z 0,I Z 0,I Z 0,I Z 0],I Z 12])∧Mu w.heap.size w a:=by have:=DN r s b d c i w;rw[f]at this;exact this
def bO.look (t:bO) (i:Int):List Int:=oH t.m (i/1048576) (i/65536%16) (i/64%1024) (i%64) t.lasts (t.at i)
theorem ou {s c m:Int} {H:Nat} {vl v:Ms} (i:Int) (w:Mr) (q:w.heap[B]?=S (O #[I Z r,I Z s,I Z b,I Z d,I Z c,I Z m,.map (S H),vl,v] 124)) (a:eC r s b d c i=false):Mt Y 29 #[.pointer (S ⟨B,0,N⟩),I Z i] w fun e f=>e=E (.tuple #[eJ kD,I Z 12])∧Mu w.heap.size w f:=by
 unfold eJ;have D:=aA fun w=>ot a w;clear a;have a:(w.alloc (O zeroCells79 79)).heap[B]?=S (O #[I Z r,I Z s,I Z b,I Z d,I Z c,I Z m,.map (S H),vl,v] 124):=by rw[aV _ _ _ (by have:=aB q;first|omega|(simp;omega))];exact q
 replace q:=a;clear a;have C:(w.alloc (O zeroCells79 79)).heap[w.heap.size]?=S (O zeroCells79 79):=iH (by first|rfl|simp<;>omega|omega);have⟨g,h,j,k,l,n,o,p,t⟩:=oS q;have x:=fun u=>Fw q u;have y:=aB q;simp at g h j k l n o p t;have z:=aB C;have u:=qB q;go_in;go_wp2_with fail;refine(D.out _).mono ?_;rintro e a ⟨rfl,f⟩;clear u;clear g h j k l n o p t x y z;replace q:a.heap[B]?=S (O #[I Z r,I Z s,I Z b,I Z d,I Z c,I Z m,.map (S H),vl,v] 124):=aE f q;replace C:a.heap[w.heap.size]?=S (O zeroCells79 79):=aE f C;have A:aC w a:=Kc (aU) f;have⟨g,h,j,k,l,n,o,p,t⟩:=oS q;have x:=fun u=>Fw q u;have y:=aB q;simp at g h j k l n o p t;have z:=aB C;have J:(Me ⟨a.heap.size,0,N⟩ [I Z 0,I Z 0,I Z 0,I Z 0] 0).run Y (a.alloc (O #[I Z 0,I Z 0,I Z 0,I Z 0] 41))=.ok () (a.alloc (O #[I Z 0,I Z 0,I Z 0,I Z 0] 41)):=Mi a 41 _ #[I Z 0,I Z 0,I Z 0,I Z 0] (by kernel_rfl) rfl (by simp[Ni]);have u:(a.alloc (O #[I Z 0,I Z 0,I Z 0,I Z 0] 41)).heap[w.heap.size]?=S (O zeroCells79 79):=(aV _ _ _ (aB C)).trans C;have L:=Sw u zeroCells79 rfl S8;have M:=Hw u zeroCells79;rw[tP]at M;have F:=K.alloc A (O #[I Z 0,I Z 0,I Z 0,I Z 0] 41);have G:=nQ;clear g h j k l n o p t x y z;go_wp2_with fail;refine My (lin.iF (P:=Y) results29 _ _ w.heap.size 79 (aD .u8 kD) (0,0) (.array 72 5) rfl M (by kernel_rfl) rfl (by rw[aP,pC];kernel_rfl)) rfl ⟨rfl,Ob F Nl _⟩
theorem ov {s c m:Int} {W:Nat} {vl F:Ms} (i pr pb pd pc:Int) (l k:List Int) (u:k.length=72) (w:Mr) (q:w.heap[B]?=S (O #[I Z r,I Z s,I Z b,I Z d,I Z c,I Z m,.map (S W),vl,F] 124))
 (X:Hid (∀w,Mt Y 21 #[.agg #[I Z r,I Z s,I Z b,I Z d,I Z c],I Z i] w fun e a=>e=E (.tuple #[.agg #[I Z pr,I Z pb,I Z pd,I Z pc],I Z 0])∧Mu w.heap.size w a))
 (L:Hid (∀a,aC w a→(Instr.lookup 117 (.map (S W)) (I Z i) false).run Y a=.ok (.agg (aD .u8 l)) a))
 (M:Hid (∀a,aC w a→Mt Y 51 #[vl,I Z m,.agg #[I Z pr,I Z pb,I Z pd,I Z pc],.agg (aD .u8 l)] a fun e f=>e=E (.agg (aD .u8 k))∧Mu a.heap.size a f)):
 Mt Y 29 #[.pointer (S ⟨B,0,N⟩),I Z i] w fun e a=>e=E (.tuple #[.agg (aD .u8 k),I Z 0])∧Mu w.heap.size w a:=by
 have a:(w.alloc (O zeroCells79 79)).heap[B]?=S (O #[I Z r,I Z s,I Z b,I Z d,I Z c,I Z m,.map (S W),vl,F] 124):=by rw[aV _ _ _ (by have:=aB q;first|omega|(simp;omega))];exact q
 replace q:=a;clear a;have V:(w.alloc (O zeroCells79 79)).heap[w.heap.size]?=S (O zeroCells79 79):=iH (by first|rfl|simp<;>omega|omega);have⟨a,x,y,z,A,o,p,t,C⟩:=oS q;have G:=fun g=>Fw q g;have H:=aB q;simp at a x y z A o p t C;have J:=aB V;have g:=qB q;go_in;go_wp2_with fail;refine(X.out _).mono ?_;rintro e f ⟨rfl,v⟩;clear g;clear a x y z A o p t C G H J;replace q:f.heap[B]?=S (O #[I Z r,I Z s,I Z b,I Z d,I Z c,I Z m,.map (S W),vl,F] 124):=aE v q;replace V:f.heap[w.heap.size]?=S (O zeroCells79 79):=aE v V;have Q:aC w f:=Kc (aU) v;have⟨a,x,y,z,A,o,p,t,C⟩:=oS q;have G:=fun g=>Fw q g;have H:=aB q;simp at a x y z A o p t C;have J:=aB V;have SP:(Me ⟨f.heap.size,0,N⟩ [I Z pr,I Z pb,I Z pd,I Z pc] 0).run Y (f.alloc (O #[I Z 0,I Z 0,I Z 0,I Z 0] 41))=.ok () (f.alloc (O #[I Z pr,I Z pb,I Z pd,I Z pc] 41)):=Mi f 41 _ #[I Z pr,I Z pb,I Z pd,I Z pc] (by kernel_rfl) rfl (by simp[Ni]);have g:(f.alloc (O #[I Z pr,I Z pb,I Z pd,I Z pc] 41)).heap[w.heap.size]?=S (O zeroCells79 79):=(aV _ _ _ (aB V)).trans V;have h:(f.alloc (O #[I Z pr,I Z pb,I Z pd,I Z pc] 41)).heap[f.heap.size]?=S (O #[I Z pr,I Z pb,I Z pd,I Z pc] 41):=aG _ _ _ rfl;have j:(f.alloc (O #[I Z pr,I Z pb,I Z pd,I Z pc] 41)).heap[B]?=S (O #[I Z r,I Z s,I Z b,I Z d,I Z c,I Z m,.map (S W),vl,F] 124):=(aV _ _ _ (aB q)).trans q;have D:aC w (f.alloc (O #[I Z pr,I Z pb,I Z pd,I Z pc] 41)):=Ka Q;have R:f.heap.size<(f.alloc (O #[I Z pr,I Z pb,I Z pd,I Z pc] 41)).heap.size:=aB h;have T:B<(f.alloc (O #[I Z pr,I Z pb,I Z pd,I Z pc] 41)).heap.size:=aB j;have U:w.heap.size<(f.alloc (O #[I Z pr,I Z pb,I Z pd,I Z pc] 41)).heap.size:=aB g;clear a x y z A o p t C G H J;go_wp2_with fail;have⟨x,a⟩:=Ex (f.alloc (O #[I Z pr,I Z pb,I Z pd,I Z pc] 41));rw[←a]at g h j D R T U ⊢;clear a SP;have⟨o,p,t⟩:=pQ j 5 6 7;simp at o p t;have C:∀a,aC x a→(Mc ⟨f.heap.size,0,N⟩ 0 4 #[]).run Y a=.ok #[I Z pr,I Z pb,I Z pd,I Z pc] a:=fun a y=>fJ a _ _ 41 (0,0) (aE y h) 4 rfl;have G:=fun a (y:aC x a)=>L.out a (Kc D y);have z:=aA fun a (y:aC x a)=>M.out a (Kc D y);have y:=aH g D;clear g h j D;refine wpIn_wide.1 (vM (n:=9) 16 (by kernel_rfl) (by kernel_rfl) ?_);simp only[List.drop_succ_cons,List.drop_zero,List.take_succ_cons,List.take_zero]
 repeat
  with_reducible refine Mz fun K h=>?_
  go_simp
  try first
   |(apply Ei
     intro a g;obtain⟨j,A⟩:=g.cells;go_simp
     first
      |(go_at_call 51;exact g.call (z.out _ g))
      |rfl)
   |(with_reducible refine aQ ?_ ?_;decide)
  refine h _ ?_;clear h K
 with_reducible refine Na ?_
 intro A a;have g:=aE a y.out.1;have D:=Sw g (aD .u8 k) (by rw[aP,u];exact nQ) (dG _ _);have H:=Hw g (aD .u8 k);have j:(aD .u8 k).size=72:=by rw[aP,u]
 have h:=Kc y.out.2 a;clear a g;gi_wp2_with fail;go_wp2_with fail;refine My (lin.iF (P:=Y) results29 _ _ w.heap.size 79 (aD .u8 k) (0,0) (.array 72 5) rfl H (by kernel_rfl) rfl (by rw[aP,u];kernel_rfl)) rfl ⟨rfl,Ob h Nl _⟩
theorem SC {own:Nat→Prop} {t:bO} (ok:fF t) (i:Int) (w:Mr) (b:dX B own t n w):Mt Y 29 #[.pointer (S ⟨B,0,N⟩),I Z i] w fun e a=>e=E (.tuple (if eC t.r t.s t.b t.d t.c i=true then#[eJ (t.look i),I Z 0]else#[eJ kD,I Z 12]))∧Mu w.heap.size w a:=by
 obtain⟨u,g,l,m,o,p,q,r,d,h,j,s⟩:=b;cases b:eC t.r t.s t.b t.d t.c i
 ·rw[Fn (by decide)];exact ou i w d b
 ·rw[Fp rfl]
  have k:0≤i∧i<8388608:=by unfold eC at b;simp only[Nq,decide_eq_true_eq]at b;obtain⟨_,a,c,_⟩:=oV b.2;have:=cM ok.right;omega
  have f:=ok.at_len i;refine ov i (i/1048576) (i/65536%16) (i/64%1024) (i%64) (t.at i) (t.look i) (by unfold bO.look;rw[JD,f]) w d (aA fun w=>EK b w) (aA fun a c=>?_) (aA fun a c=>ji (t.at i) f t.m _ _ _ _ ok.mode t.lasts ok.lasts g a (j.keeps c) ok.ln);have e:=(h.keeps c).lookup underlying3 underlying117 (BE a) (show bN i by unfold bN;omega);rw[e];unfold bO.at eJ;cases t.cells i<;>rfl
def bO.went (t:bO) (i:Int):Int×Bool×bO:=
 match t.coming with
 |[]=>(i,false,t)
 |f::rest=>if f.k=7 then(i,true,{t with coming:=rest})else if eY t.r t.s t.b t.d t.c f.r f.b f.d f.c=true then(dD f.r f.b f.d f.c,false,{t with coming:=rest})else(i,false,{t with coming:=rest})
theorem SE {s c pr pb pd pc i:Int} (g:eY r s b d c pr pb pd pc=true) (a:dD pr pb pd pc=i) (w:Mr):Mt Y 133 #[.agg #[I Z r,I Z s,I Z b,I Z d,I Z c],.agg #[I Z pr,I Z pb,I Z pd,I Z pc]] w fun e f=>e=E (.tuple #[I Z i,I Z 0])∧Mu w.heap.size w f:=by have:=GW r s b d c pr pb pd pc w;rw[g,a]at this;exact this
theorem ow {s c pr pb pd pc:Int} (f:eY r s b d c pr pb pd pc=false) (w:Mr):Mt Y 133 #[.agg #[I Z r,I Z s,I Z b,I Z d,I Z c],.agg #[I Z pr,I Z pb,I Z pd,I Z pc]] w fun e a=>e=E (.tuple #[I Z 0,I Z 12])∧Mu w.heap.size w a:=by have:=GW r s b d c pr pb pd pc w;rw[f]at this;exact this
theorem ox {s c m:Int} {k:Nat} {vl g:Ms} (i:Int) (w:Mr) (q:w.heap[B]?=S (O #[I Z r,I Z s,I Z b,I Z d,I Z c,I Z m,.map (S k),vl,g] 124)) (a:Option Addr) (cap:Nat) (f:g=.slice a 0 cap):Mt Y 179 #[.pointer (S ⟨B,0,N⟩),I Z i] w fun e h=>e=E (.agg #[I Z i,.bool false])∧Mu w.heap.size w h:=by subst f;have f:=Cw q 8;have h:=aB q;simp at f;have j:(Me ⟨w.heap.size,0,N⟩ [I Z i,.bool false] 0).run Y (w.alloc (O #[I Z 0,.bool false] 165))=.ok () (w.alloc (O #[I Z i,.bool false] 165)):=Mi w 165 _ #[I Z i,.bool false] (by kernel_rfl) rfl (by simp[Ni]);clear q;go_in;go_wp2;refine My (Oa (P:=Y) results179 _ _ w.heap.size 165 #[I Z i,.bool false] (0,0) _ rfl (aG _ _ _ rfl) underlying165 rfl (by kernel_rfl)) rfl ⟨rfl,aU⟩
theorem SG {L:List aZ} {y:Nat} {cs:Array Ms} (m:jJ v L W) (f:W.heap[y]?=S (O cs 165)):∀b,v.ownBlock=S b→b≠y:=fun b a e=>by
 subst e;obtain⟨⟨i,⟨rfl,j⟩|⟨n,g,h,rfl,k,c,d⟩⟩,l⟩:=m
 ·simp[Ny]at a
 ·simp[Ny]at a;subst a;rw[f]at c;simp at c
theorem SH (c:aF cw w W) (cs:Array Ms):aF cw w (W.setRow w.heap.size cs):=c.next (cw':=fun b=>b=w.heap.size) ⟨rfl,rfl,rfl,by simp[Mr.setRow],fun b _ a=>So a⟩ fun b e=>.inr (by omega)
theorem oy {s c m:Int} {ae:Nat} {vl K:Ms} (i:Int) (w:Mr) (q:w.heap[B]?=S (O #[I Z r,I Z s,I Z b,I Z d,I Z c,I Z m,.map (S ae),vl,K] 124)) (g n cap:Nat) (l:K=.slice (S ⟨g,0,N⟩) (n+1) cap) (hn:n≤256) (T:n+1≤cap) (aa:cap≤maxLen)
 (k fr fb fd fc fch fbt fvl:Int) (f:∀W,aC w W→(Mc ⟨g,0,N⟩ 0 8 #[]).run Y W=.ok #[I Z k,I Z fr,I Z fb,I Z fd,I Z fc,I Z fch,I Z fbt,I Z fvl] W) (j:List aZ) (a:j.length=n)
 (o:∀W h c,aC w W→(h=⟨g,8,N⟩∨(n=0∧h=⟨g,0,N⟩))→vY 8 (.slice (S h) n c) (j.map aZ.cells) W) (t:k=7):
 Mt Y 179 #[.pointer (S ⟨B,0,N⟩),I Z i] w fun e h=>∃z,e=E (.agg #[I Z i,.bool true])∧jJ z j h∧(∀b,z.ownBlock=S b→w.heap.size≤b)∧h.heap[B]?=S (O #[I Z r,I Z s,I Z b,I Z d,I Z c,I Z m,.map (S ae),vl,z] 124)∧aF (fun b=>b=B) w h:=by
 subst t;subst l;have L:=Cw q 8;have U:=aB q;simp at L;have ab:(0:Int)<(n:Int)+1:=by omega
 have V:=f (w.alloc (O #[I Z 0,.bool false] 165)) aU;have X:=f ((w.alloc (O #[I Z 0,.bool false] 165)).alloc (O #[I Z 0,I Z 0,I Z 0,I Z 0,I Z 0,I Z 0,I Z 0,I Z 0] 43)) gH;have S1:(Me ⟨w.heap.size+1,0,N⟩ [I Z 7,I Z fr,I Z fb,I Z fd,I Z fc,I Z fch,I Z fbt,I Z fvl] 0).run Y ((w.alloc (O #[I Z 0,.bool false] 165)).alloc (O #[I Z 0,I Z 0,I Z 0,I Z 0,I Z 0,I Z 0,I Z 0,I Z 0] 43))=.ok () ((w.alloc (O #[I Z 0,.bool false] 165)).alloc (O #[I Z 7,I Z fr,I Z fb,I Z fd,I Z fc,I Z fch,I Z fbt,I Z fvl] 43)):=by have:=Mi (P:=Y) (w.alloc (O #[I Z 0,.bool false] 165)) 43 #[I Z 0,I Z 0,I Z 0,I Z 0,I Z 0,I Z 0,I Z 0,I Z 0] #[I Z 7,I Z fr,I Z fb,I Z fd,I Z fc,I Z fch,I Z fbt,I Z fvl] (by kernel_rfl) rfl (by simp[Ni]);rw[Mr.size_alloc]at this;exact this
 have M:=aH o a;clear o f a;go_in;go_wp2_with fail
 all_goals
  refine(EC j (by have:=M.out.2;omega) _ _ (M.out.1 _ _ _ gH (by first|exact .inl rfl|exact .inr ⟨by omega,rfl⟩))).mono ?_;rintro e l ⟨z,rfl,y,A,u⟩;have⟨h,o⟩:=Ex (j.map aZ.cells).length;obtain⟨a,f,t⟩:=y.slice;rw[←o]at t;subst t;clear o;have J:aC w l:=Kc gH u;have C:=aE J q;have Q:l.heap[w.heap.size]?=S (O #[I Z 0,.bool false] 165):=aE u (gQ (by first|rfl|simp<;>omega|omega));have R:l.heap[w.heap.size+1]?=S (O #[I Z 7,I Z fr,I Z fb,I Z fd,I Z fc,I Z fch,I Z fbt,I Z fvl] 43):=aE u (iH (by first|rfl|simp<;>omega|omega));have c8:=Cw C 8;have ad:=Fw C 8;simp at c8;have o:∀b,(Nh a h f).ownBlock=S b→w.heap.size≤b:=fun b v=>by have:=A b v;simp at this;omega
  have D:∀b,(Nh a h f).ownBlock=S b→b≠B:=fun b v e=>by have:=o b v;omega
  have F:(l.setCell ⟨B,8,N⟩ (.slice a h f)).heap[B]?=S (O #[I Z r,I Z s,I Z b,I Z d,I Z c,I Z m,.map (S ae),vl,(.slice a h f)] 124):=Hs 8 (.slice a h f) C;have x:(l.setCell ⟨B,8,N⟩ (.slice a h f)).heap[w.heap.size]?=S (O #[I Z 0,.bool false] 165):=(Ho (show w.heap.size≠B by omega)).trans Q;have G:(l.setCell ⟨B,8,N⟩ (.slice a h f)).heap[w.heap.size+1]?=S (O #[I Z 7,I Z fr,I Z fb,I Z fd,I Z fc,I Z fch,I Z fbt,I Z fvl] 43):=(Ho (show w.heap.size+1≠B by omega)).trans R;have v:aF (fun b=>b=B) l (l.setCell ⟨B,8,N⟩ (.slice a h f)):=aF.setCell (cw:=fun b=>b=B) Cl (p:=⟨B,8,N⟩) (.inl rfl) _;have t:jJ (.slice a h f) j (l.setCell ⟨B,8,N⟩ (.slice a h f)):=y.chg v D;have H:aF (fun b=>b=B) w (l.setCell ⟨B,8,N⟩ (.slice a h f)):=(aF.of_below J _).trans v;have g4:=Cw G 0;simp only[Oi,List.getElem?_cons_zero]at g4;have HH:=eQ F x G t o H;have SA:(Me ⟨w.heap.size,0,N⟩ [I Z i,.bool true] 0).run Y (l.setCell ⟨B,8,N⟩ (.slice a h f))=.ok () ((l.setCell ⟨B,8,N⟩ (.slice a h f)).setRow w.heap.size #[I Z i,.bool true]):=jV (l.setCell ⟨B,8,N⟩ (.slice a h f)) w.heap.size #[I Z 0,.bool false] #[I Z i,.bool true] 165 x rfl (by simp[Ni]);clear L U V X S1 J C Q R y A u o D F x G v t H;go_wp2_with fail;have⟨F,x,G,t,o,H⟩:=HH.out;have u:∀b,b≠w.heap.size→((l.setCell ⟨B,8,N⟩ (.slice a h f)).setRow w.heap.size #[I Z i,.bool true]).heap[b]?=(l.setCell ⟨B,8,N⟩ (.slice a h f)).heap[b]?:=fun b v=>So v;refine My (Oa (P:=Y) results179 _ _ w.heap.size 165 #[I Z i,.bool true] (0,0) _ rfl (Hw x #[I Z i,.bool true]) underlying165 rfl (by kernel_rfl)) rfl ⟨(.slice a h f),rfl,t.same fun b v=>u b fun e=>SG t x b v e,o,(u B (by have:=aB q;omega)).trans F,SH H _⟩
theorem SI {s c m:Int} {an:Nat} {vl V:Ms} (i:Int) (w:Mr) (q:w.heap[B]?=S (O #[I Z r,I Z s,I Z b,I Z d,I Z c,I Z m,.map (S an),vl,V] 124)) (g n cap:Nat) (h:V=.slice (S ⟨g,0,N⟩) (n+1) cap) (hn:n≤256) (aa:n+1≤cap) (ab:cap≤maxLen)
 (k fr fb fd fc fch fbt fvl:Int) (f:∀W,aC w W→(Mc ⟨g,0,N⟩ 0 8 #[]).run Y W=.ok #[I Z k,I Z fr,I Z fb,I Z fd,I Z fc,I Z fch,I Z fbt,I Z fvl] W) (j:List aZ) (a:j.length=n)
 (l:∀W o c,aC w W→(o=⟨g,8,N⟩∨(n=0∧o=⟨g,0,N⟩))→vY 8 (.slice (S o) n c) (j.map aZ.cells) W) (hk:k≠7) (v:Int) (hz:eY r s b d c fr fb fd fc=true∧dD fr fb fd fc=v∨eY r s b d c fr fb fd fc=false∧v=i):
 Mt Y 179 #[.pointer (S ⟨B,0,N⟩),I Z i] w fun e o=>∃H,e=E (.agg #[I Z v,.bool false])∧jJ H j o∧(∀b,H.ownBlock=S b→w.heap.size≤b)∧o.heap[B]?=S (O #[I Z r,I Z s,I Z b,I Z d,I Z c,I Z m,.map (S an),vl,H] 124)∧aF (fun b=>b=B) w o:=by
 rcases hz with⟨G,J⟩|⟨G,rfl⟩
 case' inl=>have X:=aA fun w=>SE G J w;clear G J
 case' inr=>have X:=aA fun w=>ow G w;clear G
 all_goals
  subst h;have q8:=Cw q 8;have qz:=aB q;simp at q8;have ad:(0:Int)<(n:Int)+1:=by omega
  have F1:=f (w.alloc (O #[I Z 0,.bool false] 165)) aU;have F2:=f ((w.alloc (O #[I Z 0,.bool false] 165)).alloc (O #[I Z 0,I Z 0,I Z 0,I Z 0,I Z 0,I Z 0,I Z 0,I Z 0] 43)) gH;have S1:(Me ⟨w.heap.size+1,0,N⟩ [I Z k,I Z fr,I Z fb,I Z fd,I Z fc,I Z fch,I Z fbt,I Z fvl] 0).run Y ((w.alloc (O #[I Z 0,.bool false] 165)).alloc (O #[I Z 0,I Z 0,I Z 0,I Z 0,I Z 0,I Z 0,I Z 0,I Z 0] 43))=.ok () ((w.alloc (O #[I Z 0,.bool false] 165)).alloc (O #[I Z k,I Z fr,I Z fb,I Z fd,I Z fc,I Z fch,I Z fbt,I Z fvl] 43)):=by have:=Mi (P:=Y) (w.alloc (O #[I Z 0,.bool false] 165)) 43 #[I Z 0,I Z 0,I Z 0,I Z 0,I Z 0,I Z 0,I Z 0,I Z 0] #[I Z k,I Z fr,I Z fb,I Z fd,I Z fc,I Z fch,I Z fbt,I Z fvl] (by kernel_rfl) rfl (by simp[Ni]);rw[Mr.size_alloc]at this;exact this
  have HR:=aH l a;clear l f a;go_in;go_wp2_with fail
  all_goals
   refine(EC j (by have:=HR.out.2;omega) _ _ (HR.out.1 _ _ _ gH (by first|exact .inl rfl|exact .inr ⟨by omega,rfl⟩))).mono ?_;rintro e l ⟨H,rfl,F,L,z⟩;have⟨h,o⟩:=Ex (j.map aZ.cells).length;obtain⟨a,f,t⟩:=F.slice;rw[←o]at t;subst t;clear o;have R:aC w l:=Kc gH z;have M:=aE R q;have y3:l.heap[w.heap.size]?=S (O #[I Z 0,.bool false] 165):=aE z (gQ (by first|rfl|simp<;>omega|omega));have f3:l.heap[w.heap.size+1]?=S (O #[I Z k,I Z fr,I Z fb,I Z fd,I Z fc,I Z fch,I Z fbt,I Z fvl] 43):=aE z (iH (by first|rfl|simp<;>omega|omega));have c8:=Cw M 8;have ae:=Fw M 8;simp at c8;have o:∀b,(Nh a h f).ownBlock=S b→w.heap.size≤b:=fun b A=>by have:=L b A;simp at this;omega
   have Q:∀b,(Nh a h f).ownBlock=S b→b≠B:=fun b A e=>by have:=o b A;omega
   have x:(l.setCell ⟨B,8,N⟩ (.slice a h f)).heap[B]?=S (O #[I Z r,I Z s,I Z b,I Z d,I Z c,I Z m,.map (S an),vl,(.slice a h f)] 124):=Hs 8 (.slice a h f) M;have C:(l.setCell ⟨B,8,N⟩ (.slice a h f)).heap[w.heap.size]?=S (O #[I Z 0,.bool false] 165):=(Ho (show w.heap.size≠B by omega)).trans y3;have y:(l.setCell ⟨B,8,N⟩ (.slice a h f)).heap[w.heap.size+1]?=S (O #[I Z k,I Z fr,I Z fb,I Z fd,I Z fc,I Z fch,I Z fbt,I Z fvl] 43):=(Ho (show w.heap.size+1≠B by omega)).trans f3;have A:aF (fun b=>b=B) l (l.setCell ⟨B,8,N⟩ (.slice a h f)):=aF.setCell (cw:=fun b=>b=B) Cl (p:=⟨B,8,N⟩) (.inl rfl) _;have u:jJ (.slice a h f) j (l.setCell ⟨B,8,N⟩ (.slice a h f)):=F.chg A Q;have D:aF (fun b=>b=B) w (l.setCell ⟨B,8,N⟩ (.slice a h f)):=(aF.of_below R _).trans A;have g4:=Cw y 0;simp only[Oi,List.getElem?_cons_zero]at g4;have HH:=eQ x C y u o D;have LG:=qB x
   have LP:(Mc ⟨w.heap.size+1,1,N⟩ 0 4 #[]).run Y (l.setCell ⟨B,8,N⟩ (.slice a h f))=.ok #[I Z fr,I Z fb,I Z fd,I Z fc] (l.setCell ⟨B,8,N⟩ (.slice a h f)):=lL (l.setCell ⟨B,8,N⟩ (.slice a h f)) (w.heap.size+1) 1 [I Z fr,I Z fb,I Z fd,I Z fc] (fun i av t=>by
    rw[Cw y _];have:i<4:=(Oe.1 t).1
    match i,this with
    |0,_=>simpa using t
    |1,_=>simpa using t
    |2,_=>simpa using t
    |3,_=>simpa using t)
   have z4:=aB x;have z5:=aB y;have T:∀W,aC (l.setCell ⟨B,8,N⟩ (.slice a h f)) W→(Mc ⟨B,0,N⟩ 0 5 #[]).run Y W=.ok #[I Z r,I Z s,I Z b,I Z d,I Z c] W:=fun W ar=>qB (aE ar x)
   have U:∀W,aC (l.setCell ⟨B,8,N⟩ (.slice a h f)) W→(Mc ⟨w.heap.size+1,1,N⟩ 0 4 #[]).run Y W=.ok #[I Z fr,I Z fb,I Z fd,I Z fc] W:=fun W ar=>lL W (w.heap.size+1) 1 [I Z fr,I Z fb,I Z fd,I Z fc] (fun i av t=>by
    rw[Cw (aE ar y) _];have:i<4:=(Oe.1 t).1
    match i,this with
    |0,_=>simpa using t
    |1,_=>simpa using t
    |2,_=>simpa using t
    |3,_=>simpa using t)
   clear q8 qz F1 F2 S1 R M y3 f3 F L z o Q x C y A u D LG LP;go_wp2_with fail;refine bS (by kernel_rfl) (by kernel_rfl) ?_
   repeat
    with_reducible refine Mz fun K u=>?_
    go_simp
    try first
     |(apply Ei
       intro o t;obtain⟨x,y⟩:=t.cells;go_simp
       first
        |(go_at_call 133;exact t.call (X.out _))
        |rfl)
     |(with_reducible refine aQ ?_ ?_;decide)
    refine u _ ?_;clear u K
   with_reducible refine Na ?_
   intro F t;have⟨x,C,y,u,o,D⟩:=HH.out;have z:=aE t C;have R:(Me ⟨w.heap.size,0,N⟩ [I Z v,.bool false] 0).run Y F=.ok () (F.setRow w.heap.size #[I Z v,.bool false]):=jV F w.heap.size #[I Z 0,.bool false] #[I Z v,.bool false] 165 z rfl (by simp[Ni]);have Q:=aH t z;clear x C y u o D t z T U;go_wp2_with fail;have⟨x,C,y,u,o,D⟩:=HH.out;have⟨t,z⟩:=Q.out;have L:=u.keeps t;have M:∀b,b≠w.heap.size→(F.setRow w.heap.size #[I Z v,.bool false]).heap[b]?=F.heap[b]?:=fun b A=>So A;refine My (Oa (P:=Y) results179 _ _ w.heap.size 165 #[I Z v,.bool false] (0,0) _ rfl (Hw z #[I Z v,.bool false]) underlying165 rfl (by kernel_rfl)) rfl ⟨(.slice a h f),rfl,L.same fun b A=>M b fun e=>SG L z b A e,o,(M B (by have:=aB q;omega)).trans (aE t x),SH (D.trans (aF.of_below t _)) _⟩
end
section
open Go.RowKit Go.Shelf lin
theorem jJ.ne {L:List aZ} {y t:Nat} {cs:Array Ms} (n:jJ v L W) (f:t≠43) (g:W.heap[y]?=S (O cs t)):∀b,v.ownBlock=S b→b≠y:=fun b a e=>by
 subst e;obtain⟨⟨j,⟨rfl,k⟩|⟨o,h,i,rfl,l,c,d⟩⟩,m⟩:=n
 ·simp[Ny]at a
 ·simp[Ny]at a;subst a;rw[g]at c;simp at c;exact f c.2
theorem eT.ne {d b y t:Nat} {f:Int→Option Ms} {cs:Array Ms} (i:eT P d b n f W) (g:W.heap[y]?=S (O cs t)):b≠y:=fun e=>by subst e;obtain⟨j,⟨h,a,c,_⟩,_⟩:=i.ex;rw[g]at c;cases c
theorem fF.went {t:bO} (a:fF t) (i:Int):fF (t.went i).2.2:=by
 unfold bO.went;cases d:t.coming with
 |nil=>exact a
 |cons f b=>
  have c:b.length≤256:=by have:=a.cn;rw[d]at this;simp at this;omega
  simp only;split
  ·exact⟨a.right,a.mode,a.raw,a.lasts,a.ln,c⟩
  ·split
   ·exact⟨a.right,a.mode,a.raw,a.lasts,a.ln,c⟩
   ·exact⟨a.right,a.mode,a.raw,a.lasts,a.ln,c⟩
theorem SL {own:Nat→Prop} {t:bO} (ok:fF t) (i:Int) (w:Mr) (aa:dX B own t n w):Mt Y 179 #[.pointer (S ⟨B,0,N⟩),I Z i] w fun e d=>e=E (.agg #[I Z (t.went i).1,.bool (t.went i).2.1])∧dX B (fun b=>own b∨w.heap.size≤b) (t.went i).2.2 n d∧aF own w d:=by
 obtain⟨ab,P,vc,Q,U,V,h4,h5,m,R,z,A⟩:=id aa;unfold bO.went;cases C:t.coming with
 |nil=>obtain⟨T,h,l⟩:=A.slice;rw[C]at l;refine(ox i w m T h (by simpa using l)).mono fun e d ⟨D,g⟩=>⟨D,aa.same fun b o a=>⟨g.block b o,.inl a⟩,aF.of_below g _⟩
 |cons f a=>
  rw[C]at A;rcases A.cases with⟨_,y⟩|⟨F,h,l,v,c,q,k⟩
  ·simp at y
  rw[Np,Oc]at l c;have j:a.length≤256:=by have:=ok.cn;rw[C]at this;simp at this;omega
  have G:∀W,aC w W→(Mc ⟨F,0,N⟩ 0 8 #[]).run Y W=.ok #[I Z f.k,I Z f.r,I Z f.b,I Z f.d,I Z f.c,I Z f.ch,I Z f.bt,I Z f.vl] W:=fun W d=>
   lL W F 0 f.cells (fun s D g=>by
    have o:s<8:=by
     have:=(Oe.1 g).1
     rwa [aZ.cells_len]at this
    rw[Nat.zero_add,d.cell (p:=⟨F,s,N⟩) v];have:=k 0 s D (by simp) o (by simpa using g)
    simpa using this)
  have H:∀W T X,aC w W→(T=⟨F,8,N⟩∨(a.length=0∧T=⟨F,0,N⟩))→vY 8 (.slice (S T) a.length X) (a.map aZ.cells) W:=by
   rintro W T X d (r|⟨x,r⟩)
   ·refine .inr ⟨F,8,X,by rw[r,Np],Nj v d.size,fun s i D o u g=>?_⟩;have:=k (s+1) i D (by simp at o ⊢;omega) u (by simpa using g);rw[d.cell (p:=⟨F,8+(8*s+i),N⟩) v];rw[show 8+(8*s+i)=8*(s+1)+i by omega];exact this
   ·refine .inr ⟨F,0,X,by rw[r,Np],Nj v d.size,fun s i D o u g=>?_⟩;rw[Np,x]at o;omega
  have r:∀(J:Int) (K:Bool) (e:Ending) (d:Mr),(∃u,e=E (.agg #[I Z J,.bool K])∧jJ u a d∧(∀b,u.ownBlock=S b→w.heap.size≤b)∧d.heap[B]?=S (O #[I Z t.r,I Z t.s,I Z t.b,I Z t.d,I Z t.c,I Z t.m,.map (S ab),P,u] 124)∧aF (fun b=>b=B) w d)→
   e=E (.agg #[I Z J,.bool K])∧dX B (fun b=>own b∨w.heap.size≤b) {t with coming:=a} n d∧aF own w d:=by
   rintro J K e d ⟨u,D,L,x,M,s⟩;refine⟨D,⟨ab,P,u,.inl Q,.inl U,fun b g=>.inl (V b g),fun b g=>.inr (x b g),fun b g o=>?_,M,R.chg s (R.ne m),z.chg s (z.ne (by decide) m),L⟩,s.mono fun b _ g=>by rw[g];exact Q⟩;have:=z.lt b g;have:=x b o;omega
  simp only;by_cases g:f.k=7
  ·rw[Fp g];exact(oy i w m F a.length h l j c q f.k f.r f.b f.d f.c f.ch f.bt f.vl G a rfl H g).mono (r i true)
  ·rw[Fn g]
   cases o:eY t.r t.s t.b t.d t.c f.r f.b f.d f.c
   ·rw[Fn (by decide)];exact(SI i w m F a.length h l j c q f.k f.r f.b f.d f.c f.ch f.bt f.vl G a rfl H g _ (.inr ⟨o,rfl⟩)).mono (r i false)
   ·rw[Fp rfl];exact(SI i w m F a.length h l j c q f.k f.r f.b f.d f.c f.ch f.bt f.vl G a rfl H g _ (.inl ⟨o,rfl⟩)).mono (r _ false)
end
section
open Go.RowKit Go.Shelf lin
attribute [local go_sem] Oper.semAt_some Mh
attribute [local simp] Mf Mg
theorem dX.tight {own:Nat→Prop} {t:bO} (d:dX B own t n W):dX B (fun b=>own b∧b<W.heap.size) t n W:=d.same fun b a c=>⟨rfl,c,a⟩
theorem dX.mono {own own':Nat→Prop} {t:bO} {n':Nat} (c:dX B own t n W) (a:∀b,own b→own' b) (d:n≤n'):dX B own' t n' W:=by obtain⟨r,e,f,g,h,i,j,k,l,m,o,p⟩:=c;exact⟨r,e,f,a _ g,a _ h,fun q c=>a _ (i q c),fun q c=>a _ (j q c),k,l,m.mono d,o,p⟩
def bO.put (t:bO) (j:Int) (l:List Int):bO:={t with cells:=fun k=>if k=j then S l else t.cells k}
def bO.write (t:bO) (i:Int) (l:List Int):bO:=if(t.went i).2.1=true then(t.went i).2.2 else(t.went i).2.2.put (t.went i).1 l
theorem fF.put {t:bO} (b:fF t) (j:Int) {l:List Int} (c:l.length=72) (d:aX 72 l):fF (t.put j l):=
 ⟨b.right,b.mode,fun f g a=>by
  unfold bO.put at a;simp only at a;by_cases e:f=j
  ·rw[Fp e]at a;injection a with a;subst a;exact⟨c,d⟩
  ·rw[Fn e]at a;exact b.raw f g a,b.lasts,b.ln,b.cn⟩
theorem SN {t:bO} (ok:fF t) {i:Int} (a:0≤i∧i<8388608):0≤(t.went i).1∧(t.went i).1<8388608:=by
 unfold bO.went;cases d:t.coming with
 |nil=>exact a
 |cons f b=>
  simp only;split
  ·exact a
  ·split
   ·rename_i c;obtain⟨_,e,g,h,j,k,l,m,n⟩:=oV c;have:=cM ok.right;show 0≤dD f.r f.b f.d f.c∧dD f.r f.b f.d f.c<8388608;unfold dD;omega
   ·exact a
theorem oI {s c i:Int} (e:eC r s b d c i=true) (a:dF r s b d c=true):0≤i∧i<8388608:=by unfold eC at e;simp only[Nq,decide_eq_true_eq]at e;obtain⟨_,f,g,_⟩:=oV e.2;have:=cM a;omega
theorem jJ.row {L:List aZ} (m:jJ v L W) (g:Nat) (a:v.ownBlock=S g):∃d,W.heap[g]?=S (O d 43):=by
 obtain⟨⟨i,⟨rfl,j⟩|⟨k,f,b,rfl,h,e,c⟩⟩,l⟩:=m
 ·simp[Ny]at a
 ·simp[Ny]at a;subst a;exact⟨b,e⟩
theorem oz (W:Mr) (o:Obj) (b:Nat) (cs:Array Ms):aF (fun d=>d=b) W ((W.alloc o).setRow b cs):=⟨rfl,rfl,rfl,by simp[Mr.setRow],fun d a c=>(So c).trans (aV _ _ _ a)⟩
theorem pj {own:Nat→Prop} {t:bO} {n' s c:Nat} (h:dX B (fun b=>(own b∧b<s)∨c≤b) t n w2) (i:c=c) (j:s+1<c) (d:∀b,b<w2.heap.size→b≠s+1→W.heap[b]?=w2.heap[b]?) (f:n≤n'):dX B (fun b=>own b∨s≤b) t n' W:=(h.same (own':=fun b=>own b∨s≤b) fun b g a=>⟨d b g (fun e=>by rcases a with⟨_,a⟩|a<;>omega),by rcases a with⟨a,_⟩|a;exact .inl a;exact .inr (by omega)⟩).mono (fun _ h=>h) f
theorem pk {own:Nat→Prop} {t:bO} (ok:fF t) (hn:n<maxLen) (i:Int) (l:List Int) (hl:l.length=72) (w:Mr) (aa:dX B own t n w) (h:eC t.r t.s t.b t.d t.c i=true):Mt Y 193 #[.pointer (S ⟨B,0,N⟩),I Z i,.agg (aD .u8 l)] w fun e c=>e=E (.tuple #[.agg #[I Z (t.went i).1,.bool (t.went i).2.1],I Z 0])∧dX B (fun b=>own b∨w.heap.size≤b) (t.write i l) (n+1) c∧aF own w c:=by
 have ab:=oI h ok.right;obtain⟨G,a⟩:∃f,f=i/1048576:=⟨_,rfl⟩;obtain⟨H,c⟩:∃f,f=i/65536%16:=⟨_,rfl⟩;obtain⟨J,d⟩:∃f,f=i/64%1024:=⟨_,rfl⟩;obtain⟨L,g⟩:∃f,f=i%64:=⟨_,rfl⟩;have C1:=aA fun w=>EK h w;rw[←a,←c,←d,←g]at C1;have R:=aA (show t.write i l=if(t.went i).2.1=true then(t.went i).2.2 else(t.went i).2.2.put (t.went i).1 l from rfl);clear a c d g h;have c:=fun W (a:aC w W)=>SL ok i W (aa.tight.keeps a);have ad:=SN ok ab;have ae:=ok.went i;have⟨a,d⟩:=Ex (t.went i).1;have⟨x,f⟩:=Ex (t.went i).2.1;have⟨T,g⟩:=Ex (t.went i).2.2;rw[←d]at ad R c ⊢;rw[←f]at R c ⊢;rw[←g]at c ae R;have WN:=aA c;clear c d f g;obtain⟨bs,vl,vc,-,-,-,-,-,y,-,-,-⟩:=id aa;have c:((w.alloc (O (aD .u8 l) 79)).alloc (O #[I Z 0,.bool false] 165)).heap[B]?=S (O #[I Z t.r,I Z t.s,I Z t.b,I Z t.d,I Z t.c,I Z t.m,.map (S bs),vl,vc] 124):=by rw[aV _ _ _ (by have:=aB y;first|omega|(simp;omega)),aV _ _ _ (by have:=aB y;first|omega|(simp;omega))];exact y
 replace y:=c;clear c;have f:((w.alloc (O (aD .u8 l) 79)).alloc (O #[I Z 0,.bool false] 165)).heap[w.heap.size]?=S (O (aD .u8 l) 79):=gQ (by first|rfl|simp<;>omega|omega);have ar:((w.alloc (O (aD .u8 l) 79)).alloc (O #[I Z 0,.bool false] 165)).heap[w.heap.size+1]?=S (O #[I Z 0,.bool false] 165):=iH (by first|rfl|simp<;>omega|omega);have⟨h,j,p,m,q,r,u,s,v⟩:=oS y;have D:=fun ba=>Fw y ba;have Q:=aB y;simp at h j p m q r u s v;have U:=Lw f 72 (by rw[aP,hl]);have V:=aB f;have z:=aB ar;have c:=qB y;go_in;go_wp2_with fail;refine(C1.out _).mono ?_;rintro e g ⟨rfl,F⟩;clear c;clear h j p m q r u s v D Q U V z;replace y:g.heap[B]?=S (O #[I Z t.r,I Z t.s,I Z t.b,I Z t.d,I Z t.c,I Z t.m,.map (S bs),vl,vc] 124):=aE F y;replace f:g.heap[w.heap.size]?=S (O (aD .u8 l) 79):=aE F f;replace ar:g.heap[w.heap.size+1]?=S (O #[I Z 0,.bool false] 165):=aE F ar;have an:aC w g:=Kc (gH) F;have⟨h,j,p,m,q,r,u,s,v⟩:=oS y;have D:=fun ba=>Fw y ba;have Q:=aB y;simp at h j p m q r u s v;have U:=Lw f 72 (by rw[aP,hl]);have V:=aB f;have z:=aB ar;have SP:(Me ⟨g.heap.size,0,N⟩ [I Z G,I Z H,I Z J,I Z L] 0).run Y (g.alloc (O #[I Z 0,I Z 0,I Z 0,I Z 0] 41))=.ok () (g.alloc (O #[I Z G,I Z H,I Z J,I Z L] 41)):=Mi g 41 _ #[I Z G,I Z H,I Z J,I Z L] (by kernel_rfl) rfl (by simp[Ni]);go_wp2_with fail;have A:aC w (g.alloc (O #[I Z G,I Z H,I Z J,I Z L] 41)):=Ka an;refine(WN.out _ A).mono ?_;rintro e d ⟨rfl,C,c⟩;have bm:w.heap.size+1<g.heap.size:=z;have x2:d.heap[w.heap.size]?=S (O (aD .u8 l) 79):=aJ c ((aV _ _ _ (aB f)).trans f) (fun aa=>by have:=aa.2;omega);have y2:d.heap[w.heap.size+1]?=S (O #[I Z 0,.bool false] 165):=aJ c ((aV _ _ _ (aB ar)).trans ar) (fun aa=>by have:=aa.2;omega);have c2:aF own w d:=(aF.of_below A own).trans (c.mono fun b _ M=>M.1);have bb:g.heap.size+1≤d.heap.size:=by have:=c.size;simp at this;omega
 have S3:(Me ⟨d.heap.size,0,N⟩ [I Z a,.bool x] 0).run Y (d.alloc (O #[I Z 0,.bool false] 165))=.ok () (d.alloc (O #[I Z a,.bool x] 165)):=Mi d 165 _ #[I Z a,.bool x] (by kernel_rfl) rfl (by simp[Ni]);have X:=bT C c A c2;have M:(d.alloc (O #[I Z a,.bool x] 165)).heap[w.heap.size]?=S (O (aD .u8 l) 79):=(aV _ _ _ (aB x2)).trans x2;have o:(d.alloc (O #[I Z a,.bool x] 165)).heap[w.heap.size+1]?=S (O #[I Z 0,.bool false] 165):=(aV _ _ _ (aB y2)).trans y2;have k:(d.alloc (O #[I Z a,.bool x] 165)).heap[d.heap.size]?=S (O #[I Z a,.bool x] 165):=aG _ _ _ rfl;clear h j p m q r u s v D Q U V z y f ar x2 y2 C c A c2 SP;cases x
 ·skip
  obtain⟨U,ar,av,y,r,z,A,Q,p,q,C,D⟩:=id X.out.1;have m:(d.alloc (O #[I Z a,.bool false] 165)).heap[B]?=_:=(aV _ _ _ (aB p)).trans p;have u:=Cw m 6;simp at u;have zB:=aB m;have zP:=aB k;have zX:=aB M;have g0:(d.alloc (O #[I Z a,.bool false] 165)).cell? ⟨d.heap.size,0,N⟩=S (I Z a):=Cw k 0;have g1:(d.alloc (O #[I Z a,.bool false] 165)).cell? ⟨d.heap.size,1,N⟩=S (.bool false):=Cw k 1;have LX:∀c,aC (d.alloc (O #[I Z a,.bool false] 165)) c→(Mc ⟨w.heap.size,0,N⟩ 0 72 #[]).run Y c=.ok (aD .u8 l) c:=fun c aa=>fJ c _ _ 79 (0,0) (aE aa M) 72 (by rw[aP,hl]);have h:eT Y 3 U n (fun bn=>(T.cells bn).map eJ) (d.alloc (O #[I Z a,.bool false] 165)):=q.keeps aU;have HF:=aA (Ai o (Ai k (Ai h (Ai p (Ai y (Ai r (Ai z (Ai A (Ai Q (Ai C (Ai D q)))))))))));clear o k h m y r z A Q p q C D;go_wp2_with fail;have HU:=aA (show aC d (d.alloc (O #[I Z a,.bool false] 165)) from aU);clear S3;generalize(d.alloc (O #[I Z a,.bool false] 165))=U3 at*;refine wpIn_wide.1 (vM (n:=9) 7 (by kernel_rfl) (by kernel_rfl) ?_);simp only[List.drop_succ_cons,List.drop_zero,List.take_succ_cons,List.take_zero]
  repeat
   with_reducible refine Mz fun K h=>?_
   go_simp
   try first
    |(apply Ei
      intro c f;obtain⟨j,k⟩:=f.cells;go_simp
      rfl)
    |(with_reducible refine aQ ?_ ?_;decide)
   refine h _ ?_;clear h K
  with_reducible refine Na ?_
  intro w9 f;have⟨o,k,h,p,y,r,z,A,Q,C,D,q⟩:=HF.out;obtain⟨V,bd,s,j⟩:=(h.keeps f).update underlying3 underlying117 hn (show bN a by unfold bN;omega) (.agg (aD .u8 l));have c:=aJ j (aE f o) fun e=>(h.keeps f).ne (aE f o) e.symm;have v:=aJ j (aE f k) fun e=>(h.keeps f).ne (aE f k) e.symm;have L5:=Lw v 2 rfl;have SY:(Me ⟨w.heap.size+1,0,N⟩ [I Z a,.bool false] 0).run Y V=.ok () (V.setRow (w.heap.size+1) #[I Z a,.bool false]):=jV V (w.heap.size+1) #[I Z 0,.bool false] #[I Z a,.bool false] 165 c rfl (by simp[Ni]);have br:=Hw c #[I Z a,.bool false];have HG:=Hd3 f s j;clear o k h y r z A Q p q C D f s j c v LX g0 g1 u M;gi_wp2_with fail;go_wp2_with fail;refine My (lin.iF (P:=Y) results193 _ _ (w.heap.size+1) 165 #[I Z a,.bool false] (0,0) _ rfl br underlying165 rfl (by kernel_rfl)) rfl ⟨rfl,?_,?_⟩
  ·rw[show t.write i l=T.put a l from R.out.trans (by simp)]
   have⟨o,k,h,p,y,r,z,A,Q,C,D,q⟩:=HF.out;have⟨f,s,j⟩:=HG.out
   have c:∀b,((own b∧b<w.heap.size)∨(g.alloc (O #[I Z G,I Z H,I Z J,I Z L] 41)).heap.size≤b)→(own b∨w.heap.size≤b)∧b≠w.heap.size+1:=fun b M=>by
    have:(g.alloc (O #[I Z G,I Z H,I Z J,I Z L] 41)).heap.size=g.heap.size+1:=by simp
    rcases M with⟨m,u⟩|m
    ·exact⟨.inl m,by omega⟩
    ·exact⟨.inr (by omega),by omega⟩
   have v:∀b ba,d.heap[b]?=S ba→b≠w.heap.size+1→b≠U→(V.setRow (w.heap.size+1) #[I Z a,.bool false]).heap[b]?=S ba:=fun b ba M m u=>(So m).trans (aJ j (aE f (aE HU.out M)) u);refine⟨U,ar,av,(c _ y).1,(c _ r).1,fun M u=>(c _ (z M u)).1,fun M u=>(c _ (A M u)).1,Q,v B _ p (c _ y).2 (fun e=>q.ne p e.symm),?_,C.same fun M u=>?_,D.same fun M u=>?_⟩
   ·have m:(fun bn=>((T.put a l).cells bn).map eJ)=fun ba=>if ba=a then S (.agg (aD .u8 l))else(T.cells ba).map eJ:=by
     funext bn;unfold bO.put;simp only;split<;>rfl
    rw[m];exact s.same (So (c _ r).2)
   ·obtain⟨cs,m⟩:=C.row M u;exact(v M _ m (c _ (z M u)).2 (fun e=>q.ne m e.symm)).trans m.symm
   ·obtain⟨cs,m⟩:=D.row M u;exact(v M _ m (c _ (A M u)).2 (fun e=>q.ne m e.symm)).trans m.symm
  ·have⟨o,k,h,p,y,r,z,A,Q,C,D,q⟩:=HF.out
   have⟨f,s,j⟩:=HG.out;have hA:(g.alloc (O #[I Z G,I Z H,I Z J,I Z L] 41)).heap.size=g.heap.size+1:=by simp
   refine X.out.2.2.2.next (cw':=fun b=>b=U∨b=w.heap.size+1) ?_ fun b e=>?_
   ·have c:aF (fun b=>b=U∨b=w.heap.size+1) d V:=(aF.of_below (Kc HU.out f) _).trans (j.mono fun b _ aa=>.inl aa);exact c.trans ⟨rfl,rfl,rfl,by simp[Mr.setRow],fun b _ hn=>So fun e=>hn (.inr e)⟩
   ·rcases e with e|e
    ·subst e;rcases r with⟨m,_⟩|m;exact .inl m;exact .inr (by omega)
    ·exact .inr (by omega)
 ·skip
  have f:=Lw k 2 rfl;have SY:(Me ⟨w.heap.size+1,0,N⟩ [I Z a,.bool true] 0).run Y (d.alloc (O #[I Z a,.bool true] 165))=.ok () ((d.alloc (O #[I Z a,.bool true] 165)).setRow (w.heap.size+1) #[I Z a,.bool true]):=jV (d.alloc (O #[I Z a,.bool true] 165)) (w.heap.size+1) #[I Z 0,.bool false] #[I Z a,.bool true] 165 o rfl (by simp[Ni]);have br:=Hw o #[I Z a,.bool true];clear M o k;go_wp2_with fail;refine My (lin.iF (P:=Y) results193 _ _ (w.heap.size+1) 165 #[I Z a,.bool true] (0,0) _ rfl br underlying165 rfl (by kernel_rfl)) rfl ⟨rfl,?_,?_⟩
  ·rw[show t.write i l=T from R.out.trans (by simp)];exact pj X.out.1 rfl (by simp;omega) (fun b M c=>(So c).trans (aV _ _ _ M)) (Nu _)
  ·exact X.out.2.2.2.next (cw':=fun b=>b=w.heap.size+1) (oz _ _ _ _) fun b e=>.inr (by omega)
def bO.read (t:bO) (i:Int):List Int:=if(t.went i).2.1=true then kD else(t.went i).2.2.look (t.went i).1
theorem bO.look_len {t:bO} (a:fF t) (i:Int):(t.look i).length=72:=by unfold bO.look;rw[JD,a.at_len]
theorem wA {s c pr pb pd pc:Int} (m:eY r s b d c pr pb pd pc=true):eC r s b d c (dD pr pb pd pc)=true:=by
 obtain⟨a,e,n,f,o,g,p,h,q⟩:=oV m;have t:=cM a;obtain⟨i,j,k,l⟩:=sY (pr:=pr) (pb:=pb) (pd:=pd) (pc:=pc) e f (by omega) g (by omega) h (by omega);unfold eC;rw[i,j,k,l,m];have:0≤dD pr pb pd pc:=by unfold dD;omega
 simp[this]
theorem pm {t:bO} {i:Int} (a:eC t.r t.s t.b t.d t.c i=true):eC (t.went i).2.2.r (t.went i).2.2.s (t.went i).2.2.b (t.went i).2.2.d (t.went i).2.2.c (t.went i).1=true:=by
 unfold bO.went;cases d:t.coming with
 |nil=>exact a
 |cons f b=>
  simp only;split
  ·exact a
  ·split
   ·rename_i c;exact wA c
   ·exact a
theorem SO {fn:Func} {p q u:Tmp} {c a:TypeId} (A:fn.results=#[.cell p c,.cell q a,.tmp u]) (tmps:Array Ms) (w:Mr) (g:Nat) (t:TypeId) (cs:Array Ms) (fr:Nat×Nat) (d:TypeDesc)
 (e:Nat) (r:TypeId) (b:Array Ms) (f:Nat×Nat) (h:TypeDesc)
 (s:tmps.getD p Mv=.pointer (S ⟨g,0,N⟩)) (v:w.heap[g]?=S (O cs t fr))
 (x:P.underlying c=S d) (y:(match d with|.struct _|.array _ _=>true|_=>false)=true) (z:(P.info? c).map (·.size)=S cs.size)
 (i:tmps.getD q Mv=.pointer (S ⟨e,0,N⟩)) (j:w.heap[e]?=S (O b r f))
 (k:P.underlying a=S h) (l:(match h with|.struct _|.array _ _=>true|_=>false)=true) (m:(P.info? a).map (·.size)=S b.size):
 (results fn tmps).run P w=.ok (.tuple #[.agg cs,.agg b,tmps.getD u Mv]) w:=by
 have n:tmps[p]?.getD Mv=.pointer (S ⟨g,0,N⟩):=by simpa using s
 have o:tmps[q]?.getD Mv=.pointer (S ⟨e,0,N⟩):=by simpa using i
 simp[results,A,n,o,asAddr,run_loadVar_row w g t c cs fr d v x y z,run_loadVar_row w e r a b f h j k l m]
theorem JY (g:aC w2 W) (b c:Nat) (cs a:Array Ms):aF (fun f=>f=b∨f=c) w2 ((W.setRow b cs).setRow c a):=(aF.of_below g _).trans ⟨rfl,rfl,rfl,by simp[Mr.setRow],fun f _ d=>(So fun e=>d (.inr e)).trans (So fun e=>d (.inl e))⟩
theorem SS {own:Nat→Prop} {t:bO} {s d:Nat} {cs c:Array Ms} (h:dX B (fun b=>(own b∧b<s)∨d≤b) t n w2) (g:s+1<d) (e:aC w2 W):dX B (fun b=>own b∨s≤b) t n ((W.setRow s cs).setRow (s+1) c):=h.same (own':=fun b=>own b∨s≤b) fun b f a=>⟨(So (by rcases a with⟨_,a⟩|a<;>omega)).trans ((So (by rcases a with⟨_,a⟩|a<;>omega)).trans (e.block b f)),by rcases a with⟨a,_⟩|a;exact .inl a;exact .inr (by omega)⟩
theorem po {own:Nat→Prop} {t:bO} (ok:fF t) (i:Int) (w:Mr) (ad:dX B own t n w) (g:eC t.r t.s t.b t.d t.c i=true):Mt Y 134 #[.pointer (S ⟨B,0,N⟩),I Z i] w fun e a=>e=E (.tuple #[eJ (t.read i),.agg #[I Z (t.went i).1,.bool (t.went i).2.1],I Z 0])∧dX B (fun b=>own b∨w.heap.size≤b) (t.went i).2.2 n a∧aF own w a:=by
 obtain⟨L,a⟩:∃j,j=i/1048576:=⟨_,rfl⟩;obtain⟨M,c⟩:∃j,j=i/65536%16:=⟨_,rfl⟩;obtain⟨Q,d⟩:∃j,j=i/64%1024:=⟨_,rfl⟩;obtain⟨R,f⟩:∃j,j=i%64:=⟨_,rfl⟩;have C1:=aA fun w=>EK g w;rw[←a,←c,←d,←f]at C1;have H:=aA (show t.read i=if(t.went i).2.1=true then kD else(t.went i).2.2.look (t.went i).1 from rfl);have F:=pm g;clear a c d f g;have c:=fun W (a:aC w W)=>SL ok i W (ad.tight.keeps a);have G:=ok.went i;have⟨a,d⟩:=Ex (t.went i).1;have⟨m,f⟩:=Ex (t.went i).2.1;have⟨t2,g⟩:=Ex (t.went i).2.2;rw[←d]at F H c ⊢;rw[←f]at H c ⊢;rw[←g]at F c G H ⊢;have WN:=aA c;clear c d f g;obtain⟨ar,vl,vc,-,-,-,-,-,T,-,-,-⟩:=id ad;have c:((w.alloc (O zeroCells79 79)).alloc (O #[I Z 0,.bool false] 165)).heap[B]?=S (O #[I Z t.r,I Z t.s,I Z t.b,I Z t.d,I Z t.c,I Z t.m,.map (S ar),vl,vc] 124):=by rw[aV _ _ _ (by have:=aB T;first|omega|(simp;omega)),aV _ _ _ (by have:=aB T;first|omega|(simp;omega))];exact T
 replace T:=c;clear c;have j:((w.alloc (O zeroCells79 79)).alloc (O #[I Z 0,.bool false] 165)).heap[w.heap.size]?=S (O zeroCells79 79):=gQ (by first|rfl|simp<;>omega|omega);have ab:((w.alloc (O zeroCells79 79)).alloc (O #[I Z 0,.bool false] 165)).heap[w.heap.size+1]?=S (O #[I Z 0,.bool false] 165):=iH (by first|rfl|simp<;>omega|omega);have⟨k,l,r,s,z,C,D,J,K⟩:=oS T;have U:=fun c=>Fw T c;have V:=aB T;simp at k l r s z C D J K;have X:=Lw j 72 (nQ);have A:=aB j;have v:=aB ab;have c:=qB T;go_in;go_wp2_with fail;refine(C1.out _).mono ?_;rintro e o ⟨rfl,y⟩;clear c;clear k l r s z C D J K U V X A v;replace T:o.heap[B]?=S (O #[I Z t.r,I Z t.s,I Z t.b,I Z t.d,I Z t.c,I Z t.m,.map (S ar),vl,vc] 124):=aE y T;replace j:o.heap[w.heap.size]?=S (O zeroCells79 79):=aE y j;replace ab:o.heap[w.heap.size+1]?=S (O #[I Z 0,.bool false] 165):=aE y ab;have aa:aC w o:=Kc (gH) y;have⟨k,l,r,s,z,C,D,J,K⟩:=oS T;have U:=fun c=>Fw T c;have V:=aB T;simp at k l r s z C D J K;have X:=Lw j 72 (nQ);have A:=aB j;have v:=aB ab;have SP:(Me ⟨o.heap.size,0,N⟩ [I Z L,I Z M,I Z Q,I Z R] 0).run Y (o.alloc (O #[I Z 0,I Z 0,I Z 0,I Z 0] 41))=.ok () (o.alloc (O #[I Z L,I Z M,I Z Q,I Z R] 41)):=Mi o 41 _ #[I Z L,I Z M,I Z Q,I Z R] (by kernel_rfl) rfl (by simp[Ni]);go_wp2_with fail;have kk:aC w (o.alloc (O #[I Z L,I Z M,I Z Q,I Z R] 41)):=Ka aa;refine(WN.out _ kk).mono ?_;rintro e f ⟨rfl,q,h⟩;have ae:w.heap.size+1<o.heap.size:=v;have x2:f.heap[w.heap.size]?=S (O zeroCells79 79):=aJ h ((aV _ _ _ (aB j)).trans j) (fun ad=>by have:=ad.2;omega);have y2:f.heap[w.heap.size+1]?=S (O #[I Z 0,.bool false] 165):=aJ h ((aV _ _ _ (aB ab)).trans ab) (fun ad=>by have:=ad.2;omega);have c2:aF own w f:=(aF.of_below kk own).trans (h.mono fun b _ c=>c.1);have u:o.heap.size+1≤f.heap.size:=by have:=h.size;simp at this;omega
 have S3:(Me ⟨f.heap.size,0,N⟩ [I Z a,.bool m] 0).run Y (f.alloc (O #[I Z 0,.bool false] 165))=.ok () (f.alloc (O #[I Z a,.bool m] 165)):=Mi f 165 _ #[I Z a,.bool m] (by kernel_rfl) rfl (by simp[Ni]);have c:(f.alloc (O #[I Z a,.bool m] 165)).heap[w.heap.size]?=S (O zeroCells79 79):=(aV _ _ _ (aB x2)).trans x2;have g:(f.alloc (O #[I Z a,.bool m] 165)).heap[w.heap.size+1]?=S (O #[I Z 0,.bool false] 165):=(aV _ _ _ (aB y2)).trans y2;have d:(f.alloc (O #[I Z a,.bool m] 165)).heap[f.heap.size]?=S (O #[I Z a,.bool m] 165):=aG _ _ _ rfl;have x:aC f (f.alloc (O #[I Z a,.bool m] 165)):=aU;have p:=nF q c2 x c g d u;have g1:(f.alloc (O #[I Z a,.bool m] 165)).cell? ⟨f.heap.size,1,N⟩=S (.bool m):=Cw d 1;clear k l r s z C D J K U V X A v T j ab x2 y2 q h kk c2 x SP c g d;cases m
 ·skip
  obtain⟨q,-,x,c,g,d,u⟩:=p.out;have g0:(f.alloc (O #[I Z a,.bool false] 165)).cell? ⟨f.heap.size,0,N⟩=S (I Z a):=Cw d 0;have LK:=aA (SC G a (f.alloc (O #[I Z a,.bool false] 165)) (q.keeps x));clear q x c g d;go_wp2_with fail;refine LK.out.mono ?_;rintro e k ⟨he,r⟩;rw[Fp F]at he;subst he;obtain⟨-,-,x,c,g,d,-⟩:=p.out;have T:=aE r c;have U:=aE r g;have pw:=aE r d;have⟨h,z⟩:=Ex (t2.look a);have ab:h.length=72:=by rw[z];exact bO.look_len G _
  have HE:=aA z;rw[←z];unfold eJ;have V:=aA (show aC f (k.alloc (O (aD .u8 h) 79)) from Ka (Kc x r));clear z c g d r LK g0 S3;have an:f.heap.size<k.heap.size:=aB pw;have s:(aD .u8 h).size=72:=by rw[aP,ab]
  have S5:(Me ⟨k.heap.size,0,N⟩ (aD .u8 h).toList 0).run Y (k.alloc (O zeroCells79 79))=.ok () (k.alloc (O (aD .u8 h) 79)):=Mi k 79 _ (aD .u8 h) (by rw[s];kernel_rfl) (nQ.trans s.symm) (dG _ _);have c:(k.alloc (O (aD .u8 h) 79)).heap[w.heap.size]?=S (O zeroCells79 79):=(aV _ _ _ (aB T)).trans T;have g:(k.alloc (O (aD .u8 h) 79)).heap[w.heap.size+1]?=S (O #[I Z 0,.bool false] 165):=(aV _ _ _ (aB U)).trans U;have d:(k.alloc (O (aD .u8 h) 79)).heap[f.heap.size]?=S (O #[I Z a,.bool false] 165):=(aV _ _ _ (aB pw)).trans pw;have C:(k.alloc (O (aD .u8 h) 79)).heap[k.heap.size]?=S (O (aD .u8 h) 79):=aG _ _ _ rfl;have X:=bT c g d C;clear c g d C T U pw x;go_wp2_with fail;clear S5;generalize(k.alloc (O (aD .u8 h) 79))=j at*;have⟨c,g,d,C⟩:=X.out;have l:aC j j.drew:=Kd Kr;replace c:=aE l c;replace g:=aE l g;replace d:=aE l d;replace C:=aE l C;have J:=aA (Kc V.out l);clear l;have L3:=Lw d 2 rfl;have L4:=Lw C 72 s;have L5:=fJ (P:=Y) (j.drew.setRow w.heap.size (aD .u8 h)) f.heap.size _ 165 (0,0) ((So (by omega)).trans d) 2 rfl;have A:=aB c;have v:=aB g;have SX:(Me ⟨w.heap.size,0,N⟩ (aD .u8 h).toList 0).run Y j.drew=.ok () (j.drew.setRow w.heap.size (aD .u8 h)):=jV j.drew w.heap.size _ (aD .u8 h) 79 c (nQ.trans s.symm) (dG _ _);have K:=Hw c (aD .u8 h);have D:(j.drew.setRow w.heap.size (aD .u8 h)).heap[w.heap.size+1]?=S (O #[I Z 0,.bool false] 165):=(So (by omega)).trans g;have SY:(Me ⟨w.heap.size+1,0,N⟩ [I Z a,.bool false] 0).run Y (j.drew.setRow w.heap.size (aD .u8 h))=.ok () ((j.drew.setRow w.heap.size (aD .u8 h)).setRow (w.heap.size+1) #[I Z a,.bool false]):=jV (j.drew.setRow w.heap.size (aD .u8 h)) (w.heap.size+1) #[I Z 0,.bool false] #[I Z a,.bool false] 165 D rfl (by simp[Ni]);have V2:=Hw D #[I Z a,.bool false];have V1:((j.drew.setRow w.heap.size (aD .u8 h)).setRow (w.heap.size+1) #[I Z a,.bool false]).heap[w.heap.size]?=_:=(So (by omega)).trans K;clear c g d C K D A v;go_region
  go_wp2_with fail;refine My (SO (P:=Y) results134 _ _ w.heap.size 79 (aD .u8 h) (0,0) (.array 72 5) (w.heap.size+1) 165 #[I Z a,.bool false] (0,0) _ rfl V1 (by kernel_rfl) rfl (by rw[s];kernel_rfl) rfl V2 underlying165 rfl (by kernel_rfl)) rfl ⟨?_,?_,?_⟩
  ·rw[show t.read i=t2.look a from H.out.trans (by simp),←HE.out];rfl
  ·exact SS p.out.1 (by have c:=p.out.2.2.2.1;simp;omega) J.out
  ·exact p.out.2.1.next (cw':=fun b=>b=w.heap.size∨b=w.heap.size+1) (JY J.out _ _ _ _) fun b e=>.inr (by omega)
 ·skip
  obtain⟨-,-,-,c,g,d,u⟩:=p.out;have X:=Hd3 c g d;have V:=aA p.out.2.2.1;clear c g d;go_wp2_with fail;clear S3;generalize(f.alloc (O #[I Z a,.bool true] 165))=j at*;have⟨c,g,d⟩:=X.out;have l:aC j j.drew:=Kd Kr;replace c:=aE l c;replace g:=aE l g;replace d:=aE l d;have J:=aA (Kc V.out l);clear l;have L3:=Lw d 2 rfl;have L5:=fJ (P:=Y) (j.drew.setRow w.heap.size zeroCells79) f.heap.size _ 165 (0,0) ((So (by omega)).trans d) 2 rfl;have A:=aB c;have v:=aB g;have SX:(Me ⟨w.heap.size,0,N⟩ zeroCells79.toList 0).run Y j.drew=.ok () (j.drew.setRow w.heap.size zeroCells79):=jV j.drew w.heap.size _ zeroCells79 79 c (rfl) S8;have K:=Hw c zeroCells79;have D:(j.drew.setRow w.heap.size zeroCells79).heap[w.heap.size+1]?=S (O #[I Z 0,.bool false] 165):=(So (by omega)).trans g;have SY:(Me ⟨w.heap.size+1,0,N⟩ [I Z a,.bool true] 0).run Y (j.drew.setRow w.heap.size zeroCells79)=.ok () ((j.drew.setRow w.heap.size zeroCells79).setRow (w.heap.size+1) #[I Z a,.bool true]):=jV (j.drew.setRow w.heap.size zeroCells79) (w.heap.size+1) #[I Z 0,.bool false] #[I Z a,.bool true] 165 D rfl (by simp[Ni]);have V2:=Hw D #[I Z a,.bool true];have V1:((j.drew.setRow w.heap.size zeroCells79).setRow (w.heap.size+1) #[I Z a,.bool true]).heap[w.heap.size]?=_:=(So (by omega)).trans K;clear c g d K D A v;go_region
  go_wp2_with fail;refine My (SO (P:=Y) results134 _ _ w.heap.size 79 zeroCells79 (0,0) (.array 72 5) (w.heap.size+1) 165 #[I Z a,.bool true] (0,0) _ rfl V1 (by kernel_rfl) rfl (by rw[nQ];kernel_rfl) rfl V2 underlying165 rfl (by kernel_rfl)) rfl ⟨?_,?_,?_⟩
  ·rw[show t.read i=kD from H.out.trans (by simp)];unfold eJ;rw[←tP];rfl
  ·exact SS p.out.1 (by have c:=p.out.2.2.2.1;simp;omega) J.out
  ·exact p.out.2.1.next (cw':=fun b=>b=w.heap.size∨b=w.heap.size+1) (JY J.out _ _ _ _) fun b e=>.inr (by omega)
end
section
def aR.sp (t:aR) (a:Int):Int:=if t.spareB a=true then t.spareV a else a
def aR.pr (t:aR) (p:Int):Int:=jY t.way t.r t.b t.d p
def aR.pb (t:aR) (p:Int):Int:=jZ t.way t.r t.b t.d p
def aR.pw (t:aR) (p:Int):Int:=jP t.way t.r t.b t.d p
theorem dA.geo (ok:dA t):dF t.r t.s t.b t.d t.c=true:=(eE (eM ok.right).1).1
theorem dA.ph (ok:dA t) {p:Int} (h:0≤p):t.ph p=16384*t.pr p+1024*t.pb p+t.pw p∧0≤t.pr p∧t.pr p<t.r∧0≤t.pb p∧t.pb p<t.b∧0≤t.pw p∧t.pw p<t.d∧t.ph p/16384=t.pr p:=by have i:=cM ok.geo;obtain⟨a,b,c,d,f,g,_,_⟩:=vT ok.geo t.way p h;have e:t.ph p=16384*t.pr p+1024*t.pb p+t.pw p:=rfl;have a:0≤t.pr p:=a;have b:t.pr p<t.r:=b;have c:0≤t.pb p:=c;have d:t.pb p<t.b:=d;have f:0≤t.pw p:=f;have g:t.pw p<t.d:=g;refine⟨e,a,b,c,d,f,g,?_⟩;omega
theorem dA.lie (ok:dA t) {p:Int} (a:0≤p):t.lie p=16384*t.sp (t.pr p)+1024*t.pb p+t.pw p:=by obtain⟨e,b,c,d,f,g,h,i⟩:=ok.ph a;unfold aR.lie aR.sp;rw[i];split<;>omega
theorem dA.sp (ok:dA t) (d:0≤a) (f:a<t.r):0≤t.sp a∧t.sp a<t.r+t.s∧(t.spareB a=true→t.r≤t.sp a∧t.sp a<t.r+t.ranks∧t.sp a=t.spares.getD a.toNat 0)∧(t.spareB a=false→t.sp a=a):=by
 have g:=cM ok.geo;have h:=ok.r1;by_cases e:t.spareB a=true
 ·obtain⟨i,j,_,_⟩:=EH ok e
  have b:t.sp a=t.spareV a:=by unfold aR.sp;rw[Fp e]
  have k:t.spareV a=t.spares.getD a.toNat 0:=by unfold aR.spareV;rw[Fp e]
  exact⟨by omega,by omega,fun _=>⟨by omega,by omega,by omega⟩,fun c=>by rw[e]at c;exact absurd c (by decide)⟩
 ·have b:t.sp a=a:=by unfold aR.sp;rw[Fn e]
  exact⟨by omega,by omega,fun c=>absurd c e,fun _=>b⟩
def aW.eh (x:aW) (l:Int):Int:=if x.k=1∧x.t.home l=x.f∧l%x.t.c<x.n then x.g else x.t.home l
def aW.er (x:aW) (l:Int):Int:=if x.k=2∧x.t.rk l=x.f∧fK x.t.d x.t.c (x.t.ix l)<x.n then x.g else x.t.sp (x.t.pr (x.eh l))
def aW.route (x:aW) (l:Int):Int:=x.t.route x.k x.f x.g x.n l
def aW.has (x:aW) (l:Int):Prop:=bel l (x.t.seen*x.t.c)=true
theorem cV.eh (d:cV x) (a:x.has l):0≤x.eh l∧x.eh l<cU x.t.r x.t.s x.t.b x.t.d x.t.c:=by
 obtain⟨b,c,_⟩:=pZ d.ok a;unfold aW.eh;split
 ·rename_i e;obtain⟨f,g,_⟩:=d.pg e.1;have:=d.ok.bd;omega
 ·exact⟨b,c⟩
theorem cV.col (b:cV x) (l:Int):0≤l%x.t.c∧l%x.t.c<x.t.c∧x.t.c≤64:=by have a:=cM b.ok.geo;exact⟨Int.emod_nonneg l (by omega),Int.emod_lt_of_pos l (by omega),by omega⟩
theorem cV.rk (b:cV x) (a:x.has l):x.t.rk l=x.t.pr (x.t.home l):=(b.ok.ph (pZ b.ok a).1).2.2.2.2.2.2.2
theorem BF (ok:dA t) (a:bel l (t.seen*t.c)=true):t.ix l=dD (t.sp (t.pr (t.home l))) (t.pb (t.home l)) (t.pw (t.home l)) (l%t.c):=by show t.lie (t.home l)*64+l%t.c=_;rw[ok.lie (pZ ok a).1];unfold dD;omega
theorem SW (ok:dA t) {i:Int} (c:0≤a) (e:0≤b) (f:b<16) (g:0≤d) (h:d<1024) (j:0≤i) (k:i<64):fK t.d t.c (dD a b d i)=(b*t.d+d)*t.c+i:=by obtain⟨_,l,m,n⟩:=sY c e f g h j k;unfold fK;rw[l,m,n]
theorem JZ (ok:dA t) {i:Int} (m:0≤b) (c:0≤d) (e:d<t.d) (f:0≤i) (g:i<t.c):tN t.d t.c a ((b*t.d+d)*t.c+i)=dD a b d i:=by
 have n:=cM ok.geo;have h:((b*t.d+d)*t.c+i)/t.c=b*t.d+d:=by rw[Int.add_comm,Int.add_mul_ediv_right _ _ (by omega),Int.ediv_eq_zero_of_lt f g,Int.zero_add]
 have j:((b*t.d+d)*t.c+i)%t.c=i:=by rw[Int.add_comm,Int.add_mul_emod_self_right,Int.emod_eq_of_lt f g]
 have k:(b*t.d+d)/t.d=b:=by rw[Int.add_comm,Int.add_mul_ediv_right _ _ (by omega),Int.ediv_eq_zero_of_lt c e,Int.zero_add]
 have l:(b*t.d+d)%t.d=d:=by rw[Int.add_comm,Int.add_mul_emod_self_right,Int.emod_eq_of_lt c e]
 unfold tN;rw[h,j,k,l]
theorem cV.form (j:cV x) (i:x.has l):x.route l=dD (x.er l) (x.t.pb (x.eh l)) (x.t.pw (x.eh l)) (l%x.t.c):=by
 have o:=pZ j.ok i;obtain⟨k,p,t⟩:=j.col l;have u:=cM j.ok.geo;have a:=BF j.ok i;unfold aW.route aR.route;by_cases f:x.k=1
 ·have d:x.er l=x.t.sp (x.t.pr (x.eh l)):=by unfold aW.er;rw[Fn (by rw[f];rintro⟨b,_⟩;exact absurd b (by decide))]
  rw[d];by_cases g:x.t.home l=x.f
  ·rw[Fp ⟨f,g⟩]
   by_cases b:l%x.t.c<x.n
   ·have c:x.eh l=x.g:=by unfold aW.eh;rw[Fp ⟨f,g,b⟩]
    have:=j.eh i;rw[Fp b,c];show x.t.lie x.g*64+_=_;rw[j.ok.lie (by omega)];unfold dD;omega
   ·have c:x.eh l=x.t.home l:=by unfold aW.eh;rw[Fn fun h=>b h.2.2]
    rw[Fn b,c];exact a
  ·have c:x.eh l=x.t.home l:=by unfold aW.eh;rw[Fn fun h=>g h.2.1]
   rw[Fn fun h=>g h.2,Fn (by rw[f];rintro⟨b,_⟩;exact absurd b (by decide)),c];exact a
 ·have c:x.eh l=x.t.home l:=by unfold aW.eh;rw[Fn fun h=>f h.1]
  rw[Fn fun h=>f h.1,c];by_cases g:x.k=2∧x.t.rk l=x.f
  ·rw[Fp g]
   by_cases b:fK x.t.d x.t.c (x.t.ix l)<x.n
   ·have d:x.er l=x.g:=by unfold aW.er;rw[Fp ⟨g.1,g.2,b⟩]
    obtain⟨e,q,r,m,v,n,s,h⟩:=j.ok.ph o.1;rw[Fp b,d];show(if(2:Int)=2 then tN x.t.d x.t.c x.g (fK x.t.d x.t.c (x.t.ix l))else _)=_;rw[Fp rfl,a,SW j.ok (j.ok.sp q r).1 m (by omega) n (by omega) k (by omega),JZ j.ok m n s k p]
   ·have d:x.er l=x.t.sp (x.t.pr (x.eh l)):=by unfold aW.er;rw[Fn fun h=>b h.2.2]
    rw[Fn b,d,c];exact a
  ·have d:x.er l=x.t.sp (x.t.pr (x.eh l)):=by unfold aW.er;rw[Fn fun h=>g ⟨h.1,h.2.1⟩]
   rw[Fn g,d,c];exact a
theorem cV.er (c:cV x) (d:x.has l):0≤x.er l∧x.er l<x.t.r+x.t.s:=by
 have f:=c.eh d;obtain⟨e,a,b,_⟩:=c.ok.ph f.1;unfold aW.er;split
 ·rename_i h;have:=c.rg h.1;have:=c.ok.r1;have g:=cM c.ok.geo;omega
 ·exact⟨(c.ok.sp a b).1,(c.ok.sp a b).2.1⟩
theorem cV.at (c:cV x) (a:x.has l):eC x.t.r x.t.s x.t.b x.t.d x.t.c (x.route l)=true:=by have d:=c.eh a;obtain⟨e,m,n,f,g,h,i,p⟩:=c.ok.ph d.1;obtain⟨j,k,o⟩:=c.col l;have b:=c.er a;rw[c.form a];exact wA (zJ c.ok.geo b.1 b.2 f g h i j k)
theorem SZ (g:cV x) (h:0≤a) (i:a<x.t.r) (j:0≤b) (k:b<x.t.r) (e:x.t.sp a=x.t.sp b):a=b:=by
 obtain⟨_,_,l,m⟩:=g.ok.sp h i;obtain⟨_,_,d,b3⟩:=g.ok.sp j k;have q:=g.ok.spares;by_cases f:x.t.spareB a=true
 ·obtain⟨r,s,t⟩:=l f
  by_cases c:x.t.spareB b=true
  ·obtain⟨n,o,p⟩:=d c;have:=g.si a.toNat b.toNat (by omega) (by omega) (by omega) (by have:=cM g.ok.geo;omega);omega
  ·have:=b3 (by simpa using c);omega
 ·have:=m (by simpa using f)
  by_cases c:x.t.spareB b=true
  ·obtain⟨n,o,p⟩:=d c;omega
  ·have:=b3 (by simpa using c);omega
theorem K4 (i:cV x) (c:x.k=2) (d:0≤a) (e:a<x.t.r):x.t.sp a≠x.g:=by
 obtain⟨j,k,f⟩:=i.rg c;obtain⟨_,_,g,h⟩:=i.ok.sp d e;have l:=i.ok.spares;by_cases b:x.t.spareB a=true
 ·obtain⟨m,n,o⟩:=g b;have:=f a.toNat (by omega);omega
 ·have:=h (by simpa using b);omega
theorem BG (ok:dA t) (b:bel l (t.seen*t.c)=true):(l/t.c).toNat<t.lives.length∧0≤l/t.c:=by obtain⟨c,d⟩:=eB b;have g:=cM ok.geo;have e:0≤l/t.c:=Int.ediv_nonneg c (by omega);have f:l/t.c<t.seen:=Int.ediv_lt_of_lt_mul (by omega) d;have a:=ok.lives;omega
theorem cV.inj (c:cV x) {m:Int} (h:x.has l) (i:x.has m) (e:x.route l=x.route m):l=m:=by
 have f:=c.eh h;have g:=c.eh i;obtain⟨z,n,o,A,W,B,X,_⟩:=c.ok.ph f.1;obtain⟨C,p,q,D,q4,F,q6,_⟩:=c.ok.ph g.1;obtain⟨G,c1,c2⟩:=c.col l;obtain⟨H,d1,d2⟩:=c.col m;have hb:=cM c.ok.geo;have J:=c.er h;have K:=c.er i;rw[c.form h,c.form i]at e;obtain⟨r,s,t,u⟩:=sY J.1 A (by omega) B (by omega) G (by omega);obtain⟨j1,j2,j3,j4⟩:=sY K.1 D (by omega) F (by omega) H (by omega);rw[e]at r s t u;have a:x.er l=x.er m:=by rw[←r,j1]
 have L:x.t.pb (x.eh l)=x.t.pb (x.eh m):=by rw[←s,j2]
 have M:x.t.pw (x.eh l)=x.t.pw (x.eh m):=by rw[←t,j3]
 have P:l%x.t.c=m%x.t.c:=by rw[←u,j4]
 have Q:x.t.pr (x.eh l)=x.t.pr (x.eh m):=by
  unfold aW.er at a;by_cases j:x.k=2∧x.t.rk l=x.f∧fK x.t.d x.t.c (x.t.ix l)<x.n
  ·have R:x.eh l=x.t.home l:=by unfold aW.eh;rw[Fn (by rintro⟨b,_⟩;rw[j.1]at b;exact absurd b (by decide))]
   have T:x.eh m=x.t.home m:=by unfold aW.eh;rw[Fn (by rintro⟨b,_⟩;rw[j.1]at b;exact absurd b (by decide))]
   rw[Fp j]at a;by_cases b:x.k=2∧x.t.rk m=x.f∧fK x.t.d x.t.c (x.t.ix m)<x.n
   ·rw[R,T,←c.rk h,←c.rk i,j.2.1,b.2.1]
   ·rw[Fn b]at a;exact absurd a.symm (K4 c j.1 p q)
  ·rw[Fn j]at a
   by_cases b:x.k=2∧x.t.rk m=x.f∧fK x.t.d x.t.c (x.t.ix m)<x.n
   ·rw[Fp b]at a;exact absurd a (K4 c b.1 n o)
   ·rw[Fn b]at a;exact SZ c n o p q a
 have d:x.eh l=x.eh m:=by have v:=(nL c.ok.geo).1;refine RJ c.ok.geo x.t.way _ _ f.1 (by rw[←v];exact f.2) g.1 (by rw[←v];exact g.2) ?_;show x.t.ph _=x.t.ph _;rw[z,C,Q,L,M]
 obtain⟨w,l0⟩:=BG c.ok h;obtain⟨y,m0⟩:=BG c.ok i
 have k:x.t.home l=x.t.home m:=by
  unfold aW.eh at d;split at d
  ·rename_i j;split at d
   ·rename_i b;rw[j.2.1,b.2.1]
   ·exact absurd d.symm ((c.pg j.1).2.2 _ y)
  ·split at d
   ·rename_i b;exact absurd d ((c.pg b.1).2.2 _ w)
   ·exact d
 have:=c.li _ _ w y k;have U:l/x.t.c=m/x.t.c:=by omega
 have V:=Int.mul_ediv_add_emod l x.t.c;have s2:=Int.mul_ediv_add_emod m x.t.c;rw[U,P]at V;omega
end
section
open Go.RowKit Go.Shelf lin
attribute [local go_sem] Oper.semAt_some
structure lP (R S u n:Nat) (xs:List Int) (W:Mr):Prop where
 row:W.heap[R]?=some (O #[.slice (some ⟨S,0,N⟩) 256 256,I Z u,I Z n] 336)
 data:d7 270 S (xs.map (I Z)) W
 len:xs.length=512
 u:u<256
 n:n≤256
theorem pu:(Y.info? 270).map (fun a=>(a.zero,a.size,a.bytes))=S (S (.agg #[I Z 0,I Z 0]),2,16):=by kernel_rfl
def iM (R S n:Nat) (W:Mr):Prop:=∃u xs,lP R S u n xs W
theorem lP.ne {S u:Nat} {xs:List Int} (a:lP R S u n xs W):S≠R:=a.data.ne a.row (by decide)
theorem lP.lt {S u:Nat} {xs:List Int} (a:lP R S u n xs W):R<W.heap.size:=aB a.row
theorem lP.same {S u:Nat} {xs:List Int} (a:lP R S u n xs W) (b:W'.heap[R]?=W.heap[R]?) (c:W'.heap[S]?=W.heap[S]?):lP R S u n xs W':=⟨b.trans a.row,a.data.same c,a.len,a.u,a.n⟩
theorem lP.keeps {S u:Nat} {xs:List Int} (b:lP R S u n xs W) (a:aC W W'):lP R S u n xs W':=b.same (a.block _ b.lt) (a.block _ b.data.lt)
theorem iM.keeps {S:Nat} (c:iM R S n W) (a:aC W W'):iM R S n W':=by obtain⟨d,b,c⟩:=c;exact⟨d,b,c.keeps a⟩
theorem iM.chg {S:Nat} (b:iM R S n W) (a:aF cw W W') (c:¬cw R) (d:¬cw S):iM R S n W':=by obtain⟨f,e,b⟩:=b;exact⟨f,e,b.same (a.block _ b.lt c) (a.block _ b.data.lt d)⟩
theorem iM.le {S:Nat} (a:iM R S n W):n≤256∧R<W.heap.size∧S<W.heap.size∧S≠R:=by obtain⟨c,b,a⟩:=a;exact⟨a.n,a.lt,a.data.lt,a.ne⟩
theorem lP.elem {S u:Nat} {xs:List Int} (a:lP R S u n xs W) (b:j<512):W.cell? ⟨S,j,N⟩=some (I Z (xs.getD j 0)):=a.data.cell (by have:=a.len;rw[Of,Mx,Nn (by omega)];rfl)
theorem pv {S u p:Nat} {xs:List Int} (a:(u+i)%256=p) (b:i≤512) (w:Mr) (g:lP R S u n xs w):Mt Y 267 #[.pointer (some ⟨R,0,N⟩),I Z i] w fun e c=>e=E (I Z p)∧∃d,c=w.drewN d:=by
 have c:=g.u;have⟨d,f⟩:=bQ g.row;simp at d f;have j:=g.lt;have k:=IntWalk.wrap64_in ((u:Int)+i) ⟨by omega,by omega⟩;have h:=IntWalk.i64_in ((u:Int)+i) ⟨by omega,by omega⟩;have l:((u:Int)+i).tmod 256=p:=by rw[Int.tmod_eq_emod_of_nonneg (by omega)];omega
 clear g a c b;go_in;go_wp2_with fail
 go_quiet (fail)
 go_wp2;go_ret;exact⟨rfl,nq,rfl⟩
theorem KD (w:Mr) (k:Nat):aC w (w.drewN k):=⟨rfl,rfl,rfl,Nl,fun _ _=>rfl⟩
theorem T5 {S u p:Nat} {xs:List Int} (c:(u+i)%256=p) (d:i≤512) (g:lP R S u n xs w):∀a,aC w a→Mt Y 267 #[.pointer (some ⟨R,0,N⟩),I Z i] a fun e b=>e=E (I Z p)∧Mu a.heap.size a b:=fun a f=>by refine(pv c d a (g.keeps f)).mono ?_;rintro e b ⟨rfl,a,rfl⟩;exact⟨rfl,KD _ _⟩
theorem px (w:Mr):Mt Y 168 #[I Z 256] w fun e j=>∃o p:Nat,e=E (.tuple #[.pointer (S ⟨o,0,N⟩),I Z 0])∧iM o p 0 j∧aC w j∧w.heap.size≤o∧w.heap.size≤p:=by
 obtain⟨k,d,f,g,h⟩:=info_parts pu;go_in;go_wp2_with(at_make;refine wpList_make_full _ rfl _ _ 334 rfl 0 270 k _ 2 underlying334 d f g _ _ _ _ 256 rfl rfl rfl rfl (by rw[h];omega) (by unfold maxLen;omega) (Ns _) ?_;intro c b a;have i:=a.size);go_ret2;have l:aC w c:=(aF.grown (aF.refl (fun _=>False) w) a fun n m=>by cases m).below Nl fun n m=>m.elim;have m:=(d7.own b).keeps (K.alloc (K.refl c) (O #[.slice (S ⟨w.heap.size,0,N⟩) 256 256,I Z 0,I Z 0] 336));have n:=Mr.ownsRow.lt b w.heap.size rfl;refine⟨c.heap.size,w.heap.size,rfl,⟨0,Nd 512 0,⟨aG _ _ _ rfl,?_,List.length_replicate,by omega,by omega⟩⟩,Ka l,i,Nl⟩;have e:(madeCells (Ms.agg #[I Z 0,I Z 0]).cells (256*2)).toList=(Nd 512 (0:Int)).map (I Z):=by kernel_rfl
 rw[←e];exact m
theorem py {S:Nat} (a b:Int) (w:Mr) (f:iM R S 256 w):Mt Y 254 #[.pointer (some ⟨R,0,N⟩),.agg #[I Z a,I Z b]] w fun e d=>e=E (I Z 14)∧aC w d:=by
 obtain⟨o,l,f⟩:=f;have c:=f.row;have⟨g,h,i⟩:=fM c;simp at g h i;have m:=aB c;have n:=fun d=>Fw c d;clear f c;go_in;go_wp2;refine bS (by kernel_rfl) (by kernel_rfl) ?_
 repeat
  with_reducible refine Mz fun K f=>?_
  go_simp
  try first
   |(apply Ei
     intro d c;obtain⟨j,k⟩:=c.cells;go_simp
     rfl)
   |(with_reducible refine aQ ?_ ?_;decide)
  refine f _ ?_;clear f K
 with_reducible refine Na ?_
 intro d c;go_wp2;go_ret;exact⟨rfl,(by repeat first|exact Bl|assumption|refine Ka ?_|refine Ks ?_ (by first|exact Nl|simp<;>omega|omega)|refine Kd ?_|refine Kc ?_ (by assumption))⟩
theorem qc {S:Nat} (a b:Int) (w:Mr) (k:iM R S n w) (i:n<256):Mt Y 254 #[.pointer (some ⟨R,0,N⟩),.agg #[I Z a,I Z b]] w fun e d=>e=E (I Z 0)∧iM R S (n+1) d∧aF (fun p=>p=R∨p=S) w d:=by
 obtain⟨D,s,k⟩:=k;have c:=k.row;have⟨f,g,h⟩:=fM c;simp at f g h;have l:=aB c;have m:=fun p=>Fw c p;have⟨o,j⟩:=Ey ((D+n)%256);have z:o<256:=by omega
 have A:(o:Int)<256:=by omega
 have x:=aA fun d (p:aC w d)=>T5 j (by omega) k d p;have B:((n:Int)==256)=false:=by simp;omega
 have F:=IntWalk.wrap64_in ((n:Int)+1) ⟨by omega,by omega⟩;have C:=IntWalk.i64_in ((n:Int)+1) ⟨by omega,by omega⟩;have v:=aA k;have y:=aA i;clear c k j i;have i:aC w (w.alloc (O #[I Z a,I Z b] 270)):=aU;have j:=aG w (O #[I Z a,I Z b] 270) w.heap.size rfl;go_in;go_wp2;refine bS (by kernel_rfl) (by kernel_rfl) ?_
 repeat
  with_reducible refine Mz fun K k=>?_
  go_simp
  try first
   |(apply Ei
     intro d c;obtain⟨r,t⟩:=c.cells;go_simp
     rfl)
   |(with_reducible refine aQ ?_ ?_;decide)
  refine k _ ?_;clear k K
 with_reducible refine Na ?_
 intro G d;replace j:=aE d j;replace i:=Kc i d;have k:=v.out.keeps i;have c:=k.row;clear f g h l m d;have⟨f,g,h⟩:=fM c;simp at f g h;have l:=aB c;have m:=fun p=>Fw c p;have⟨p,q⟩:=bQ j;simp at p q;have u:=aB j;clear c k;go_wp2;refine uK _ (by kernel_rfl) (by kernel_rfl) rfl ?_;simp only[List.dropLast]
 repeat
  with_reducible refine Mz fun K k=>?_
  go_simp
  try first
   |(apply Ei
     intro d c;obtain⟨r,t⟩:=c.cells;go_simp
     first
      |(go_at_call 267;with_reducible exact c.call (x.out _ (aK i c)))
      |rfl)
   |(with_reducible refine aQ ?_ ?_;decide)
  refine k _ ?_;clear k K
 with_reducible refine Na ?_
 intro w8 r;have k:=Kc i r;have d:=v.out.keeps k;have c:=d.row;clear f g h l m r j p q u;have⟨f,g,h⟩:=fM c;simp at f g h;have l:=aB c;have m:=fun p=>Fw c p;have r:=d.elem (show o*2<512 by omega);have t:=d.elem (show o*2+1<512 by omega);have u:=d.data.frozen (o*2);have H:=d.data.frozen (o*2+1);have J:=d.data.lt;have j:=d.ne;generalize s.getD (o*2) 0=L at*;generalize s.getD (o*2+1) 0=M at*;have q:=aH d k;clear c d k i;go_wp2;go_ret;have⟨d,k⟩:=q.out;have c:=(d.data.set (o*2) (I Z a)).set (o*2+1) (I Z b);rw[←List.map_set,←List.map_set]at c;have i:((n+1:Nat):Int)=(n:Int)+1:=by omega
 refine⟨rfl,⟨D,(s.set (o*2) a).set (o*2+1) b,⟨?_,c.same (Ho j),by rw[Od,Od];exact d.len,d.u,by have:=y.out;omega⟩⟩,?_⟩
 ·rw[i];refine Nx _ R 2 _ _ _ (?_:_=some (Obj.cells #[.slice (some ⟨S,0,N⟩) 256 256,I Z D,I Z n] 336));rw[heap_setCell_other _ ⟨S,o*2+1,N⟩ R _ (Ne.symm j),heap_setCell_other _ ⟨S,o*2,N⟩ R _ (Ne.symm j)];exact d.row
 ·exact(((aF.of_below k fun p=>p=R∨p=S).setCell (.inl (.inr rfl)) _).setCell (.inl (.inr rfl)) _).setCell (.inl (.inl rfl)) _
theorem T6 {S u p:Nat} (a:(u+i)%256=p) (b:i≤512) (c:u<256) (w:Mr) (f:w.cell? ⟨R,0,N⟩=some (.slice (some ⟨S,0,N⟩) 256 256)) (c1:w.cell? ⟨R,1,N⟩=some (I Z u)):Mt Y 267 #[.pointer (some ⟨R,0,N⟩),I Z i] w fun e d=>e=E (I Z p)∧∃g,d=w.drewN g:=by
 have g:=IntWalk.wrap64_in ((u:Int)+i) ⟨by omega,by omega⟩;have d:=IntWalk.i64_in ((u:Int)+i) ⟨by omega,by omega⟩;have h:((u:Int)+i).tmod 256=p:=by rw[Int.tmod_eq_emod_of_nonneg (by omega)];omega
 clear a c b;go_in;go_wp2_with fail
 go_quiet (fail)
 go_wp2;go_ret;exact⟨rfl,nq,rfl⟩
theorem EL {a b:Mr} (c:aC a b) (k:Nat):aC a (b.drewN k):=aK c (KD b k)
theorem qd {S:Nat} (w:Mr) (f:iM R S 0 w):Mt Y 255 #[.pointer (some ⟨R,0,N⟩),I Z 0] w fun e a=>e=E (.tuple #[.agg #[I Z 0,I Z 0],I Z 13])∧aC w a:=by obtain⟨k,g,f⟩:=f;have a:=f.row;have⟨b,c,d⟩:=fM a;simp at b c d;have h:=aB a;have i:=fun j=>Fw a j;clear f a;go_in;go_wp2;refine My (lin.iF results255 _ _ w.heap.size 270 #[I Z 0,I Z 0] (0,0) _ rfl (gQ rfl) underlying270 rfl (by kernel_rfl)) rfl ⟨rfl,(by repeat first|exact Bl|assumption|refine Ka ?_|refine Ks ?_ (by first|exact Nl|simp<;>omega|omega)|refine Kd ?_|refine Kc ?_ (by assumption))⟩
theorem qh {S:Nat} (w:Mr) (h:iM R S (n+1) w):Mt Y 255 #[.pointer (some ⟨R,0,N⟩),I Z 0] w fun e a=>∃d b,e=E (.tuple #[.agg #[I Z d,I Z b],I Z 0])∧iM R S n a∧aF (fun c=>c=R∨c=S) w a:=by
 obtain⟨u,P,h⟩:=h;have c:=h.row;have⟨d,f,k⟩:=fM c;simp at d f k;have x:=aB c;have G:=fun a=>Fw c a;have e9:((n+1:Nat):Int)=(n:Int)+1:=by omega
 have g:=h.u;have j:=h.n;have d0:=h.elem (show u*2<512 by omega);have d1:=h.elem (show u*2+1<512 by omega);have f0:=h.data.frozen (u*2);have f1:=h.data.frozen (u*2+1);have H:=h.data.lt;have bw:=h.ne;generalize P.getD (u*2) 0=D at*;generalize P.getD (u*2+1) 0=F at*;have HP:Hid (∀w:Mr,w.cell? ⟨R,0,N⟩=some (.slice (some ⟨S,0,N⟩) 256 256)→w.cell? ⟨R,1,N⟩=some (I Z u)→Mt Y 267 #[.pointer (some ⟨R,0,N⟩),I Z 0] w fun e a=>e=E (I Z u)∧∃m,a=w.drewN m):=aA fun w=>T6 (R:=R) (S:=S) (u:=u) (p:=u) (i:=0) (by omega) (by omega) g w;have⟨bs,l⟩:=Ey ((u+1)%256);have Q:Hid (∀w:Mr,w.cell? ⟨R,0,N⟩=some (.slice (some ⟨S,0,N⟩) 256 256)→w.cell? ⟨R,1,N⟩=some (I Z u)→Mt Y 267 #[.pointer (some ⟨R,0,N⟩),I Z 1] w fun e a=>e=E (I Z bs)∧∃m,a=w.drewN m):=aA fun w=>T6 (R:=R) (S:=S) (u:=u) (p:=bs) (i:=1) (by omega) (by omega) g w;have bx:(u:Int)<256:=by omega
 have bz:¬((n:Int)+1≤0):=by omega
 have HH:=aA h;have HU:=Hd3 g j l;clear c h g j l;have T:Hid (∀a,aC w a→a.cell? ⟨R,0,N⟩=some (.slice (some ⟨S,0,N⟩) 256 256)∧a.cell? ⟨R,1,N⟩=some (I Z u)∧a.cell? ⟨S,u*2,N⟩=some (I Z D)∧a.cell? ⟨S,u*2+1,N⟩=some (I Z F)):=aA fun a l=>⟨(l.cells.1 R 0 x).trans d,(l.cells.1 R 1 x).trans f,(l.cells.1 S _ H).trans d0,(l.cells.1 S _ H).trans d1⟩;go_in;go_wp2_with fail
 go_region_held3 (fun a=>a.cell? ⟨R,0,N⟩=some (.slice (some ⟨S,0,N⟩) 256 256)∧a.cell? ⟨R,1,N⟩=some (I Z u)∧a.cell? ⟨S,u*2,N⟩=some (I Z D)∧a.cell? ⟨S,u*2+1,N⟩=some (I Z F)) (exact T.out _ (by repeat(first|exact Kr|refine Ka ?_|refine Kd ?_|refine EL ?_ _|refine Ks ?_ (by first|omega|simp<;>omega)))) (first|(go_at_call 267;(with_reducible refine(HP.out _ (T.out _ (by repeat(first|exact Kr|refine Ka ?_|refine Kd ?_|refine EL ?_ _|refine Ks ?_ (by first|omega|simp<;>omega)))).1 (T.out _ (by repeat(first|exact Kr|refine Ka ?_|refine Kd ?_|refine EL ?_ _|refine Ks ?_ (by first|omega|simp<;>omega)))).2.1).mono ?_);rintro e w5 ⟨rfl,k5,rfl⟩))
 all_goals
  refine(show∀y:Mr,(aC ((w.alloc (O #[I Z 0,I Z 0] 270)).alloc (O #[I Z 0,I Z 0] 270)) y∧y.cell? ⟨w.heap.size+1+1,0,N⟩=some (I Z D)∧y.cell? ⟨w.heap.size+1+1,1,N⟩=some (I Z F)∧w.heap.size+1+1<y.heap.size)→Exit.then _ _ .normal _ y from ?_) _ ?_
  ·rintro y ⟨U,V,W,M⟩
   have cc:=x;have l:aC w y:=aK gH U;have h5:=HH.out.keeps l;have c:=h5.row;have X:=aE U (show((w.alloc (O #[I Z 0,I Z 0] 270)).alloc (O #[I Z 0,I Z 0] 270)).heap[w.heap.size]?=_ from gQ rfl);have r6:=aE U (show((w.alloc (O #[I Z 0,I Z 0] 270)).alloc (O #[I Z 0,I Z 0] 270)).heap[w.heap.size+1]?=_ from aG _ _ _ (by simp));have aa:=l.cells.1 S (u*2) H;have ab:=l.cells.1 S (u*2+1) H;rw[d0]at aa;rw[d1]at ab;clear d f k G d0 d1 f0 f1 T;have⟨d,f,k⟩:=fM c;simp at d f k;have x:=aB c;have G:=fun a=>Fw c a;go_wp2_with fail;go_loopw [8] (fun s wr=>s=I Z 0∧y=wr) fun _ _=>0
   case atStart=>exact⟨rfl,rfl⟩
   case round=>
    obtain⟨rfl,hw⟩:=hrel;subst hw;have⟨ad,ae⟩:=bQ r6;simp at ad ae;have bb:=aB r6;go_wp2_with fail;refine uK _ (by kernel_rfl) (by kernel_rfl) rfl ?_;simp only[List.dropLast]
    repeat
     with_reducible refine Mz fun K h=>?_
     go_simp
     try first
      |(apply Ei
        intro a g;obtain⟨j,m⟩:=g.cells;go_simp
        rfl)
      |(with_reducible refine aQ ?_ ?_;decide)
     refine h _ ?_;clear h K
    with_reducible refine Na ?_
    intro z g;have k9:=aK l g;have m:=HH.out.keeps k9;have c:=m.row;have A:=aE g X;have h:=m.ne;have x0:=m.elem (show u*2<512 by omega);have x1:=m.elem (show u*2+1<512 by omega);have f0:=m.data.frozen (u*2);have f1:=m.data.frozen (u*2+1);have bd:=m.data.lt;have bm:=(g.cells.1 (w.heap.size+1+1) 0 M).trans V;have bn:=(g.cells.1 (w.heap.size+1+1) 1 M).trans W;have br:w.heap.size+1+1<z.heap.size:=by have:=g.size;omega
    generalize P.getD (u*2) 0=v0 at x0;generalize P.getD (u*2+1) 0=v1 at x1;have⟨t0,t1⟩:=bQ A;have tf:=fun a=>Fw A a;simp at t0 t1;have bv:S<w.heap.size:=H;have an:S≠w.heap.size:=by omega
    have B:R≠w.heap.size:=by omega
    have cd:S≠w.heap.size+1+1:=by omega
    have cf:R≠w.heap.size+1+1:=by omega
    have H9:=Hd3 m k9 A;clear d f k x G H V W M X r6 ad ae bb g k9 m A aa ab l h5 U;have⟨d,f,k⟩:=fM c;simp at d f k;have x:=aB c;have G:=fun a=>Fw c a;clear c;have a:((z.setCell ⟨S,u*2,N⟩ (I Z 0)).setCell ⟨S,u*2+1,N⟩ (I Z 0)).heap[R]?=some (O #[.slice (some ⟨S,0,N⟩) 256 256,I Z u,I Z ((n+1:Nat):Int)] 336):=by rw[Ho (show R≠S from Ne.symm h),Ho (show R≠S from Ne.symm h)];exact H9.out.1.row
    have HQ:=aA (Q.out _ (by rw[Cw a 0];rfl) (by rw[Cw a 1];rfl));have j:=(H9.out.1.data.set (u*2) (I Z 0)).set (u*2+1) (I Z 0);rw[←List.map_set,←List.map_set]at j;have o:((z.setCell ⟨S,u*2,N⟩ (I Z 0)).setCell ⟨S,u*2+1,N⟩ (I Z 0)).heap[w.heap.size]?=some (O #[I Z 0,I Z 0] 270):=by rw[Ho (show w.heap.size≠S by omega),Ho (show w.heap.size≠S by omega)];exact H9.out.2.2
    have q:aF (fun c=>c=R∨c=S) w ((z.setCell ⟨S,u*2,N⟩ (I Z 0)).setCell ⟨S,u*2+1,N⟩ (I Z 0)):=((aF.of_below H9.out.2.1 (fun c=>c=R∨c=S)).setCell (.inl (.inr rfl)) _).setCell (.inl (.inr rfl)) _;have r:((z.setCell ⟨S,u*2,N⟩ (I Z 0)).setCell ⟨S,u*2+1,N⟩ (I Z 0)).cell? ⟨w.heap.size+1+1,0,N⟩=some (I Z D)∧((z.setCell ⟨S,u*2,N⟩ (I Z 0)).setCell ⟨S,u*2+1,N⟩ (I Z 0)).cell? ⟨w.heap.size+1+1,1,N⟩=some (I Z F)∧w.heap.size+1+1<((z.setCell ⟨S,u*2,N⟩ (I Z 0)).setCell ⟨S,u*2+1,N⟩ (I Z 0)).heap.size:=by refine⟨by go_simp,by go_simp,by go_simp⟩
    have HW:=eP a j o q r;clear a j o q r Q;go_wp2_with fail;refine HQ.out.mono ?_;rintro e W3 ⟨rfl,k7,ar⟩;have t:=KD ((z.setCell ⟨S,u*2,N⟩ (I Z 0)).setCell ⟨S,u*2+1,N⟩ (I Z 0)) k7;rw[←ar]at t;have⟨a,j,o,q,r,av,C⟩:=HW.out;have ba:=bT (aE t a) (j.keeps t) (aE t o) (q.trans (aF.of_below t _));replace r:=(t.cells.1 (w.heap.size+1+1) 0 C).trans r;replace av:=(t.cells.1 (w.heap.size+1+1) 1 C).trans av;replace C:=Nj C t.size;clear a j o q d f k x G x0 x1 f0 f1 bd bm bn br tf t0 t1 HW HQ t ar;have⟨J,s3,L,v⟩:=ba.out;have⟨d,f,k⟩:=fM J;simp at d f k;have x:=aB J;have G:=fun a=>Fw J a;have⟨t0,t1⟩:=bQ L;have tf:=fun a=>Fw L a;have tz:=aB L;simp at t0 t1;clear J s3 L v;have ck:(n:Int)≤255:=by have:=HU.out.2.1;omega
    go_wp2_with fail;have⟨J,s3,L,v⟩:=ba.out;have X:=Nx _ R 2 _ _ (I Z n) (Hs 1 (I Z bs) J);have q4:=Nx _ w.heap.size 1 _ _ (I Z F) (Nx _ w.heap.size 0 _ _ (I Z D) ((heap_setCell_other (W3.setCell ⟨R,1,N⟩ (I Z bs)) ⟨R,2,N⟩ w.heap.size (I Z n) (Ne.symm B)).trans ((heap_setCell_other W3 ⟨R,1,N⟩ w.heap.size (I Z bs) (Ne.symm B)).trans L)));refine My (lin.iF results255 _ _ w.heap.size 270 #[I Z D,I Z F] (0,0) _ rfl q4 underlying270 rfl (by kernel_rfl)) rfl ⟨D,F,rfl,⟨bs,(P.set (u*2) 0).set (u*2+1) 0,⟨?_,?_,by rw[Od,Od];exact HH.out.len,by have:=HU.out.2.2;omega,by have:=HU.out.2.1;omega⟩⟩,?_⟩
    ·rw[Ho B,Ho B];exact X
    ·exact(((s3.same (Ho h)).same (Ho h)).same (Ho an)).same (Ho an)
    ·exact(((v.setCell (.inl (.inl rfl)) _).setCell (.inl (.inl rfl)) _).setCell (.inr Nl) _).setCell (.inr Nl) _
  ·exact⟨(by repeat(first|exact Kr|refine Ka ?_|refine Kd ?_|refine EL ?_ _|refine Ks ?_ (by first|omega|simp<;>omega))),by go_simp,by go_simp,by simp⟩
theorem qj {S:Nat} (w:Mr) (b:iM R S 0 w):Mt Y 233 #[.pointer (some ⟨R,0,N⟩)] w fun e a=>e=E (.tuple #[.agg #[I Z 0,I Z 0],I Z 13])∧aC w a:=by have d:=aA (qd (w.alloc (O #[I Z 0,I Z 0] 270)) (b.keeps aU));clear b;go_in;go_wp2_with fail;refine d.out.mono ?_;rintro e g ⟨rfl,b⟩;have a:=aE b (show(w.alloc (O #[I Z 0,I Z 0] 270)).heap[w.heap.size]?=_ from aG _ _ _ rfl);have⟨f,t1⟩:=bQ a;have h:=fun c=>Fw a c;have i:=aB a;simp at f t1;have c:=aH a b;clear a b;go_wp2_with fail;refine My (lin.iF results233 _ _ w.heap.size 270 #[I Z 0,I Z 0] (0,0) _ rfl (Nx _ w.heap.size 1 _ _ _ (Hs 0 _ c.out.1)) underlying270 rfl (by kernel_rfl)) rfl ⟨rfl,Ks (Ks (Kc aU c.out.2) Nl) Nl⟩
theorem qk {S:Nat} (w:Mr) (c:iM R S (n+1) w):Mt Y 233 #[.pointer (some ⟨R,0,N⟩)] w fun e a=>∃i b,e=E (.tuple #[.agg #[I Z i,I Z b],I Z 0])∧iM R S n a∧aF (fun g=>g=R∨g=S) w a:=by
 have r:=c.le;have j:=aA (qh (w.alloc (O #[I Z 0,I Z 0] 270)) (c.keeps aU));clear c;go_in;go_wp2_with fail;refine j.out.mono ?_;rintro e d ⟨i,b,rfl,f,c⟩;have k:w.heap.size≠R:=by omega
 have l:w.heap.size≠S:=by omega
 have a:=aJ c (show(w.alloc (O #[I Z 0,I Z 0] 270)).heap[w.heap.size]?=_ from aG _ _ _ rfl) (by omega);have⟨m,t1⟩:=bQ a;have s:=fun g=>Fw a g;have t:=aB a;simp at m t1;have o:=Hd3 a c f;clear a c f;go_wp2_with fail;have⟨a,c,f⟩:=o.out;have q:aF (fun g=>g=R∨g=S) w d:=(aF.of_below (K.alloc (K.refl w) (O #[I Z 0,I Z 0] 270)) _).trans c;have h:aF (fun g=>g=w.heap.size) d ((d.setCell ⟨w.heap.size,0,N⟩ (I Z i)).setCell ⟨w.heap.size,1,N⟩ (I Z b)):=aF.setCell (cw:=fun g=>g=w.heap.size) (aF.setCell (cw:=fun g=>g=w.heap.size) (aF.refl _ d) (p:=⟨w.heap.size,0,N⟩) (.inl rfl) _) (p:=⟨w.heap.size,1,N⟩) (.inl rfl) _;refine My (lin.iF results233 _ _ w.heap.size 270 #[I Z i,I Z b] (0,0) _ rfl (Nx _ w.heap.size 1 _ _ _ (Hs 0 _ a)) underlying270 rfl (by kernel_rfl)) rfl ⟨i,b,rfl,f.chg h (fun e=>k e.symm) fun e=>l e.symm,q.next h fun u g=>.inr (by have g:u=w.heap.size:=g;omega)⟩
def twN (a:Nat):Nat:=if a&&& 128=0 then(a*2)%256 else((a*2)%256)^^^29
theorem T7 (a:Nat) (b:a<256):twN a<256:=by
 have:∀a:Fin 256,twN a.val<256:=by decide+kernel
 exact this ⟨a,b⟩
def iB:Nat→(List Nat×List Nat)×Nat
 |0=>((Nd 255 0,Nd 256 0),1)
 |k+1=>((((iB k).1.1.set k (iB k).2),((iB k).1.2.set (iB k).2 k)),twN (iB k).2)
theorem KE:∀a,(iB a).2<256∧(iB a).1.1.length=255∧(iB a).1.2.length=256
 |0=>⟨by decide,List.length_replicate,List.length_replicate⟩
 |a+1=>by obtain⟨b,c,d⟩:=KE a;exact⟨T7 _ b,by show(List.set _ _ _).length=255;rw[Od];exact c,by show(List.set _ _ _).length=256;rw[Od];exact d⟩
def mP (x:List Nat×List Nat):List Ms:=x.1.map (fun(a:Nat)=>I .u8 (a:Int))++x.2.map (fun(a:Nat)=>I Z (a:Int))
def BJ:List Nat×List Nat:=(iB 255).1
def gexp (n:Nat):Nat:=BJ.1.getD n 0
def glog (a:Nat):Nat:=BJ.2.getD a 0
def iV (F:Nat) (W:Mr):Prop:=d7 297 F (mP BJ) W
theorem iV.keeps (b:iV F W) (a:aC W W'):iV F W':=d7.keeps b a
theorem iV.chg (c:iV F W) (a:aF cw W W') (b:¬cw F):iV F W':=d7.chg c a b
theorem KF:BJ.1.length=255∧BJ.2.length=256:=(KE 255).2
theorem iV.exp (b:iV F W) (a:j<255):W.cell? ⟨F,j,N⟩=S (.int .u8 (gexp j:Nat)):=b.cell (by
 unfold mP gexp;have:=KF
 rw[List.getElem?_append_left (by rw[Np];omega),Of,Mx,Nn (by omega)];rfl)
theorem iV.log (b:iV F W) (a:j<256):W.cell? ⟨F,255+j,N⟩=S (I Z (glog j:Nat)):=b.cell (by
 unfold mP glog;have:=KF
 rw[List.getElem?_append_right (by rw[Np];omega),Np,this.1,Nat.add_sub_cancel_left,Of,Mx,Nn (by omega)];rfl)
theorem T8:(∀a:Fin 256,glog a.val<255)∧(∀n:Fin 255,gexp n.val<256):=by decide+kernel
theorem uL {a:Nat} (b:a<256):glog a<255:=T8.1 ⟨a,b⟩
theorem wC (n:Nat):gexp n<256:=by
 by_cases a:n<255
 ·exact T8.2 ⟨n,a⟩
 ·unfold gexp;rw[Mx,List.getElem?_eq_none (by have:=KF;omega)];decide
def gmul (a b:Nat):Nat:=if a=0∨b=0 then 0 else gexp ((glog a+glog b)%255)
def gdiv (a b:Nat):Nat:=if a=0∨b=0 then 0 else gexp ((((glog a:Nat):Int)-(glog b:Nat))%255).toNat
theorem mQ (a b:Nat):gmul a b<256:=by unfold gmul;split;omega;exact wC _
theorem T9 (a b:Nat):gdiv a b<256:=by unfold gdiv;split;omega;exact wC _
attribute [irreducible] gexp glog
theorem qm:∀a:Fin 256,(a.val&&& 128=0→bits .and .u8 (a.val:Int) 128=0)∧(a.val&&& 128≠0→(bits .and .u8 (a.val:Int) 128==0)=false)∧bits .xor .u8 (((a.val*2)%256:Nat):Int) 29=(((a.val*2)%256^^^29:Nat):Int):=by decide+kernel
theorem qn (a:Nat) (h:a<256) (w:Mr):Mt Y 176 #[.int .u8 a] w fun e i=>e=E (.int .u8 (twN a:Nat))∧w=i:=by
 obtain⟨b,c,d⟩:=qm ⟨a,h⟩;simp only at b c d;have k:IntKind.u8.wrap ((a:Int)*2)=((a*2%256:Nat):Int):=by rw[IntKind.wrap_u8];omega
 have f:=aA (show(a:Int)*2%256=((a*2%256:Nat):Int) by omega);unfold twN;by_cases g:a&&& 128=0
 ·rw[Fp g];have j:=b g;clear b c d g;go_in;go_wp2;go_ret;exact⟨by rw[←f.out];rfl,rfl⟩
 ·rw[Fn g];have j:=c g;clear b c g;go_in;go_wp2;go_ret;exact⟨by rw[←d,←f.out];rfl,rfl⟩
theorem qo (n:Int):(0≤n→n.tmod 255=n%255)∧(n<0→n.tmod 255=-((-n)%255)):=by refine⟨fun d=>Int.tmod_eq_emod_of_nonneg d,fun d=>?_⟩;have c:=Int.tmod_eq_emod_of_nonneg (a:=-n) (b:=255) (by omega);rw[Int.neg_tmod]at c;omega
theorem qp (n:Int) (a:bN n) (w:Mr):Mt Y 210 #[I Z n] w fun e b=>e=E (I Z (n%255))∧Mu w.heap.size w b:=by
 unfold bN at a;obtain⟨t1,c⟩:=qo n;by_cases f:n.tmod 255<0
 ·have e:n.tmod 255+255=n%255:=by omega
  have d:=IntWalk.wrap64_in (n.tmod 255+255) ⟨by omega,by omega⟩;go_in;go_wp2;go_ret;exact⟨rfl,Bl⟩
 ·have e:n.tmod 255=n%255:=by omega
  go_in;go_wp2;go_ret;exact⟨by first|rfl|(rw[←e];rfl),Bl⟩
theorem TA (n:Int) (a:bN n) (w:Mr) (i:iV F w):Mt Y 174 #[.pointer (S ⟨F,0,N⟩),I Z n] w fun e c=>e=E (.int .u8 (gexp (n%255).toNat:Nat))∧Mu w.heap.size w c:=by
 have d:=aA fun w=>qp n a w;obtain⟨g,f⟩:∃g:Nat,n%255=g:=⟨(n%255).toNat,by omega⟩;rw[f]at d ⊢;rw[Int.toNat_natCast];have b:g<255:=by omega
 have h:(g:Int)<255:=by omega
 have k:=i.exp b;have l:=i.lt;clear i f a;go_in;go_wp2;refine bS (by kernel_rfl) (by kernel_rfl) ?_
 repeat
  with_reducible refine Mz fun K f=>?_
  go_simp
  try first
   |(apply Ei
     intro c a;obtain⟨i,j⟩:=a.cells;go_simp
     first
      |(go_at_call 210;with_reducible exact a.call (d.out _))
      |rfl)
   |(with_reducible refine aQ ?_ ?_;decide)
  refine f _ ?_;clear f K
 with_reducible refine Na ?_
 intro f a;go_wp2;go_ret;exact⟨rfl,(by repeat first|exact Bl|assumption|refine Ka ?_|refine Ks ?_ (by first|exact Nl|simp<;>omega|omega)|refine Kd ?_|refine Kc ?_ (by assumption))⟩
theorem KG {n:Int} {x:Nat} (c:0≤n) (d:n<510) (a:gexp (n.toNat%255)=x) (w:Mr) (f:iV F w):Mt Y 174 #[.pointer (S ⟨F,0,N⟩),I Z n] w fun e b=>e=E (.int .u8 x)∧Mu w.heap.size w b:=by
 have:=TA n ⟨by omega,by omega⟩ w f
 rwa [show(n%255).toNat=n.toNat%255 by omega,a]at this
theorem BK (a b:Nat) (f:a<256) (g:b<256) (w:Mr) (h:iV F w):Mt Y 209 #[.pointer (S ⟨F,0,N⟩),.int .u8 a,.int .u8 b] w fun e d=>e=E (.int .u8 (gmul a b:Nat))∧Mu w.heap.size w d:=by
 unfold gmul;by_cases i:a=0
 ·subst i;rw[Fp (.inl rfl)];clear h;go_in;go_wp2;go_ret;exact⟨rfl,(by repeat first|exact Bl|assumption|refine Ka ?_|refine Ks ?_ (by first|exact Nl|simp<;>omega|omega)|refine Kd ?_|refine Kc ?_ (by assumption))⟩
 by_cases j:b=0
 ·subst j
  rw[Fp (.inr rfl)];have k:((a:Int)==0)=false:=by simp;omega
  clear h;go_in;go_wp2;go_ret;exact⟨rfl,(by repeat first|exact Bl|assumption|refine Ka ?_|refine Ks ?_ (by first|exact Nl|simp<;>omega|omega)|refine Kd ?_|refine Kc ?_ (by assumption))⟩
 rw[Fn (by omega)];have k:((a:Int)==0)=false:=by simp;omega
 have t:((b:Int)==0)=false:=by simp;omega
 have u:=h.log f;have v:=h.log g;have y:=h.lt;have z:=uL f;have A:=uL g;generalize glog a=x at*;generalize glog b=o at*;have⟨C,c⟩:=Ey (gexp ((x+o)%255));have p:(a:Int)<256:=by omega
 have q:(b:Int)<256:=by omega
 have B:=IntWalk.wrap64_in ((x:Int)+o) ⟨by omega,by omega⟩;have r:=IntWalk.i64_in ((x:Int)+o) ⟨by omega,by omega⟩;have l:=aA fun d (m:aC w d)=>KG (F:=F) (n:=(x:Int)+o) (x:=C) (by omega) (by omega) (by rw[←c];congr 1) d (h.keeps m);rw[c];clear h c;go_in;go_wp2;refine bS (by kernel_rfl) (by kernel_rfl) ?_
 repeat
  with_reducible refine Mz fun K h=>?_
  go_simp
  try first
   |(apply Ei
     intro d c;obtain⟨m,s⟩:=c.cells;go_simp
     first
      |(go_at_call 174;with_reducible exact c.call (l.out _ c))
      |rfl)
   |(with_reducible refine aQ ?_ ?_;decide)
  refine h _ ?_;clear h K
 with_reducible refine Na ?_
 intro h c;go_wp2;go_ret;exact⟨rfl,(by repeat first|exact Bl|assumption|refine Ka ?_|refine Ks ?_ (by first|exact Nl|simp<;>omega|omega)|refine Kd ?_|refine Kc ?_ (by assumption))⟩
theorem qr (a:Nat) (w:Mr):Mt Y 242 #[.pointer (S ⟨F,0,N⟩),.int .u8 a,.int .u8 0] w fun e b=>e=E (.tuple #[.int .u8 0,I Z 16])∧Mu w.heap.size w b:=by go_in;go_wp2;go_ret2;exact⟨rfl,(by repeat first|exact Bl|assumption|refine Ka ?_|refine Ks ?_ (by first|exact Nl|simp<;>omega|omega)|refine Kd ?_|refine Kc ?_ (by assumption))⟩
theorem KH (a b:Nat) (f:a<256) (g:b<256) (l:b≠0) (w:Mr) (i:iV F w):Mt Y 242 #[.pointer (S ⟨F,0,N⟩),.int .u8 a,.int .u8 b] w fun e d=>e=E (.tuple #[.int .u8 (gdiv a b:Nat),I Z 0])∧Mu w.heap.size w d:=by
 unfold gdiv;have s:((b:Int)==0)=false:=by simp;omega
 by_cases j:a=0
 ·subst j;rw[Fp (.inl rfl)];clear i;go_in;go_wp2;go_ret2;exact⟨rfl,(by repeat first|exact Bl|assumption|refine Ka ?_|refine Ks ?_ (by first|exact Nl|simp<;>omega|omega)|refine Kd ?_|refine Kc ?_ (by assumption))⟩
 rw[Fn (by omega)];have t:((a:Int)==0)=false:=by simp;omega
 have u:=i.log f;have v:=i.log g;have x:=i.lt;have y:=uL f;have z:=uL g;generalize glog a=m at*;generalize glog b=n at*;have⟨B,c⟩:=Ey (gexp (((m:Int)-n)%255).toNat);have o:(a:Int)<256:=by omega
 have p:(b:Int)<256:=by omega
 have A:=IntWalk.wrap64_in ((m:Int)-n) ⟨by omega,by omega⟩;have q:=IntWalk.i64_in ((m:Int)-n) ⟨by omega,by omega⟩;have h:=aA fun d (k:aC w d)=>TA (F:=F) ((m:Int)-n) ⟨by omega,by omega⟩ d (i.keeps k);rw[c]at h ⊢;clear i c;go_in;go_wp2;refine bS (by kernel_rfl) (by kernel_rfl) ?_
 repeat
  with_reducible refine Mz fun K i=>?_
  go_simp
  try first
   |(apply Ei
     intro d c;obtain⟨k,r⟩:=c.cells;go_simp
     first
      |(go_at_call 174;with_reducible exact c.call (h.out _ c))
      |rfl)
   |(with_reducible refine aQ ?_ ?_;decide)
  refine i _ ?_;clear i K
 with_reducible refine Na ?_
 intro i c;go_wp2;go_ret2;exact⟨rfl,(by repeat first|exact Bl|assumption|refine Ka ?_|refine Ks ?_ (by first|exact Nl|simp<;>omega|omega)|refine Kd ?_|refine Kc ?_ (by assumption))⟩
theorem qs (b:Nat) (c:b<256) (a:b≠0) (w:Mr) (g:iV F w):Mt Y 218 #[.pointer (S ⟨F,0,N⟩),.int .u8 b] w fun e d=>e=E (.tuple #[.int .u8 (gdiv 1 b:Nat),I Z 0])∧Mu w.heap.size w d:=by have f:=aA (KH 1 b (by omega) c a w g);generalize gdiv 1 b=i at*;clear g;go_in;go_wp2_with(go_at_call 242;refine f.out.mono ?_;rintro e h ⟨rfl,g⟩);go_ret2;exact⟨rfl,(by repeat first|exact Bl|assumption|refine Ka ?_|refine Ks ?_ (by first|exact Nl|simp<;>omega|omega)|refine Kd ?_|refine Kc ?_ (by assumption))⟩
theorem qt (a:Nat) (b:a<256) (f:a≠0) (w:Mr) (d:iV F w):Mt Y 258 #[.pointer (S ⟨F,0,N⟩),.int .u8 a] w fun e c=>e=E (.tuple #[I Z (glog a:Nat),I Z 0])∧Mu w.heap.size w c:=by
 have g:((a:Int)==0)=false:=by simp;omega
 have h:=d.log b;have i:=d.lt;generalize glog a=j at*;clear d;go_in;go_wp2;go_ret2;exact⟨rfl,(by repeat first|exact Bl|assumption|refine Ka ?_|refine Ks ?_ (by first|exact Nl|simp<;>omega|omega)|refine Kd ?_|refine Kc ?_ (by assumption))⟩
theorem qu {b c:List Nat} {a:Nat} (d:k<b.length):mP (b.set k a,c)=(mP (b,c)).set k (.int .u8 (a:Int)):=by unfold mP;rw[List.map_set,List.set_append_left _ _ (by rw[Np];exact d)]
theorem qv {b c:List Nat} {a:Nat} (d:b.length=n):mP (b,c.set k a)=(mP (b,c)).set (n+k) (I Z (a:Int)):=by unfold mP;show b.map _++(c.set k a).map _=(b.map _++c.map _).set _ _;rw[List.map_set,List.set_append_right _ _ (by rw[Np,d];omega),Np,d,Nat.add_sub_cancel_left]
theorem qw (w:Mr):Mt Y 128 #[] w fun e h=>e=E (.pointer (S ⟨w.heap.size,0,N⟩))∧iV w.heap.size h∧Mu w.heap.size w h:=by
 have b:=aA (show zeroCells297=(mP (iB 0).1).toArray by kernel_rfl);go_in;go_wp2_with fail;obtain⟨i,a⟩:∃W,W=w.alloc (O zeroCells297 297):=⟨_,rfl⟩;rw[←a];have j:d7 297 w.heap.size (mP (iB 0).1) i:=by rw[a,b.out];exact d7.made _ _ _
 have k:aC w i:=by rw[a];exact aU
 clear a b;go_loopw [2,6] (fun c b W=>∃a:Nat,a≤255∧b=I Z a∧c=.int .u8 ((iB a).2:Nat)∧d7 297 w.heap.size (mP (iB a).1) W∧aC w W) fun _ b _=>255-(intOf b).toNat
 case atStart=>exact⟨0,by omega,rfl,rfl,j,k⟩
 case round=>
  obtain⟨a,p,rfl,rfl,b,d⟩:=hrel;by_cases u:a<255
  ·obtain⟨q,f,r⟩:=KE a
   have g:(mP (iB a).1).length=511:=by unfold mP;simp;omega
   have v:(a:Int)<255:=by omega
   have l:=aA (show iB (a+1)=((((iB a).1.1.set a (iB a).2),((iB a).1.2.set (iB a).2 a)),twN (iB a).2) from rfl);have s:=Hd3 b d f;have m:∃t,wr.cell? ⟨w.heap.size,a,N⟩=S t:=⟨_,b.cell (Nn (by omega))⟩;have c:=b.set a (.int .u8 ((iB a).2:Nat));have o:∃t,(wr.setCell ⟨w.heap.size,a,N⟩ (.int .u8 ((iB a).2:Nat))).cell? ⟨w.heap.size,255+(iB a).2,N⟩=S t:=⟨_,c.cell (Nn (by rw[Od];omega))⟩;have A:=c.frozen (255+(iB a).2);have B:=b.frozen a;obtain⟨C,m⟩:=m;obtain⟨D,o⟩:=o;have x:((iB a).2:Int)<256:=by omega
   have y:=b.lt;have t:=aA (qn _ q);generalize(iB a).2=z at*;clear b d c f r g p j k;go_wp2_with(go_at_call 176;refine(t.out _).mono ?_;rintro e F ⟨rfl,rfl⟩);go_roundw
   case rel=>have⟨b,d,f⟩:=s.out;refine⟨a+1,by omega,by go_num,by rw[l.out],?_,Ks (Ks d (by exact Nl)) (by exact Nl)⟩;rw[l.out];show d7 297 _ (mP ((iB a).1.1.set a z,(iB a).1.2.set z a)) _;rw[qv (n:=255) (by rw[Od];exact f),qu (by omega)];exact(b.set a _).set (255+z) _
   case measure=>simp[intOf];omega
  ·have c:a=255:=by omega
   subst c;go_wp2_with fail;go_ret;exact⟨rfl,b,d⟩
def aT (l:List Nat):List Ms:=l.map fun(a:Nat)=>I .u8 (a:Int)
theorem fC (l:List Nat):(aT l).length=l.length:=Np _
theorem xO (l:List Nat):∀b∈aT l,b.oneCell'=true:=fun b a=>by obtain⟨c,_,rfl⟩:=List.mem_map.1 a;rfl
theorem kL (l:List Nat) (a:j<l.length):(aT l)[j]?=S (.int .u8 (l.getD j 0:Nat)):=by unfold aT;rw[Of,Mx,Nn a];rfl
def fP (v:Ms) (l:List Nat) (W:Mr):Prop:=W.ownsRow 0 5 1 v l.length (aT l)
def iW (v:Ms) (l:List Nat) (W:Mr):Prop:=(v=.slice N 0 0∧l=[])∨∃g off cap,v=.slice (S ⟨g,off,N⟩) l.length cap∧l.length≤cap∧True∧g<W.heap.size∧∀j,j<l.length→W.cell? ⟨g,off+j,N⟩=S (.int .u8 (l.getD j 0:Nat))
theorem iW.keeps {l:List Nat} (j:iW v l W) (d:aC W W'):iW v l W':=by
 rcases j with j|⟨k,a,b,f,g,c,e,h⟩
 ·exact .inl j
 ·exact .inr ⟨k,a,b,f,g,c,Nj e d.size,fun m i=>(d.cells.1 k _ e).trans (h m i)⟩
theorem fP.cases {l:List Nat} (g:fP v l W):(v=.slice N 0 0∧l=[])∨∃e a,v=.slice (S ⟨e,0,N⟩) l.length a∧l.length≤a∧a≤maxLen∧d7 5 e (aT l) W:=by
 obtain⟨h,⟨rfl,b⟩|⟨e,a,f,rfl,i,j,c,d,k,m⟩⟩:=id g
 ·exact .inl ⟨rfl,List.eq_nil_of_length_eq_zero b⟩
 ·exact .inr ⟨e,a,rfl,c,d,d7.own g⟩
theorem fP.rd {l:List Nat} (g:fP v l W):iW v l W:=by
 rcases g.cases with g|⟨h,a,c,d,f,b⟩
 ·exact .inl g
 ·exact .inr ⟨h,0,a,c,d,trivial,b.lt,fun i e=>by rw[Nat.zero_add];exact b.cell (kL l e)⟩
theorem fP.nil (W:Mr):fP (.slice N 0 0) [] W:=Mr.ownsRow_nil _ _ _ _
theorem fP.lt {l:List Nat} (c:fP v l W):∀b,v.ownBlock=S b→b<W.heap.size:=fun b a=>(Mr.ownsRow.lt c b a).2
theorem fP.same {l:List Nat} (j:fP v l W) (f:∀e,v.ownBlock=S e→W'.heap[e]?=W.heap[e]?):fP v l W':=by
 obtain⟨d,⟨rfl,g⟩|⟨e,b,c,rfl,h,i,a⟩⟩:=j
 ·exact⟨d,.inl ⟨rfl,g⟩⟩
 ·exact⟨d,.inr ⟨e,b,c,rfl,h,(f e rfl).trans i,a⟩⟩
theorem fP.chg {l:List Nat} (e:fP v l W) (c:aF cw W W') (d:∀b,v.ownBlock=S b→¬cw b):fP v l W':=e.same fun b a=>c.block b (e.lt b a) (d b a)
theorem fP.keeps {l:List Nat} (c:fP v l W) (a:aC W W'):fP v l W':=c.same fun d b=>a.block d (c.lt d b)
def m7 (l:List Nat):Nat→Nat
 |0=>0
 |k+1=>if l.getD k 0=0 then m7 l k else k+1
theorem qy {l:List Nat} (a:l.getD k 0=0):m7 l (k+1)=m7 l k:=Fp a
theorem TB {l:List Nat} (a:l.getD k 0≠0):m7 l (k+1)=k+1:=Fn a
def gF (l:List Nat):List Nat:=l.take (m7 l l.length)
theorem BL (l:List Nat):∀a,m7 l a≤a
 |0=>Nl
 |a+1=>by unfold m7;split;have:=BL l a;omega;omega
theorem KI (l:List Nat):(gF l).length=m7 l l.length:=by unfold gF;rw[List.length_take];have:=BL l l.length;omega
theorem TC (l:List Nat) (i:l.length≤1000000) (j:∀a∈l,a<256) (v:Ms) (w:Mr) (G:iW v l w):Mt Y 217 #[v] w fun e a=>e=E (I Z ((m7 l l.length:Nat)-1:Int))∧Mu w.heap.size w a:=by
 rcases G with⟨rfl,rfl⟩|⟨J,r,t,rfl,k,u,B,d⟩
 ·go_in
  go_wp2_with fail;go_loopw [3] (fun s W=>s=I Z (-1)∧w=W) fun _ _=>0
  case atStart=>exact⟨rfl,rfl⟩
  case round=>obtain⟨rfl,c⟩:=hrel;subst c;go_wp2_with fail;go_ret;exact⟨rfl,Bl⟩
 ·have⟨n,a⟩:=Ex l.length
  rw[←a]at k d i ⊢;have o:=aA a;have⟨m,f⟩:=Ey (m7 l n);rw[f];clear a;have C:=IntWalk.wrap64_in ((n:Int)-1) ⟨by omega,by omega⟩;have x:=IntWalk.i64_in ((n:Int)-1) ⟨by omega,by omega⟩;go_in;go_wp2_with fail;go_loopw [3] (fun s W=>∃a:Nat,a≤n∧m7 l a=m∧s=I Z ((a:Int)-1)∧w=W) fun s _=>(intOf s+1).toNat
  case atStart=>exact⟨n,Nl,f,rfl,rfl⟩
  case round=>
   obtain⟨a,D,b,rfl,c⟩:=hrel;subst c;have c:=o.out;clear f;rcases a with _|a
   ·have g:¬(0:Int)≤((0:Nat):Int)-1:=by omega
    have f:=aA b;clear b c;go_wp2_with fail;go_ret;exact⟨by rw[←f.out];rfl,Bl⟩
   ·have p:(((a+1:Nat)):Int)-1=(a:Int):=by omega
    rw[p];have q:=d a (by omega);have y:(a:Int)<n:=by omega
    have z:(0:Int)≤a:=by omega
    have F:l.getD a 0<256:=by rw[Mx,Nn (by omega)];exact j _ (List.getElem_mem _)
    clear c;have f:=aA b;by_cases c:l.getD a 0=0
    ·rw[c]at q
     have A:=IntWalk.wrap64_in ((a:Int)-1) ⟨by omega,by omega⟩;have h:=IntWalk.i64_in ((a:Int)-1) ⟨by omega,by omega⟩;have g:=aA c;clear b c d;go_wp2_with fail;go_roundw
     case rel=>exact⟨a,by omega,(qy g.out).symm.trans f.out,by go_num,trivial⟩
     case measure=>simp[intOf]
    ·generalize h:l.getD a 0=H at*
     have A:((H:Int)==0)=false:=by simp;omega
     have g:=aH (show l.getD a 0≠0 by rw[h];exact c) h;clear b c d h;go_wp2_with fail;go_ret;exact⟨by have:=(TB g.out.1).symm.trans f.out;rw[←this];simp,Bl⟩
theorem TD (a:Option Addr) (n c:Nat) (w:Mr):(binOp .eql 158 (.slice a n c) (.slice N 0 0)).run Y w=.ok (.bool a.isNone) w:=by simp only[binOp];simp[run_equal_slice_nil w 158 5 a n c underlying158]
theorem lO:(Y.info? 5).map (fun a=>(a.zero,a.size,a.bytes))=S (S (.int .u8 0),1,1):=by kernel_rfl
theorem TE (g off j:Nat):(⟨g,off,N⟩:Addr).add j=⟨g,off+j,N⟩:=by unfold Addr.add;split<;>simp_all
theorem TF (l:List Nat) (g:l.length≤1000000) (v:Ms) (w:Mr) (u:iW v l w):Mt Y 219 #[v] w fun e a=>∃f,e=E f∧fP f l a∧(∀r,f.ownBlock=S r→w.heap.size≤r)∧Mu w.heap.size w a:=by
 rcases u with⟨rfl,rfl⟩|⟨r,d,h,rfl,s,J,x,f⟩
 ·have y:=TD N 0 0 w;go_in;go_wp2;go_ret;exact⟨_,rfl,fP.nil _,fun r a=>by simp[Ny]at a,Bl⟩
 ·obtain⟨z,m,n,o,q⟩:=info_parts lO
  have i:(w.alloc (O #[] 5)).ownsRow w.heap.size 5 1 (.slice (S ⟨w.heap.size,0,N⟩) 0 0) 0 []:=⟨rfl,.inr ⟨w.heap.size,0,#[],rfl,Nl,aG _ _ _ rfl,Nl,Ns _,rfl,rfl⟩⟩
  have a:∀k t,(aT l)[k]?=S t→(w.alloc (O #[] 5)).cell? ((⟨r,d,N⟩:Addr).add k)=S t:=fun k t c=>by
   have j:k<l.length:=by rw[←fC];exact(Oe.1 c).1
   rw[kL l j]at c;rw[TE,((K.alloc (K.refl w) (O #[] 5)).cell (p:=⟨r,d+k,N⟩) x),←c];exact f k j
  have y:=TD (S ⟨r,d,N⟩) l.length h w;have A:=aA a;clear f a;go_in;go_wp2_with(at_builtin;refine wpList_append_own_at _ rfl _ _ 158 rfl w.heap.size 5 z _ 1 1 underlying158 m n o q rfl (by decide) _ _ [] rfl i ⟨r,d,N⟩ l.length h (aT l) rfl (by rw[fC,Nat.mul_one]) A.out (xO l) (by unfold maxLen;omega) (by omega) (by simp) ?_;intro f L c a _ t);go_ret;refine⟨f,rfl,?_,fun b g=>(Mr.ownsRow.lt c b g).1,?_⟩
  ·obtain⟨M,s⟩:=c
   refine⟨by rw[fC,Nat.mul_one],?_⟩;rcases s with⟨e,B⟩|⟨C,j,k,e,B,D,P,F,G,H⟩
   ·exact .inl ⟨e,by omega⟩
   ·exact .inr ⟨C,j,k,by rw[e,Nat.zero_add],Ns _,D,by omega,F,G,by simpa using H⟩
  ·have k:(w.alloc (O #[] 5)).heap.size=w.heap.size+1:=by simp
   refine⟨a.os,a.tape,a.output,by have:=a.size;omega,fun b g=>(a.block b (by omega) fun e=>?_).trans (aV _ _ _ g)⟩;have j:S b=S w.heap.size:=e;injection j with j;omega
theorem iW.take {l:List Nat} {off cap:Nat} (i:iW (.slice (S ⟨g,off,N⟩) l.length cap) l W) (j:n≤l.length):iW (.slice (S ⟨g,off,N⟩) n cap) (l.take n) W:=by
 rcases i with⟨i,_⟩|⟨k,c,d,b,m,a,f,h⟩
 ·simp at i
 ·simp at b
  obtain⟨⟨rfl,rfl⟩,rfl⟩:=b;have e:(l.take n).length=n:=by rw[List.length_take];omega
  refine .inr ⟨g,off,cap,by rw[e],by omega,a,f,fun o b=>?_⟩;rw[h o (by omega),Mx,Mx,List.getElem?_take_of_lt (by omega)]
theorem KJ (l:List Nat) (u:l.length≤1000000) (z:∀a∈l,a<256) (v:Ms) (w:Mr) (H:iW v l w):Mt Y 220 #[v] w fun e a=>∃f,e=E f∧fP f (gF l) a∧(∀q,f.ownBlock=S q→w.heap.size≤q)∧Mu w.heap.size w a:=by
 have g:=aA (TC l u z v w H);have J:=aA H;have b:=BL l l.length;have j:=aA fun v w=>TF (gF l) (by rw[KI];omega) v w;have⟨m,h⟩:=Ey (m7 l l.length);have k:gF l=l.take m:=by unfold gF;rw[h]
 rw[h]at g b;rw[k]at j ⊢;have A:=IntWalk.wrap64_in ((m:Int)-1+1) ⟨by omega,by omega⟩;have r:=IntWalk.i64_in ((m:Int)-1+1) ⟨by omega,by omega⟩;have B:(m:Int)-1+1=m:=by omega
 rcases H with⟨rfl,rfl⟩|⟨q,i,c,rfl,x,s,C,y⟩
 ·have t:m=0:=by simpa using b
  subst t;clear A r B b h k;go_in;go_wp2_with(first|(go_at_call 217;refine g.out.mono ?_;rintro e D ⟨rfl,a⟩)|(go_at_call 219;refine(j.out _ _ (.inl ⟨rfl,by simp⟩)).mono ?_;rintro e F ⟨f,rfl,o,p,d⟩));go_ret;exact⟨_,rfl,o,fun q h=>by have:=p q h;have:=a.size;omega,Kc a d⟩
 ·have⟨n,a⟩:=Ex l.length
  have t:=aA (show iW (.slice (S ⟨q,i,N⟩) m c) (l.take m) w from iW.take (.inr ⟨q,i,c,rfl,x,s,C,y⟩) b);have G:(m:Int)≤c:=by omega
  rw[←a]at b g u x ⊢;clear h k a y;go_in;go_wp2_with(first|(go_at_call 217;refine g.out.mono ?_;rintro e D ⟨rfl,a⟩)|(go_at_call 219;refine(j.out _ _ ?_).mono ?_;rotate_left;rintro e F ⟨f,rfl,o,p,d⟩))
  ·go_ret;exact⟨_,rfl,o,fun q h=>by have:=p q h;have:=a.size;omega,Kc a d⟩
  ·exact t.out.keeps a
theorem lQ {a b:Nat} (c:a<256) (d:b<256):a^^^b<256:=Nat.xor_lt_two_pow (n:=8) c d
theorem EM (a:i≤1000000) (b:k≤1000000) (c:j=i+k):wrap64 ((i:Int)+k)=j∧IntKind.i64.wrap ((i:Int)+k)=j:=⟨(IntWalk.wrap64_in ((i:Int)+k) ⟨by omega,by omega⟩).trans (by omega),(IntWalk.i64_in ((i:Int)+k) ⟨by omega,by omega⟩).trans (by omega)⟩
def bM (l:List Nat):Prop:=∀a∈l,a<256
theorem bM.get {l:List Nat} (b:bM l) (j:Nat):l.getD j 0<256:=by
 by_cases a:j<l.length
 ·rw[Mx,Nn a];exact b _ (List.getElem_mem _)
 ·rw[Mx,List.getElem?_eq_none (by omega)];decide
theorem bM.set {l:List Nat} (e:bM l) (j:Nat) {a:Nat} (d:a<256):bM (l.set j a):=fun b c=>by
 rcases List.mem_or_eq_of_mem_set c with c|rfl
 ·exact e _ c
 ·exact d
theorem bM.trim {l:List Nat} (b:bM l):bM (gF l):=fun c a=>b c (List.mem_of_mem_take a)
def xat (o:List Nat) (j v:Nat):List Nat:=o.set j (o.getD j 0^^^v)
theorem BM (o:List Nat) (j v:Nat):(xat o j v).length=o.length:=Od
theorem bM.xat {o:List Nat} (b:bM o) (j:Nat) {v:Nat} (a:v<256):bM (xat o j v):=b.set _ (lQ (b.get j) a)
def iX (o:List Nat) (i a:Nat) (q:List Nat):Nat→List Nat
 |0=>o
 |k+1=>xat (iX o i a q k) (i+k) (gmul a (q.getD k 0))
def lR (p q:List Nat):Nat→List Nat
 |0=>Nd (p.length+q.length) 0
 |i+1=>iX (lR p q i) i (p.getD i 0) q q.length
theorem sG {o:List Nat} (c:bM o) (i a:Nat) (q:List Nat):∀b,bM (iX o i a q b)∧(iX o i a q b).length=o.length
 |0=>⟨c,rfl⟩
 |b+1=>⟨(sG c i a q b).1.xat _ (mQ _ _),(BM _ _ _).trans (sG c i a q b).2⟩
theorem uM (p q:List Nat):∀a,bM (lR p q a)∧(lR p q a).length=p.length+q.length
 |0=>⟨fun c b=>by rw[List.eq_of_mem_replicate b];decide,List.length_replicate⟩
 |a+1=>⟨(sG (uM p q a).1 _ _ _ _).1,(sG (uM p q a).1 _ _ _ _).2.trans (uM p q a).2⟩
def TG (p q:List Nat):List Nat:=gF (lR (gF p) (gF q) (gF p).length)
theorem BN (l:List Nat) (j a:Nat):aT (l.set j a)=(aT l).set j (.int .u8 (a:Int)):=by unfold aT;rw[List.map_set]
theorem KK {cap:Nat} {l:List Nat} (c:d7 5 g (aT l) W) (a:l.length≤cap) (d:cap≤maxLen) (b:l.length=n):iW (.slice (S ⟨g,0,N⟩) n cap) l W:=by subst b;exact .inr ⟨g,0,cap,rfl,a,trivial,c.lt,fun e b=>by rw[Nat.zero_add];exact c.cell (kL l b)⟩
theorem TH (l:List Nat) (b:l.length≤1000000) (g:∀a∈l,a<256) (h:gF l≠[]) (v:Ms) (w:Mr) (m:iW v l w):Mt Y 220 #[v] w fun e c=>∃d a,e=E (.slice (S ⟨d,0,N⟩) (gF l).length a)∧(gF l).length≤a∧a≤maxLen∧w.heap.size≤d∧d7 5 d (aT (gF l)) c∧Mu w.heap.size w c:=by
 refine(KJ l b g v w m).mono ?_;rintro e c ⟨n,rfl,s,f,b⟩;rcases s.cases with⟨_,m⟩|⟨d,a,rfl,i,j,k⟩
 ·exact absurd m h
 ·exact⟨d,a,rfl,i,j,f d rfl,k,b⟩
theorem ra (p q:List Nat) (h:bM p) (o:bM q) (u:p.length≤100) (v:q.length≤100) (d:gF p≠[]) (f:gF q≠[]) (vp vq:Ms) (w:Mr) (x:iV F w) (rp:iW vp p w) (y:iW vq q w):Mt Y 211 #[.pointer (S ⟨F,0,N⟩),vp,vq] w fun e a=>∃c,e=E c∧fP c (TG p q) a∧(∀z,c.ownBlock=S z→w.heap.size≤z)∧Mu w.heap.size w a:=by
 have HP:=aA (TH p (by omega) h d vp w rp);have HQ:=aA fun a (l:aC w a)=>TH q (by omega) o f vq a (y.keeps l);have HM:=aA fun a (l:aC w a) X b g c=>BK (F:=F) X b g c a (x.keeps l);have lp:(gF p).length≤100:=by rw[KI];have:=BL p p.length;omega
 have lq:(gF q).length≤100:=by rw[KI];have:=BL q q.length;omega
 have HB:=aH h.trim o.trim;show Mt _ _ _ _ fun e a=>∃c,e=E c∧fP c (gF (lR (gF p) (gF q) (gF p).length)) a∧_;generalize gF p=P at*;generalize gF q=Q at*;have HT:=aA fun c a=>KJ (lR P Q P.length) (by rw[(uM _ _ _).2];omega) (uM _ _ _).1 c a;have⟨n,a⟩:=Ey P.length;have⟨m,c⟩:=Ey Q.length;have C:=aH a c;rw[a]at lp HP HT ⊢;rw[c]at lq HQ;obtain⟨i0,aa,ab,ad,ae⟩:=info_parts lO;obtain⟨t,g⟩:∃t:Nat,t=n+m:=⟨_,rfl⟩;have L:wrap64 ((n:Int)+m)=t:=(IntWalk.wrap64_in ((n:Int)+m) ⟨by omega,by omega⟩).trans (by omega);have z:IntKind.i64.wrap ((n:Int)+m)=t:=(IntWalk.i64_in ((n:Int)+m) ⟨by omega,by omega⟩).trans (by omega);have lt:t≤200:=by omega
 have r:=aA g;clear x rp y h o u v a c d f g;go_in;go_wp2_with fail;refine HP.out.mono ?_;rintro e w1 ⟨g1,c1,rfl,G,H,M,x,f⟩;go_wp2_with fail;refine(HQ.out _ f).mono ?_;rintro e o ⟨g2,c2,rfl,h,u,A,g,c⟩;go_wp2_with(at_make;refine wpList_make_full _ rfl _ _ 158 rfl 0 5 i0 _ 1 underlying158 aa ab ad _ _ _ _ t rfl rfl rfl rfl (by rw[ae];omega) (by unfold maxLen;omega) (Ns _) ?_;intro w3 d a;have B:=a.size);have y:aC w o:=Kc f c;have v:aC o w3:=(aF.grown (aF.refl (fun _=>False) o) a fun k l=>by cases l).below Nl fun i R=>R.elim
 have D:d7 5 o.heap.size (aT (lR P Q 0)) w3:=by
  have:=d7.own d
  have e:(madeCells (I .u8 0).cells (t*1)).toList=aT (lR P Q 0):=by
   have⟨l,J⟩:=C.out;unfold aT lR;rw[List.map_replicate,l,J,r.out,Nat.mul_one];unfold madeCells;apply List.ext_getElem
   ·simp
   ·intro i l J;simp[Ms.cells,Nat.mod_one]
  rw[←e];exact this
 have hP:=(x.keeps c).keeps v;have hQ:=g.keeps v;have bm:g1<o.heap.size:=(x.keeps c).lt;have bn:g2<o.heap.size:=g.lt;have HK:=aA (Kc y v);have HA:=bT G H h u;have br:w.heap.size≤o.heap.size:=y.size;clear L z;clear x g f c d a y v A B G H h u M;generalize a:o.heap.size=d at*;clear a;go_loopw [24] (fun s W=>∃i:Nat,i≤n∧s=I Z i∧d7 5 d (aT (lR P Q i)) W∧aF (fun b=>b=d) w3 W) fun s _=>n-(intOf s).toNat
 case atStart=>exact⟨0,by omega,rfl,D,Cl⟩
 case round=>
  obtain⟨i,hi,rfl,D,c⟩:=hrel;by_cases an:i<n
  ·have bs:(i:Int)<n:=by omega
   have f:=hP.chg c (by show g1≠d;omega);have⟨H,J⟩:=C.out;have c1:=f.cell (kL P (j:=i) (by omega));have z1:=f.lt;have⟨X,g⟩:=Ey (P.getD i 0);have ar:X<256:=by rw[←g];exact HB.out.1.get i
   rw[g]at c1;have HX:=Hd3 c f g;clear f c H J g;go_wp2_with fail;obtain⟨wu,rfl⟩:∃a,a=wr:=⟨_,rfl⟩;go_loopw [31] (fun s W=>∃k:Nat,k≤m∧s=I Z k∧d7 5 d (aT (iX (lR P Q i) i X Q k)) W∧aF (fun b=>b=d) wu W) fun s _=>m-(intOf s).toNat
   case atStart=>exact⟨0,by omega,rfl,D,Cl⟩
   case round=>
    obtain⟨k,l,rfl,h,c⟩:=hrel;have⟨u,f,g⟩:=HX.out;by_cases an:k<m
    ·have bv:(k:Int)<m:=by omega
     have⟨j,z⟩:=Ex (i+k);have av:=aA (EM (i:=i) (k:=k) (by omega) (by omega) z);have A:=(hQ.chg u (by show g2≠d;omega)).chg c (by show g2≠d;omega);have⟨H,J⟩:=C.out;have c2:=A.cell (kL Q (j:=k) (by omega));have z2:=A.lt;have⟨bz,x⟩:=Ey (Q.getD k 0);have L:bz<256:=by rw[←x];exact HB.out.2.get k
     rw[x]at c2;have M:j<t:=by have:=r.out;omega
     have bw:(j:Int)<t:=by omega
     have hT:t=P.length+Q.length:=by rw[H,J];exact r.out
     obtain⟨mk,R⟩:=sG (uM P Q i).1 i X Q k;rw[(uM P Q i).2,←hT]at R;have c3:=h.cell (kL (iX (lR P Q i) i X Q k) (j:=j) (by rw[R];exact M));have ba:=aA R;clear R hT;have f3:=h.frozen j;have z3:=h.lt;have x8:=mk.get j;generalize G:(iX (lR P Q i) i X Q k).getD j 0=bx at*;have⟨bd,y⟩:=Ey (gmul X bz);have T:bd<256:=by rw[←y];exact mQ _ _
     have hG:=aA (fun a (l:aC wr a)=>by have:=HM.out a (Kc (((aF.of_below HK.out fun _=>False).next (u.trans c) fun i R=>.inr (by have R:i=d:=R;omega)).below Nl fun i R=>R.elim) l) X bz ar L;rw[y]at this;exact this);have e5:=u8_xor_nat bx bd x8 T;have HY:=eQ c h G x y z;clear c h G x y u f g D hP hQ A H J mk z x8 T L;have⟨e4,bb⟩:=av.out;go_wp2_with fail;refine uK _ (by kernel_rfl) (by kernel_rfl) rfl ?_;simp only[List.dropLast]
     repeat
      with_reducible refine Mz fun K f=>?_
      go_simp
      try first
       |(apply Ei
         intro a c;obtain⟨g,h⟩:=c.cells;go_simp
         first
          |(go_at_call 209;with_reducible exact c.call (hG.out _ c))
          |rfl)
       |(with_reducible refine aQ ?_ ?_;decide)
      refine f _ ?_;clear f K
     with_reducible refine Na ?_
     intro w9 B;have⟨c,h,G,x,y,z⟩:=HY.out;have U:=c.next (cw':=fun _=>False) (aF.of_below B _) fun i R=>R.elim;have a:=h.keeps B;clear e4 bb;have c9:=a.cell (kL (iX (lR P Q i) i X Q k) (j:=j) (by rw[ba.out];exact M));have f9:=a.frozen j;have v:=a.set j (.int .u8 ((bx^^^bd:Nat):Int));have V:aF (fun b=>b=d) wu (w9.setCell ⟨d,j,N⟩ (.int .u8 ((bx^^^bd:Nat):Int))):=aF.setCell U (p:=⟨d,j,N⟩) (.inl rfl) _;rw[←BN]at v;have eL:(iX (lR P Q i) i X Q k).set j (bx^^^bd)=iX (lR P Q i) i X Q (k+1):=by show _=xat _ (i+k) (gmul X (Q.getD k 0));unfold xat;rw[x,y,←z,G]
     rw[eL]at v;have HZ:=aH v V;have z9:=a.lt;clear c h G x y z U a v V eL c3 f3 z3 B;go_wp2_with fail;go_roundw
     case rel=>exact⟨k+1,by omega,by go_num,HZ.out.1,HZ.out.2⟩
     case measure=>simp[intOf];omega
    ·have a:k=m:=by omega
     subst a;go_wp2_with fail;go_roundw
     case rel=>exact⟨i+1,by omega,by go_num,by show d7 5 d (aT (iX (lR P Q i) i (P.getD i 0) Q Q.length)) _;rw[g,C.out.2];exact h,u.trans c⟩
     case measure=>simp[intOf];omega
  ·have a:i=n:=by omega
   subst a;go_wp2_with(go_at_call 220;(with_reducible refine(HT.out _ _ ?_).mono ?_);rotate_left;rintro e u ⟨f,rfl,g,h,a⟩)
   ·go_ret;refine⟨f,rfl,g,fun z l=>?_,Kc (((aF.of_below HK.out fun _=>False).next c fun i R=>.inr (by have R:i=d:=R;omega)).below Nl fun i R=>R.elim) a⟩;have:=h z l;have:=c.size;have:=HK.out.size;omega
   ·have:=(uM P Q i).2;have l:=C.out;have:=r.out;exact KK D (by omega) (by unfold maxLen;omega) (by omega)
end
section
open Go.RowKit Go.Shelf lin
theorem EN:(∀n:Fin 255,gexp ((n.val+1)%255)=twN (gexp n.val))∧(∀a:Fin 256,a.val≠0→gexp (glog a.val)=a.val)∧(∀n:Fin 255,glog (gexp n.val)=n.val∧gexp n.val≠0):=by decide+kernel
theorem TJ {a:Nat} (c:a<256) (b:a≠0):gexp (glog a)=a:=EN.2.1 ⟨a,c⟩ b
theorem BO (a:n<255):glog (gexp n)=n:=(EN.2.2 ⟨n,a⟩).1
theorem BP (a:n<255):gexp n≠0:=(EN.2.2 ⟨n,a⟩).2
theorem KN (a:Nat) (b:a<256):twN a=(2*a)^^^(a/128*285):=by
 have:∀a:Fin 256,twN a.val=(2*a.val)^^^(a.val/128*285):=by decide+kernel
 exact this ⟨a,b⟩
theorem rb {a b:Nat} (f:a<256) (g:b<256):twN (a^^^b)=twN a^^^twN b:=by
 have e:a^^^b<256:=Nat.xor_lt_two_pow (n:=8) f g;rw[KN _ f,KN _ g,KN _ e]
 have i:2*(a^^^b)=(2*a)^^^(2*b):=by
  apply Nat.eq_of_testBit_eq;intro h;rcases h with _|h
  ·simp[Nat.testBit_zero,Nat.testBit_xor]
  ·have s:∀c,(2*c).testBit (h+1)=c.testBit h:=fun c=>by rw[Nat.testBit_succ];congr 1;omega
   rw[s,Nat.testBit_xor,Nat.testBit_xor,s,s]
 have j:(a^^^b)/128=(a/128)^^^(b/128):=by have:=Nat.xor_div_two_pow (a:=a) (b:=b) (n:=7);simpa using this
 rw[i,j];have c:a/128=0∨a/128=1:=by omega
 have d:b/128=0∨b/128=1:=by omega
 rcases c with c|c<;>rcases d with d|d<;>rw[c,d]
 ·simp
 ·simp[Nat.xor_assoc]
 ·simp only[Nat.zero_mul,Nat.one_mul,Nat.xor_zero];ac_rfl
 ·apply Nat.eq_of_testBit_eq;intro h;simp only[Nat.testBit_xor];rw[show((1:Nat)^^^1)*285=0 from rfl,Nat.zero_testBit];cases(2*a).testBit h<;>cases(2*b).testBit h<;>simp
def sH:Nat→Nat→Nat
 |0,a=>a
 |n+1,a=>twN (sH n a)
theorem KO {a:Nat} (b:a<256):∀n,sH n a<256
 |0=>b
 |n+1=>T7 _ (KO b n)
theorem TK {a b:Nat} (c:a<256) (d:b<256):∀n,sH n (a^^^b)=sH n a^^^sH n b
 |0=>rfl
 |n+1=>by show twN _=twN _^^^twN _;rw[TK c d n,rb (KO c n) (KO d n)]
theorem TL {m:Nat} (a:m<255):∀n,gexp ((n+m)%255)=sH n (gexp m)
 |0=>by rw[Nat.zero_add,Og a];rfl
 |n+1=>by show _=twN (sH n (gexp m));rw[←TL a n,←EN.1 ⟨(n+m)%255,Nat.mod_lt _ (by decide)⟩];congr 1;simp only;omega
theorem rc:twN 0=0:=by decide
theorem TM:∀n,sH n 0=0
 |0=>rfl
 |n+1=>by show twN (sH n 0)=0;rw[TM n];exact rc
theorem EO {a b:Nat} (d:b<256) (e:a≠0):gmul a b=sH (glog a) b:=by
 unfold gmul;by_cases c:b=0
 ·rw[Fp (.inr c),c,TM]
 ·rw[Fn (by omega),TL (uL d),TJ d c]
theorem EP (a:Nat):gmul a 0=0:=by unfold gmul;rw[Fp (.inr rfl)]
theorem xP (a:Nat):gmul 0 a=0:=by unfold gmul;rw[Fp (.inl rfl)]
theorem uO (a b:Nat):gmul a b=gmul b a:=by unfold gmul;simp only[Nat.add_comm,or_comm]
theorem wD (a:Nat) {b c:Nat} (d:b<256) (e:c<256):gmul a (b^^^c)=gmul a b^^^gmul a c:=by
 by_cases f:a=0
 ·subst f;rw[xP,xP,xP];rfl
 ·rw[EO (Nat.xor_lt_two_pow (n:=8) d e) f,EO d f,EO e f,TK d e]
theorem BQ (a:Nat) {b c:Nat} (d:b<256) (e:c<256):gmul (b^^^c) a=gmul b a^^^gmul c a:=by rw[uO,wD a d e,uO a b,uO a c]
theorem BR {a b:Nat} (c:a≠0) (d:b≠0):gmul a b≠0:=by unfold gmul;rw[Fn (by omega)];exact BP (Nat.mod_lt _ (by decide))
theorem KQ {a b:Nat} (c:a≠0) (d:b≠0):glog (gmul a b)=(glog a+glog b)%255:=by unfold gmul;rw[Fn (by omega),BO (Nat.mod_lt _ (by decide))]
theorem pD (a b c:Nat):gmul (gmul a b) c=gmul a (gmul b c):=by
 by_cases e:a=0
 ·subst e;simp only[xP]
 by_cases d:b=0
 ·subst d;simp only[xP,EP]
 by_cases f:c=0
 ·subst f;simp only[EP]
 have k:=BR e d;have l:=BR d f;have g:=KQ e d;have h:=KQ d f;have i:gmul (gmul a b) c=gexp ((glog (gmul a b)+glog c)%255):=by show(if gmul a b=0∨c=0 then 0 else _)=_;rw[Fn (by omega)]
 have j:gmul a (gmul b c)=gexp ((glog a+glog (gmul b c))%255):=by show(if a=0∨gmul b c=0 then 0 else _)=_;rw[Fn (by omega)]
 rw[i,j,g,h];congr 1;omega
theorem rh {a:Nat} (c:a<256):gmul 1 a=a:=by
 have b:glog 1=0:=by have:=BO (n:=0) (by decide);rwa [show gexp 0=1 by decide+kernel]at this
 rw[EO c (by decide),b];rfl
theorem ro {a b:Nat} (c:a<256) (e:b<256) (d:b≠0):gdiv (gmul a b) b=a:=by
 by_cases f:a=0
 ·subst f;rw[xP];unfold gdiv;rw[Fp (.inl rfl)]
 ·have g:=BR f d
  have h:=uL c;have i:=uL e;show(if gmul a b=0∨b=0 then 0 else _)=_;rw[Fn (by omega),KQ f d];have:(((((glog a+glog b)%255:Nat):Int)-(glog b:Nat))%255).toNat=glog a:=by omega
  rw[this,TJ c f]
def gev (l:List Nat) (x:Nat):Nat:=l.foldr (fun a s=>gmul s x^^^a) 0
theorem xQ {l:List Nat} (b:∀a∈l,a<256) (x:Nat):gev l x<256:=by
 cases l with
 |nil=>show 0<256;decide
 |cons a l=>exact Nat.xor_lt_two_pow (n:=8) (mQ _ _) (b a (by simp))
theorem TN:∀(p q:List Nat),p.length=q.length→(∀c∈p,c<256)→(∀c∈q,c<256)→∀a,gev (List.zipWith (·^^^·) p q) a=gev p a^^^gev q a
 |[],[],_,_,_,a=>by show(0:Nat)=0^^^0;rfl
 |c::p,b::q,g,h,i,a=>by
  have f:p.length=q.length:=by simpa using g
  have d:∀c∈p,c<256:=fun c j=>h c (by simp[j]);have e:∀c∈q,c<256:=fun c j=>i c (by simp[j]);show gmul (gev (List.zipWith _ p q) a) a^^^(c^^^b)=(gmul (gev p a) a^^^c)^^^(gmul (gev q a) a^^^b);rw[TN p q f d e a,BQ a (xQ d a) (xQ e a)];ac_rfl
def gpow (x:Nat):Nat→Nat
 |0=>1
 |n+1=>gmul (gpow x n) x
end
end Go.Proofs.YtlbgenenpheheaaGreat
