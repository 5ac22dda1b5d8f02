/- What the six laws Whole.. of the program cuirasstop lean on, part 2: contracts of its functions and laws of what they compute; for all arguments that each theorem names -/
import Derived.Test.YtlbgenenpheheaaGreatB0
import Derived.Deep.RegionLaw
import Derived.Deep.SlicePairs
import Derived.IntWalk
import Derived.Laws.Concat
import Derived.Laws.RangeAny
import Derived.Laws.ResultCell
import Derived.Lib.OthersKept
import Derived.Maps.OwnOps
import Derived.Maps.Views
import Derived.OwnWalk
set_option linter.unusedVariables false
set_option linter.unusedSimpArgs false
set_option maxHeartbeats 100000000
set_option maxRecDepth 100000
namespace Go.Proofs.YtlbgenenpheheaaGreat
open Go.Value renaming int→I
open Go.IntKind renaming i64→Z
open Go.Obj renaming cells→O
open Go.Ending renaming returned→E
open Tryz renaming prog→Y
open Tryz
open _root_.Array renaming getElem?_eq_some_iff→Nz,length_toList→Oj
open _root_.Bool renaming and_eq_true→Nq
open Go renaming World→Mr,Value→Ms,Calls→Mt,undef→Mv,bodyPost_ret→My,wpQuiet_step→Mz,wpQuiet_nil→Na,callsIn_wide→Nk,run_storeCells_new→Nt,results_none→Nw,results_cell_row→Oa,below_setRow→Ob
open Go.IntKind renaming u8→Nb
open Go.RowKit renaming Below→Mu
open Go.Value renaming oneCell'→Ni,ownBlock→Ny
open Go.World renaming putObj_heap_other→Ok
open _root_.List renaming getD→Mx,replicate→Nd,range→Nf,getElem?_eq_getElem→Nn,length_map→Np,length_append→Nr,size_toArray→Nv,length_cons→Oc,length_set→Od,getElem?_eq_some_iff→Oe,getElem?_map→Of
open _root_.Nat renaming le_trans→Ng,lt_of_lt_of_le→Nj,zero_le→Ns,mod_eq_of_lt→Og
open _root_.Option renaming some→S,none→N
variable {B D L g j k n room:Nat} {P:Program} {W W' w:World} {a b d f r res way:Int} {cw:Nat→Prop} {v:Value}
namespace lin
open Go.RowKit Go.Shelf
theorem rZ (c:a=b):Ending.returned (I Z a)=Ending.returned (I Z b):=by rw[c]
theorem DX (x:Nat) (k:x<2^64) (w:Mr):Mt Y 157 #[.int .u64 x] w fun e a=>e=E (I Z (popc x:Nat))∧w=a:=by
 have p:=J0 x;generalize a:popc x=P at*;have b:=aA a;clear a;go_in;go_wp2
 go_loop [0,3] (fun a n=>∃m i:Nat,a=.int .u64 m∧n=I Z i∧m<18446744073709551616∧i+popc m=P) fun a _=>(intOf a).toNat
 case atStart=>exact⟨x,0,rfl,rfl,k,by have:=b.out;omega⟩
 case round=>
  obtain⟨m,i,rfl,rfl,s,a⟩:=hrel;by_cases c:m=0
  ·subst c;rw[AS]at a;have d:=aA a;clear a;go_wp2;go_ret;exact⟨rZ (by have:=d.out;omega),rfl⟩
  ·have d:=IZ (n:=m) (by omega) (by omega)
   have t:m&&& (m-1)≤m-1:=Nat.and_le_right;have f:=ge m (m-1) (by omega) (by omega);have g:((m:Int)-1)=((m-1:Nat):Int):=by omega
   have q:((m:Int)==0)=false:=by simp;omega
   have r:1≤m:=by omega
   have j:i≤64:=by omega
   have l:Hid (i+popc m=P):=a;have o:Hid (popc (m&&& (m-1))+1=popc m):=d;have h:Hid (bits .and .u64 (m:Int) ((m:Int)-1)=((m&&& (m-1):Nat):Int)):=by show _=_;rw[g];exact f
   clear a d f g c;go_wp2;go_round
   case rel=>exact⟨m&&& (m-1),i+1,by rw[h.out],by go_num,by omega,by have:=l.out;have:=o.out;omega⟩
   case measure=>rw[h.out];simp[intOf];omega
theorem QK (x:Nat) (a:x<2^64) (w:Mr):Mt Y 106 #[.int .u64 x] w fun e b=>e=E (.bool (decide (x=18446744073709551615)))∧w=b:=by
 have b:(((popc x:Nat):Int)==64)=decide (x=18446744073709551615):=by rw[Bool.eq_iff_iff];simp only[beq_iff_eq,decide_eq_true_eq];rw[←fy a];omega
 have c:=aA b;clear b;go_in;go_wp2_with(go_at_call 157;refine(DX x a _).mono ?_;rintro e b ⟨rfl,rfl⟩);go_ret;rw[c.out];exact⟨rfl,rfl⟩
attribute [local simp] Mf Mg
attribute [local go_sem] Mh
end lin
namespace lin
open Go.RowKit Go.Shelf
theorem xG (l:List Int) (a:l.length=64) (b:aX 64 l) (k:Nat) (i:k<8) (w:Mr):Mt Y 189 #[.agg (aD .u8 l),I Z k] w fun e c=>e=E (.int .u64 ((wordV l k:Nat):Int))∧Mu w.heap.size w c:=by
 have q:=aA a;have j:=aA b;have t:(k:Int)<8:=by omega
 clear a b;go_in;go_wp2_with fail;have⟨W,a⟩:=Ex (w.alloc (O (aD .u8 l) 38));have f:W.heap[w.heap.size]?=S (O (aD .u8 l) 38):=by rw[a];exact heap_alloc_new _ _
 have c:Mu w.heap.size w W:=by rw[a];exact Bl.alloc Nl _
 rw[←a];clear a
 go_loop [5,7] (fun a d=>∃b:Nat,b≤8∧d=I Z b∧a=.int .u64 ((pU (wby l k) b:Nat):Int)) fun _ d=>8-(intOf d).toNat
 case atStart=>exact⟨0,by omega,rfl,rfl⟩
 case round=>
  obtain⟨b,x,rfl,rfl⟩:=hrel;by_cases a:b<8
  ·obtain⟨g,m⟩:=AQ j.out i a
   have r:=sC W _ (8*k+b) _ 38 f (by rw[q.out];omega);rw[m]at r;have u:(b:Int)<8:=by omega
   have z:=Hd3 f g a;clear f g m c;generalize d:pU (wby l k) b=v at*;generalize o:wby l k b=p at*;have h:=aA d;have s:=aA o;clear d o;go_wp2_with fail;go_round
   case rel=>
    refine⟨b+1,by omega,by go_num,?_⟩;have⟨_,g,a⟩:=z.out;have c:v<256^b:=by rw[←h.out];exact DT _ _ fun d f=>(AQ j.out i (show d<8 by omega)).1
    have d:IntKind.u64.wrap (IntKind.u64.wrap (p:Int)*2^(8*b))=((p*256^b:Nat):Int):=by
     have m:p*256^b<2^64:=by have o:p*256^b≤255*256^b:=Nat.mul_le_mul_right _ (by omega);have f:256^(b+1)≤256^8:=Nat.pow_le_pow_right (by omega) (by omega);rw[Nat.pow_succ]at f;have y:=Nat.pow_pos (n:=b) (show 0<256 by omega);omega
     have f:(2:Int)^(8*b)=((256^b:Nat):Int):=by rw[Int.pow_mul];simp
     rw[IntKind.wrap_u64,IntKind.wrap_u64,f,Int.emod_eq_of_lt (show(0:Int)≤p by omega) (by omega),←Int.natCast_mul];omega
    rw[d,fv v p b a c g,pU,h.out,s.out]
   case measure=>simp[intOf];omega
  ·have:b=8:=by omega
   subst this;generalize d:pU (wby l k) 8=v at*;have h:=aA d;have g:=aA c;clear d f c;go_wp2_with fail;go_ret;exact⟨by rw[wordV,h.out];rfl,g.out⟩
theorem iF {fn:Func} {p u:Tmp} {a:TypeId} (i:fn.results=#[.cell p a,.tmp u]) (tmps:Array Ms) (w:Mr) (g:Nat) (t:TypeId) (cs:Array Ms) (fr:Nat×Nat) (d:TypeDesc)
 (b:tmps.getD p Mv=.pointer (S ⟨g,0,N⟩)) (c:w.heap[g]?=S (O cs t fr))
 (e:P.underlying a=S d) (f:(match d with|.struct _|.array _ _=>true|_=>false)=true) (h:(P.info? a).map (·.size)=S cs.size):
 (results fn tmps).run P w=.ok (.tuple #[.agg cs,tmps.getD u Mv]) w:=by
 rw[results_cell_tmp i,b];simp[asAddr,run_loadVar_row w g t a cs fr d c e f h]
theorem aV (w:Mr) (o:Obj) (i:Nat) (a:i<w.heap.size):(w.alloc o).heap[i]?=w.heap[i]?:=by show(w.heap.push o)[i]?=_;rw[Array.getElem?_push,Fn (by omega)]
theorem aG (w:Mr) (o:Obj) (n:Nat) (a:n=w.heap.size):(w.alloc o).heap[n]?=S o:=by subst a;show(w.heap.push o)[w.heap.size]?=_;simp
def xH (w:Mr) (bs:List UInt8) (e:Ending) (w':Mr):Prop:=e=E (.tuple #[.agg (aD .u8 (QE bs)),I Z (QF bs)])∧Mu w.heap.size w w'
attribute [local simp] Mf Mg
attribute [local go_sem] Mh
end lin
namespace lin
open Go.RowKit Go.Shelf
theorem gy:∃a,Y.info? 39=S a∧a.size=1:=by
 have b:(Y.info? 39).map (fun a=>a.size)=S 1:=by kernel_rfl
 cases e:Y.info? 39 with
 |none=>rw[e]at b;cases b
 |some a=>rw[e]at b;exact⟨a,rfl,Option.some.inj b⟩
def J3 (w:Mr) (ws:List Int) (j:Nat) (W:Mr):Prop:=W.heap[w.heap.size+1]?=S (O (aD .u8 (Nd 64 0)) 38)∧W.heap[w.heap.size+1+1]?=S (O (aD .u8 (eW (kC ws) 64 j)) 38)∧Mu w.heap.size w W
def QS (w:Mr) (ws:List Int) (e:Ending) (w':Mr):Prop:=e=E (.agg (aD .u8 ((Nf 64).map (kC ws))))∧Mu w.heap.size w w'
attribute [local simp] Mf Mg
attribute [local go_sem] Mh
theorem ia (a:List Int) (b:a.length=8) (c:∀f,f<8→∃n:Nat,a.getD f 0=(n:Int)∧n<2^64) (w:Mr):Mt Y 184 #[.agg (aD .u64 a)] w (QS w a):=by
 obtain⟨y,o,k⟩:=gy;have p:=aA b;have q:=aA c;have d:=fun(W:Mr) (e:aC (w.alloc (O (aD .u64 a) 302)) W)=>fJ (P:=Y) W _ _ 302 (0,0) (aE e (heap_alloc_new w _)) 8 (by rw[aP,b]);clear b c;have c:=d (((w.alloc (O (aD .u64 a) 302)).alloc (O (aD .u8 (Nd 64 0)) 38)).alloc (O (aD .u8 (Nd 64 0)) 38)) ((Bl.alloc Nl _).alloc (by simp) _);rw[←gR]at c;clear d;go_in;go_wp2_with fail;rw[gR];have⟨w0,b⟩:=Ex (((w.alloc (O (aD .u64 a) 302)).alloc (O (aD .u8 (Nd 64 0)) 38)).alloc (O (aD .u8 (Nd 64 0)) 38))
 have r:J3 w a 0 w0:=by
  rw[b];refine⟨?_,?_,((Bl.alloc Nl _).alloc (by simp) _).alloc (by simp;omega) _⟩
  ·rw[aV _ _ _ (by simp)];exact aG _ _ _ (by simp)
  ·rw[DU];exact aG _ _ _ (by simp)
 rw[←b];clear b c;go_loopw [8] (fun b wr=>∃f:Nat,f≤8∧b=I Z f∧J3 w a (8*f) wr) fun b _=>8-(intOf b).toNat
 case atStart=>exact⟨0,by omega,rfl,r⟩
 case round=>
  obtain⟨f,z,rfl,i⟩:=hrel;by_cases c:f<8
  ·obtain⟨n,d,m⟩:=q.out f c
   have l:(Instr.index 302 (.agg (aD .u64 a)) (I Z (f:Nat))).run Y wr=.ok (.int .u64 (n:Nat)) wr:=by rw[←d];exact fi (n:=8) underlying302 underlying39 o k a p.out f c wr
   have u:(f:Int)<8:=by omega
   have h:=aH d c;have s:=aA i;clear d c i;go_wp2_with fail;go_loopw [12] (fun b c=>∃e:Nat,e≤8∧b=I Z e∧J3 w a (8*f+e) c) fun b _=>8-(intOf b).toNat
   case atStart=>exact⟨0,by omega,rfl,s.out⟩
   case round=>
    obtain⟨e,A,rfl,j⟩:=hrel;by_cases g:e<8
    ·have t:(e:Int)<8:=by omega
     obtain⟨d,b,c⟩:=j;have B:=sC wr _ (8*f+e) _ 38 b (by rw[tF];have:=h.out.2;omega);have C:=Fw b (8*f+e);generalize(eW (kC a) 64 (8*f+e)).getD (8*f+e) 0=v at*;have x:=bT d b c g;clear d b c g;go_wp2_with fail;go_roundw
     case rel=>
      have⟨d,b,c,g⟩:=x.out
      have i:((n:Int)/2^(8*e)%256)=kC a (8*f+e):=by
       unfold kC;rw[show(8*f+e)/8=f from by omega,show(8*f+e)%8=e from by omega,h.out.1,Int.toNat_natCast];have j:(2:Int)^(8*e)=((256^e:Nat):Int):=by rw[Int.pow_mul];simp
       rw[j];simp
      rw[i];refine⟨e+1,by omega,by go_num,(Ho (by show _≠w.heap.size+1+1;omega)).trans d,?_,c.setCell (by show _≤w.heap.size+1+1;omega) _⟩;rw[←Nat.add_assoc,←QH _ _ _ (by have:=h.out.2;omega),←AF];exact Hs _ _ b
     case measure=>simp[intOf];omega
    ·have:e=8:=by omega
     subst this;have t:=aA j;have b:=aA h.out.2;clear j;go_wp2_with fail;go_roundw
     case rel=>exact⟨f+1,by have:=b.out;omega,by go_num,by rw[Nat.mul_add];exact t.out⟩
     case measure=>have:=b.out;simp[intOf];omega
  ·have:f=8:=by omega
   subst this;obtain⟨d,b,g⟩:=i;have⟨lx,e⟩:=Ex ((Nf 64).map (kC a));have h:lx.length=64:=by rw[e];simp
   rw[IV,←e]at b;have l:=aA e;have m:=Lw b 64 (by rw[aP,h]);have s:=Sw d (aD .u8 lx) (by rw[aP,aP,h];simp) (dG _ _);have i:=Hw d (aD .u8 lx);have j:(aD .u8 lx).size=64:=by rw[aP,h]
   have x:=aH g i;clear d b g i e h c;go_wp2_with fail;have⟨g,i⟩:=x.out;refine My (Oa (P:=Y) rfl _ _ (w.heap.size+1) 38 (aD .u8 lx) (0,0) (.array 64 5) rfl i (by kernel_rfl) rfl (by rw[j];kernel_rfl)) rfl ?_;exact⟨by rw[l.out],Ob g (by omega) _⟩
end lin
namespace lin
open Go.RowKit Go.Shelf
attribute [local go_sem] Oper.semAt_some
theorem Q7 (l:List Int) (w:Mr):Mt Y 140 #[.agg (aD .u8 l)] w fun e a=>e=E (.func (.func 188) #[] #[.pointer (S ⟨w.heap.size,0,N⟩)])∧a=w.alloc (O (aD .u8 l) 38):=by go_in;go_wp2;go_ret;exact⟨rfl,rfl⟩
def tG (l:List Int):List (Array Ms):=(Nf 8).map fun k=>#[I Z (k:Nat),.int .u64 ((wordV l k:Nat):Int)]
theorem J1 (l:List Int):(tG l).length=8:=by simp[tG]
theorem QL (l:List Int) (k:Nat) (a:k<8):(tG l)[k]?=S #[I Z (k:Nat),.int .u64 ((wordV l k:Nat):Int)]:=by simp[tG,a]
theorem QM (l:List Int) (k:Nat) (v:Array Ms) (b:(tG l)[k]?=S v):k<8∧v=#[I Z (k:Nat),.int .u64 ((wordV l k:Nat):Int)]:=by
 have a:k<8:=by have:=(Oe.1 b).1;rw[J1]at this;exact this
 rw[QL l k a]at b;exact⟨a,(Option.some.inj b).symm⟩
attribute [irreducible] tG
attribute [local simp] Mf Mg
attribute [local go_sem] Mh
theorem gq (l:List Int) (d:l.length=64) (f:aX 64 l) (B:Nat) (W:Mr) (U:B<W.heap.size) (A:W.heap[B]?=S (O (aD .u8 l) 38)):xD Y 188 #[.pointer (S ⟨B,0,N⟩)] (tG l) (fun b=>b=B) W:=by
 intro V C M X P a g c h D;have F:=aA d;have q:=aA f;have G:=aA h;have H:=aA g;have Q:=aA c;have J:=aA a;have K:(aD .u8 l).size=64:=by rw[aP,d]
 clear d f h g c a;refine(Nk (n:=9)).1 ?_;refine callsIn_of_wp func188 rfl trivial ?_ rfl;simp only[ntmps188,Nv,Oc,List.length_nil,Nat.reduceAdd,Nat.reduceSub,Array.replicate_succ,Array.replicate_zero,List.push_toArray,List.append_toArray,List.nil_append,List.cons_append];gi_wp2
 gi_loopw [4] (fun a wr=>∃o:Nat,o≤8∧a=I Z o∧wr.heap[B]?=S (O (aD .u8 l) 38)∧M o wr∧W.heap.size≤wr.heap.size) fun a _=>8-(intOf a).toNat
 case atStart=>exact⟨0,by omega,rfl,A,D,Nl⟩
 case round=>
  obtain⟨o,hk,rfl,a,c,h⟩:=hrel;have t:Hid (M o wr):=c;clear c;by_cases i:o<8
  ·have R:(o:Int)<8:=by omega
   have aa:=Lw a 64 K;have j:=aA a;have f:=aA i;clear a i;gi_wp2_with(refine⟨trivial,?_⟩;gi_at_call 189;refine((Nk (n:=8)).2 (xG l F.out q.out o f.out _)).mono ?_;rintro e u ⟨rfl,c⟩;obtain⟨fn,y,p,z,hy,L⟩:=G.out o _ u 8 (QL l o f.out) (H.out _ _ _ t.out ((aF.of_below c _).mono (fun a d T=>T))) (Ng h c.size));refine L.mono ?_;rintro e v ⟨d,⟨rfl,k⟩|⟨rfl,m⟩⟩
   ·have w:¬C B:=fun T=>(J.out B T).2 rfl
    have a:B<wr.heap.size:=(Nz.1 j.out).1;have i:u.heap[B]?=S (O (aD .u8 l) 38):=(c.block B a).trans j.out;have r:v.heap[B]?=S (O (aD .u8 l) 38):=(d.block B (Nj a c.size) w).trans i;have s:W.heap.size≤v.heap.size:=Ng (Ng h c.size) d.size;have g:=aA k;have x:=aA f.out;clear k w i;gi_wp2
    go_roundw
    case rel=>exact⟨o+1,by have:=x.out;omega,by go_num,r,g.out,s⟩
    case measure=>have:=x.out;simp[intOf];omega
   ·have g:=aA m
    clear m;gi_wp2
    refine My (Nw rfl _ _ _) rfl ?_;exact⟨⟨_,rfl⟩,.inr g.out⟩
  ·have:o=8:=by omega
   subst this;have c:Hid (M (tG l).length wr):=by show M _ wr;rw[J1];exact t.out
   gi_wp2
   go_end0
   exact⟨⟨_,rfl⟩,.inl c.out⟩
end lin
namespace lin
open Go.RowKit Go.Shelf
attribute [local simp] Mf Mg
attribute [local go_sem] Mh
theorem QN (w:Mr) (b off:Nat) (l:List Int) (f:∀a,a<l.length→w.cell? ⟨b,off+a,N⟩=S (.int .u8 (l.getD a 0))):(Mc ⟨b,off,N⟩ 0 l.length #[]).run P w=.ok (aD .u8 l) w:=by
 unfold Mc
 have:=run_loadCells_list (P:=P) w ⟨b,off,N⟩ (aD .u8 l).toList (fun e g c=>by
  have a:(⟨b,off,N⟩:Addr).add e=⟨b,off+e,N⟩:=by unfold Addr.add;split<;>simp_all
  have d:e<l.length:=by have:=(Oe.1 c).1;simpa[aD]using this
  rw[a,f e d];simp[aD,d]at c
  simp[d,c])
 have a:(aD .u8 l).size=l.length:=aP _ _;simpa[loadCells,a]using this
theorem gt (a:Option Addr) (cap:Nat) (W:Mr):(Instr.arrayAt 38 (.slice a 64 cap)).run Y W=.ok (.pointer a) W:=by simp[Instr.arrayAt,run_underlying underlying38]
theorem DY (b off cap:Nat) (l:List Int) (c:l.length=64) (w:Mr) (f:b<w.heap.size) (h:∀a,a<64→w.cell? ⟨b,off+a,N⟩=S (.int .u8 (l.getD a 0))):Mt Y 105 #[.slice (S ⟨b,off,N⟩) 64 cap] w fun e a=>e=E (.tuple #[.agg (aD .u8 l),I Z 0])∧Mu w.heap.size w a:=by
 have g:(aD .u8 l).size=64:=by rw[aP,c]
 have i:=gt (S ⟨b,off,N⟩) cap;have d:=(Mu.refl w.heap.size w).alloc Nl (O (aD .u8 (Nd 64 0)) 38);have j:=QN (P:=Y) (w.alloc (O (aD .u8 (Nd 64 0)) 38)) b off l fun a k=>(d.cell (p:=⟨b,off+a,N⟩) f).trans (h a (by omega));rw[c]at j;have k:=jV (P:=Y) (w.alloc (O (aD .u8 (Nd 64 0)) 38)) w.heap.size _ (aD .u8 l) 38 (heap_alloc_new _ _) (by rw[g];rfl) (dG _ _);have a:=setRow_heap (w.alloc (O (aD .u8 (Nd 64 0)) 38)) w.heap.size _ (aD .u8 l) 38 (0,0) (heap_alloc_new _ _);have B:=Ob d (Nat.le_refl w.heap.size) (aD .u8 l);rw[←gR]at k j;have m:=aH a B;clear a B c d h f;go_in;go_wp2_with fail;have⟨a,B⟩:=m.out;rw[gR];exact My (iF (P:=Y) results105 _ _ w.heap.size 38 (aD .u8 l) (0,0) (.array 64 5) rfl a (by kernel_rfl) rfl (by rw[g];kernel_rfl)) rfl ⟨rfl,B⟩
end lin
namespace lin
open Go.RowKit Go.Shelf
attribute [local go_sem] Oper.semAt_some
theorem gu (l:List Int) (w:Mr):Mt Y 146 #[.agg (aD .u8 l)] w fun e a=>e=E (.func (.func 191) #[] #[.pointer (S ⟨w.heap.size,0,N⟩)])∧a=w.alloc (O (aD .u8 l) 38):=by go_in;go_wp2;go_ret;exact⟨rfl,rfl⟩
def dC (l:List Int) (k:Nat):List Int:=(Nf 32).map fun j=>l.getD (32*k+j) 0
theorem iS (l:List Int) (k:Nat):(dC l k).length=32:=by simp[dC]
theorem pV (l:List Int) (k j:Nat) (a:j<32):(dC l k).getD j 0=l.getD (32*k+j) 0:=by simp[dC,Mx,a]
attribute [irreducible] dC
def tH (l:List Int):List (Array Ms):=(Nf 2).map fun k=>#[I Z (k:Nat),.agg (aD .u8 (dC l k))]
theorem J2 (l:List Int):(tH l).length=2:=by simp[tH]
theorem QO (l:List Int) (k:Nat) (a:k<2):(tH l)[k]?=S #[I Z (k:Nat),.agg (aD .u8 (dC l k))]:=by unfold tH;rw[Of,List.getElem?_range a];rfl
theorem QP (l:List Int) (k:Nat) (v:Array Ms) (b:(tH l)[k]?=S v):k<2∧v=#[I Z (k:Nat),.agg (aD .u8 (dC l k))]:=by
 have a:k<2:=by have:=(Oe.1 b).1;rw[J2]at this;exact this
 rw[QO l k a]at b;exact⟨a,(Option.some.inj b).symm⟩
attribute [irreducible] tH
theorem QQ (B k:Nat) (c:k<2) (W:Mr):(Instr.sliceAt 38 (.pointer (S ⟨B,0,N⟩)) (S (I Z (32*(k:Int)))) N N).run Y W=.ok (.slice (S ⟨B,32*k,N⟩) (64-32*k) (64-32*k)) W:=by
 obtain⟨f,b,d,a,e⟩:=info_parts lO
 match k,c with
 |0,_=>simp[Instr.sliceAt,Instr.sliceBounds,Instr.sliceBound,Instr.sureAddr,asIntOf,run_underlying underlying38,sizeOf,typeInfo,b,Addr.add]
 |1,_=>simp[Instr.sliceAt,Instr.sliceBounds,Instr.sliceBound,Instr.sureAddr,asIntOf,run_underlying underlying38,sizeOf,typeInfo,b,a,Addr.add]
theorem gv (a:Option Addr) (k:Nat) (b:k<2) (W:Mr):(Instr.arrayAt 248 (.slice a (64-32*k) (64-32*k))).run Y W=.ok (.pointer a) W:=by
 have:¬(64-32*k<32):=by omega
 simp[Instr.arrayAt,run_underlying underlying248,this]
attribute [local simp] Mf Mg
attribute [local go_sem] Mh
theorem gw (l:List Int) (d:l.length=64) (B:Nat) (W:Mr) (M:B<W.heap.size) (w:W.heap[B]?=S (O (aD .u8 l) 38)):xD Y 191 #[.pointer (S ⟨B,0,N⟩)] (tH l) (fun b=>b=B) W:=by
 intro Q x F R G a g c f y;have z:=aA d;have A:=aA f;have C:=aA a;clear d f g c a;refine(Nk (n:=9)).1 ?_;refine callsIn_of_wp func191 rfl trivial ?_ rfl;simp only[ntmps191,Nv,Oc,List.length_nil,Nat.reduceAdd,Nat.reduceSub,Array.replicate_succ,Array.replicate_zero,List.push_toArray,List.append_toArray,List.nil_append,List.cons_append];gi_wp2
 gi_loopw [4] (fun g wr=>∃d:Nat,d≤2∧g=I Z d∧wr.heap[B]?=S (O (aD .u8 l) 38)∧F d wr∧W.heap.size≤wr.heap.size) fun g _=>2-(intOf g).toNat
 case atStart=>exact⟨0,by omega,rfl,w,y,Nl⟩
 case round=>
  obtain⟨d,T,rfl,a,c,h⟩:=hrel;have q:Hid (F d wr):=c;clear c;by_cases c:d<2
  ·have H:(d:Int)<2:=by omega
   have m:(dC l d).length=32:=iS l d
   have X:=QN (P:=Y) wr B (32*d) (dC l d) (fun g f=>by
    rw[m]at f;rw[pV _ _ _ f]
    exact sC wr B _ l 38 a (by rw[z.out];omega))
   rw[m]at X;have J:=QQ B d c;have K:=gv (S ⟨B,32*d,N⟩) d c;obtain⟨U,u,o,v,V,D⟩:=A.out d _ wr 8 (QO l d c) q.out h;have i:=aA a;have p:=aA c;clear a c m;generalize 64-32*d=ab at*;generalize 32*d=L at*;gi_wp2
   refine D.mono ?_;rintro e r ⟨f,⟨rfl,j⟩|⟨rfl,k⟩⟩
   ·have s:¬x B:=fun aa=>(C.out B aa).2 rfl
    have a:B<wr.heap.size:=(Nz.1 i.out).1;have c:r.heap[B]?=S (O (aD .u8 l) 38):=(f.block B a s).trans i.out;have m:W.heap.size≤r.heap.size:=Ng h f.size;have g:=aA j;have t:=aA p.out;clear j s;gi_wp2
    go_roundw
    case rel=>exact⟨d+1,by have:=t.out;omega,by go_num,c,g.out,m⟩
    case measure=>have:=t.out;simp[intOf];omega
   ·have g:=aA k
    clear k;gi_wp2
    refine My (Nw rfl _ _ _) rfl ?_;exact⟨⟨_,rfl⟩,.inr g.out⟩
  ·have:d=2:=by omega
   subst this;have f:Hid (F (tH l).length wr):=by show F _ wr;rw[J2];exact q.out
   gi_wp2
   go_end0
   exact⟨⟨_,rfl⟩,.inl f.out⟩
end lin
namespace lin
open Go.RowKit Go.Shelf
theorem QT {a b:Type} (f:a→b) (L:List a) (off:Nat) (cs:List a):splice (L.map f) off (cs.map f)=(splice L off cs).map f:=by simp[splice]
theorem ib (a:List Int) (k:Nat) (h:k<2):splice (eW (fun t=>a.getD t 0) 64 (32*k)) (32*k) (dC a k)=eW (fun t=>a.getD t 0) 64 (32*(k+1)):=by
 have f:(splice (eW (fun t=>a.getD t 0) 64 (32*k)) (32*k) (dC a k)).length=64:=by rw[length_splice _ _ _ (by rw[iS,tF];omega),tF]
 refine IS f (tF _ _ _) fun d e=>?_;rw[IU _ _ _ _ e]
 have g:(splice (eW (fun t=>a.getD t 0) 64 (32*k)) (32*k) (dC a k)).getD d 0=if d<32*k then(eW (fun t=>a.getD t 0) 64 (32*k)).getD d 0 else if d<32*k+32 then(dC a k).getD (d-32*k) 0 else(eW (fun t=>a.getD t 0) 64 (32*k)).getD d 0:=by
  have i:=tF (fun t=>a.getD t 0) 64 (32*k);have j:=iS a k;generalize eW (fun t=>a.getD t 0) 64 (32*k)=l at*;generalize dC a k=H at*;unfold splice;simp only[Mx];by_cases b:d<32*k
  ·rw[Fp b,List.getElem?_append_left (by rw[List.length_take];omega),List.getElem?_take_of_lt b]
  ·rw[Fn b,List.getElem?_append_right (by rw[List.length_take];omega),List.length_take,Nat.min_eq_left (by omega)]
   by_cases c:d<32*k+32
   ·rw[Fp c,List.getElem?_append_left (by omega)]
   ·rw[Fn c,List.getElem?_append_right (by omega),List.getElem?_drop];congr 2;omega
 rw[g,IU _ _ _ _ e];by_cases b:d<32*k
 ·rw[Fp b,Fp b,Fp (by omega)]
 ·rw[Fn b]
  by_cases c:d<32*k+32
  ·rw[Fp c,Fp (by omega),pV _ _ _ (by omega),show 32*k+(d-32*k)=d from by omega]
  ·rw[Fn c,Fn b,Fn (by omega)]
theorem QU (a:List Int) (k:Nat) (b:k<2):(splice (aD .u8 (eW (fun t=>a.getD t 0) 64 (32*k))).toList (32*k) (aD .u8 (dC a k)).toList).toArray=aD .u8 (eW (fun t=>a.getD t 0) 64 (32*(k+1))):=by unfold aD;rw[QT,ib a k b]
theorem ie:∃a,Y.info? 248=S a∧a.size=32:=by
 have b:(Y.info? 248).map (fun a=>a.size)=S 32:=by kernel_rfl
 cases e:Y.info? 248 with
 |none=>rw[e]at b;cases b
 |some a=>rw[e]at b;exact⟨a,rfl,Option.some.inj b⟩
theorem ig (a:List Int) (m:a.length=64) (k:Nat) (d:k<2) (W:Mr):(Instr.index 306 (.agg (aD .u8 a)) (I Z (k:Nat))).run Y W=.ok (.agg (aD .u8 (dC a k))) W:=by
 obtain⟨n,f,c⟩:=ie
 have e:(aD .u8 a).extract (k*32) (k*32+32)=aD .u8 (dC a k):=by
  have g:(a.drop (k*32)).take 32=dC a k:=by
   refine List.ext_getElem (by rw[iS,List.length_take,List.length_drop];omega) fun l o b=>?_;have h:l<32:=by rw[iS]at b;exact b
   have i:(dC a k)[l]=(dC a k).getD l 0:=by simp[Mx,b]
   have j:32*k+l<a.length:=by omega
   rw[i,pV _ _ _ h];simp only[List.getElem_take,List.getElem_drop,Mx];rw[Nn j];simp only[Option.getD_some,Nat.mul_comm]
  unfold aD;rw[List.extract_toArray,←g,List.extract_eq_take_drop,show k*32+32-k*32=32 from by omega,List.map_take,List.map_drop]
 simp[e,Instr.index,asIntOf,run_underlying underlying306,sizeOf,typeInfo,f,c,d,part,isAgg,run_underlying underlying248]
theorem ii (c:Nat) (W:Mr):(Instr.sliceAt 248 (.pointer (S ⟨c,0,N⟩)) N N N).run Y W=.ok (.slice (S ⟨c,0,N⟩) 32 32) W:=by obtain⟨f,a,b,d,e⟩:=info_parts lO;simp[Instr.sliceAt,Instr.sliceBounds,Instr.sureAddr,run_underlying underlying248,sizeOf,typeInfo,a,Addr.add]
theorem DZ:#[I Nb 0,I Nb 0,I Nb 0,I Nb 0,I Nb 0,I Nb 0,I Nb 0,I Nb 0,I Nb 0,I Nb 0,I Nb 0,I Nb 0,I Nb 0,I Nb 0,I Nb 0,I Nb 0,I Nb 0,I Nb 0,I Nb 0,I Nb 0,I Nb 0,I Nb 0,I Nb 0,I Nb 0,I Nb 0,I Nb 0,I Nb 0,I Nb 0,I Nb 0,I Nb 0,I Nb 0,I Nb 0]=aD .u8 (Nd 32 0):=rfl
theorem J4 (b:List Int) (a:(aD .u8 b).size=32) (W:Mr):(Me ⟨W.heap.size,0,N⟩ (aD .u8 b).toList 0).run Y (W.alloc (O (aD .u8 (Nd 32 0)) 248))=.ok () (W.alloc (O (aD .u8 b) 248)):=Mi (P:=Y) W 248 (aD .u8 (Nd 32 0)) (aD .u8 b) (by rw[a];kernel_rfl) (by rw[a,aP];exact List.length_replicate) (dG _ _)
theorem hsz5:(Y.info? 5).map (·.size)=S 1:=by kernel_rfl
theorem ij (b j:Nat):(⟨b,0,N⟩:Addr).add j=⟨b,j,N⟩:=by unfold Addr.add;split<;>simp_all
def QV (w:Mr) (hs:List Int) (j:Nat) (W:Mr):Prop:=W.heap[w.heap.size+1]?=S (O (aD .u8 (Nd 64 0)) 38)∧W.heap[w.heap.size+1+1]?=S (O (aD .u8 (eW (fun t=>hs.getD t 0) 64 j)) 38)∧Mu w.heap.size w W
def QW (w:Mr) (hs:List Int) (e:Ending) (w':Mr):Prop:=e=E (.agg (aD .u8 hs))∧Mu w.heap.size w w'
attribute [local simp] Mf Mg
attribute [local go_sem] Mh
theorem ik (a:List Int) (f:a.length=64) (w:Mr):Mt Y 186 #[.agg (aD .u8 a)] w (QW w a):=by
 have m:=aA f;have b:=fun(W:Mr) (c:aC (w.alloc (O (aD .u8 a) 306)) W)=>fJ (P:=Y) W _ _ 306 (0,0) (aE c (heap_alloc_new w _)) 64 (by rw[aP,f]);clear f;have c:=b (((w.alloc (O (aD .u8 a) 306)).alloc (O (aD .u8 (Nd 64 0)) 38)).alloc (O (aD .u8 (Nd 64 0)) 38)) ((Bl.alloc Nl _).alloc (by simp) _);rw[←gR]at c;clear b;go_in;go_wp2_with fail;rw[gR];have⟨w0,b⟩:=Ex (((w.alloc (O (aD .u8 a) 306)).alloc (O (aD .u8 (Nd 64 0)) 38)).alloc (O (aD .u8 (Nd 64 0)) 38))
 have G:QV w a 0 w0:=by
  rw[b];refine⟨?_,?_,((Bl.alloc Nl _).alloc (by simp) _).alloc (by simp;omega) _⟩
  ·rw[aV _ _ _ (by simp)];exact aG _ _ _ (by simp)
  ·rw[DU];exact aG _ _ _ (by simp)
 rw[←b];clear b c;go_loopw [7] (fun b wr=>∃c:Nat,c≤2∧b=I Z c∧QV w a (32*c) wr) fun b _=>2-(intOf b).toNat
 case atStart=>exact⟨0,by omega,rfl,G⟩
 case round=>
  obtain⟨c,X,rfl,n⟩:=hrel;by_cases b:c<2
  ·have s:=ig a m.out c b wr
   have R:(c:Int)<2:=by omega
   have H:(dC a c).length=32:=iS a c;have T:=QQ (w.heap.size+1+1) c b;have U:=ii wr.heap.size;have u:=aH n b;have p:=aA (QU a c b);clear b n;have d:(aD .u8 (dC a c)).size=32:=by rw[aP,H]
   have J:=J4 (dC a c) d wr;rw[←DZ]at J;go_wp2_with fail;obtain⟨⟨h,g,o⟩,b⟩:=u.out;have v:(wr.alloc (O (aD .u8 (dC a c)) 248)).heap[w.heap.size+1+1]?=S (O (aD .u8 (eW (fun t=>a.getD t 0) 64 (32*c))).toList.toArray 38):=by rw[aV _ _ _ (Nz.1 g).1,Array.toArray_toList];exact g
   have x:Mu w.heap.size w (wr.alloc (O (aD .u8 (dC a c)) 248)):=o.alloc o.size _;have n1:(w.heap.size+1+1)<wr.heap.size:=(Nz.1 g).1;have y:(aD .u8 (dC a c)).toList.length=Nat.min 32 (64-32*c):=by rw[Oj,d];show 32=min 32 (64-32*c);omega
   have z:0<(aD .u8 (dC a c)).toList.length→(S (⟨w.heap.size+1+1,32*c,N⟩:Addr))=S ⟨w.heap.size+1+1,32*c,N⟩∧∃A:Addr,S (⟨wr.heap.size,0,N⟩:Addr)=S A∧∀F B,(aD .u8 (dC a c)).toList[F]?=S B→(wr.alloc (O (aD .u8 (dC a c)) 248)).drew.cell? (A.add F)=S B:=fun _=>by refine⟨rfl,_,rfl,fun F B i=>?_⟩;have f:=ij wr.heap.size F;rw[f];show(wr.alloc (O (aD .u8 (dC a c)) 248)).cell? ⟨wr.heap.size,F,N⟩=S B;rw[cell_of_row _ _ F _ 248 (0,0) (heap_alloc_new wr _)];simpa using i
   have C:32*c+(aD .u8 (dC a c)).toList.length≤(aD .u8 (eW (fun t=>a.getD t 0) 64 (32*c))).toList.length:=by rw[Oj,Oj,d,aP,tF];omega
   have D:∀B∈(aD .u8 (dC a c)).toList,B.oneCell'=true:=by intro B i;have:=dG .u8 (dC a c);rw[Array.all_eq_true']at this;exact this B (by simpa using i)
   have V:IntKind.i64.wrap (32*(c:Int))=32*c:=by rw[IntKind.wrap_i64];omega
   have K:=aA v;have q:=aA x;have L:=aA h;have i:=bT y z C D;have M:=aA (Mu.drew (Mu.refl (w.heap.size+1+1) (wr.alloc (O (aD .u8 (dC a c)) 248))));clear v x h g o u y z C D
   go_region_law (refine step_copy_splice rfl (.tmp 13) (.tmp 14) 158 158 rfl 5 underlying158 hsz5 (S ⟨w.heap.size+1+1,32*c,N⟩) (S ⟨wr.heap.size,0,N⟩) (64-32*c) (64-32*c) 32 32 rfl rfl (w.heap.size+1+1) (32*c) (aD .u8 (eW (fun t=>a.getD t 0) 64 (32*c))).toList 38 K.out (aD .u8 (dC a c)).toList i.out.1 i.out.2.1 i.out.2.2.1 i.out.2.2.2 (w.heap.size+1+1) (wr.alloc (O (aD .u8 (dC a c)) 248)) M.out Nl ?_;intro Q j k)
   all_goals
    have r:=j;have l:=aA k;have f:=aA b;clear j k b;go_wp2_with fail;go_roundw
    case rel=>
     have g:Q.heap[w.heap.size+1+1]?=S (O (aD .u8 (eW (fun t=>a.getD t 0) 64 (32*(c+1)))) 38):=by rw[←p.out];exact r.out
     have b:=f.out;refine⟨c+1,by omega,by go_num,?_,g,q.out.trans (l.out.mono (by omega))⟩;exact(l.out.block _ (by omega)).trans ((aV _ _ _ (by omega)).trans L.out)
    case measure=>have:=f.out;simp[intOf];omega
  ·have:c=2:=by omega
   subst this;obtain⟨h,g,i⟩:=n;have e:eW (fun t=>a.getD t 0) 64 (32*2)=a:=by refine IS (tF _ _ _) m.out fun F d=>?_;rw[IU _ _ _ _ d,Fp (by omega)]
   rw[e]at g;have f:=m.out;have l:=Lw g 64 (by rw[aP,f]);have n:=Sw h (aD .u8 a) (by rw[aP,aP,f];simp) (dG _ _);have j:=Hw h (aD .u8 a);have d:(aD .u8 a).size=64:=by rw[aP,f]
   have k:=aH i j;clear h g i j f b e;go_wp2_with fail;have⟨i,j⟩:=k.out;refine My (Oa (P:=Y) rfl _ _ (w.heap.size+1) 38 (aD .u8 a) (0,0) (.array 64 5) rfl j (by kernel_rfl) rfl (by rw[d];kernel_rfl)) rfl ?_;exact⟨rfl,Ob i (by omega) _⟩
end lin
section
open Go.RowKit Go.Shelf lin
attribute [local simp] Mf Mg
attribute [local go_sem] Mh
def iT (l:List Int) (b:Int):List Int:=if 0≤b∧b<576 then l.set (b/8).toNat (bits .xor .u8 (l.getD (b/8).toNat 0) (2^(b%8).toNat))else l
theorem QX {fn:Func} (a:fn.results=#[.cell 6 79]) {T:Array Ms} {l:List Int} {R:Ending→Mr→Prop} (b:T.getD 6 Mv=.pointer (S ⟨g,0,N⟩)) (c:l.length=72)
 (d:w.heap[g]?=S (O (aD .u8 l) 79)) (e:R (E (.agg (aD .u8 l))) w):bodyPost Y fn R .ret {tmps:=T,defers:=[]} w:=
 My (Oa (P:=Y) a _ _ g 79 (aD .u8 l) (0,0) (.array 72 5) b d (by kernel_rfl) rfl (by rw[aP,c];kernel_rfl)) rfl e
theorem J5 {fn:Func} (a:fn.results=#[.cell 4 79]) {T:Array Ms} {l:List Int} {R:Ending→Mr→Prop} (b:T.getD 4 Mv=.pointer (S ⟨g,0,N⟩)) (c:l.length=72)
 (d:w.heap[g]?=S (O (aD .u8 l) 79)) (e:R (E (.agg (aD .u8 l))) w):bodyPost Y fn R .ret {tmps:=T,defers:=[]} w:=
 My (Oa (P:=Y) a _ _ g 79 (aD .u8 l) (0,0) (.array 72 5) b d (by kernel_rfl) rfl (by rw[aP,c];kernel_rfl)) rfl e
theorem QY (l:List Int) (a:l.length=72) (b:Int) (w:Mr):Mt Y 155 #[.agg (aD .u8 l),I Z b] w fun e c=>e=E (.agg (aD .u8 (iT l b)))∧Mu w.heap.size w c:=by
 by_cases o:0≤b
 ·by_cases p:b<576
  ·obtain⟨n,q⟩:∃n:Nat,b/8=(n:Int):=⟨(b/8).toNat,by omega⟩
   obtain⟨i,k⟩:∃i:Nat,b%8=(i:Int):=⟨(b%8).toNat,by omega⟩;have u:bits .and .i64 b 7=(i:Int):=by rw[←k];exact sX b 3 (by decide)
   have v:(n:Int)<72:=by omega
   have x:(i:Int)<8:=by omega
   have j:((w.alloc (O (aD .u8 l) 79)).alloc (O zeroCells79 79)).heap[w.heap.size]?=S (O (aD .u8 l) 79):=gQ rfl;have r:=sC ((w.alloc (O (aD .u8 l) 79)).alloc (O zeroCells79 79)) w.heap.size n l 79 j (by omega);have s:=Fw j n;go_in;go_wp2_with fail;obtain⟨d,f⟩:∃d:List Int,d=l.set n (bits .xor .u8 (l[n]?.getD 0) (2^i%256)):=⟨_,rfl⟩;rw[AF,←f]
   have m:iT l b=d:=by
    rw[f];unfold iT;rw[Fp ⟨o,p⟩,q,k];have c:i<8:=by omega
    have:∀i:Nat,i<8→(2:Int)^i%256=2^i:=by decide
    simp[Mx,this i c]
   have c:d.length=72:=by rw[f,Od];exact a
   have g:=aA m;clear f m r s j;have y:=fJ (P:=Y) ((w.alloc (O (aD .u8 d) 79)).alloc (O zeroCells79 79)) w.heap.size _ 79 (0,0) (gQ rfl) 72 (by rw[aP,c]);have t:=Mi (P:=Y) (w.alloc (O (aD .u8 d) 79)) 79 zeroCells79 (aD .u8 d) (by rw[aP,c];kernel_rfl) (by rw[aP,c];kernel_rfl) (dG _ _);have h:(aD .u8 d).size=72:=by rw[aP,c]
   rw[Mr.size_alloc]at t;go_simp;go_wp2_with fail;exact J5 results155 rfl c (aG _ _ _ (by simp)) ⟨by rw[g.out],(by repeat first|exact Bl|assumption|refine Ka ?_|refine Ks ?_ (by first|exact Nl|simp<;>omega|omega)|refine Kd ?_|refine Kc ?_ (by assumption))⟩
  ·have g:=aA (show iT l b=l by unfold iT;rw[Fn (by omega)])
   have y:=fJ (P:=Y) ((w.alloc (O (aD .u8 l) 79)).alloc (O zeroCells79 79)) w.heap.size _ 79 (0,0) (gQ rfl) 72 (by rw[aP,a]);have t:=Mi (P:=Y) (w.alloc (O (aD .u8 l) 79)) 79 zeroCells79 (aD .u8 l) (by rw[aP,a];kernel_rfl) (by rw[aP,a];kernel_rfl) (dG _ _);have h:(aD .u8 l).size=72:=by rw[aP,a]
   rw[Mr.size_alloc]at t;go_in;go_wp2_with fail;exact J5 results155 rfl a (aG _ _ _ (by simp)) ⟨by rw[g.out],(by repeat first|exact Bl|assumption|refine Ka ?_|refine Ks ?_ (by first|exact Nl|simp<;>omega|omega)|refine Kd ?_|refine Kc ?_ (by assumption))⟩
 ·have g:=aA (show iT l b=l by unfold iT;rw[Fn (by omega)])
  have y:=fJ (P:=Y) ((w.alloc (O (aD .u8 l) 79)).alloc (O zeroCells79 79)) w.heap.size _ 79 (0,0) (gQ rfl) 72 (by rw[aP,a]);have t:=Mi (P:=Y) (w.alloc (O (aD .u8 l) 79)) 79 zeroCells79 (aD .u8 l) (by rw[aP,a];kernel_rfl) (by rw[aP,a];kernel_rfl) (dG _ _);have h:(aD .u8 l).size=72:=by rw[aP,a]
  rw[Mr.size_alloc]at t;go_in;go_wp2_with fail;exact J5 results155 rfl a (aG _ _ _ (by simp)) ⟨by rw[g.out],(by repeat first|exact Bl|assumption|refine Ka ?_|refine Ks ?_ (by first|exact Nl|simp<;>omega|omega)|refine Kd ?_|refine Kc ?_ (by assumption))⟩
def AT (l:List Int) (b:Int):Int:=l.getD (b/8).toNat 0/2^(b%8).toNat%2
def tI (l:List Int) (b v:Int):List Int:=if AT l b=v%2 then l else iT l b
theorem il (l:List Int) (p:l.length=72) (b:Int) (q:0≤b) (r:b<576) (g:Nat) (W:Mr) (i:W.heap[g]?=S (O (aD .u8 l) 79)):Mt Y 164 #[.slice (S ⟨g,0,N⟩) 72 72,I Z b] W fun e a=>e=E (I Z (AT l b))∧W=a:=by
 obtain⟨h,j⟩:∃h:Nat,b/8=(h:Int):=⟨(b/8).toNat,by omega⟩;obtain⟨f,c⟩:∃f:Nat,b%8=(f:Int):=⟨(b%8).toNat,by omega⟩;have m:bits .and .i64 b 7=(f:Int):=by rw[←c];exact sX b 3 (by decide)
 have n:(h:Int)<72:=by omega
 have o:(f:Int)<8:=by omega
 have k:=sC W g h l 79 i (by omega);have d:AT l b=l.getD h 0/2^f%2:=by unfold AT;rw[j,c];rfl
 rw[d];have⟨s,a⟩:=Ex (l.getD h 0);rw[←a]at k ⊢;clear d a c;go_in;go_wp2_with fail;go_ret;exact⟨rZ (by rw[show bits .and .i64 (wrap64 (s/2^f)) 1=wrap64 (s/2^f)%2 from sX _ 1 (by decide)];unfold wrap64;omega),rfl⟩
theorem im (c:Nat) (W:Mr):(Instr.sliceAt 79 (.pointer (S ⟨c,0,N⟩)) N N N).run Y W=.ok (.slice (S ⟨c,0,N⟩) 72 72) W:=by obtain⟨f,a,b,d,e⟩:=info_parts lin.lO;simp[Instr.sliceAt,Instr.sliceBounds,Instr.sureAddr,run_underlying underlying79,sizeOf,typeInfo,a,Addr.add]
theorem io {l l':List Int} (a:l.length=72) (d:iT l b=l') (w:Mr):Mt Y 155 #[.agg (aD .u8 l),I Z b] w fun e c=>e=E (.agg (aD .u8 l'))∧Mu w.heap.size w c:=by subst d;exact QY l a b w
theorem E3 (l:List Int) (b:Int):(iT l b).length=l.length:=by unfold iT;split;rw[Od];rfl
theorem ip (l:List Int) (a:l.length=72) (b v:Int) (m:0≤b) (n:b<576) (w:Mr):Mt Y 120 #[.agg (aD .u8 l),I Z b,I Z v] w fun e c=>e=E (.agg (aD .u8 (tI l b v)))∧Mu w.heap.size w c:=by
 have i:((w.alloc (O (aD .u8 l) 79)).alloc (O zeroCells79 79)).heap[w.heap.size]?=S (O (aD .u8 l) 79):=gQ rfl;have C:=im w.heap.size ((w.alloc (O (aD .u8 l) 79)).alloc (O zeroCells79 79));have G:=aA (il l a b m n w.heap.size _ i);have z:=Lw i 72 (by rw[aP,a]);have o:=show bits .and .i64 v 1=v%2 from sX v 1 (by decide);have x:(aD .u8 l).size=72:=by rw[aP,a]
 unfold tI;have⟨t,d⟩:=Ex (AT l b);have⟨p,c⟩:=Ex (v%2);rw[←c]at o ⊢;rw[←d]at G ⊢;clear d c;by_cases g:t=p
 ·rw[Fp g];have y:=Mi (P:=Y) (w.alloc (O (aD .u8 l) 79)) 79 zeroCells79 (aD .u8 l) (by rw[aP,a];kernel_rfl) (by rw[aP,a];kernel_rfl) (dG _ _);rw[Mr.size_alloc]at y;subst g;go_in;go_wp2_with fail;refine G.out.mono ?_;rintro e q ⟨rfl,rfl⟩;go_wp2_with fail;exact QX results120 rfl a (aG _ _ _ (by simp)) ⟨rfl,(by repeat first|exact Bl|assumption|refine Ka ?_|refine Ks ?_ (by first|exact Nl|simp<;>omega|omega)|refine Kd ?_|refine Kc ?_ (by assumption))⟩
 ·rw[Fn g]
  have⟨d,c⟩:=Ex (iT l b);have f:d.length=72:=by rw[c,E3,a]
  have r:=aA fun w=>io a c.symm w;rw[←c];clear c;go_in;go_wp2_with fail;refine G.out.mono ?_;rintro e q ⟨rfl,rfl⟩;go_wp2_with fail;refine(r.out _).mono ?_;rintro e j ⟨rfl,c⟩;have k:j.heap[w.heap.size+1]?=S (O zeroCells79 79):=aE c (aG _ _ _ (by simp));have h:(aD .u8 d).size=72:=by rw[aP,f]
  have y:=Sw k (aD .u8 d) (by rw[h];kernel_rfl) (dG _ _);have s:=Hw k (aD .u8 d);have u:aC w j:=Kc gH c;clear c;go_wp2_with fail;exact QX results120 rfl f s ⟨rfl,Ob u (by simp) _⟩
end
section
open Go.RowKit
theorem J6 {s c pr pb pd pc:Int} (f:eY r s b d c pr pb pd pc=true) (w:Mr):Mt Y 133 #[.agg #[I Z r,I Z s,I Z b,I Z d,I Z c],.agg #[I Z pr,I Z pb,I Z pd,I Z pc]] w fun e a=>e=E (.tuple #[I Z (dD pr pb pd pc),I Z 0])∧Mu w.heap.size w a:=by have:=GW r s b d c pr pb pd pc w;rw[f]at this;exact this
variable {P:Program}
def E4 (P:Program) (g:Nat) (lb:Array Ms) (xs:List (Array Ms)) (reads mine:Nat→Prop) (W:Mr):Prop:=
 ∀(l:Nat) (cw:Nat→Prop) (J:Nat→Mr→Prop) (Jx:Mr→Prop),cw l→(∀b,cw b→b<W.heap.size∧¬reads b)→
  (∀k A B,J k A→aF (fun b=>mine b∨W.heap.size≤b) A B→J k B)→(∀A B,Jx A→aF (fun b=>mine b∨W.heap.size≤b) A B→Jx B)→
  (∀k x A m,xs[k]?=S x→J k A→W.heap.size≤A.heap.size→YieldAt Fence.wide m P l x A fun e A'=>aF cw A A'∧((e=E (.bool true)∧J (k+1) A')∨(e=E (.bool false)∧Jx A')))→
  J 0 W→
  Mt P g (#[.func (.yield l) #[] #[]]++lb) W fun e W'=>(∃v,e=E v)∧(J xs.length W'∨Jx W')
theorem xD.two {g:Nat} {lb:Array Ms} {xs:List (Array Ms)} {a:Nat→Prop} {W:Mr} (b:xD P g lb xs a W):E4 P g lb xs a a W:=b
theorem iq {assign body:Code} {ps:Array Tmp} {a:Act} {x:Array Ms} {m l B k fn D:Nat} {cw:Nat→Prop} {I:Nat→Mr→Prop} {C:Code→Mr→Prop} {F:Nat→Act→Mr→Prop} {r:Nat→Prop}
 {f:LoopState→Option Code→Loop} (h:f=fun c d=>{state:=c,pending:=d,fn,tmps:=a.tmps,params:=ps,assign,body,defers:=D})
 (Q:x.size=ps.size) (G:B≤l) (H:∀b,cw b→b<B)
 (hI:∀k d c,I k d→aF (fun b=>r b∨B≤b) d c→I k c) (z:∀g d c,C g d→aF (fun b=>r b∨B≤b) d c→C g c) (R:∀k g d c,F k g d→aF (fun b=>b=l) d c→F k g c)
 {W:Mr} (hi:I k W) (M:W.heap[l]?=S (.loop (f .ready N)))
 (s:assign.wpIn (Fence.wide.inRound l) m P (Exit.then (fun i c=>aF cw W c∧I k c∧F k i c) fun _ _ _=>False) {tmps:=(ps.zip x).foldl (fun t (c,d)=>t.setIfInBounds c d) a.tmps,defers:=[]} W)
 (A:∀i c,(∃d,c.heap[l]?=S (.loop d)∧d.defers=D)→W.heap.size≤c.heap.size→I k c→F k i c→body.wpIn (Fence.wide.inRound l) m P (sA cw I C (k+1) c) i c):
 YieldAt Fence.wide m P l x W fun e W'=>aF (fun b=>cw b∨b=l) W W'∧((e=E (.bool true)∧I (k+1) W'∧W'.heap[l]?=S (.loop (f .ready N)))∨(e=E (.bool false)∧∃g,C g W'∧W'.heap[l]?=S (.loop (f .done (S g))))):=by
 have J:l<W.heap.size:=(Nz.1 M).1;have c:=run_yield (P:=P) (args:=x) M (by rw[h];exact Q);rw[h]at c;refine⟨fn,_,assign,body,c,roundIn_of_wpIn trivial (wpIn_mono s ?_)⟩;clear c;rintro e i c d;cases e with
 |normal=>
  obtain⟨u,T,U⟩:=d;have V:c.heap[l]?=S (.loop (f .ready N)):=(u.block l J fun g=>by have:=H l g;omega).trans M;have y:l<c.heap.size:=Nj J u.size;refine⟨_,run_beginRound V (by rw[h]),?_⟩;have K:(c.putObj l (.loop {f .ready N with state:=.busy})).heap[l]?=S (.loop {f .ready N with state:=.busy}):=Mr.putObj_heap_same y;have X:aF (fun b=>r b∨B≤b) c (c.putObj l (.loop {f .ready N with state:=.busy})):=Cl.putObj (.inl (.inr G)) _;have L:aF (fun b=>cw b∨b=l) W (c.putObj l (.loop {f .ready N with state:=.busy})):=(u.mono fun _ _ g=>.inl g).putObj (.inl (.inr rfl)) _;refine wpIn_mono (A i _ ⟨_,K,by rw[h]⟩ (by simpa using u.size) (hI _ _ _ T X) (R _ _ _ _ U (aF.putObj (cw:=fun b=>b=l) (aF.refl (fun b=>b=l) c) (.inl rfl) _))) ?_
  have v:∀(d:Option Code) (j:Mr),aF cw (c.putObj l (.loop {f .ready N with state:=.busy})) j→
   (Instr.endRound l d).run P j=.ok (.bool d.isNone) (j.putObj l (.loop (f (if d.isNone then .ready else .done) d)))∧
   (j.putObj l (.loop (f (if d.isNone then .ready else .done) d))).heap[l]?=S (.loop (f (if d.isNone then .ready else .done) d))∧
   aF (fun b=>r b∨B≤b) j (j.putObj l (.loop (f (if d.isNone then .ready else .done) d)))∧
   aF (fun b=>cw b∨b=l) W (j.putObj l (.loop (f (if d.isNone then .ready else .done) d))):=fun d j g=>by
   have n:=(g.block l (by simpa using y) fun g=>by have:=H l g;omega).trans K;have:=run_endRound (P:=P) d n;rw[h]at this ⊢;exact⟨this,Mr.putObj_heap_same (Nz.1 n).1,Cl.putObj (.inl (.inr G)) _,by rw[h]at L g;exact(L.trans (g.mono fun _ _ g=>.inl g)).putObj (.inl (.inr rfl)) _⟩
  rintro e a3 j d;cases e with
  |normal=>obtain⟨g,n⟩:=d;obtain⟨w,o,p,q⟩:=v N j g;exact⟨_,_,w,q,.inl ⟨rfl,hI _ _ _ n p,o⟩⟩
  |ret=>obtain⟨g,n⟩:=d;obtain⟨w,o,p,q⟩:=v (S .ret) j g;exact⟨_,_,w,q,.inr ⟨rfl,.ret,z _ _ _ n p,o⟩⟩
  |exit id=>obtain⟨g,n⟩:=d;obtain⟨w,o,p,q⟩:=v (S (.exit id)) j g;exact⟨_,_,w,q,.inr ⟨rfl,.exit id,z _ _ _ n p,o⟩⟩
  |goto t=>obtain⟨g,n⟩:=d;obtain⟨w,o,p,q⟩:=v (S (.goto t)) j g;exact⟨_,_,w,q,.inr ⟨rfl,.goto t,z _ _ _ n p,o⟩⟩
  |panic ch=>exact d.elim
  |outgrown=>exact d.elim
 |ret=>exact d.elim
 |exit id=>exact d.elim
 |goto t=>exact d.elim
 |panic ch=>exact d.elim
 |outgrown=>exact d.elim
theorem ir {g:Operand} {ps:Array Tmp} {assign body:Code} {Q:Exit→Act→Mr→Prop} {a:Act} {w:Mr} (n m:Nat)
 {gf:Nat} {lb:Array Ms} (hg:a.eval g=.func (.func gf) #[] lb) (eg:∀args w,(callFunc gf args).run P w=.ok (.enter gf args) w)
 (xs:List (Array Ms)) (q c:Nat→Prop) (y:∀b,q b→b<w.heap.size) (v:∀b,c b→b<w.heap.size) (T:∀h,Mu w.heap.size w h→E4 P gf lb xs q c h) (ab:∀(k:Nat) aa,xs[k]?=S aa→aa.size=ps.size)
 (cw:Nat→Prop) (z:∀b,cw b→b<w.heap.size∧¬q b)
 (I:Nat→Mr→Prop) (D:Code→Mr→Prop) (K:Nat→Nat→Act→Mr→Prop)
 (L:∀k U i,I k U→aF (fun b=>c b∨w.heap.size≤b) U i→I k i) (A:∀J U i,D J U→aF (fun b=>c b∨w.heap.size≤b) U i→D J i) (ad:∀l k d U i,K l k d U→aF (fun b=>b=l) U i→K l k d i) (h0:I 0 w)
 (x:∀l k aa W,xs[k]?=S aa→w.heap.size≤l→l<W.heap.size→I k W→assign.wpIn (Fence.wide.inRound l) m P (Exit.then (fun d i=>aF cw W i∧I k i∧K l k d i) fun _ _ _=>False) {tmps:=(ps.zip aa).foldl (fun t (f,d)=>t.setIfInBounds f d) a.tmps,defers:=[]} W)
 (F:∀l k aa d W,xs[k]?=S aa→w.heap.size≤l→w.heap.size<W.heap.size→(∃f,W.heap[l]?=S (.loop f)∧f.defers=w.heap.size)→I k W→K l k d W→body.wpIn (Fence.wide.inRound l) m P (sA cw I D (k+1) W) d W)
 (G:∀d W,w.heap.size≤d→I xs.length W→W.heap[d]?=S (.deferred (S []))→Q .normal {a with defers:={target:=.collected d,args:=#[]}::a.defers} W)
 (H:∀d J W,w.heap.size≤d→D J W→W.heap[d]?=S (.deferred (S []))→J.wpIn Fence.wide n P Q {a with defers:={target:=.collected d,args:=#[]}::a.defers} W):
 (Code.rangeFunc g ps assign body).wpIn Fence.wide n P Q a w:=by
 refine wpIn_rangeFunc ?_;intro fn _;obtain⟨j,f⟩:∃j:LoopState→Option Code→Loop,j=fun d h=>{state:=d,pending:=h,fn,tmps:=a.tmps,params:=ps,assign,body,defers:=w.heap.size}:=⟨_,rfl⟩;have⟨h,s⟩:=Ey ((w.alloc (.deferred (S []))).alloc (.loop (j .ready N)));have ae:h.heap[w.heap.size+1]?=S (.loop (j .ready N)):=by rw[←s];have:=Mr.alloc_heap_new (w.alloc (.deferred (S []))) (.loop (j .ready N));rwa [Mr.size_alloc]at this
 have an:h.heap[w.heap.size]?=S (.deferred (S [])):=by rw[←s];exact(Mu.heap_alloc _ _ _ (by simp)).trans (Mr.alloc_heap_new w _)
 have av:h.heap.size=w.heap.size+1+1:=by rw[←s];simp
 have M:Mu w.heap.size w h:=by rw[←s];exact((Mu.refl _ w).alloc Nl _).alloc (by simp) _
 have ar:I 0 h:=L _ _ _ h0 (aF.of_below M _);refine⟨w.heap.size+1,[{target:=.collected w.heap.size,args:=#[]}],h,{target:=.fn (.func gf) lb,args:=#[.func (.yield (w.heap.size+1)) #[] #[]]},h,gf,#[.func (.yield (w.heap.size+1)) #[] #[]]++lb,h,?_,?_,?_,?_,fun u=>by simp[Fence.wide]at u,?_⟩
 ·rw[←s,f];exact run_enterLoop_outer _ _ _ _ _
 ·simp only[resolve,hg];simp[go_sem]
 ·intro d _;trivial
 ·simp[invoke,go_sem,eg]
 ·refine Nk.2 ((T h M (w.heap.size+1) (fun b=>cw b∨b=w.heap.size+1)
   (fun k W=>I k W∧W.heap[w.heap.size+1]?=S (.loop (j .ready N))∧W.heap[w.heap.size]?=S (.deferred (S []))∧w.heap.size<W.heap.size)
   (fun W=>∃J,D J W∧W.heap[w.heap.size+1]?=S (.loop (j .done (S J)))∧W.heap[w.heap.size]?=S (.deferred (S [])))
   (.inr rfl) ?_ ?_ ?_ ?_ ⟨ar,ae,an,by omega⟩).mono ?_)
  ·rintro b (u|rfl)
   ·have:=z b u;exact⟨by omega,this.2⟩
   ·exact⟨by omega,fun u=>by have:=y _ u;omega⟩
  ·rintro k U B ⟨r,o,p,V⟩ d
   have i:∀C,C≤w.heap.size+1→w.heap.size≤C→¬(c C∨h.heap.size≤C):=fun C R h2 u=>by
    rcases u with u|u
    ·have:=v _ u;omega
    ·omega
   exact⟨L _ _ _ r (d.mono fun C _ u=>u.imp id fun u=>by omega),(d.block _ (Nz.1 o).1 (i _ Nl (by omega))).trans o,(d.block _ (Nz.1 p).1 (i _ (by omega) Nl)).trans p,Nj V d.size⟩
  ·rintro U B ⟨J,r,o,p⟩ d
   have i:∀C,C≤w.heap.size+1→w.heap.size≤C→¬(c C∨h.heap.size≤C):=fun C R h2 u=>by
    rcases u with u|u
    ·have:=v _ u;omega
    ·omega
   exact⟨J,A _ _ _ r (d.mono fun C _ u=>u.imp id fun u=>by omega),(d.block _ (Nz.1 o).1 (i _ Nl (by omega))).trans o,(d.block _ (Nz.1 p).1 (i _ (by omega) Nl)).trans p⟩
  ·rintro k aa W m' X ⟨r,o,p,V⟩ _
   refine YieldAt.mono (DE (n:=m) (iq (k:=k) f (ab _ _ X) (by omega) (fun b u=>(z b u).1) L A (ad _) r o (x _ k aa W X (by omega) (Nz.1 o).1 r) fun d i R h2 u C=>F _ k aa d i X (by omega) (by omega) R u C)) ?_;rintro e i ⟨d,U⟩
   have R:i.heap[w.heap.size]?=S (.deferred (S [])):=(d.block _ (Nz.1 p).1 (fun u=>by
    rcases u with u|u
    ·have:=z _ u;omega
    ·omega)).trans p
   refine⟨d,?_⟩;rcases U with⟨rfl,u,C⟩|⟨rfl,J,u,C⟩
   ·exact .inl ⟨rfl,u,C,R,Nj V d.size⟩
   ·exact .inr ⟨rfl,J,u,C,R⟩
  ·rintro e i ⟨⟨d,rfl⟩,(⟨r,o,p,_⟩|⟨J,r,o,p⟩)⟩
   ·refine⟨N,_,by have:=run_endLoop (P:=P) o (by rw[f];simp);rw[f]at this;exact this,G _ _ Nl (L _ _ _ r (Cl.putObj (.inl (.inr (by omega))) _)) ((Ok (by omega)).trans p)⟩
   ·refine⟨S J,_,by have:=run_endLoop (P:=P) o (by rw[f];simp);rw[f]at this;exact this,H _ J _ Nl (A _ _ _ r (Cl.putObj (.inl (.inr (by omega))) _)) ((Ok (by omega)).trans p)⟩
variable {P:Program}
def pW (P:Program) (g:Nat) (lb:Array Ms) (xs:List (Array Ms)) (reads:Nat→Prop) (W:Mr):Prop:=
 ∀(l:Nat) (cw:Nat→Prop) (J:Nat→Mr→Prop) (Jx:Mr→Prop),cw l→(∀b,cw b→¬reads b)→
  (∀k A B,J k A→aC A B→J k B)→(∀A B,Jx A→aC A B→Jx B)→
  (∀k x A m,xs[k]?=S x→J k A→W.heap.size≤A.heap.size→YieldAt Fence.wide m P l x A fun e A'=>aF cw A A'∧((e=E (.bool true)∧J (k+1) A')∨(e=E (.bool false)∧Jx A')))→
  J 0 W→
  Mt P g (#[.func (.yield l) #[] #[]]++lb) W fun e W'=>(∃v,e=E v)∧(J xs.length W'∨Jx W')
theorem pW.two {g:Nat} {lb:Array Ms} {xs:List (Array Ms)} {a c:Nat→Prop} {W:Mr} (q:pW P g lb xs a W):E4 P g lb xs a c W:=fun l i r j k f m h n o=>q l i r j k (fun b d=>(f b d).2) (fun s p B d e=>m s p B d (aF.of_below e _)) (fun p B d e=>h p B d (aF.of_below e _)) n o
theorem it {assign body:Code} {ps:Array Tmp} {a:Act} {x:Array Ms} {m l k fn D:Nat} {cw:Nat→Prop} {I:Nat→Mr→Prop} {A:Code→Mr→Prop} {B:Nat→Act→Mr→Prop}
 {f:LoopState→Option Code→Loop} (h:f=fun c d=>{state:=c,pending:=d,fn,tmps:=a.tmps,params:=ps,assign,body,defers:=D})
 (L:x.size=ps.size) (C:¬cw l)
 (U:∀k d c,I k d→aF (fun b=>b=l) d c→I k c) (y:∀g d c,A g d→aF (fun b=>b=l) d c→A g c) (M:∀k g d c,B k g d→aF (fun b=>b=l) d c→B k g c)
 {W:Mr} (X:I k W) (K:W.heap[l]?=S (.loop (f .ready N)))
 (r:assign.wpIn (Fence.wide.inRound l) m P (Exit.then (fun i c=>aF cw W c∧I k c∧B k i c) fun _ _ _=>False) {tmps:=(ps.zip x).foldl (fun t (c,d)=>t.setIfInBounds c d) a.tmps,defers:=[]} W)
 (z:∀i c,(∃d,c.heap[l]?=S (.loop d)∧d.defers=D)→W.heap.size≤c.heap.size→I k c→B k i c→body.wpIn (Fence.wide.inRound l) m P (sA cw I A (k+1) c) i c):
 YieldAt Fence.wide m P l x W fun e W'=>aF (fun b=>cw b∨b=l) W W'∧((e=E (.bool true)∧I (k+1) W'∧W'.heap[l]?=S (.loop (f .ready N)))∨(e=E (.bool false)∧∃g,A g W'∧W'.heap[l]?=S (.loop (f .done (S g))))):=by
 have F:l<W.heap.size:=(Nz.1 K).1;have c:=run_yield (P:=P) (args:=x) K (by rw[h];exact L);rw[h]at c;refine⟨fn,_,assign,body,c,roundIn_of_wpIn trivial (wpIn_mono r ?_)⟩;clear c;rintro e i c d;cases e with
 |normal=>
  obtain⟨s,Q,R⟩:=d;have T:c.heap[l]?=S (.loop (f .ready N)):=(s.block l F C).trans K;have w:l<c.heap.size:=Nj F s.size;refine⟨_,run_beginRound T (by rw[h]),?_⟩;have G:(c.putObj l (.loop {f .ready N with state:=.busy})).heap[l]?=S (.loop {f .ready N with state:=.busy}):=Mr.putObj_heap_same w;have H:aF (fun b=>b=l) c (c.putObj l (.loop {f .ready N with state:=.busy})):=aF.putObj (cw:=fun b=>b=l) Cl (.inl rfl) _;have J:aF (fun b=>cw b∨b=l) W (c.putObj l (.loop {f .ready N with state:=.busy})):=(s.mono fun _ _ g=>.inl g).putObj (.inl (.inr rfl)) _;refine wpIn_mono (z i _ ⟨_,G,by rw[h]⟩ (by simpa using s.size) (U _ _ _ Q H) (M _ _ _ _ R H)) ?_
  have u:∀(d:Option Code) (j:Mr),aF cw (c.putObj l (.loop {f .ready N with state:=.busy})) j→
   (Instr.endRound l d).run P j=.ok (.bool d.isNone) (j.putObj l (.loop (f (if d.isNone then .ready else .done) d)))∧
   (j.putObj l (.loop (f (if d.isNone then .ready else .done) d))).heap[l]?=S (.loop (f (if d.isNone then .ready else .done) d))∧
   aF (fun b=>b=l) j (j.putObj l (.loop (f (if d.isNone then .ready else .done) d)))∧
   aF (fun b=>cw b∨b=l) W (j.putObj l (.loop (f (if d.isNone then .ready else .done) d))):=fun d j g=>by
   have n:=(g.block l (by simpa using w) C).trans G;have:=run_endRound (P:=P) d n;rw[h]at this ⊢;exact⟨this,Mr.putObj_heap_same (Nz.1 n).1,aF.putObj (cw:=fun b=>b=l) Cl (.inl rfl) _,by rw[h]at J g;exact(J.trans (g.mono fun _ _ g=>.inl g)).putObj (.inl (.inr rfl)) _⟩
  rintro e a3 j d;cases e with
  |normal=>obtain⟨g,n⟩:=d;obtain⟨v,o,p,q⟩:=u N j g;exact⟨_,_,v,q,.inl ⟨rfl,U _ _ _ n p,o⟩⟩
  |ret=>obtain⟨g,n⟩:=d;obtain⟨v,o,p,q⟩:=u (S .ret) j g;exact⟨_,_,v,q,.inr ⟨rfl,.ret,y _ _ _ n p,o⟩⟩
  |exit id=>obtain⟨g,n⟩:=d;obtain⟨v,o,p,q⟩:=u (S (.exit id)) j g;exact⟨_,_,v,q,.inr ⟨rfl,.exit id,y _ _ _ n p,o⟩⟩
  |goto t=>obtain⟨g,n⟩:=d;obtain⟨v,o,p,q⟩:=u (S (.goto t)) j g;exact⟨_,_,v,q,.inr ⟨rfl,.goto t,y _ _ _ n p,o⟩⟩
  |panic V=>exact d.elim
  |outgrown=>exact d.elim
 |ret=>exact d.elim
 |exit id=>exact d.elim
 |goto t=>exact d.elim
 |panic V=>exact d.elim
 |outgrown=>exact d.elim
theorem QZ {g:Operand} {ps:Array Tmp} {assign body:Code} {Q:Exit→Act→Mr→Prop} {a:Act} {w:Mr} (n m:Nat)
 {gf:Nat} {lb:Array Ms} (hg:a.eval g=.func (.func gf) #[] lb) (eg:∀args w,(callFunc gf args).run P w=.ok (.enter gf args) w)
 (xs:List (Array Ms)) (l:Nat→Prop) (o:∀b,l b→b<w.heap.size) (R:∀i,Mu w.heap.size w i→pW P gf lb xs l i) (X:∀(k:Nat) V,xs[k]?=S V→V.size=ps.size)
 (cw:Nat→Prop) (x:∀b,cw b→(b<w.heap.size∧¬l b)∨w.heap.size+1<b)
 (I:Nat→Mr→Prop) (C:Code→Mr→Prop) (J:Nat→Act→Mr→Prop)
 (K:∀k z f,I k z→aF (fun b=>b=w.heap.size∨b=w.heap.size+1) z f→I k f) (y:∀H z f,C H z→aF (fun b=>b=w.heap.size∨b=w.heap.size+1) z f→C H f) (aa:∀k c z f,J k c z→aF (fun b=>b=w.heap.size+1) z f→J k c f) (h0:I 0 w)
 (v:∀k V W,xs[k]?=S V→w.heap.size+1<W.heap.size→I k W→assign.wpIn (Fence.wide.inRound (w.heap.size+1)) m P (Exit.then (fun c f=>aF cw W f∧I k f∧J k c f) fun _ _ _=>False) {tmps:=(ps.zip V).foldl (fun t (d,c)=>t.setIfInBounds d c) a.tmps,defers:=[]} W)
 (D:∀k V c W,xs[k]?=S V→w.heap.size+1<W.heap.size→(∃d,W.heap[w.heap.size+1]?=S (.loop d)∧d.defers=w.heap.size)→I k W→J k c W→body.wpIn (Fence.wide.inRound (w.heap.size+1)) m P (sA cw I C (k+1) W) c W)
 (F:∀W,w.heap.size+1<W.heap.size→I xs.length W→W.heap[w.heap.size]?=S (.deferred (S []))→Q .normal {a with defers:={target:=.collected w.heap.size,args:=#[]}::a.defers} W)
 (G:∀H W,w.heap.size+1<W.heap.size→C H W→W.heap[w.heap.size]?=S (.deferred (S []))→H.wpIn Fence.wide n P Q {a with defers:={target:=.collected w.heap.size,args:=#[]}::a.defers} W):
 (Code.rangeFunc g ps assign body).wpIn Fence.wide n P Q a w:=by
 refine wpIn_rangeFunc ?_;intro fn _;obtain⟨h,d⟩:∃h:LoopState→Option Code→Loop,h=fun c f=>{state:=c,pending:=f,fn,tmps:=a.tmps,params:=ps,assign,body,defers:=w.heap.size}:=⟨_,rfl⟩;have⟨i,q⟩:=Ey ((w.alloc (.deferred (S []))).alloc (.loop (h .ready N)));have ab:i.heap[w.heap.size+1]?=S (.loop (h .ready N)):=by rw[←q];have:=Mr.alloc_heap_new (w.alloc (.deferred (S []))) (.loop (h .ready N));rwa [Mr.size_alloc]at this
 have ad:i.heap[w.heap.size]?=S (.deferred (S [])):=by rw[←q];exact(Mu.heap_alloc _ _ _ (by simp)).trans (Mr.alloc_heap_new w _)
 have an:i.heap.size=w.heap.size+1+1:=by rw[←q];simp
 have L:Mu w.heap.size w i:=by rw[←q];exact((Mu.refl _ w).alloc Nl _).alloc (by simp) _
 have ae:I 0 i:=K _ _ _ h0 (aF.of_below L _);have nl:¬cw (w.heap.size+1):=fun u=>by rcases x _ u with u|u<;>omega
 have nD:¬cw w.heap.size:=fun u=>by rcases x _ u with u|u<;>omega
 refine⟨w.heap.size+1,[{target:=.collected w.heap.size,args:=#[]}],i,{target:=.fn (.func gf) lb,args:=#[.func (.yield (w.heap.size+1)) #[] #[]]},i,gf,#[.func (.yield (w.heap.size+1)) #[] #[]]++lb,i,?_,?_,?_,?_,fun u=>by simp[Fence.wide]at u,?_⟩
 ·rw[←q,d];exact run_enterLoop_outer _ _ _ _ _
 ·simp only[resolve,hg];simp[go_sem]
 ·intro c _;trivial
 ·simp[invoke,go_sem,eg]
 ·refine Nk.2 ((R i L (w.heap.size+1) (fun b=>cw b∨b=w.heap.size+1)
   (fun k W=>I k W∧W.heap[w.heap.size+1]?=S (.loop (h .ready N))∧W.heap[w.heap.size]?=S (.deferred (S [])))
   (fun W=>∃H,C H W∧W.heap[w.heap.size+1]?=S (.loop (h .done (S H)))∧W.heap[w.heap.size]?=S (.deferred (S [])))
   (.inr rfl) ?_ ?_ ?_ ?_ ⟨ae,ab,ad⟩).mono ?_)
  ·rintro b (u|rfl) c
   ·have:=o _ c;rcases x b u with u|u;exact u.2 c;omega
   ·have:=o _ c;omega
  ·rintro k z B ⟨p,j,r⟩ c;exact⟨K _ _ _ p (aF.of_below c _),aE c j,aE c r⟩
  ·rintro z B ⟨H,p,j,r⟩ c;exact⟨H,y _ _ _ p (aF.of_below c _),aE c j,aE c r⟩
  ·rintro k V W m' U ⟨p,j,r⟩ _
   have s:=aB j;refine YieldAt.mono (DE (n:=m) (it (k:=k) d (X _ _ U) nl (fun k z B u c=>K k z B u (c.mono fun _ _ u=>.inr u)) (fun k z B u c=>y k z B u (c.mono fun _ _ u=>.inr u)) aa p j (v k V W U s p) fun c f z M A H=>D k V c f U (by omega) z A H)) ?_;rintro e f ⟨c,T⟩;have M:f.heap[w.heap.size]?=S (.deferred (S [])):=aJ c r (fun u=>by rcases u with u|u;exact nD u;omega);refine⟨c,?_⟩;rcases T with⟨rfl,z,A⟩|⟨rfl,H,z,A⟩
   ·exact .inl ⟨rfl,z,A,M⟩
   ·exact .inr ⟨rfl,H,z,A,M⟩
  ·rintro e f ⟨⟨c,rfl⟩,(⟨p,j,r⟩|⟨H,p,j,r⟩)⟩
   ·have s:=aB j;exact⟨N,_,by have:=run_endLoop (P:=P) j (by rw[d];simp);rw[d]at this;exact this,F _ (by simpa using s) (K _ _ _ p (aF.putObj (cw:=fun b=>b=w.heap.size∨b=w.heap.size+1) Cl (.inl (.inr rfl)) _)) ((Ok (by omega)).trans r)⟩
   ·have s:=aB j;exact⟨S H,_,by have:=run_endLoop (P:=P) j (by rw[d];simp);rw[d]at this;exact this,G H _ (by simpa using s) (y _ _ _ p (aF.putObj (cw:=fun b=>b=w.heap.size∨b=w.heap.size+1) Cl (.inl (.inr rfl)) _)) ((Ok (by omega)).trans r)⟩
theorem vV {g:Operand} {ps:Array Tmp} {h i:Code} {Q:Exit→Act→Mr→Prop} {a:Act} {w:Mr} (n m:Nat)
 {gf:Nat} {lb:Array Ms} (y:a.eval g=.func (.func gf) #[] lb) (z:∀args w,(callFunc gf args).run P w=.ok (.enter gf args) w)
 (xs:List (Array Ms)) (d:Nat→Prop) (j:∀b,d b→b<w.heap.size) (r:∀c,Mu w.heap.size w c→pW P gf lb xs d c) (s:∀(k:Nat) x,xs[k]?=S x→x.size=ps.size)
 (cw:Nat→Prop) (u:∀b,cw b→(b<w.heap.size∧¬d b)∨w.heap.size+1<b)
 (I:Nat→Mr→Prop) (o:Code→Mr→Prop)
 (A:∀k x e,I k x→aF (fun b=>b=w.heap.size∨b=w.heap.size+1) x e→I k e) (v:∀c x e,o c x→aF (fun b=>b=w.heap.size∨b=w.heap.size+1) x e→o c e) (B:I 0 w)
 (l:∀k x W,xs[k]?=S x→w.heap.size+1<W.heap.size→I k W→
  h.wpIn (Fence.wide.inRound (w.heap.size+1)) m P (Exit.then (fun f e=>aF cw W e∧I k e∧∀c,aF (fun b=>b=w.heap.size+1) e c→(∃C,c.heap[w.heap.size+1]?=S (.loop C)∧C.defers=w.heap.size)→I k c→i.wpIn (Fence.wide.inRound (w.heap.size+1)) m P (sA cw I o (k+1) c) f c) fun _ _ _=>False) {tmps:=(ps.zip x).foldl (fun t (c,e)=>t.setIfInBounds c e) a.tmps,defers:=[]} W)
 (p:∀W,w.heap.size+1<W.heap.size→I xs.length W→W.heap[w.heap.size]?=S (.deferred (S []))→Q .normal {a with defers:={target:=.collected w.heap.size,args:=#[]}::a.defers} W)
 (q:∀c W,w.heap.size+1<W.heap.size→o c W→W.heap[w.heap.size]?=S (.deferred (S []))→c.wpIn Fence.wide n P Q {a with defers:={target:=.collected w.heap.size,args:=#[]}::a.defers} W):
 (Code.rangeFunc g ps h i).wpIn Fence.wide n P Q a w:=
 QZ n m y z xs d j r s cw u I o (fun k f e=>∀c,aF (fun b=>b=w.heap.size+1) e c→(∃C,c.heap[w.heap.size+1]?=S (.loop C)∧C.defers=w.heap.size)→I k c→i.wpIn (Fence.wide.inRound (w.heap.size+1)) m P (sA cw I o (k+1) c) f c) A v (fun k D x e F C c f=>F c (C.trans f)) B l (fun k x f W _ _ e C c=>c W Cl e C) p q
theorem J7 {g:Operand} {ps:Array Tmp} {i j:Code} {Q:Exit→Act→Mr→Prop} {a:Act} {w:Mr} (n m:Nat)
 {gf:Nat} {lb:Array Ms} (B:a.eval g=.func (.func gf) #[] lb) (C:∀args w,(callFunc gf args).run P w=.ok (.enter gf args) w)
 (xs:List (Array Ms)) (d e:Nat→Prop) (o:∀b,d b→b<w.heap.size) (r:∀b,e b→b<w.heap.size) (v:∀c,Mu w.heap.size w c→E4 P gf lb xs d e c) (x:∀(k:Nat) A,xs[k]?=S A→A.size=ps.size)
 (cw:Nat→Prop) (y:∀b,cw b→b<w.heap.size∧¬d b)
 (I:Nat→Mr→Prop) (q:Code→Mr→Prop)
 (D:∀k A f,I k A→aF (fun b=>e b∨w.heap.size≤b) A f→I k f) (z:∀h A f,q h A→aF (fun b=>e b∨w.heap.size≤b) A f→q h f) (F:I 0 w)
 (p:∀l k A W,xs[k]?=S A→w.heap.size≤l→l<W.heap.size→I k W→
  i.wpIn (Fence.wide.inRound l) m P (Exit.then (fun h f=>aF cw W f∧I k f∧∀c,aF (fun b=>b=l) f c→(∃G,c.heap[l]?=S (.loop G)∧G.defers=w.heap.size)→I k c→j.wpIn (Fence.wide.inRound l) m P (sA cw I q (k+1) c) h c) fun _ _ _=>False) {tmps:=(ps.zip A).foldl (fun t (c,f)=>t.setIfInBounds c f) a.tmps,defers:=[]} W)
 (s:∀c W,w.heap.size≤c→I xs.length W→W.heap[c]?=S (.deferred (S []))→Q .normal {a with defers:={target:=.collected c,args:=#[]}::a.defers} W)
 (u:∀c h W,w.heap.size≤c→q h W→W.heap[c]?=S (.deferred (S []))→h.wpIn Fence.wide n P Q {a with defers:={target:=.collected c,args:=#[]}::a.defers} W):
 (Code.rangeFunc g ps i j).wpIn Fence.wide n P Q a w:=
 ir n m B C xs d e o r v x cw y I q (fun l k h f=>∀c,aF (fun b=>b=l) f c→(∃G,c.heap[l]?=S (.loop G)∧G.defers=w.heap.size)→I k c→j.wpIn (Fence.wide.inRound l) m P (sA cw I q (k+1) c) h c) D z (fun l k H A f J G c h=>J c (G.trans h)) F p (fun l k A h W _ _ _ f G c=>c W Cl f G) s u
theorem aF.grown {cw:Nat→Prop} {a w w':Mr} {b:Option Nat} (i:aF cw a w) (c:w.grownBy w' b) (d:∀f,b=S f→cw f∨a.heap.size≤f):aF cw a w':=i.next (cw':=fun f=>b=S f) ⟨c.os,c.tape,c.output,c.size,fun f g h=>c.block f g fun e=>h e.symm⟩ fun f e=>d f e
theorem AY:(Y.info? 3).map (fun a=>(a.zero,a.size,a.bytes))=S (S (I Z 0),1,8):=by kernel_rfl
def js (n b0 b1 b2:Int):List Ms:=[I Z (n%b0),I Z (n/b0%b1),I Z (n/b0/b1%b2)]
def jt (w:Mr) (n b0 b1 b2:Int) (e:Ending) (w':Mr):Prop:=∃g cap,e=E (.slice (S ⟨g,0,N⟩) 3 cap)∧w.heap.size≤g∧w'.cell? ⟨g,0,N⟩=S (I Z (n%b0))∧w'.cell? ⟨g,1,N⟩=S (I Z (n/b0%b1))∧w'.cell? ⟨g,2,N⟩=S (I Z (n/b0/b1%b2))∧Mu w.heap.size w w'
theorem DR {e:TypeId} {size:Nat} {xs:List Ms} (a:w.ownsRow B e size v n xs):∀c,v.ownBlock=S c→B≤c:=by
 obtain⟨_,⟨rfl,_⟩|⟨g,d,f,rfl,b,_⟩⟩:=a
 ·intro c a;cases a
 ·intro c a;cases a;exact b
theorem ED (B:Nat) (n b f g:Int) (s:0≤n) (z:n≤9223372036854775807) (A:1≤b) (C:1≤f) (D:1≤g) (F:b≤1024) (G:f≤1024) (H:g≤1024) (w:Mr) (o:B<w.heap.size)
 (x:w.cell? ⟨B,0,N⟩=S (I Z b)) (c1:w.cell? ⟨B,1,N⟩=S (I Z f)) (c2:w.cell? ⟨B,2,N⟩=S (I Z g)):
 Mt Y 132 #[I Z n,.slice (S ⟨B,0,N⟩) 3 3] w (jt w n b f g):=by
 obtain⟨q,r,h,i,j⟩:=info_parts AY;have t:0≤n/b:=Int.ediv_nonneg s (by omega);have J:0≤n/b/f:=Int.ediv_nonneg t (by omega);have K:n/b≤n:=Int.ediv_le_self _ s;have L:n/b/f≤n/b:=Int.ediv_le_self _ t;go_in;go_wp2_with fail;go_loopw [0,5,10] (fun m c a wr=>((a=I Z 0∧m=I Z n∧wr.ownsRow w.heap.size 3 1 c 0 [])∨(a=I Z 1∧m=I Z (n/b)∧wr.ownsRow w.heap.size 3 1 c 1 [I Z (n%b)])∨(a=I Z 2∧m=I Z (n/b/f)∧wr.ownsRow w.heap.size 3 1 c 2 [I Z (n%b),I Z (n/b%f)])∨(a=I Z 3∧wr.ownsRow w.heap.size 3 1 c 3 (js n b f g)))∧Mu w.heap.size w wr) fun _ _ a _=>3-(intOf a).toNat
 case atStart=>exact⟨.inl ⟨rfl,rfl,Mr.ownsRow_nil _ _ _ _⟩,Bl⟩
 case round=>
  obtain⟨l,e⟩:=hrel;have M:=(e.cell (p:=⟨B,0,N⟩) o).trans x;have P:=(e.cell (p:=⟨B,1,N⟩) o).trans c1;have Q:=(e.cell (p:=⟨B,2,N⟩) o).trans c2;have k:=e.size;rcases l with⟨rfl,rfl,a⟩|⟨rfl,rfl,a⟩|⟨rfl,rfl,a⟩|⟨rfl,a⟩
  ·go_wp2_with(at_builtin;refine wpList_append_own _ rfl _ _ 54 rfl w.heap.size 3 q (I Z 0) 1 8 underlying54 r h i j rfl (by decide) _ _ _ rfl (a.alloc _) ⟨wr.heap.size,0,N⟩ 1 1 [I Z (n%b)] rfl rfl (cell_one_new _ _ _) (by simp[Ni]) (by unfold maxLen;omega) (by omega) (by simp;omega) ?_;intro u v c d _)
   go_roundw
   case rel=>exact⟨.inr (.inl ⟨rfl,rfl,c⟩),(e.alloc k _).grown d (by simp;omega) (DR a)⟩
   case measure=>simp[intOf]
  ·go_wp2_with(at_builtin;refine wpList_append_own _ rfl _ _ 54 rfl w.heap.size 3 q (I Z 0) 1 8 underlying54 r h i j rfl (by decide) _ _ _ rfl (a.alloc _) ⟨wr.heap.size,0,N⟩ 1 1 [I Z (n/b%f)] rfl rfl (cell_one_new _ _ _) (by simp[Ni]) (by unfold maxLen;omega) (by omega) (by simp;omega) ?_;intro u v c d _)
   go_roundw
   case rel=>exact⟨.inr (.inr (.inl ⟨rfl,rfl,c⟩)),(e.alloc k _).grown d (by simp;omega) (DR a)⟩
   case measure=>simp[intOf]
  ·go_wp2_with(at_builtin;refine wpList_append_own _ rfl _ _ 54 rfl w.heap.size 3 q (I Z 0) 1 8 underlying54 r h i j rfl (by decide) _ _ _ rfl (a.alloc _) ⟨wr.heap.size,0,N⟩ 1 1 [I Z (n/b/f%g)] rfl rfl (cell_one_new _ _ _) (by simp[Ni]) (by unfold maxLen;omega) (by omega) (by simp;omega) ?_;intro u v c d _)
   go_roundw
   case rel=>exact⟨.inr (.inr (.inr ⟨rfl,c⟩)),(e.alloc k _).grown d (by simp;omega) (DR a)⟩
   case measure=>simp[intOf]
  ·go_wp2_with fail
   go_ret;obtain⟨_,u|⟨R,c,y,rfl,v,d⟩⟩:=id a
   ·exact absurd u.2 (by decide)
   exact⟨R,c,rfl,v,(a.cellAt 0 (by decide)).trans rfl,(a.cellAt 1 (by decide)).trans rfl,(a.cellAt 2 (by decide)).trans rfl,e⟩
theorem ju (r s b d c way:Int) (w:Mr):Mt Y 111 #[.agg #[I Z r,I Z s,I Z b,I Z d,I Z c],I Z way] w fun e a=>e=E (.bool (iL r s b d c way))∧Mu w.heap.size w a:=by
 cases a:dF r s b d c
 ·have g:=aA a;have h:iL r s b d c way=false:=de (by rw[a];simp);rw[h];clear a h;go_in;go_wp2_with(go_at_call 80;refine(II g.out _).mono ?_;rintro e i ⟨rfl,f⟩);go_ret;exact⟨rfl,mJ f⟩
 ·have g:=aA a
  have h:Hid (iL r s b d c way=vS way):=by show iL r s b d c way=vS way;unfold iL;rw[a];rfl
  rw[h.out];clear a;by_cases a:0≤way
  ·go_in;go_wp2_with(go_at_call 80;refine(AK g.out _).mono ?_;rintro e i ⟨rfl,f⟩);go_ret;exact⟨eR (by simp[vS,a]),mJ f⟩
  ·go_in;go_wp2_with(go_at_call 80;refine(AK g.out _).mono ?_;rintro e i ⟨rfl,f⟩);go_ret;exact⟨eR (by unfold vS;rw[decide_eq_false (by omega)];rfl),mJ f⟩
theorem pY {s c:Int} {x:Bool} (f:iL r s b d c way=x) (w:Mr):Mt Y 111 #[.agg #[I Z r,I Z s,I Z b,I Z d,I Z c],I Z way] w fun e a=>e=E (.bool x)∧Mu w.heap.size w a:=by have:=ju r s b d c way w;rw[f]at this;exact this
def RI (r s b d c way page:Int):Prop:=iL r s b d c way=false∨page<0∨(iL r s b d c way=true∧cU r s b d c≤page)
theorem jw (r s b d c way a:Int) (i:RI r s b d c way a) (w:Mr):Mt Y 96 #[.agg #[I Z r,I Z s,I Z b,I Z d,I Z c],I Z way,I Z a] w fun e f=>e=E (.tuple #[I Z 0,I Z 12])∧Mu w.heap.size w f:=by
 cases f:iL r s b d c way
 ·have h:=aA f;clear f i;go_in;go_wp2_with(go_at_call 111;refine(pY h.out _).mono ?_;rintro e j ⟨rfl,g⟩);go_ret2;exact⟨rfl,mJ g⟩
 ·have h:=aA f
  by_cases k:a<0
  ·clear f i;go_in;go_wp2_with(go_at_call 111;refine(pY h.out _).mono ?_;rintro e j ⟨rfl,g⟩);go_ret2;exact⟨rfl,mJ g⟩
  ·have l:cU r s b d c≤a:=by
    rcases i with i|i|i
    ·rw[f]at i;cases i
    ·exact absurd i k
    ·exact i.2
   clear f i;go_in
   go_wp2_with(first
    |(go_at_call 111;refine(pY h.out _).mono ?_;rintro e j ⟨rfl,g⟩;obtain⟨i,m⟩:=iI g)
    |(go_at_call 74;refine(DL r s b d c _).mono ?_;rintro e n ⟨rfl,f⟩))
   go_ret2;exact⟨rfl,vK (mJ g) f⟩
theorem JI (r s b d c way a:Int) (B:way=0∨way=1∨way=2) (g:dF r s b d c=true) (j:0≤a) (R:a<cU r s b d c) (w:Mr):Mt Y 96 #[.agg #[I Z r,I Z s,I Z b,I Z d,I Z c],I Z way,I Z a] w fun e f=>e=E (.tuple #[I Z (nN way r b d a),I Z 0])∧Mu w.heap.size w f:=by
 have C:=aA (IH (way:=way) g (by omega) (by omega));obtain⟨o,T,U,p,V,q,t,W,X⟩:=cM g;have f:=nL g;have k:=aA (J6 (PW g way a j));have l:=aA (PX way r b d a);have H:a≤131072:=by omega
 rcases B with rfl|rfl|rfl
 case' inl=>rw[show jY 0 r b d a=a/d/b%r from rfl,show jZ 0 r b d a=a/d%b from rfl,show jP 0 r b d a=a%d from rfl]at k l;have u:Hid (0=0):=rfl
 case' inr.inl=>rw[show jY 1 r b d a=a/b/d%r from rfl,show jZ 1 r b d a=a%b from rfl,show jP 1 r b d a=a/b%d from rfl]at k l;have T1:Hid (0=0):=rfl
 case' inr.inr=>rw[show jY 2 r b d a=a%r from rfl,show jZ 2 r b d a=a/r%b from rfl,show jP 2 r b d a=a/r/b%d from rfl]at k l;have T2:Hid (0=0):=rfl
 all_goals
  clear g f;go_in;go_wp2_with fail;refine(pY C.out _).mono ?_;rintro e w1 ⟨rfl,v⟩;obtain⟨hc,hf⟩:=iI v;have x:=GS v;go_wp2_with fail;refine(DL r s b d c _).mono ?_;rintro e g ⟨rfl,h⟩;obtain⟨J,K⟩:=iI h;have m:=Nj x h.size;go_wp2_with fail
  first
   |(clear u;refine(ED _ a d b r j (by omega) q p o t (by omega) (by omega) _ (by simp) (by simp[go_sem]) (by simp[go_sem]) (by simp[go_sem])).mono ?_;have u:Hid (0=0):=rfl)
   |(clear T1;refine(ED _ a b d r j (by omega) p q o (by omega) t (by omega) _ (by simp) (by simp[go_sem]) (by simp[go_sem]) (by simp[go_sem])).mono ?_;have T1:Hid (0=0):=rfl)
   |(clear T2;refine(ED _ a r b d j (by omega) o p q (by omega) (by omega) t _ (by simp) (by simp[go_sem]) (by simp[go_sem]) (by simp[go_sem])).mono ?_;have T2:Hid (0=0):=rfl)
  rintro e w3 ⟨n,L,rfl,D,e0,e1,e2,i⟩;simp only[Mr.size_alloc]at D;obtain⟨M,P⟩:=iI i;obtain⟨y,A⟩:=xC i;have Q:=Nat.lt_trans m y;have n1:n≠g.heap.size:=by omega
  have n2:g.heap.size≠n:=by omega
  have n3:n≠w.heap.size:=by omega
  have n4:w.heap.size≠g.heap.size:=by omega
  have n5:g.heap.size≠w.heap.size:=by omega
  have y2:w.heap.size<g.heap.size+1+1:=by omega
  have y3:g.heap.size<g.heap.size+1+1:=by omega
  go_wp2_with fail
  first
   |(clear u;go_region_held3 (fun f=>f.cell? ⟨n,0,N⟩=S (I Z (a%d))∧f.cell? ⟨n,1,N⟩=S (I Z (a/d%b))∧f.cell? ⟨n,2,N⟩=S (I Z (a/d/b%r))) (go_keep) (fail))
   |(clear T1;go_region_held3 (fun f=>f.cell? ⟨n,0,N⟩=S (I Z (a%b))∧f.cell? ⟨n,1,N⟩=S (I Z (a/b%d))∧f.cell? ⟨n,2,N⟩=S (I Z (a/b/d%r))) (go_keep) (fail))
   |(clear T2;go_region_held3 (fun f=>f.cell? ⟨n,0,N⟩=S (I Z (a%r))∧f.cell? ⟨n,1,N⟩=S (I Z (a/r%b))∧f.cell? ⟨n,2,N⟩=S (I Z (a/r/b%d))) (go_keep) (fail))
  go_wp2_with fail;refine(k.out _).mono ?_;rintro e w4 ⟨rfl,z⟩;go_wp2_with fail;go_ret2;refine⟨congrArg (fun f=>Ending.returned (.tuple #[I Z f,I Z 0])) l.out,?_⟩;have F:=vK (mJ v) h;have f:=Nat.le_of_lt m;have G:=F.trans (vJ i |>.mono f);exact(((G.setCell f _).setCell f _).setCell f _).drew.trans (z.mono (by simp;omega))
theorem jx (r s b d c a:Int) (f:dF r s b d c=true) (y:0≤a) (h1:a<cU r s b d c) (w:Mr):Mt Y 96 #[.agg #[I Z r,I Z s,I Z b,I Z d,I Z c],I Z 3,I Z a] w fun e g=>e=E (.tuple #[I Z (nN 3 r b d a),I Z 0])∧Mu w.heap.size w g:=by
 have L:=aA (IH (way:=3) f (by omega) (by omega));obtain⟨M,a2,a3,P,a5,Q,R,a8,a9⟩:=cM f;have g:=nL f;have z:=aA (J6 (PW f 3 a y));have A:=aA (PX 3 r b d a);rw[show jY 3 r b d a=a%r from rfl,show jZ 3 r b d a=bits .xor .i64 (a/r%b) (bits .and .i64 (a/r/b%d) (b-1)) from rfl,show jP 3 r b d a=a/r/b%d from rfl]at z A;have aa:a≤131072:=by omega
 clear f g;go_in;go_wp2_with fail;refine(pY L.out _).mono ?_;rintro e w1 ⟨rfl,u⟩;obtain⟨B,T⟩:=iI u;have p:=GS u;go_wp2_with fail;refine(DL r s b d c _).mono ?_;rintro e f ⟨rfl,k⟩;obtain⟨q,v⟩:=iI k;have l:=Nj p k.size;go_wp2_with fail;refine(ED _ a r b d y (by omega) M P Q (by omega) (by omega) R _ (by simp) (by simp[go_sem]) (by simp[go_sem]) (by simp[go_sem])).mono ?_;rintro e n ⟨J,ab,rfl,U,V,W,X,m⟩;simp only[Mr.size_alloc]at U;obtain⟨i,t⟩:=iI m;obtain⟨x,K⟩:=xC m;have ad:=Nat.lt_trans l x;have n1:J≠f.heap.size:=by omega
 have n2:f.heap.size≠J:=by omega
 have n3:J≠w.heap.size:=by omega
 have n4:w.heap.size≠f.heap.size:=by omega
 have n5:f.heap.size≠w.heap.size:=by omega
 have y2:w.heap.size<f.heap.size+1+1:=by omega
 have y3:f.heap.size<f.heap.size+1+1:=by omega
 go_wp2_with fail
 go_region_held3 (fun g=>g.cell? ⟨J,0,N⟩=S (I Z (a%r))∧g.cell? ⟨J,1,N⟩=S (I Z (a/r%b))∧g.cell? ⟨J,2,N⟩=S (I Z (a/r/b%d))) (go_keep) (fail)
 have⟨h,g⟩:=Ex (((n.setCell ⟨f.heap.size,0,N⟩ (I Z (a%r))).setCell ⟨f.heap.size,1,N⟩ (I Z (a/r%b))).setCell ⟨f.heap.size,2,N⟩ (I Z (a/r/b%d))).drew;have l2:=vK (mJ u) k;have o:=Nat.le_of_lt l;have l3:=l2.trans (vJ m |>.mono o);have C:Mu w.heap.size w h:=by rw[g];exact(((l3.setCell o _).setCell o _).setCell o _).drew
 have s5:w.heap.size≤h.heap.size:=C.size;have D:n.cell? ⟨f.heap.size,0,N⟩=S (I Z 0):=by simp[go_sem,i]
 have F:n.cell? ⟨f.heap.size,1,N⟩=S (I Z 0):=by simp[go_sem,i]
 have G:n.cell? ⟨f.heap.size,2,N⟩=S (I Z 0):=by simp[go_sem,i]
 have H:n.cell? ⟨f.heap.size,3,N⟩=S (I Z 0):=by simp[go_sem,i]
 have q0:h.cell? ⟨f.heap.size,0,N⟩=S (I Z (a%r)):=by rw[g];simp[go_sem,D]
 have q1:h.cell? ⟨f.heap.size,1,N⟩=S (I Z (a/r%b)):=by rw[g];simp[go_sem,F]
 have q2:h.cell? ⟨f.heap.size,2,N⟩=S (I Z (a/r/b%d)):=by rw[g];simp[go_sem,G]
 have q3:h.cell? ⟨f.heap.size,3,N⟩=S (I Z 0):=by rw[g];simp[go_sem,H]
 have qf:h.frozen? ⟨f.heap.size,1,N⟩=false:=by rw[g];simp[go_sem,t]
 have j:∀ae,h.cell? ⟨w.heap.size,ae,N⟩=(w.alloc (O #[I Z r,I Z s,I Z b,I Z d,I Z c] 23)).cell? ⟨w.heap.size,ae,N⟩:=fun ae=>by rw[g];simp[go_sem,i,y2,q,p,B,l]
 have g0:h.cell? ⟨w.heap.size,0,N⟩=S (I Z r):=by rw[j];simp[go_sem]
 have g1:h.cell? ⟨w.heap.size,1,N⟩=S (I Z s):=by rw[j];simp[go_sem]
 have g2:h.cell? ⟨w.heap.size,2,N⟩=S (I Z b):=by rw[j];simp[go_sem]
 have g3:h.cell? ⟨w.heap.size,3,N⟩=S (I Z d):=by rw[j];simp[go_sem]
 have g4:h.cell? ⟨w.heap.size,4,N⟩=S (I Z c):=by rw[j];simp[go_sem]
 rw[←g];clear j g B T q v i t V W X D F G H;go_wp2_with fail;refine(z.out _).mono ?_;rintro e i ⟨rfl,g⟩;go_wp2_with fail;go_ret2;refine⟨congrArg (fun j=>Ending.returned (.tuple #[I Z j,I Z 0])) A.out,?_⟩;exact(C.setCell o _).trans (g.mono (by simp;omega))
theorem jy (r s b d c way a:Int) (i:iL r s b d c way=true) (f:0≤a) (g:a<cU r s b d c) (w:Mr):Mt Y 96 #[.agg #[I Z r,I Z s,I Z b,I Z d,I Z c],I Z way,I Z a] w fun e h=>e=E (.tuple #[I Z (nN way r b d a),I Z 0])∧Mu w.heap.size w h:=by
 obtain⟨h,w0,k⟩:=eE i;have j:way=0∨way=1∨way=2∨way=3:=by omega
 rcases j with rfl|rfl|rfl|rfl
 ·exact JI r s b d c _ a (by omega) h f g w
 ·exact JI r s b d c _ a (by omega) h f g w
 ·exact JI r s b d c _ a (by omega) h f g w
 ·exact jx r s b d c a h f g w
theorem JM {a b c n:Int} (i:1≤a) (j:1≤b) (k:1≤c) (e:0≤n) (d:n<c*b*a):n%a+a*(n/a%b+b*(n/a/b%c))=n:=by have f:n/a<c*b:=Int.ediv_lt_of_lt_mul (by omega) d;have g:n/a/b<c:=Int.ediv_lt_of_lt_mul (by omega) f;have h:0≤n/a/b:=Int.ediv_nonneg (Int.ediv_nonneg e (by omega)) (by omega);rw[Int.emod_eq_of_lt h g,Int.emod_add_mul_ediv,Int.emod_add_mul_ediv]
theorem kx {a c:Int} (i:0≤a) (j:a<b) (h:pw b 16=true) (k:0≤c) (o:c<1024):xb (xb a c b) c b=a:=by
 obtain⟨e,p,rfl⟩:=GR h;have f:=oT h;obtain⟨r,rfl⟩:=Int.eq_ofNat_of_zero_le i;obtain⟨s,rfl⟩:=Int.eq_ofNat_of_zero_le k;have d:(2:Int)^e=((2^e:Nat):Int):=by rw[Int.natCast_pow];rfl
 have g:r<2^e:=by rw[d]at j;omega
 have m:2^e≤16:=by have:=f.2;rw[d]at this;omega
 have n:1≤2^e:=Nat.one_le_two_pow;unfold xb;rw[d,show((2^e:Nat):Int)-1=((2^e-1:Nat):Int) from by omega,GP _ _ (by omega) (by omega),Nat.and_two_pow_sub_one_eq_mod];have l:s%2^e<2^e:=Nat.mod_lt _ (by omega);have q:=Nat.xor_lt_two_pow g l;rw[GQ _ _ (by omega) (by omega),GQ _ _ (by omega) (by omega),Nat.xor_assoc,Nat.xor_self,Nat.xor_zero]
def nT (way r b d rank bank row:Int):Int:=if way=0 then row+d*(bank+b*rank)else if way=1 then bank+b*(row+d*rank)else if way=3 then rank+r*(xb bank row b+b*row)else rank+r*(bank+b*row)
theorem JN {s c:Int} (t:dF r s b d c=true) (way a:Int) (f:0≤a) (h:a<r*b*d):nT way r b d (jY way r b d a) (jZ way r b d a) (jP way r b d a)=a:=by
 obtain⟨i,u,v,j,w,k,x,y,z⟩:=cM t;obtain⟨A,B,C,D,m,F,n,o⟩:=vT t way a f;have p:=(uB t).2.2.2.1;unfold nT jZ;by_cases w0:way=0
 ·subst w0;exact JM k j i f h
 by_cases e:way=1
 ·subst e;exact JM j k i f (by rw[show r*d*b=r*b*d from by rw[Int.mul_assoc,Int.mul_comm d b,←Int.mul_assoc]];exact h)
 have q:a<d*b*r:=by rw[show d*b*r=r*b*d from by rw[Int.mul_comm d b,Int.mul_comm (b*d) r,←Int.mul_assoc]];exact h
 have g:=JM i j k f q;rw[Fn w0,Fn e];by_cases l:way=3
 ·subst l;rw[Fp rfl,Fp rfl,kx n o p m (by omega)];exact g
 ·rw[Fn l,Fn l];unfold jY uG jP;rw[Fn w0,Fn e,Fn w0,Fn e,Fn w0,Fn e];exact g
theorem ky {s c:Int} (i:dF r s b d c=true) (way f a:Int) (h:0≤f) (g:0≤a) (e:nN way r b d f=nN way r b d a):jY way r b d f=jY way r b d a∧jZ way r b d f=jZ way r b d a∧jP way r b d f=jP way r b d a:=by obtain⟨j,k,l,m,n,o,p,q,t⟩:=cM i;obtain⟨u,v,w,x,y,z,_,_⟩:=vT i way f h;obtain⟨A,B,C,D,F,G,_,_⟩:=vT i way a g;unfold nN at e;omega
theorem RJ {s c:Int} (n:dF r s b d c=true) (way f a:Int) (i:0≤f) (j:f<r*b*d) (g:0≤a) (h:a<r*b*d) (e:nN way r b d f=nN way r b d a):f=a:=by obtain⟨k,l,m⟩:=ky n way f a i g e;rw[←JN n way f i j,←JN n way a g h,k,l,m]
theorem kz {s c:Int} (f:dF r s b d c=true) (way a:Int) (e:0≤a):0≤nN way r b d a∧nN way r b d a<131072:=by obtain⟨g,h,i,j,k,l,m,n,o⟩:=cM f;obtain⟨p,q,t,u,v,w,_,_⟩:=vT f way a e;unfold nN;omega
end
section
open Go.RowKit Go.Shelf
attribute [local go_sem] Oper.semAt_some
def mM (L:List Int):List (Array Ms):=L.map fun x=>#[I Z x]
theorem tJ (L:List Int):(mM L).length=L.length:=by simp[mM]
theorem E5 (L:List Int) (k:Nat) (a:k<L.length):(mM L)[k]?=S #[I Z (L.getD k 0)]:=by simp[mM,Mx,a]
theorem xI (L:List Int) (k:Nat) (v:Array Ms) (b:(mM L)[k]?=S v):k<L.length∧v=#[I Z (L.getD k 0)]:=by
 have a:k<L.length:=by have:=(Oe.1 b).1;rw[tJ]at this;exact this
 rw[E5 L k a]at b;exact⟨a,(Option.some.inj b).symm⟩
attribute [irreducible] mM
def tK (rk:Int) (dn cn k:Nat):Int:=dD rk ((k/(dn*cn):Nat):Int) ((k/cn%dn:Nat):Int) ((k%cn:Nat):Int)
def sD (r s b d c rk:Int):List Int:=if eY r s b d c rk 0 0 0=true then(Nf (b.toNat*(d.toNat*c.toNat))).map (tK rk d.toNat c.toNat)else[]
theorem iu {s c rk:Int} (a:eY r s b d c rk 0 0 0=false):sD r s b d c rk=[]:=by unfold sD;rw[a];rfl
theorem J8 {s c rk:Int} (a:eY r s b d c rk 0 0 0=true):(sD r s b d c rk).length=b.toNat*(d.toNat*c.toNat):=by unfold sD;rw[Fp a];simp
theorem R0 {s c rk:Int} (e:eY r s b d c rk 0 0 0=true) (k:Nat) (a:k<b.toNat*(d.toNat*c.toNat)):(sD r s b d c rk).getD k 0=tK rk d.toNat c.toNat k:=by unfold sD;rw[Fp e];simp[Mx,a]
theorem iv {c d e a f b:Nat} (g:c<d) (h:e<a) (i:f<b):(c*a+e)*b+f<d*(a*b):=by
 have j:c*a+e<d*a:=Nj (Nat.add_lt_add_left h _) (by rw[←Nat.succ_mul];exact Nat.mul_le_mul_right _ g);have k:(c*a+e)*b+f<d*a*b:=Nj (Nat.add_lt_add_left i _) (by rw[←Nat.succ_mul];exact Nat.mul_le_mul_right _ j)
 rwa [Nat.mul_assoc]at k
theorem iw (rk:Int) {d c a e b:Nat} (f:c<a) (g:e<b):tK rk a b ((d*a+c)*b+e)=dD rk (d:Nat) (c:Nat) (e:Nat):=by
 have h:((d*a+c)*b+e)/b=d*a+c:=by rw[Nat.mul_comm _ b,Nat.mul_add_div (by omega),Nat.div_eq_of_lt g,Nat.add_zero]
 have i:((d*a+c)*b+e)%b=e:=by rw[Nat.mul_comm _ b,Nat.mul_add_mod,Og g]
 have j:((d*a+c)*b+e)/(a*b)=d:=by rw[Nat.mul_comm a b,←Nat.div_div_eq_div_mul,h,Nat.mul_comm _ a,Nat.mul_add_div (by omega),Nat.div_eq_of_lt f,Nat.add_zero]
 have k:(d*a+c)%a=c:=by rw[Nat.mul_comm _ a,Nat.mul_add_mod,Og f]
 unfold tK;rw[h,i,j,k]
theorem iz (G R:Nat) (r s b d c rk:Int) (W:Mr) (f:W.heap[G]?=S (O #[I Z r,I Z s,I Z b,I Z d,I Z c] 23)) (g:W.heap[R]?=S (O #[I Z rk] 3)):pW Y 177 #[.pointer (S ⟨G,0,N⟩),.pointer (S ⟨R,0,N⟩)] (mM (sD r s b d c rk)) (fun a=>a=G∨a=R) W:=by
 intro lp M X Jx aa a i h j k;have HY:=aA j;have J:=aA i;have P:=aA a;have Q:=aH f g;have zG:=aB f;have zR:=aB g;have T:=aA k;have⟨l,m,o,t,v⟩:=gZ f;have A:=Cw g 0;simp at l m o t v A;clear j i h a k f g;refine(Nk (n:=9)).1 ?_;refine callsIn_of_wp func177 rfl trivial ?_ rfl;simp only[ntmps177,Nv,Oc,List.length_nil,Nat.reduceAdd,Nat.reduceSub,Array.replicate_succ,Array.replicate_zero,List.push_toArray,List.append_toArray,List.nil_append,List.cons_append];cases f:eY r s b d c rk 0 0 0
 ·have g:=sZ r s b d c rk 0 0 0;rw[f]at g;have K:=aA g;have B:=aA f;clear g f;gi_wp2_with fail;refine⟨trivial,?_⟩;refine((Nk (n:=8)).2 (K.out _)).mono ?_;rintro e w1 ⟨rfl,a⟩;gi_wp2_with fail;refine My (Nw rfl _ _ _) rfl ?_;refine⟨⟨_,rfl⟩,.inl ?_⟩;rw[iu B.out,tJ];exact J.out _ _ _ T.out a
 ·have g:=sZ r s b d c rk 0 0 0
  rw[f]at g;have K:=aA g;have B:=aA f;have a:=(oV f).1;obtain⟨y1,y2,_,_,_,_,_,_⟩:=OM f;obtain⟨a1,a2,a3,a4,a5,a6,a7,a8,a9⟩:=cM a;obtain⟨q,rfl⟩:=Int.eq_ofNat_of_zero_le (show 0≤b by omega);obtain⟨j,rfl⟩:=Int.eq_ofNat_of_zero_le (show 0≤d by omega);obtain⟨k,rfl⟩:=Int.eq_ofNat_of_zero_le (show 0≤c by omega);clear g f a;gi_wp2_with fail;refine⟨trivial,?_⟩;refine((Nk (n:=8)).2 (K.out _)).mono ?_;rintro e w1 ⟨rfl,a⟩;have C:=aA a;have f:=aE a Q.out.1;have g:=aE a Q.out.2;have D:=aH f g;clear l m o t v A;have o:=Cw f 2;simp at o;clear f g a;gi_wp2_with fail
  gi_loopw [14] (fun a wr=>∃f:Nat,f≤q∧a=I Z f∧wr.heap[G]?=S (O #[I Z r,I Z s,I Z q,I Z j,I Z k] 23)∧wr.heap[R]?=S (O #[I Z rk] 3)∧X (f*(j*k)) wr∧W.heap.size≤wr.heap.size) fun a _=>q-(intOf a).toNat
  case atStart=>exact⟨0,by omega,rfl,D.out.1,D.out.2,by rw[Nat.zero_mul];exact J.out _ _ _ T.out C.out,C.out.size⟩
  case round=>
   obtain⟨l,ab,rfl,f,g,m,i⟩:=hrel;have h:=Hd3 m f g;clear m o;by_cases u:l<q
   ·have ad:(l:Int)<q:=by omega
    have t:=Cw f 3;simp at t;clear f g;gi_wp2_with fail
    gi_loopw [19] (fun a wr=>∃f:Nat,f≤j∧a=I Z f∧wr.heap[G]?=S (O #[I Z r,I Z s,I Z q,I Z j,I Z k] 23)∧wr.heap[R]?=S (O #[I Z rk] 3)∧X ((l*j+f)*k) wr∧W.heap.size≤wr.heap.size) fun a _=>j-(intOf a).toNat
    case atStart=>exact⟨0,by omega,rfl,h.out.2.1,h.out.2.2,by rw[Nat.add_zero,Nat.mul_assoc];exact h.out.1,i⟩
    case round=>
     obtain⟨o,ae,rfl,f,g,m,i⟩:=hrel;have h:=Hd3 m f g;clear m t;by_cases p:o<j
     ·have an:(o:Int)<j:=by omega
      have v:=Cw f 4;simp at v;clear f g;gi_wp2_with fail
      gi_loopw [24] (fun a wr=>∃f:Nat,f≤k∧a=I Z f∧wr.heap[G]?=S (O #[I Z r,I Z s,I Z q,I Z j,I Z k] 23)∧wr.heap[R]?=S (O #[I Z rk] 3)∧X ((l*j+o)*k+f) wr∧W.heap.size≤wr.heap.size) fun a _=>k-(intOf a).toNat
      case atStart=>exact⟨0,by omega,rfl,h.out.2.1,h.out.2.2,h.out.1,i⟩
      case round=>
       obtain⟨t,ar,rfl,f,g,m,i⟩:=hrel;have h:=Hd3 m f g;clear m v;by_cases w:t<k
       ·have av:(t:Int)<k:=by omega
        have A:=Cw g 0;simp at A;have ba:=aB f;have bb:=aB g;have HX:=aA (OO rk (l:Nat) (o:Nat) (t:Nat) y1 y2 (by omega) (by omega) (by omega) (by omega) (by omega) (by omega));have a:=Hd3 u p w;clear f g;gi_wp2_with fail;refine⟨trivial,?_⟩;refine((Nk (n:=8)).2 (HX.out _)).mono ?_;rintro e w2 ⟨rfl,v⟩;have x:=iv a.out.1 a.out.2.1 a.out.2.2;obtain⟨fn,U,L,V,hy,hR⟩:=HY.out ((l*j+o)*k+t) _ w2 8 (E5 _ _ (by rw[J8 B.out];exact x)) (J.out _ _ _ h.out.1 v) (Ng i v.size);rw[R0 B.out _ x,Int.toNat_natCast,Int.toNat_natCast,iw rk a.out.2.1 a.out.2.2]at hy;have y:=aA v;clear v x;gi_wp2_with fail;refine hR.mono ?_;rintro e W3 ⟨m,⟨rfl,F⟩|⟨rfl,H⟩⟩
        ·have v:¬M G:=fun bd=>P.out G bd (.inl rfl)
         have x:¬M R:=fun bd=>P.out R bd (.inr rfl);have f:=aH (aJ m (aE y.out h.out.2.1) v) (aJ m (aE y.out h.out.2.2) x);have g:W.heap.size≤W3.heap.size:=Ng (Ng i y.out.size) m.size;have z:=aA F;clear F v x A m;gi_wp2_with fail;go_roundw
         case rel=>exact⟨t+1,a.out.2.2,by go_num,f.out.1,f.out.2,z.out,g⟩
         case measure=>have:=a.out.2.2;simp[intOf];omega
        ·have z:=aA H;clear H;gi_wp2_with fail;refine My (Nw rfl _ _ _) rfl ?_;exact⟨⟨_,rfl⟩,.inr z.out⟩
       ·have x:t=k:=by omega
        subst x;have y:¬(t:Int)<t:=by omega
        have a:=aH u p;clear w f g;gi_wp2_with fail;go_roundw
        case rel=>exact⟨o+1,a.out.2,by go_num,h.out.2.1,h.out.2.2,by rw[←Nat.add_assoc,Nat.succ_mul];exact h.out.1,i⟩
        case measure=>have:=a.out.2;simp[intOf];omega
     ·have v:o=j:=by omega
      subst v;have y:¬(o:Int)<o:=by omega
      have a:=aA u;clear p f g;gi_wp2_with fail;go_roundw
      case rel=>exact⟨l+1,a.out,by go_num,h.out.2.1,h.out.2.2,by rw[←Nat.mul_assoc,Nat.succ_mul];exact h.out.1,i⟩
      case measure=>have:=a.out;simp[intOf];omega
   ·have a:l=q:=by omega
    subst a;have y:¬(l:Int)<l:=by omega
    have a:Hid (X (mM (sD r s l j k rk)).length wr):=by show X _ wr;rw[tJ,J8 B.out];exact h.out.1
    clear u f g;gi_wp2_with fail
    go_end0
    exact⟨⟨_,rfl⟩,.inl a.out⟩
theorem RQ (a:Int) (k:Nat) (b:0≤a) (e:a<131072) (f:k<64):bits .or .i64 (a*64) (k:Nat)=a*64+(k:Nat):=by
 obtain⟨c,rfl⟩:=Int.eq_ofNat_of_zero_le b;have d:((c:Nat):Int)*64=((c*64:Nat):Int):=by omega
 rw[d,DC _ _ (by omega) (by omega),show c*64|||k=c*64+k from DD c k 6 (by omega)];omega
end
section
open Go.RowKit Go.Shelf lin
attribute [local go_sem] Oper.semAt_some
def vW (n c:Int) (k:Nat):List Int:=(Nf k).map fun j=>n*((j:Nat):Int)+c
theorem E7 (n c:Int) (k:Nat):(vW n c k).length=k:=by simp[vW]
theorem R3 (n c:Int) (k j:Nat) (a:j<k):(vW n c k).getD j 0=n*(j:Int)+c:=by simp[vW,Mx,a]
theorem J9 (m:Int):(m=1∧iQ m=9∧jA m=8)∨(m=2∧iQ m=36∧jA m=2)∨(iQ m=0∧jA m=0∧fN m=false):=by
 unfold iQ jA fN;by_cases a:m=1
 ·subst a;simp
 by_cases b:m=2
 ·subst b;simp
 ·simp[a,b]
theorem ja (m ch:Int) (w:Mr):Mt Y 165 #[I Z m,I Z ch] w fun e a=>e=E (.func (.func 205) #[] #[.pointer (S ⟨w.heap.size,0,N⟩),.pointer (S ⟨w.heap.size+1,0,N⟩)])∧a=(w.alloc (O #[I Z m] 3)).alloc (O #[I Z ch] 3):=by go_in;go_wp2;go_ret;exact⟨rfl,rfl⟩
theorem E8 {m x:Int} (b:jA m=x) (w:Mr):Mt Y 180 #[I Z m] w fun e a=>e=E (I Z x)∧Mu w.heap.size w a:=by subst b;exact(Go.Proofs.YtlbgenenpheheaaGreat.Q7 m w).mono fun e a ⟨b,c⟩=>⟨b,by subst c;exact Bl⟩
theorem jb (z C:Nat) (m ch:Int) (n k:Nat) (i:iQ m=(n:Int)) (j:jA m=(k:Int)) (h0:0≤ch) (h1:ch<(n:Int)) (q:(n:Int)≤36∧(k:Int)≤8) (W:Mr) (b:W.heap[z]?=S (O #[I Z m] 3)) (c:W.heap[C]?=S (O #[I Z ch] 3)):pW Y 205 #[.pointer (S ⟨z,0,N⟩),.pointer (S ⟨C,0,N⟩)] (mM (vW (n:Int) ch k)) (fun a=>a=z∨a=C) W:=by
 intro lp cw ab Jx U a l f o d;have G:=aA o;have H:=aA l;have x:=aA a;have y:=aH b c;have J:=aB b;have K:=aB c;have L:=aA d;have M:=aA fun w=>DQ i w;have P:=aA fun w=>E8 j w;have g:=Cw b 0;have h:=Cw c 0;simp at g h;obtain⟨A,B⟩:=q;clear o l f a d b c i j;refine(Nk (n:=9)).1 ?_;refine callsIn_of_wp func205 rfl trivial ?_ rfl;simp only[ntmps205,Nv,Oc,List.length_nil,Nat.reduceAdd,Nat.reduceSub,Array.replicate_succ,Array.replicate_zero,List.push_toArray,List.append_toArray,List.nil_append,List.cons_append];gi_wp2_with fail;refine⟨trivial,?_⟩;refine((Nk (n:=8)).2 (M.out _)).mono ?_;rintro e w1 ⟨rfl,a⟩;replace g:=(a.cell (p:=⟨z,0,N⟩) J).trans g;replace h:=(a.cell (p:=⟨C,0,N⟩) K).trans h;have v:=aA a;clear a;gi_wp2_with fail;refine⟨trivial,?_⟩;refine((Nk (n:=8)).2 (P.out _)).mono ?_;rintro e w2 ⟨rfl,a⟩;have f:=aA (Kc v.out a);clear a g h;gi_wp2_with fail
 gi_loopw [17] (fun a wr=>∃s:Nat,s≤k∧a=I Z s∧wr.heap[z]?=S (O #[I Z m] 3)∧wr.heap[C]?=S (O #[I Z ch] 3)∧ab s wr∧W.heap.size≤wr.heap.size) fun a _=>k-(intOf a).toNat
 case atStart=>exact⟨0,by omega,rfl,aE f.out y.out.1,aE f.out y.out.2,H.out _ _ _ L.out f.out,f.out.size⟩
 case round=>
  obtain⟨s,hj,rfl,b,c,j,l⟩:=hrel;have t:=Hd3 j b c;by_cases d:s<k
  ·have V:(s:Int)<k:=by omega
   have g:=Cw b 0;have h:=Cw c 0;simp at g h;obtain⟨fn,D,u,F,Q,R⟩:=G.out s _ wr 8 (E5 _ _ (by rw[E7];exact d)) j l;rw[R3 _ _ _ _ d]at Q;have X:(n:Int)*(s:Int)≤36*8:=Int.mul_le_mul (by omega) (by omega) (by omega) (by omega);have aa:0≤(n:Int)*(s:Int):=Int.mul_nonneg (by omega) (by omega);have o:=aA d;clear j b c d;gi_wp2_with fail;refine R.mono ?_;rintro e T ⟨a,⟨rfl,q⟩|⟨rfl,r⟩⟩
   ·have b:=aH (aJ a t.out.2.1 (fun c=>x.out z c (.inl rfl))) (aJ a t.out.2.2 (fun c=>x.out C c (.inr rfl)))
    have c:W.heap.size≤T.heap.size:=Ng l a.size;have i:=aA q;clear q g h a;gi_wp2_with fail;go_roundw
    case rel=>exact⟨s+1,o.out,by go_num,b.out.1,b.out.2,i.out,c⟩
    case measure=>have:=o.out;simp[intOf];omega
   ·have i:=aA r;clear r;gi_wp2_with fail;refine My (Nw rfl _ _ _) rfl ?_;exact⟨⟨_,rfl⟩,.inr i.out⟩
  ·have a:s=k:=by omega
   subst a;have a:Hid (ab (mM (vW (n:Int) ch s)).length wr):=by show ab _ wr;rw[tJ,E7];exact t.out.1
   clear d b c j;gi_wp2_with fail
   go_end0
   exact⟨⟨_,rfl⟩,.inl a.out⟩
attribute [local simp] Mf Mg
attribute [local go_sem] Mh
def tL (l:List Int) (n ch v:Int) (k:Nat):List Int:=(Nf k).foldl (fun l j=>l.set (n*((j:Nat):Int)+ch).toNat v) l
theorem EA (l:List Int) (n ch v:Int) (k:Nat):(tL l n ch v k).length=l.length:=by
 induction k with
 |zero=>rfl
 |succ k a=>unfold tL at*;rw[List.range_succ,List.foldl_append,List.foldl_cons,List.foldl_nil,Od,a]
theorem R4 (l:List Int) (n ch v:Int) (k:Nat):tL l n ch v (k+1)=(tL l n ch v k).set (n*((k:Nat):Int)+ch).toNat v:=by unfold tL;rw[List.range_succ,List.foldl_append];rfl
def tM (l:List Int) (m ch v:Int):List Int:=tL l (iQ m) ch v (jA m).toNat
theorem R6 (l:List Int) (m ch v:Int):(tM l m ch v).length=l.length:=EA _ _ _ _ _
def AU (w:Mr) (l:List Int) (n ch v:Int) (k:Nat) (W:Mr):Prop:=W.heap[w.heap.size]?=S (O (aD .u8 (tL l n ch v k)) 79)∧W.heap[w.heap.size+1]?=S (O #[.int .u8 v] 5)∧W.heap[w.heap.size+1+1]?=S (O zeroCells79 79)∧Mu w.heap.size w W
theorem AU.chg {l:List Int} {n ch v:Int} {A B:Mr} (c:AU w l n ch v k A) (a:aF cw A B) (b:∀h,cw h→w.heap.size+1+1<h):AU w l n ch v k B:=by obtain⟨e,f,g,d⟩:=c;exact⟨aJ a e fun c=>by have:=b _ c;omega,aJ a f fun c=>by have:=b _ c;omega,aJ a g fun c=>by have:=b _ c;omega,d.trans (a.below d.size fun h c=>by have:=b _ c;omega)⟩
theorem nQ:zeroCells79.size=72:=by kernel_rfl
theorem jc (l:List Int) (f:l.length=72) (m ch v:Int) (b:fN m=true) (R:0≤ch) (H:ch<iQ m) (w:Mr):Mt Y 121 #[.agg (aD .u8 l),I Z m,I Z ch,.int .u8 v] w fun e a=>e=E (.agg (aD .u8 (tM l m ch v)))∧Mu w.heap.size w a:=by
 obtain⟨n,x,g,h,u,A,c⟩:∃n x:Nat,iQ m=(n:Int)∧jA m=(x:Int)∧(n:Int)≤36∧(x:Int)≤8∧n*x=72:=by
  rcases J9 m with⟨_,d,a⟩|⟨_,d,a⟩|⟨_,_,a⟩
  ·exact⟨9,8,d,a,by omega,by omega,rfl⟩
  ·exact⟨36,2,d,a,by omega,by omega,rfl⟩
  ·rw[a]at b;cases b
 have a:tM l m ch v=tL l (n:Int) ch v x:=by unfold tM;rw[g,h];rfl
 rw[a];rw[g]at H;have T:=Hd3 g h c;have J:=aA f;clear a g h c f b;refine(Nk (n:=9)).1 ?_;refine callsIn_of_wp_marks func121 rfl trivial ?_;simp only[ntmps121,Nv,Oc,List.length_nil,Nat.reduceAdd,Nat.reduceSub,Array.replicate_succ,Array.replicate_zero,List.push_toArray,List.append_toArray,List.nil_append,List.cons_append];gi_wp2_with fail;refine⟨trivial,?_⟩;refine((Nk (n:=8)).2 (ja m ch _)).mono ?_;rintro e w0 ⟨rfl,b⟩;have d:AU w l n ch v 0 w0:=by rw[b];exact⟨ZN (by first|rfl|simp<;>omega|omega),zH (by first|rfl|simp<;>omega|omega),nE (by first|rfl|simp<;>omega|omega),aw⟩
 have q:w0.heap[w.heap.size+1+1+1]?=S (O #[I Z m] 3):=by rw[b];rw[aV _ _ _ (by first|rfl|simp<;>omega|omega)];exact aG _ _ _ (by first|rfl|simp<;>omega|omega)
 have r:w0.heap[w.heap.size+1+1+1+1]?=S (O #[I Z ch] 3):=by rw[b];exact aG _ _ _ (by first|rfl|simp<;>omega|omega)
 have a:w0.heap.size=w.heap.size+1+1+1+1+1:=by rw[b];simp
 have K:=bT d q r a;simp only[Mr.size_alloc];clear b d q r a;gi_wp2_with fail;have⟨d,q,r,a⟩:=K.out;have⟨g,h,c⟩:=T.out
 refine vV 9 9 (gf:=205) (lb:=#[.pointer (S ⟨w.heap.size+1+1+1,0,N⟩),.pointer (S ⟨w.heap.size+1+1+1+1,0,N⟩)]) rfl (enters_of func205 (by kernel_rfl) rfl) (mM (vW (n:Int) ch x)) (fun s=>s=w.heap.size+1+1+1∨s=w.heap.size+1+1+1+1) (fun s e=>by rw[a];omega)
  (fun f b=>jb _ _ m ch n x g h R H ⟨u,A⟩ f (aE b q) (aE b r))
  (fun t v b=>by obtain⟨_,rfl⟩:=xI _ t v b;rfl)
  (fun s=>s=w.heap.size) (fun s j=>by rw[a];omega)
  (fun t W=>AU w l n ch v t W) (fun _ _=>False)
  (fun t f B b o=>b.chg o fun s j=>by rw[a]at j;omega) (fun _ _ _ b _=>b) d ?round ?done fun _ _ _ b _=>b.elim
 case round=>
  intro t aa W L M j;obtain⟨s,rfl⟩:=xI _ t aa L;rw[E7]at s;rw[R3 _ _ _ _ s];have C:n*t+n≤72:=by have:n*(t+1)≤n*x:=Nat.mul_le_mul_left _ s;rw[c,Nat.mul_add,Nat.mul_one]at this;exact this
  obtain⟨P,y⟩:∃P:Nat,(n:Int)*(t:Int)+ch=(P:Int):=⟨((n:Int)*(t:Int)+ch).toNat,by have:0≤(n:Int)*(t:Int):=Int.mul_nonneg (by omega) (by omega);omega⟩
  have Q:(P:Int)<72:=by
   have e:((n*t:Nat):Int)=(n:Int)*(t:Int):=by rw[Int.natCast_mul]
   omega
  rw[y];have U:=aA y;clear L s C y M;gi_wp2_with fail;refine⟨Cl,j,fun z D F G=>?_⟩;clear j F D;obtain⟨b,k,i,f⟩:=G;have m1:=sC z _ P _ 79 b (by rw[EA,J.out];omega);have V:=Cw k 0;have f1:=Fw b P;simp at V;have X:=bT b k i f;clear b k i f d q r g h c;gi_wp2_with fail;have⟨b,k,i,f⟩:=X.out;have o:aF (fun s=>s=w.heap.size) z (z.setCell ⟨w.heap.size,P,N⟩ (.int .u8 v)):=aF.setCell (cw:=fun s=>s=w.heap.size) Cl (p:=⟨w.heap.size,P,N⟩) (.inl rfl) _;refine⟨o,?_,aJ o k (by omega),aJ o i (by omega),Ks f Nl⟩;rw[R4,U.out,←AF];exact Hs _ _ b
 case done=>
  rintro W M ⟨b,k,i,f⟩ z;rw[tJ,E7]at b;have⟨o,j⟩:=Ex (tL l (n:Int) ch v x);have s:o.length=72:=by rw[j,EA];exact J.out
  rw[←j]at b;have C:=aA j;rw[a]at z;have D:=Lw b 72 (by rw[aP,s]);have F:=Sw i (aD .u8 o) (by rw[aP,s];exact nQ) (dG _ _);have t:=Hw i (aD .u8 o);have y:(W.setRow (w.heap.size+1+1) (aD .u8 o)).heap[w.heap.size+1+1+1+1+1]?=S (.deferred (S [])):=(So (by omega)).trans z;have X:=aH f t;clear b k i f t j d q r g h c K;have b:(aD .u8 o).size=72:=by rw[aP,s]
  gi_wp2_with fail;rw[a];refine⟨by simp,.inl ⟨_,_,rfl,run_takeDeferred y,?_⟩⟩;have⟨f,t⟩:=X.out;rw[←C.out];refine⟨_,Oa rfl _ _ (w.heap.size+1+1) 79 (aD .u8 o) (0,0) (.array 72 5) rfl ((Ok (by omega)).trans t) (by kernel_rfl) rfl (by rw[b];exact(by kernel_rfl:(Y.info? 79).map (·.size)=S 72)),rfl,?_⟩;have c:Mu w.heap.size w (W.setRow (w.heap.size+1+1) (aD .u8 o)):=Ob f (by omega) _;exact c.trans ⟨rfl,rfl,rfl,by simp,fun x h=>Ok (show x≠w.heap.size+1+1+1+1+1 by omega)⟩
end
section
open Go.RowKit Go.Shelf lin
attribute [local go_sem] Oper.semAt_some Mh
attribute [local simp] Mf Mg
def vX (m k r b d c ch bt vl pr pb pd pc:Int) (l:List Int):List Int:=if(oX k&&AN k r b d c pr pb pd pc)=true then(if k=2 then tI l bt vl else tM l m ch vl)else l
def JA (m k ch bt vl:Int):Prop:=2≤k∧k≤5∧(k=2→0≤bt∧bt<576)∧(k≠2→0≤ch∧ch<iQ m∧0≤vl∧vl<256)
theorem R8 (l:List Int) (b v:Int):(tI l b v).length=l.length:=by unfold tI;split;rfl;exact E3 _ _
theorem JB (m k r b d c ch bt vl pr pb pd pc:Int) (l:List Int):(vX m k r b d c ch bt vl pr pb pd pc l).length=l.length:=by unfold vX;split;split;exact R8 _ _ _;exact R6 _ _ _ _;rfl
theorem JC {k:Int} {x:Bool} (f:oX k=x) (r b d c ch bt vl:Int) (w:Mr):Mt Y 118 #[.agg #[I Z k,I Z r,I Z b,I Z d,I Z c,I Z ch,I Z bt,I Z vl]] w fun e a=>e=E (.bool x)∧Mu w.heap.size w a:=by subst f;exact du k r b d c ch bt vl w
theorem jd {k c pr pb pd pc:Int} {x:Bool} (f:AN k r b d c pr pb pd pc=x) (ch bt vl:Int) (w:Mr):Mt Y 119 #[.agg #[I Z k,I Z r,I Z b,I Z d,I Z c,I Z ch,I Z bt,I Z vl],.agg #[I Z pr,I Z pb,I Z pd,I Z pc]] w fun e a=>e=E (.bool x)∧Mu w.heap.size w a:=by subst f;exact dw k r b d c ch bt vl pr pb pd pc w
theorem AV {fn:Func} (a:fn.results=#[.cell 8 79]) {T:Array Ms} {l:List Int} {R:Ending→Mr→Prop} (b:T.getD 8 Mv=.pointer (S ⟨g,0,N⟩)) (c:l.length=72)
 (d:w.heap[g]?=S (O (aD .u8 l) 79)) (e:R (E (.agg (aD .u8 l))) w):bodyPost Y fn R .ret {tmps:=T,defers:=[]} w:=
 My (Oa (P:=Y) a _ _ g 79 (aD .u8 l) (0,0) (.array 72 5) b d (by kernel_rfl) rfl (by rw[aP,c];kernel_rfl)) rfl e
theorem EB {k c ch bt vl pr pb pd pc:Int} {l:List Int} (e:l.length=72) (f:W.heap[B]?=S (O #[I Z k,I Z r,I Z b,I Z d,I Z c,I Z ch,I Z bt,I Z vl] 43)) (p:W.heap[B+1]?=S (O #[I Z pr,I Z pb,I Z pd,I Z pc] 41)) (x:W.heap[B+1+1]?=S (O (aD .u8 l) 79)) (y:W.heap[B+1+1+1]?=S (O zeroCells79 79)):(Mc ⟨B,0,N⟩ 0 8 #[]).run Y W=.ok #[I Z k,I Z r,I Z b,I Z d,I Z c,I Z ch,I Z bt,I Z vl] W∧W.cell? ⟨B,0,N⟩=S (I Z k)∧W.cell? ⟨B,1,N⟩=S (I Z r)∧W.cell? ⟨B,2,N⟩=S (I Z b)∧W.cell? ⟨B,3,N⟩=S (I Z d)∧W.cell? ⟨B,4,N⟩=S (I Z c)∧W.cell? ⟨B,5,N⟩=S (I Z ch)∧W.cell? ⟨B,6,N⟩=S (I Z bt)∧W.cell? ⟨B,7,N⟩=S (I Z vl)∧(∀a,W.frozen? ⟨B,a,N⟩=false)∧B<W.heap.size∧(Mc ⟨B+1,0,N⟩ 0 4 #[]).run Y W=.ok #[I Z pr,I Z pb,I Z pd,I Z pc] W∧W.cell? ⟨B+1,0,N⟩=S (I Z pr)∧W.cell? ⟨B+1,1,N⟩=S (I Z pb)∧W.cell? ⟨B+1,2,N⟩=S (I Z pd)∧W.cell? ⟨B+1,3,N⟩=S (I Z pc)∧(∀a,W.frozen? ⟨B+1,a,N⟩=false)∧B+1<W.heap.size∧(Mc ⟨B+1+1,0,N⟩ 0 72 #[]).run Y W=.ok (aD .u8 l) W∧B+1+1<W.heap.size∧B+1+1+1<W.heap.size:=⟨Lw f 8 rfl,Cw f 0,Cw f 1,Cw f 2,Cw f 3,Cw f 4,Cw f 5,Cw f 6,Cw f 7,fun a=>Fw f a,aB f,Lw p 4 rfl,Cw p 0,Cw p 1,Cw p 2,Cw p 3,fun a=>Fw p a,aB p,Lw x 72 (by rw[aP,e]),aB x,aB y⟩
theorem je (l:List Int) (g:l.length=72) (m k r b d c ch bt vl pr pb pd pc:Int) (M:fN m=true) (n:JA m k ch bt vl) (w:Mr):Mt Y 82 #[.agg #[I Z k,I Z r,I Z b,I Z d,I Z c,I Z ch,I Z bt,I Z vl],I Z m,.agg #[I Z pr,I Z pb,I Z pd,I Z pc],.agg (aD .u8 l)] w fun e a=>e=E (.agg (aD .u8 (vX m k r b d c ch bt vl pr pb pd pc l)))∧Mu w.heap.size w a:=by
 unfold vX;obtain⟨B1,i⟩:∃a,oX k=a:=⟨_,rfl⟩;obtain⟨B2,j⟩:∃a,AN k r b d c pr pb pd pc=a:=⟨_,rfl⟩;have C1:=aA fun w=>JC i r b d c ch bt vl w;have C2:=aA fun w=>jd j ch bt vl w;rw[i,j];have⟨ad,h⟩:=Ey (if(B1&&B2)=true then(if k=2 then tI l bt vl else tM l m ch vl)else l);rw[h];have HF:=aH M n;have a:=aA h;clear i j n M h;have f:((((w.alloc (O #[I Z k,I Z r,I Z b,I Z d,I Z c,I Z ch,I Z bt,I Z vl] 43)).alloc (O #[I Z pr,I Z pb,I Z pd,I Z pc] 41)).alloc (O (aD .u8 l) 79)).alloc (O zeroCells79 79)).heap[w.heap.size]?=S (O #[I Z k,I Z r,I Z b,I Z d,I Z c,I Z ch,I Z bt,I Z vl] 43):=zH (by first|rfl|simp<;>omega|omega);have aa:((((w.alloc (O #[I Z k,I Z r,I Z b,I Z d,I Z c,I Z ch,I Z bt,I Z vl] 43)).alloc (O #[I Z pr,I Z pb,I Z pd,I Z pc] 41)).alloc (O (aD .u8 l) 79)).alloc (O zeroCells79 79)).heap[w.heap.size+1]?=S (O #[I Z pr,I Z pb,I Z pd,I Z pc] 41):=nE (by first|rfl|simp<;>omega|omega);have ab:((((w.alloc (O #[I Z k,I Z r,I Z b,I Z d,I Z c,I Z ch,I Z bt,I Z vl] 43)).alloc (O #[I Z pr,I Z pb,I Z pd,I Z pc] 41)).alloc (O (aD .u8 l) 79)).alloc (O zeroCells79 79)).heap[w.heap.size+1+1]?=S (O (aD .u8 l) 79):=gQ (by first|rfl|simp<;>omega|omega);have P:((((w.alloc (O #[I Z k,I Z r,I Z b,I Z d,I Z c,I Z ch,I Z bt,I Z vl] 43)).alloc (O #[I Z pr,I Z pb,I Z pd,I Z pc] 41)).alloc (O (aD .u8 l) 79)).alloc (O zeroCells79 79)).heap[w.heap.size+1+1+1]?=S (O zeroCells79 79):=iH (by first|rfl|simp<;>omega|omega);have⟨n,o,p,q,s,t,u,v,x,y,z,A,B,C,D,F,G,H,J,K,L⟩:=EB g f aa ab P;go_in;go_wp2_with fail;refine(C1.out _).mono ?_;rintro e w1 ⟨rfl,i⟩;clear n o p q s t u v x y z A B C D F G H J K L;replace f:=aE i f;replace aa:=aE i aa;replace ab:=aE i ab;replace P:=aE i P;have⟨n,o,p,q,s,t,u,v,x,y,z,A,B,C,D,F,G,H,J,K,L⟩:=EB g f aa ab P;have Q:=Kc (zQ) i;have R:=Sw P (aD .u8 l) (by rw[aP,g];exact nQ) (dG _ _);have h:(aD .u8 l).size=72:=by rw[aP,g]
 cases B1
 ·have e:l=ad:=a.out;subst e;have M:=Hw P (aD .u8 l);go_wp2_with fail;exact AV results82 rfl g M ⟨rfl,Ob Q (by first|omega|(simp;omega)) _⟩
 clear R;go_wp2_with fail;refine(C2.out _).mono ?_;rintro e w2 ⟨rfl,j⟩;clear n o p q s t u v x y z A B C D F G H J K L;replace f:=aE j f;replace aa:=aE j aa;replace ab:=aE j ab;replace P:=aE j P;have⟨n,o,p,q,s,t,u,v,x,y,z,A,B,C,D,F,G,H,J,K,L⟩:=EB g f aa ab P;have T:=Kc Q j;have R:=Sw P (aD .u8 l) (by rw[aP,g];exact nQ) (dG _ _);cases B2
 ·have e:l=ad:=a.out;subst e;have M:=Hw P (aD .u8 l);go_wp2_with fail;exact AV results82 rfl g M ⟨rfl,Ob T (by first|omega|(simp;omega)) _⟩
 clear R h;have⟨M,k1,k2,R,U⟩:=HF.out;have h:(if k=2 then tI l bt vl else tM l m ch vl)=ad:=a.out;clear a;by_cases W:k=2
 case' pos=>subst W;obtain⟨X,b2⟩:=R rfl;have V:=aA fun w=>ip l g bt vl X b2 w;have a:=R8 l bt vl;rw[Fp rfl]at h;rw[h]at V a
 case' neg=>
  obtain⟨X,b2,b3,b4⟩:=U W;have V:=aA fun w=>jc l g m ch vl M X b2 w;have hv:vl%256=vl:=by omega
  have a:=R6 l m ch vl;rw[Fn W]at h;rw[h]at V a
 all_goals
  rw[g]at a;clear R U HF M h;go_wp2_with fail;refine(V.out _).mono ?_;rintro e w3 ⟨rfl,h⟩;clear n o p q s t u v x y z A B C D F G H J K L;replace f:=aE h f;replace aa:=aE h aa;replace ab:=aE h ab;replace P:=aE h P;have⟨n,o,p,q,s,t,u,v,x,y,z,A,B,C,D,F,G,H,J,K,L⟩:=EB g f aa ab P;have R:=Sw P (aD .u8 ad) (by rw[aP,a];exact nQ) (dG _ _);have M:=Hw P (aD .u8 ad);have U:(aD .u8 ad).size=72:=by rw[aP,a]
  go_wp2_with fail;exact AV results82 rfl a M ⟨rfl,Ob (Kc T h) (by first|omega|(simp;omega)) _⟩
structure aZ where
 k:Int
 r:Int
 b:Int
 d:Int
 c:Int
 ch:Int
 bt:Int
 vl:Int
 deriving DecidableEq
def aZ.cells (f:aZ):List Ms:=[I Z f.k,I Z f.r,I Z f.b,I Z f.d,I Z f.c,I Z f.ch,I Z f.bt,I Z f.vl]
theorem aZ.cells_len (f:aZ):f.cells.length=8:=rfl
def aZ.ok (m:Int) (f:aZ):Prop:=JA m f.k f.ch f.bt f.vl
def aZ.apply (m pr pb pd pc:Int) (f:aZ) (l:List Int):List Int:=vX m f.k f.r f.b f.d f.c f.ch f.bt f.vl pr pb pd pc l
def oH (m pr pb pd pc:Int) (L:List aZ) (l:List Int):List Int:=L.foldl (fun l f=>f.apply m pr pb pd pc l) l
theorem JD (m pr pb pd pc:Int) (L:List aZ) (l:List Int):(oH m pr pb pd pc L l).length=l.length:=by
 induction L generalizing l with
 |nil=>rfl
 |cons f L a=>show(oH m pr pb pd pc L _).length=_;rw[a];exact JB _ _ _ _ _ _ _ _ _ _ _ _ _ _
theorem jh (m pr pb pd pc:Int) (L:List aZ) (l:List Int) (k:Nat) (a:k<L.length):oH m pr pb pd pc (L.take (k+1)) l=(L[k]).apply m pr pb pd pc (oH m pr pb pd pc (L.take k) l):=by unfold oH;rw[List.take_add_one,List.foldl_append,Nn a];rfl
def jJ (v:Ms) (L:List aZ) (W:Mr):Prop:=bP 43 8 v (L.map aZ.cells) W
def R9 (w:Mr) (pr pb pd pc:Int) (l:List Int) (W:Mr):Prop:=W.heap[w.heap.size]?=S (O #[I Z pr,I Z pb,I Z pd,I Z pc] 41)∧W.heap[w.heap.size+1]?=S (O (aD .u8 l) 79)∧W.heap[w.heap.size+1+1]?=S (O zeroCells79 79)∧aC w W
theorem ji (l:List Int) (hl:l.length=72) (m pr pb pd pc:Int) (hm:fN m=true) (L:List aZ) (g:∀f∈L,f.ok m) (v:Ms) (w:Mr) (c:jJ v L w) (b:L.length≤256):Mt Y 51 #[v,I Z m,.agg #[I Z pr,I Z pb,I Z pd,I Z pc],.agg (aD .u8 l)] w fun e a=>e=E (.agg (aD .u8 (oH m pr pb pd pc L l)))∧Mu w.heap.size w a:=by
 have HV:=aA c;have HO:=aA g;obtain⟨av,cv,a⟩:=c.slice;rw[Np]at a;have⟨n,d⟩:=Ex L.length;rw[←d]at a;subst a;have W:=aA d;have ad:(n:Int)≤256:=by omega
 clear c d b g;go_in;go_wp2_with fail;have⟨w0,a⟩:=Ex (((w.alloc (O #[I Z pr,I Z pb,I Z pd,I Z pc] 41)).alloc (O (aD .u8 l) 79)).alloc (O zeroCells79 79));have J:R9 w pr pb pd pc l w0:=by rw[a];exact⟨nE (by first|rfl|simp<;>omega|omega),gQ (by first|rfl|simp<;>omega|omega),iH (by first|rfl|simp<;>omega|omega),kS⟩
 rw[←a];clear a;go_loopw [13] (fun c wr=>∃q:Nat,q≤n∧c=I Z q∧R9 w pr pb pd pc (oH m pr pb pd pc (L.take q) l) wr) fun c _=>n-(intOf c).toNat
 case atStart=>exact⟨0,by omega,rfl,J⟩
 case round=>
  obtain⟨q,hk,rfl,k,d,h,o⟩:=hrel;have⟨i,b⟩:=Ex (oH m pr pb pd pc (L.take q) l);have a:i.length=72:=by rw[b,JD,hl]
  rw[←b]at d;have s:=aA b;clear b;by_cases t:q<n
  ·have b:q<L.length:=by rw[←W.out];exact t
   have⟨f,u⟩:=Ex (L[q]);rcases HV.out.cases with⟨_,H⟩|⟨ar,ae,e,hg,_,_,j⟩
   ·have:L=[]:=by simpa using H
    subst this;simp at b
   injection e with e1 e2 e3;subst e1;clear e2 e3;have x:(L.map aZ.cells).getD q []=f.cells:=by rw[u];simp[Mx,b]
   have y:∀c z,f.cells[c]?=S z→wr.cell? ⟨ar,8*q+c,N⟩=S z:=fun c z g=>by
    have r:c<8:=by
     have:=(Oe.1 g).1
     rwa [aZ.cells_len]at this
    rw[o.cell (p:=⟨ar,8*q+c,N⟩) hg];exact j q c z (by rw[Np];exact b) r (by rw[x];exact g)
   have ok:=HO.out f (by rw[u];exact List.getElem_mem b);have an:(q:Int)<n:=by omega
   have X:=lL (P:=Y) wr ar (8*q) f.cells y;have R:=aA (show oH m pr pb pd pc (L.take (q+1)) l=f.apply m pr pb pd pc i by rw[jh _ _ _ _ _ _ _ _ b,←u,s.out]);obtain⟨fk,fr,fb,fd,fc,fch,fbt,fvl⟩:=f;simp only[aZ.cells,Oc,List.length_nil,Nat.reduceAdd]at X;have r:=bT k d h o;have LP:=Lw k 4 rfl;have LX:=Lw d 72 (by rw[aP,a]);have AP:=aA fun w=>je i a m fk fr fb fd fc fch fbt fvl pr pb pd pc hm ok w;have aa:q*8=8*q:=Nat.mul_comm _ _;clear k d h o y j x u ok J b;have SF:(Me ⟨wr.heap.size,0,N⟩ [I Z fk,I Z fr,I Z fb,I Z fd,I Z fc,I Z fch,I Z fbt,I Z fvl] 0).run Y (wr.alloc (O #[I Z 0,I Z 0,I Z 0,I Z 0,I Z 0,I Z 0,I Z 0,I Z 0] 43))=.ok () (wr.alloc (O #[I Z fk,I Z fr,I Z fb,I Z fd,I Z fc,I Z fch,I Z fbt,I Z fvl] 43)):=Mi wr 43 _ #[I Z fk,I Z fr,I Z fb,I Z fd,I Z fc,I Z fch,I Z fbt,I Z fvl] (by kernel_rfl) rfl (by simp[Ni]);have q1:(wr.alloc (O #[I Z fk,I Z fr,I Z fb,I Z fd,I Z fc,I Z fch,I Z fbt,I Z fvl] 43)).heap[w.heap.size]?=_:=(aV _ _ _ (aB r.out.1)).trans r.out.1;have q2:(wr.alloc (O #[I Z fk,I Z fr,I Z fb,I Z fd,I Z fc,I Z fch,I Z fbt,I Z fvl] 43)).heap[w.heap.size+1]?=_:=(aV _ _ _ (aB r.out.2.1)).trans r.out.2.1;have T:=fJ (P:=Y) (wr.alloc (O #[I Z fk,I Z fr,I Z fb,I Z fd,I Z fc,I Z fch,I Z fbt,I Z fvl] 43)) wr.heap.size _ 43 (0,0) (aG _ _ _ rfl) 8 rfl;have U:=Lw q1 4 rfl;have V:=Lw q2 72 (by rw[aP,a]);clear q1 q2 LP LX;go_wp2_with fail;refine(AP.out _).mono ?_;rintro e w5 ⟨rfl,z⟩;have⟨k,d,h,o⟩:=r.out;have⟨A,c⟩:=Ex (vX m fk fr fb fd fc fch fbt fvl pr pb pd pc i);have B:A.length=72:=by rw[c,JB,a]
   rw[←c];have g:aC wr w5:=Kc (Ka (K.refl wr)) z;have C:=aE g k;have M:=aE g d;have D:=aE g h;have F:=Kc o g;have S5:=Sw M (aD .u8 A) (by rw[aP,aP,a,B]) (dG _ _);have G:=Hw M (aD .u8 A);have ab:(aD .u8 A).size=72:=by rw[aP,B]
   have Q:=eP c C D F G;clear c k d h o z g C M D F G X T U V SF;go_wp2_with fail;go_roundw
   case rel=>have⟨c,C,D,F,G⟩:=Q.out;refine⟨q+1,by omega,by go_num,(So (by omega)).trans C,?_,(So (by omega)).trans D,Ob F (by omega) _⟩;rw[G,c];have e:=R.out;unfold aZ.apply at e;rw[e]
   case measure=>simp[intOf];omega
  ·have b:q=L.length:=by rw[←W.out];omega
   have c:q=n:=by omega
   subst c;have c:oH m pr pb pd pc L l=i:=by rw[s.out,b,List.take_length]
   have Q:=aA c;have LX:=Lw d 72 (by rw[aP,a]);have u:=Sw h (aD .u8 i) (by rw[aP,a];exact nQ) (dG _ _);have r:=Hw h (aD .u8 i);have j:(aD .u8 i).size=72:=by rw[aP,a]
   have g:¬((q:Int)<(q:Int)):=by omega
   clear t b c J k d h;go_wp2_with fail;exact AV results51 rfl a r ⟨by rw[Q.out],Ob o (by omega) _⟩
def iU (v:Ms) (l:List Int) (W:Mr):Prop:=∃g off cap,v=.slice (S ⟨g,off,N⟩) l.length cap∧l.length≤cap∧g<W.heap.size∧∀i,i<l.length→W.cell? ⟨g,off+i,N⟩=S (.int .u8 (l.getD i 0))
theorem iU.keeps {l:List Int} (g:iU v l W) (c:aC W W'):iU v l W':=by obtain⟨h,a,b,rfl,e,d,f⟩:=g;exact⟨h,a,b,rfl,e,Nj d c.size,fun i g=>(c.cell (p:=⟨h,a+i,N⟩) d).trans (f i g)⟩
theorem iU.of_own {l:List Int} {b:Nat} (i:0<l.length) (q:W.ownsRow b 5 1 v l.length (l.map (I .u8))):iU v l W:=by
 obtain⟨j,⟨_,k⟩|⟨r,a,c,rfl,m,d,f,n,o,g⟩⟩:=id q
 ·omega
 ·refine⟨r,0,a,rfl,f,aB d,fun p h=>?_⟩
  rw[Cw d _];have e:(l.map (I .u8))[p]?=c[0+p]?:=by rw[←g,List.getElem?_take_of_lt (by omega),Nat.zero_add];simp
  rw[←e];simp[Mx,h]
def cG (l:List Int) (n k:Nat):List Int:=(l.drop (n*k)).take n
theorem pX (l:List Int) (n k:Nat) (a:n*k+n≤l.length):(cG l n k).length=n:=by unfold cG;rw[List.length_take,List.length_drop];omega
theorem oZ (l:List Int) (n k i:Nat) (a:i<n):(cG l n k).getD i 0=l.getD (n*k+i) 0:=by unfold cG;simp[Mx,List.getElem?_take_of_lt a]
theorem RA {m:Int} (c:iQ m=(n:Int)) (d:(k:Int)<jA m):n*k+n≤72∧0<n∧n≤36∧k<8:=by
 rcases J9 m with⟨_,b,a⟩|⟨_,b,a⟩|⟨_,a,_⟩
 ·have e:n=9:=by omega
  subst e;omega
 ·have e:n=36:=by omega
  subst e;omega
 ·omega
theorem jj (B p n:Nat) (k:p+n≤72) (a:0<n) (W:Mr):(Instr.sliceAt 79 (.pointer (S ⟨B,0,N⟩)) (S (I Z (p:Nat))) (S (I Z ((p:Int)+(n:Int)))) N).run Y W=.ok (.slice (S ⟨B,p,N⟩) n (72-p)) W:=by
 obtain⟨j,c,h,b,i⟩:=info_parts lin.lO;have d:(((p:Int)+(n:Int)).toNat)=p+n:=by omega
 have e:¬((p:Int)+(n:Int)<0):=by omega
 have f:¬(72<p+n):=by omega
 have g:¬(p+n<p):=by omega
 simp[Instr.sliceAt,Instr.sliceBounds,Instr.sliceBound,Instr.sureAddr,asIntOf,run_underlying underlying79,sizeOf,typeInfo,c,b,Addr.add,d,e,f,g];rw[Fp (by omega),Fn (by omega)];by_cases a:p=0
 ·subst a;rfl
 ·rw[Fn a]
theorem xG (l:List Int) (A:l.length=72) (m:Int) (n k:Nat) (c:iQ m=(n:Int)) (u:(k:Int)<jA m) (w:Mr):Mt Y 182 #[.agg (aD .u8 l),I Z m,I Z k] w fun e a=>∃d,e=E d∧iU d (cG l n k) a∧Mu w.heap.size w a:=by
 obtain⟨v,B,b3,M⟩:=RA c u;have⟨P,a⟩:=Ex (jA m);rw[←a]at u;have C:=aA fun w=>E8 a.symm w;have D:=aA fun w=>DQ c w;clear a c;go_in;go_wp2_with fail;refine(C.out _).mono ?_;rintro e x ⟨rfl,a⟩;have f:x.heap[w.heap.size]?=S (O (aD .u8 l) 79):=aE a (aG _ _ _ rfl);have g:aC w x:=Kc aU a;clear a;go_wp2_with fail;refine(D.out _).mono ?_;rintro e c ⟨rfl,a⟩;replace f:=aE a f;replace g:=Kc g a;clear a;obtain⟨p,F⟩:∃p:Nat,(n:Int)*(k:Int)=(p:Int):=⟨n*k,by rw[Int.natCast_mul]⟩
 have h:n*k=p:=by have:((n*k:Nat):Int)=(p:Int):=by rw[Int.natCast_mul,F]
                  omega
 rw[h]at v;have Q:=jj w.heap.size p n v B;obtain⟨G,q,r,s,t⟩:=info_parts lin.lO;have o:(c.alloc (O #[] 5)).ownsRow c.heap.size 5 1 (.slice (S ⟨c.heap.size,0,N⟩) 0 0) 0 []:=⟨rfl,.inr ⟨c.heap.size,0,#[],rfl,Nl,aG _ _ _ rfl,Nl,Ns _,rfl,rfl⟩⟩;have H:cG l n k=(l.drop p).take n:=by unfold cG;rw[h]
 have d:(cG l n k).length=n:=pX l n k (by omega)
 have i:∀y L,((cG l n k).map (I .u8))[y]?=S L→(c.alloc (O #[] 5)).cell? ((⟨w.heap.size,p,N⟩:Addr).add y)=S L:=fun y L a=>by
  have J:y<n:=by have:=(Oe.1 a).1;rw[Np,d]at this;exact this
  have j:(⟨w.heap.size,p,N⟩:Addr).add y=⟨w.heap.size,p+y,N⟩:=by unfold Addr.add;split<;>simp_all
  have K:(c.alloc (O #[] 5)).heap[w.heap.size]?=S (O (aD .u8 l) 79):=(aV _ _ _ (aB f)).trans f;rw[j,sC _ _ _ _ _ K (by omega)];have:=oZ l n k y J;rw[h]at this;rw[←this];rw[Of]at a;simp only[Mx];cases z:(cG l n k)[y]? with
  |none=>rw[z]at a;cases a
  |some R=>rw[z]at a;simpa using a
 have y:=Hd3 d f g;clear f g H A;go_wp2_with(at_builtin;refine wpList_append_own_at _ rfl _ _ 158 rfl c.heap.size 5 G (.int .u8 0) 1 1 underlying158 q r s t rfl (by decide) _ _ [] rfl o ⟨w.heap.size,p,N⟩ n (72-p) ((cG l n k).map (I .u8)) rfl (by rw[Np,y.out.1,Nat.mul_one]) i (by simp[Ni]) (by unfold maxLen;omega) (by omega) (by simp) ?_;intro H L j a _ A);go_ret;have⟨d,f,g⟩:=y.out;refine⟨H,rfl,iU.of_own (b:=c.heap.size) (by omega) (by rw[d];simpa using j),?_⟩;have K:(c.alloc (O #[] 5)).heap.size=c.heap.size+1:=by simp
 refine Kc g ⟨a.os,a.tape,a.output,by have:=a.size;omega,fun b J=>(a.block b (by omega) fun e=>?_).trans (aV _ _ _ J)⟩;have z:S b=S c.heap.size:=e;injection z with z;omega
theorem jl (B p:Nat) (g:p<72) (W:Mr):(Instr.sliceAt 79 (.pointer (S ⟨B,0,N⟩)) (S (I Z (p:Nat))) N N).run Y W=.ok (.slice (S ⟨B,p,N⟩) (72-p) (72-p)) W:=by
 obtain⟨h,b,e,a,f⟩:=info_parts lin.lO;have c:p≤72:=by omega
 have d:¬(72=p):=by omega
 simp[Instr.sliceAt,Instr.sliceBounds,Instr.sliceBound,Instr.sureAddr,asIntOf,run_underlying underlying79,sizeOf,typeInfo,b,a,Addr.add,c,d];exact fun g=>g.symm
def lZ (l:List Int) (n k:Nat) (bs:List Int):List Int:=splice l (n*k) bs
theorem xJ (l:List Int) (n k:Nat) (a:List Int) (b:n*k+a.length≤l.length):(lZ l n k a).length=l.length:=length_splice _ _ _ b
theorem RB (l:List Int) (u:l.length=72) (m:Int) (n k:Nat) (h:iQ m=(n:Int)) (D:(k:Int)<jA m) (b:List Int) (a:b.length=n) (v:Ms) (w:Mr) (c:iU v b w):Mt Y 141 #[.agg (aD .u8 l),I Z m,I Z k,v] w fun e d=>e=E (.agg (aD .u8 (lZ l n k b)))∧Mu w.heap.size w d:=by
 obtain⟨x,U,b3,V⟩:=RA h D;have⟨W,g⟩:=Ex (jA m);rw[←g]at D;have J:=aA fun w=>E8 g.symm w;have K:=aA fun w=>DQ h w;obtain⟨j,o,L,rfl,F,G,y⟩:=c;rw[a];rw[a]at F y;have⟨d,c⟩:=Ex (lZ l n k b);have f:d.length=72:=by rw[c,xJ _ _ _ _ (by rw[a,u];exact x),u]
 rw[←c];have B:=aA c;clear g h c;go_in;go_wp2_with fail;refine(K.out _).mono ?_;rintro e z ⟨rfl,c⟩;have h:z.heap[w.heap.size]?=S (O (aD .u8 l) 79):=aE c (gQ (by first|rfl|simp<;>omega|omega));have q:z.heap[w.heap.size+1]?=S (O zeroCells79 79):=aE c (iH (by first|rfl|simp<;>omega|omega));have g:aC w z:=Kc gH c;clear c;go_wp2_with fail;refine(J.out _).mono ?_;rintro e r ⟨rfl,c⟩;replace h:=aE c h;replace q:=aE c q;replace g:=Kc g c;clear c;obtain⟨p,M⟩:∃p:Nat,(n:Int)*(k:Int)=(p:Int):=⟨n*k,by rw[Int.natCast_mul]⟩
 have s:n*k=p:=by
  have:((n*k:Nat):Int)=(p:Int):=by rw[Int.natCast_mul,M]
  omega
 rw[s]at x;have X:=jl w.heap.size p (by omega)
 have c:∀A Q,(b.map (I .u8))[A]?=S Q→r.cell? ((⟨j,o,N⟩:Addr).add A)=S Q:=fun A Q i=>by
  have H:A<n:=by have:=(Oe.1 i).1;rw[Np,a]at this;exact this
  have t:(⟨j,o,N⟩:Addr).add A=⟨j,o+A,N⟩:=by unfold Addr.add;split<;>simp_all
  rw[t,g.cell (p:=⟨j,o+A,N⟩) G,y A H];rw[Of]at i;simp only[Mx];cases C:b[A]? with
  |none=>rw[C]at i;cases i
  |some R=>rw[C]at i;simpa using i
 have i:(splice (aD .u8 l).toList p (b.map (I .u8))).toArray=aD .u8 d:=by rw[B.out];unfold lZ aD;rw[s];show(splice (l.map _) p (b.map _)).toArray=_;rw[QT]
 have Q:w.heap.size+1<r.heap.size:=aB q;have C:(aD .u8 l).size=72:=by rw[aP,u]
 have H:(r.setRow w.heap.size (aD .u8 d)).heap[w.heap.size]?=S (O (aD .u8 d) 79):=Hw h (aD .u8 d);have A:(r.setRow w.heap.size (aD .u8 d)).heap[w.heap.size+1]?=S (O zeroCells79 79):=(So (by omega)).trans q;have aa:=Lw H 72 (by rw[aP,f]);have ab:=Sw A (aD .u8 d) (by rw[aP,f];exact nQ) (dG _ _);have R:=Hw A (aD .u8 d);have T:(aD .u8 d).size=72:=by rw[aP,f]
 have t:=eP h g i c R;clear h q g i c F G y H A R;have q:=run_copy_row (P:=Y) r 158 158 3 5 w.heap.size p (72-p) (72-p) ⟨j,o,N⟩ n L (aD .u8 l) 79 (b.map (I .u8)) underlying158 hsz5 t.out.1 (by rw[Np,a];exact(Nat.min_eq_left (by omega)).symm) t.out.2.2.2.1 (by rw[Np,a,C];exact x) (by simp[Ni]);rw[List.append_assoc,show((aD .u8 l).toList.take p++(b.map (I .u8)++(aD .u8 l).toList.drop (p+(b.map (I .u8)).length))).toArray=aD .u8 d from t.out.2.2.1,Np,a]at q;go_wp2_with fail;have⟨h,g,i,c,R⟩:=t.out;exact AV results141 rfl f R ⟨rfl,Ob (Ob g Nl _) (by omega) _⟩
end
section
open Go.RowKit Go.Maps Go.WideShapes
variable {P:Program}
def JE (v:Ms):Option (DataW Ms×List MemPlace):=S (.held v,[])
structure eT (P:Program) (kT:TypeId) (b n:Nat) (f:Int→Option Ms) (W:Mr):Prop where ex:∃D:DataW Ms,W.ownsMap P kT JE b n D∧IsMap D∧∀k d,bN k→D.atKey (.int .i64 k) (.held d)=.held ((f k).getD d)
theorem JF {k:Int} (a:bN k):(Lit.int .i64 k).wf=true:=WalkArith.wf_i64 a
theorem eT.made (w:Mr) (P:Program) (a:TypeId):eT P a w.heap.size 0 (fun _=>N) (w.alloc (.map #[] 0)):=⟨_,Mr.ownsMap_made w P a JE,isMap_empty,fun b c _=>rfl⟩
theorem eT.lt {a:TypeId} {b n:Nat} {f:Int→Option Ms} {W:Mr} (c:eT P a b n f W):b<W.heap.size:=by obtain⟨d,c,_⟩:=c.ex;exact c.lt
theorem eT.mono {a:TypeId} {b n n':Nat} {f:Int→Option Ms} {W:Mr} (g:eT P a b n f W) (c:n≤n'):eT P a b n' f W:=by obtain⟨h,d,e⟩:=g.ex;exact⟨h,d.mono c,e⟩
theorem eT.same {c:TypeId} {b n:Nat} {f:Int→Option Ms} {W W':Mr} (k:eT P c b n f W) (d:W'.heap[b]?=W.heap[b]?):eT P c b n f W':=by obtain⟨l,⟨e,a,g,m,h,i⟩,j⟩:=k.ex;exact⟨l,⟨e,a,d.trans g,m,h,i⟩,j⟩
theorem eT.keeps {a:TypeId} {b n:Nat} {f:Int→Option Ms} {W W':Mr} (d:eT P a b n f W) (c:aC W W'):eT P a b n f W':=d.same (c.block b d.lt)
theorem eT.chg {a:TypeId} {b n:Nat} {f:Int→Option Ms} {cw:Nat→Prop} {W W':Mr} (e:eT P a b n f W) (c:aF cw W W') (d:¬cw b):eT P a b n f W':=e.same (c.block b e.lt d)
theorem eT.lookup {c t e:TypeId} {b n:Nat} {f:Int→Option Ms} {W:Mr} (q:eT P c b n f W) (d:P.underlying c=S (.int .i64)) (h:P.underlying t=S (.map c e)) {z:Ms} (i:(zeroValue e).run P W=.ok z W) {k:Int} (g:bN k):(Instr.lookup t (.map (S b)) (.int .i64 k) false).run P W=.ok ((f k).getD z) W:=by obtain⟨r,j,o,l⟩:=q.ex;obtain⟨s,p,m,a⟩:=j.lookup (int_keyed d) h i (zd:=.held z) (zp:=[]) rfl (keyOf_int_mk d (JF g));rw[l k z g]at a;unfold JE at a;injection a with a;injection a with a;injection a with a;rw[m,a]
theorem eT.update {g t e:TypeId} {b n:Nat} {f:Int→Option Ms} {W:Mr} (y:eT P g b n f W) (h:P.underlying g=S (.int .i64)) (j:P.underlying t=S (.map g e)) (l:n<maxLen) {k:Int} (m:bN k) (v:Ms):∃W',(Instr.mapUpdate t (.map (S b)) (.int .i64 k) v).run P W=.ok () W'∧eT P g b (n+1) (fun o=>if o=k then S v else f o) W'∧aF (fun x=>x=b) W W':=by
 obtain⟨z,p,i,q⟩:=y.ex;obtain⟨W',r,s,c⟩:=p.update (int_keyed h) j l (keyOf_int_mk h (JF m)) (d:=.held v) (ps:=[]) rfl;refine⟨W',r,⟨_,s,i.put _ _,fun o d u=>?_⟩,⟨c.os,c.tape,c.output,c.size,fun x w a=>c.block x w fun e=>a (by injection e)⟩⟩;by_cases a:o=k
 ·subst a;rw[atKey_put_same i (by first|trivial|rfl|decide),Fp rfl];rfl
 ·rw[atKey_put_other fun e=>a (by injection e),Fn a,q o d u]
end
section
open Go.RowKit Go.Shelf lin
attribute [local go_sem] Oper.semAt_some
def vY (sz:Nat) (v:Ms) (L:List (List Ms)) (W:Mr):Prop:=(v=.slice N 0 0∧L=[])∨∃g off cap,v=.slice (S ⟨g,off,N⟩) L.length cap∧g<W.heap.size∧∀j i u,j<L.length→i<sz→(L.getD j [])[i]?=S u→W.cell? ⟨g,off+(sz*j+i),N⟩=S u
theorem bP.rd {t b:Nat} {L:List (List Ms)} (k:bP t b v L W):vY b v L W:=by
 rcases k.cases with⟨c,d⟩|⟨l,a,e,f,_,_,g⟩
 ·exact .inl ⟨c,d⟩
 ·exact .inr ⟨l,0,a,e,f,fun m n o h i j=>by rw[Nat.zero_add];exact g m n o h i j⟩
theorem vY.flat {a:Nat} {L:List (List Ms)} {off:Nat} (h:0<a) (d:∀j∈L,j.length=a) (i:∀b c l,b<L.length→c<a→(L.getD b [])[c]?=S l→W.cell? ⟨g,off+(a*b+c),N⟩=S l):∀b l,L.flatten[b]?=S l→W.cell? ⟨g,off+b,N⟩=S l:=fun b l f=>by
 have c:L.flatten.length=a*L.length:=by
  clear i f
  induction L with
  |nil=>rfl
  |cons j L b=>rw[List.flatten_cons,Nr,b fun i f=>d i (by simp[f]),d j (by simp),Oc,Nat.mul_add,Nat.mul_one,Nat.add_comm]
 have m:b<a*L.length:=by rw[←c];exact(Oe.1 f).1
 have j:b/a<L.length:=by rw[Nat.div_lt_iff_lt_mul h,Nat.mul_comm];exact m
 have k:b%a<a:=Nat.mod_lt _ h;have e:a*(b/a)+b%a=b:=Nat.div_add_mod b a;have:=GX L d (b/a) (b%a) j k;rw[e]at this;have:=i (b/a) (b%a) l j k (by rw[←this];exact f)
 rwa [e]at this
theorem RD {a:Nat}:∀(L:List (List Ms)),(∀c∈L,c.length=a)→L.flatten.length=L.length*a
 |[],_=>by simp
 |c::L,d=>by rw[List.flatten_cons,Nr,RD L fun e b=>d e (by simp[b]),d c (by simp),Oc,Nat.add_mul,Nat.one_mul,Nat.add_comm]
theorem RE:(Y.info? 43).map (fun a=>(a.zero,a.size,a.bytes))=S (S (.agg #[I Z 0,I Z 0,I Z 0,I Z 0,I Z 0,I Z 0,I Z 0,I Z 0]),8,64):=by kernel_rfl
theorem jm (L:List aZ):∀b∈(L.map aZ.cells).flatten,b.oneCell'=true:=fun b a=>by simp only[List.mem_flatten,List.mem_map]at a;obtain⟨c,⟨f,_,rfl⟩,a⟩:=a;simp[aZ.cells]at a;rcases a with rfl|rfl|rfl|rfl|rfl|rfl|rfl|rfl<;>rfl
theorem JG (L:List aZ):∀b∈L.map aZ.cells,b.length=8:=fun b a=>by obtain⟨f,_,rfl⟩:=List.mem_map.1 a;rfl
theorem RF (a:Option Addr) (n c:Nat) (w:Mr):(binOp .eql 72 (.slice a n c) (.slice N 0 0)).run Y w=.ok (.bool a.isNone) w:=by simp only[binOp];simp[run_equal_slice_nil w 72 43 a n c underlying72]
theorem EC (L:List aZ) (A:L.length≤256) (v:Ms) (w:Mr) (B:vY 8 v (L.map aZ.cells) w):Mt Y 50 #[v] w fun e a=>∃h,e=E h∧jJ h L a∧(∀s,h.ownBlock=S s→w.heap.size≤s)∧Mu w.heap.size w a:=by
 rcases B with⟨rfl,k⟩|⟨s,d,j,rfl,C,g⟩
 ·have:L=[]:=by simpa using k
  subst this;have D:=RF N 0 0 w;go_in;go_wp2;go_ret;exact⟨_,rfl,bP.nil _ _ _,fun s a=>by simp[Ny]at a,Bl⟩
 ·rw[Np]
  have h:=vY.flat (by omega) (JG L) g;have f:=RD _ (JG L);rw[Np]at f;obtain⟨F,t,u,x,y⟩:=info_parts RE;have⟨n,i⟩:=Ex L.length;have l:(w.alloc (O #[] 43)).ownsRow w.heap.size 43 8 (.slice (S ⟨w.heap.size,0,N⟩) 0 0) 0 []:=⟨rfl,.inr ⟨w.heap.size,0,#[],rfl,Nl,aG _ _ _ rfl,Nl,Ns _,rfl,rfl⟩⟩
  have c:∀m q,(L.map aZ.cells).flatten[m]?=S q→(w.alloc (O #[] 43)).cell? ((⟨s,d,N⟩:Addr).add m)=S q:=fun m q o=>by
   have a:(⟨s,d,N⟩:Addr).add m=⟨s,d+m,N⟩:=by unfold Addr.add;split<;>simp_all
   rw[a,((K.alloc (K.refl w) (O #[] 43)).cell (p:=⟨s,d+m,N⟩) C)];exact h m q o
  rw[←i]at f A ⊢;have q:=Hd3 i f c;have D:=RF (S ⟨s,d,N⟩) n j w;clear g h f c i;go_in;go_wp2_with(at_builtin;refine wpList_append_own_at _ rfl _ _ 72 rfl w.heap.size 43 F _ 8 64 underlying72 t u x y rfl (by decide) _ _ [] rfl l ⟨s,d,N⟩ n j (L.map aZ.cells).flatten rfl q.out.2.1 q.out.2.2 (jm L) (by unfold maxLen;omega) (by omega) (by simp) ?_;intro h U g a _ z);go_ret;have⟨i,f,c⟩:=q.out;refine⟨h,rfl,⟨?_,JG L⟩,fun b r=>(Mr.ownsRow.lt g b r).1,?_⟩
  ·rw[Np,←i]
   obtain⟨G,H⟩:=g;refine⟨by simpa using G,?_⟩;rcases H with⟨e,J⟩|⟨M,m,o,e,J,P,V,Q,R,T⟩
   ·exact .inl ⟨e,by omega⟩
   ·exact .inr ⟨M,m,o,by rw[e,Nat.zero_add],Ns _,P,by omega,Q,R,by simpa using T⟩
  ·have o:(w.alloc (O #[] 43)).heap.size=w.heap.size+1:=by simp
   refine⟨a.os,a.tape,a.output,by have:=a.size;omega,fun b r=>(a.block b (by omega) fun e=>?_).trans (aV _ _ _ r)⟩;have m:S b=S w.heap.size:=e;injection m with m;omega
theorem AW {b:Nat} {cs:List Ms} {t:Nat} (f:W.heap[b]?=S (O cs.toArray t)):∀c e,cs[c]?=S e→W.cell? ((⟨b,0,N⟩:Addr).add c)=S e:=fun c e d=>by
 have a:(⟨b,0,N⟩:Addr).add c=⟨b,c,N⟩:=by unfold Addr.add;split<;>simp_all
 rw[a,Cw f c];simpa using d
theorem jo (f:aZ):∀b∈f.cells,b.oneCell'=true:=fun b a=>by simp[aZ.cells]at a;rcases a with rfl|rfl|rfl|rfl|rfl|rfl|rfl|rfl<;>rfl
theorem RG (L:List aZ) (g:256≤L.length) (c:L.length≤256) (v:Ms) (w:Mr) (d:jJ v L w) (f:aZ):Mt Y 156 #[v,.agg f.cells.toArray] w fun e a=>e=E (.tuple #[v,I Z 14])∧Mu w.heap.size w a:=by
 obtain⟨h,i,a⟩:=d.slice;rw[Np]at a;subst a;obtain⟨o,p,b,q,r,j,k,l⟩:=f;simp only[aZ.cells];have⟨n,a⟩:=Ex L.length;rw[←a]at g c ⊢;have m:(256:Int)≤n:=by omega
 clear d a;go_in;go_wp2;exact My (v:=.tuple #[.slice h n i,I Z 14]) (by simp[results,results156,go_sem]) rfl ⟨rfl,aU⟩
theorem RH (L:List aZ) (u:L.length<256) (v:Ms) (w:Mr) (a:jJ v L w) (f:aZ):Mt Y 156 #[v,.agg f.cells.toArray] w fun e c=>∃v',e=E (.tuple #[v',I Z 0])∧jJ v' (L++[f]) c∧(∀B,v'.ownBlock=S B→v.ownBlock=S B∨w.heap.size≤B)∧aF (fun B=>v.ownBlock=S B) w c:=by
 have y:=aA a;obtain⟨H,J,c⟩:=a.slice;rw[Np]at c;have⟨n,d⟩:=Ex L.length;rw[←d]at c u;have i:w.ownsRow 0 43 8 v n (L.map aZ.cells).flatten:=by have:=a.own;rw[Np,←d]at this;exact this
 have K:(n:Int)<256:=by omega
 have M:=a.lt;obtain⟨z,p,q,r,s⟩:=info_parts RE;have k:=aH d (jo f);have A:=aA (show(L++[f]).map aZ.cells=L.map aZ.cells++[f.cells] by simp);obtain⟨C,D,b,F,G,l,m,o⟩:=f;simp only[aZ.cells]at k A ⊢;subst c;clear a d;go_in;go_wp2_with(at_builtin;refine wpList_append_own_at _ rfl _ _ 72 rfl 0 43 z _ 8 64 underlying72 p q r s rfl (by decide) _ _ _ rfl ((i.alloc _).alloc _) ⟨w.heap.size+1,0,N⟩ 1 1 [I Z C,I Z D,I Z b,I Z F,I Z G,I Z l,I Z m,I Z o] rfl rfl (AW (aG _ _ _ (by simp))) k.out.2 (by unfold maxLen;omega) (by omega) (by simp) ?_;intro v' t g c _ j);have⟨d,_⟩:=k.out;have a:=y.out;refine My (v:=.tuple #[v',I Z 0]) (by simp[results,results156,go_sem]) rfl ⟨v',rfl,?_,?_,?_⟩
 ·show bP 43 8 v' (List.map aZ.cells (L++[⟨C,D,b,F,G,l,m,o⟩])) t;have:=bP.push (v':=v') (x:=aZ.cells ⟨C,D,b,F,G,l,m,o⟩) (W':=t) a rfl (by rw[Np,←d];exact g);rw[List.map_append];exact this
 ·intro B h
  rcases j with e|e
  ·left;exact Eq.trans (Eq.symm e) h
  ·right;rw[e]at h;injection h with h;subst h;simp;omega
 ·exact aF.grown ((Cl.alloc _).alloc _) c fun B h=>.inl h
end
section
open Go.RowKit Go.Shelf
attribute [local go_sem] Oper.semAt_some cK
def AX (x:Int×Int×Int):List Ms:=[I Z x.1,I Z x.2.1,I Z x.2.2]
def PL (l:List (Int×Int×Int)):List (List Ms):=l.map AX
theorem jB (l:List (Int×Int×Int)):(PL l).length=l.length:=Np _
theorem jp (l:List (Int×Int×Int)):∀c∈(PL l).flatten,c.oneCell'=true:=fun c a=>by obtain⟨d,b,a⟩:=List.mem_flatten.1 a;obtain⟨e,_,rfl⟩:=List.mem_map.1 b;simp only[AX,List.mem_cons,List.not_mem_nil,or_false]at a;rcases a with rfl|rfl|rfl<;>rfl
theorem xK {l:List (Int×Int×Int)} (a:j<l.length):(PL l).getD j []=AX l[j]:=by unfold PL;rw[Mx,Of,Nn a];rfl
theorem jq (a b c k:Int) (B:Nat) (w:Mr) (f:w.heap[B]?=S (O #[I Z k] 3)):Mt Y 263 #[.agg #[I Z a,I Z b,I Z c],.pointer (S ⟨B,0,N⟩)] w fun e d=>e=E (.bool (a==k))∧Mu w.heap.size w d:=by
 have g:=aB f;have h:B≠w.heap.size:=by omega
 have d:=Cw f 0;simp at d;clear f;go_in;go_wp2;go_ret;exact⟨rfl,(by repeat first|exact Bl|assumption|refine Ka ?_|refine Ks ?_ (by first|exact Nl|simp<;>omega|omega)|refine Kd ?_|refine Kc ?_ (by assumption))⟩
theorem jr {l:List (Int×Int×Int)} (k:Int) (B:Nat) (w:Mr) (d:bP 369 3 v (PL l) w) (C:w.heap[B]?=S (O #[I Z k] 3)):Mt Y 262 #[v,.func (.func 263) #[] #[.pointer (S ⟨B,0,N⟩)]] w fun e j=>(∃a:Int,e=E (I Z a)∧-1≤a∧a<l.length)∧Mu w.heap.size w j:=by
 have f:l.length≤maxLen:=by
  rcases d.cases with⟨_,o⟩|⟨X,p,_,D,c,s,g⟩
  ·rw[←jB,o];exact Ns _
  ·rw[jB]at c;omega
 obtain⟨R,p,rfl⟩:=d.slice;rw[jB]at*;have⟨n,c⟩:=Ey l.length;have F:=Hd3 d C c;rw[c]at f ⊢;clear d C c;go_in;go_wp2_with fail;go_loopw [8] (fun a W=>∃i:Nat,i≤n∧a=I Z i∧aC w W) fun a _=>n-(intOf a).toNat
 case atStart=>exact⟨0,Ns _,rfl,K.refl w⟩
 case round=>
  obtain⟨i,T,rfl,h⟩:=hrel;by_cases a:i<n
  ·have m:(i:Int)<n:=by omega
   have t:=IntWalk.wrap64_in ((i:Int)+1) ⟨by omega,by unfold maxLen at f;omega⟩;have Q:=IntWalk.i64_in ((i:Int)+1) ⟨by omega,by unfold maxLen at f;omega⟩;have⟨d,C,c⟩:=F.out;have u:=aE h C;rw[←c]at a;rcases(d.keeps h).cases with⟨_,o⟩|⟨X,A,x,D,q,s,g⟩
   ·have:l.length=0:=by rw[←jB,o];rfl
    omega
   simp only[Ms.slice.injEq]at x;obtain⟨rfl,_,rfl⟩:=x;have y:=g i 0 _ (by rw[jB];exact a) (by omega) (by rw[xK a];rfl);have G:=g i 1 _ (by rw[jB];exact a) (by omega) (by rw[xK a];rfl);have H:=g i 2 _ (by rw[jB];exact a) (by omega) (by rw[xK a];rfl);rw[Nat.mul_comm 3 i]at y G H;rw[Nat.add_zero]at y;rw[c]at a;have J:=aA fun R b x j (r:aC wr j)=>jq R b x k B j (aE r u);generalize l[i].1=z at*;generalize l[i].2.1=L at*;generalize l[i].2.2=M at*;have P:=aA h;clear d C c u g q s h;go_wp2_with fail;refine(J.out z L M _ Kr).mono ?_;rintro e U ⟨rfl,r⟩;have j:=Kc P.out r;cases V:(z==k)
   ·go_wp2_with fail
    go_roundw
    case rel=>exact⟨i+1,by omega,by simp[t],j⟩
    case measure=>simp[intOf,t];omega
   ·go_wp2_with fail;go_ret;exact⟨⟨_,rfl,by omega,by omega⟩,j⟩
  ·have m:¬(i:Int)<n:=by omega
   go_wp2_with fail;go_ret;exact⟨⟨_,rfl,by omega,by omega⟩,h⟩
def jQ (e:Int) (l:List (Int×Int×Int)):Prop:=∀x∈l,0≤x.2.1∧x.2.1≤65536∧0≤x.2.2∧x.2.2<e
structure gK (T:Nat) (own:Nat→Prop) (l:List (Int×Int×Int)) (room:Nat) (W:Mr):Prop where ex:∃v,W.heap[T]?=S (O #[v,I Z room,.func (.func 170) #[] #[]] 339)∧own T∧(∀g,v.ownBlock=S g→own g)∧bP 369 3 v (PL l) W
theorem gK.same {T:Nat} {own own':Nat→Prop} {l:List (Int×Int×Int)} (i:gK T own l room W) (c:∀b,b<W.heap.size→own b→W'.heap[b]?=W.heap[b]?∧own' b):gK T own' l room W':=by obtain⟨j,d,f,g,e⟩:=i.ex;exact⟨j,(c T (aB d) f).1.trans d,(c T (aB d) f).2,fun h a=>(c h (e.lt h a) (g h a)).2,e.same fun h a=>(c h (e.lt h a) (g h a)).1⟩
theorem gK.keeps {T:Nat} {own:Nat→Prop} {l:List (Int×Int×Int)} (e:gK T own l room W) (a:aC W W'):gK T own l room W':=e.same fun b c d=>⟨a.block b c,d⟩
theorem JH {T:Nat} {own:Nat→Prop} {l:List (Int×Int×Int)} (k:Int) (w:Mr) (h:gK T own l room w):Mt Y 247 #[.pointer (S ⟨T,0,N⟩),I Z k] w fun e a=>(∃b:Int,e=E (I Z b)∧-1≤b∧b<l.length)∧Mu w.heap.size w a:=by obtain⟨m,a,_,_,b⟩:=h.ex;have i:=aB a;have f:=Cw a 0;simp at f;have c:=aG w (O #[I Z k] 3) w.heap.size rfl;have d:aC w (w.alloc (O #[I Z k] 3)):=aU;have g:=aA (jr k w.heap.size _ (b.keeps d) c);clear h a b c;go_in;go_wp2_with fail;refine g.out.mono ?_;rintro e j ⟨⟨b,rfl,c,h⟩,a⟩;go_wp2_with fail;go_ret;exact⟨⟨b,rfl,c,h⟩,Kc d a⟩
end
section
open Go.RowKit Go.Shelf lin
structure aR where
 r:Int
 s:Int
 b:Int
 d:Int
 c:Int
 way:Int
 res:Int
 lives:List Int
 dead:List Bool
 spares:List Int
 pages:Int
 ranks:Int
def mN (r s b d c way res:Int):Bool:=iL r s b d c way&&(decide (0≤res)&&(decide (res≤64)&&decide (res<cU r s b d c)))
def aR.seen (t:aR):Int:=cU t.r t.s t.b t.d t.c-t.res
def aR.row (t:aR) (L D S cl cs:Nat):Array Ms:=#[I Z t.r,I Z t.s,I Z t.b,I Z t.d,I Z t.c,I Z t.way,I Z t.res,.slice (some ⟨L,0,N⟩) t.lives.length cl,.slice (some ⟨D,0,N⟩) t.dead.length t.dead.length,.slice (some ⟨S,0,N⟩) t.spares.length cs,I Z t.pages,I Z t.ranks]
structure dA (t:aR):Prop where
 right:mN t.r t.s t.b t.d t.c t.way t.res=true
 lives:(t.lives.length:Int)=t.seen
 dead:(t.dead.length:Int)=cU t.r t.s t.b t.d t.c
 spares:(t.spares.length:Int)=t.r
 p0:0≤t.pages
 p1:t.pages≤t.res
 r0:0≤t.ranks
 r1:t.ranks≤t.s
 live:∀i,i<t.lives.length→0≤t.lives.getD i 0∧t.lives.getD i 0<t.seen+t.pages
 spare:∀i,i<t.spares.length→t.spares.getD i 0=-1∨(t.r≤t.spares.getD i 0∧t.spares.getD i 0<t.r+t.ranks)
theorem eM {s c:Int} (a:mN r s b d c way res=true):iL r s b d c way=true∧0≤res∧res≤64∧res<cU r s b d c:=by unfold mN at a;simpa using a
structure cJ (B L D S:Nat) (t:aR) (W:Mr):Prop where
 row:∃cl cs,W.heap[B]?=some (O (t.row L D S cl cs) 195)∧t.lives.length≤cl∧cl≤maxLen∧t.spares.length≤cs∧cs≤maxLen
 lives:d7 3 L (t.lives.map (I Z)) W
 dead:d7 4 D (t.dead.map Ms.bool) W
 spares:d7 3 S (t.spares.map (I Z)) W
 ne:L≠S
theorem cJ.same {S:Nat} {t:aR} (j:cJ B L D S t W) (a:W'.heap[B]?=W.heap[B]?) (c:W'.heap[L]?=W.heap[L]?) (d:W'.heap[D]?=W.heap[D]?) (g:W'.heap[S]?=W.heap[S]?):cJ B L D S t W':=by obtain⟨⟨h,i,k,b⟩,l,m,e,f⟩:=j;exact⟨⟨h,i,a.trans k,b⟩,l.same c,m.same d,e.same g,f⟩
theorem cJ.ltB {S:Nat} {t:aR} (c:cJ B L D S t W):B<W.heap.size:=by obtain⟨a,b,d,_⟩:=c.row;exact aB d
theorem cJ.keeps {S:Nat} {t:aR} (b:cJ B L D S t W) (a:aC W W'):cJ B L D S t W':=b.same (a.block _ b.ltB) (a.block _ b.lives.lt) (a.block _ b.dead.lt) (a.block _ b.spares.lt)
theorem cJ.chg {S:Nat} {t:aR} (b:cJ B L D S t W) (a:aF cw W W') (c:¬cw B) (d:¬cw L) (e:¬cw D) (f:¬cw S):cJ B L D S t W':=b.same (a.block _ b.ltB c) (a.block _ b.lives.lt d) (a.block _ b.dead.lt e) (a.block _ b.spares.lt f)
def aR.spareB (t:aR) (k:Int):Bool:=bel k t.spares.length&&!decide (t.spares.getD k.toNat 0=-1)
def aR.spareV (t:aR) (k:Int):Int:=if t.spareB k=true then t.spares.getD k.toNat 0 else 0
def aR.deadB (t:aR) (k:Int):Bool:=bel k t.dead.length&&t.dead.getD k.toNat false
def aR.usedB (t:aR) (k:Int):Bool:=bel k (t.seen+t.pages)&&!t.dead.getD k.toNat false
def aR.ph (t:aR) (k:Int):Int:=nN t.way t.r t.b t.d k
def aR.lie (t:aR) (k:Int):Int:=if t.spareB (t.ph k/16384)=true then t.ph k+(t.spareV (t.ph k/16384)-t.ph k/16384)*16384 else t.ph k
end
variable {t:aR}
section
open Go.RowKit Go.Shelf lin
attribute [local go_sem] Oper.semAt_some
theorem jz (i n:Int) (w:Mr):Mt Y 97 #[I Z i,I Z n] w fun e a=>e=E (.bool (bel i n))∧w=a:=by
 by_cases b:0≤i
 ·go_in;go_wp2;go_ret;exact⟨eR (by simp[bel,b]),rfl⟩
 ·go_in;go_wp2;go_ret;exact⟨eR (by unfold bel;rw[show decide (0≤i)=false from by simp;omega];rfl),rfl⟩
theorem pA {x:Bool} (d:bel a b=x) (w:Mr):Mt Y 97 #[I Z a,I Z b] w fun e c=>e=E (.bool x)∧Mu w.heap.size w c:=by subst d;exact(jz a b w).mono fun e c ⟨d,f⟩=>⟨d,by subst f;exact Bl⟩
theorem xM {s c x:Int} (f:cU r s b d c=x) (w:Mr):Mt Y 74 #[.agg #[I Z r,I Z s,I Z b,I Z d,I Z c]] w fun e a=>e=E (I Z x)∧Mu w.heap.size w a:=by subst f;exact DL r s b d c w
theorem ke {s c p:Int} (a:iL r s b d c way=false) (w:Mr):Mt Y 73 #[.agg #[I Z r,I Z s,I Z b,I Z d,I Z c,I Z way,I Z res]] w fun e f=>e=E (.bool false)∧Mu w.heap.size w f:=by
 have h:=aA fun w=>pY a w;clear a;go_in;go_wp2;refine bS (by kernel_rfl) (by kernel_rfl) ?_
 repeat
  with_reducible refine Mz fun K g=>?_
  go_simp
  try first
   |(apply Ei
     intro f a;obtain⟨i,j⟩:=a.cells;go_simp
     first
      |(go_at_call 111;with_reducible exact a.call (h.out _))
      |rfl)
   |(with_reducible refine aQ ?_ ?_;decide)
  refine g _ ?_;clear g K
 with_reducible refine Na ?_
 intro g a;go_wp2;go_ret;exact⟨rfl,(by repeat first|exact Bl|assumption|refine Ka ?_|refine Ks ?_ (by first|exact Nl|simp<;>omega|omega)|refine Kd ?_|refine Kc ?_ (by assumption))⟩
theorem kf {s c p:Int} (a:iL r s b d c way=true) (k:decide (0≤res)=false) (w:Mr):Mt Y 73 #[.agg #[I Z r,I Z s,I Z b,I Z d,I Z c,I Z way,I Z res]] w fun e f=>e=E (.bool false)∧Mu w.heap.size w f:=by
 have h:=aA fun w=>pY a w;clear a;go_in;go_wp2;refine bS (by kernel_rfl) (by kernel_rfl) ?_
 repeat
  with_reducible refine Mz fun K g=>?_
  go_simp
  try first
   |(apply Ei
     intro f a;obtain⟨i,j⟩:=a.cells;go_simp
     first
      |(go_at_call 111;with_reducible exact a.call (h.out _))
      |rfl)
   |(with_reducible refine aQ ?_ ?_;decide)
  refine g _ ?_;clear g K
 with_reducible refine Na ?_
 intro g a;go_wp2;go_ret;exact⟨rfl,(by repeat first|exact Bl|assumption|refine Ka ?_|refine Ks ?_ (by first|exact Nl|simp<;>omega|omega)|refine Kd ?_|refine Kc ?_ (by assumption))⟩
theorem kg {s c p:Int} (a:iL r s b d c way=true) (k:0≤res) (l:decide (res≤64)=false) (w:Mr):Mt Y 73 #[.agg #[I Z r,I Z s,I Z b,I Z d,I Z c,I Z way,I Z res]] w fun e f=>e=E (.bool false)∧Mu w.heap.size w f:=by
 have h:=aA fun w=>pY a w;clear a;go_in;go_wp2;refine bS (by kernel_rfl) (by kernel_rfl) ?_
 repeat
  with_reducible refine Mz fun K g=>?_
  go_simp
  try first
   |(apply Ei
     intro f a;obtain⟨i,j⟩:=a.cells;go_simp
     first
      |(go_at_call 111;with_reducible exact a.call (h.out _))
      |rfl)
   |(with_reducible refine aQ ?_ ?_;decide)
  refine g _ ?_;clear g K
 with_reducible refine Na ?_
 intro g a;go_wp2;go_ret;exact⟨rfl,(by repeat first|exact Bl|assumption|refine Ka ?_|refine Ks ?_ (by first|exact Nl|simp<;>omega|omega)|refine Kd ?_|refine Kc ?_ (by assumption))⟩
theorem kh {s c p:Int} (a:iL r s b d c way=true) (l:0≤res) (m:res≤64) (f:cU r s b d c=p) (n:decide (res<p)=false) (w:Mr):Mt Y 73 #[.agg #[I Z r,I Z s,I Z b,I Z d,I Z c,I Z way,I Z res]] w fun e g=>e=E (.bool false)∧Mu w.heap.size w g:=by
 have h:=aA fun w=>pY a w;clear a;have i:=aA fun w=>xM f w;clear f;go_in;go_wp2;refine bS (by kernel_rfl) (by kernel_rfl) ?_
 repeat
  with_reducible refine Mz fun K f=>?_
  go_simp
  try first
   |(apply Ei
     intro g a;obtain⟨j,k⟩:=a.cells;go_simp
     first
      |(go_at_call 111;with_reducible exact a.call (h.out _))
      |(go_at_call 74;with_reducible exact a.call (i.out _))
      |rfl)
   |(with_reducible refine aQ ?_ ?_;decide)
  refine f _ ?_;clear f K
 with_reducible refine Na ?_
 intro f a;go_wp2;go_ret;exact⟨rfl,(by repeat first|exact Bl|assumption|refine Ka ?_|refine Ks ?_ (by first|exact Nl|simp<;>omega|omega)|refine Kd ?_|refine Kc ?_ (by assumption))⟩
theorem ki {s c p:Int} (a:iL r s b d c way=true) (l:0≤res) (m:res≤64) (f:cU r s b d c=p) (n:res<p) (w:Mr):Mt Y 73 #[.agg #[I Z r,I Z s,I Z b,I Z d,I Z c,I Z way,I Z res]] w fun e g=>e=E (.bool true)∧Mu w.heap.size w g:=by
 have h:=aA fun w=>pY a w;clear a;have i:=aA fun w=>xM f w;clear f;go_in;go_wp2;refine bS (by kernel_rfl) (by kernel_rfl) ?_
 repeat
  with_reducible refine Mz fun K f=>?_
  go_simp
  try first
   |(apply Ei
     intro g a;obtain⟨j,k⟩:=a.cells;go_simp
     first
      |(go_at_call 111;with_reducible exact a.call (h.out _))
      |(go_at_call 74;with_reducible exact a.call (i.out _))
      |rfl)
   |(with_reducible refine aQ ?_ ?_;decide)
  refine f _ ?_;clear f K
 with_reducible refine Na ?_
 intro f a;go_wp2;go_ret;exact⟨rfl,(by repeat first|exact Bl|assumption|refine Ka ?_|refine Ks ?_ (by first|exact Nl|simp<;>omega|omega)|refine Kd ?_|refine Kc ?_ (by assumption))⟩
theorem kj (r s b d c way a:Int) (w:Mr):Mt Y 73 #[.agg #[I Z r,I Z s,I Z b,I Z d,I Z c,I Z way,I Z a]] w fun e j=>e=E (.bool (mN r s b d c way a))∧Mu w.heap.size w j:=by
 unfold mN;cases h:iL r s b d c way
 ·exact ke (p:=0) h w
 by_cases f:0≤a
 ·by_cases g:a≤64
  ·by_cases i:a<cU r s b d c
   ·rw[decide_eq_true f,decide_eq_true g,decide_eq_true i];exact ki h f g rfl i w
   ·rw[decide_eq_true f,decide_eq_true g,decide_eq_false i];exact kh h f g rfl (decide_eq_false i) w
  ·rw[decide_eq_true f,decide_eq_false g];exact kg (p:=0) h f (decide_eq_false g) w
 ·rw[decide_eq_false f];exact kf (p:=0) h (decide_eq_false f) w
theorem JJ {s c:Int} {x:Bool} (f:mN r s b d c way res=x) (w:Mr):Mt Y 73 #[.agg #[I Z r,I Z s,I Z b,I Z d,I Z c,I Z way,I Z res]] w fun e a=>e=E (.bool x)∧Mu w.heap.size w a:=by subst f;exact kj r s b d c way res w
theorem JK {s c p:Int} (g:mN r s b d c way res=true) (a:cU r s b d c=p) (w:Mr):Mt Y 45 #[.agg #[I Z r,I Z s,I Z b,I Z d,I Z c,I Z way,I Z res]] w fun e m=>e=E (I Z (p-res))∧Mu w.heap.size w m:=by
 have q:=aA fun w=>JJ g w;have t:=aA fun w=>xM a w;obtain⟨_,B,C,u⟩:=eM g;rw[a]at u;have x:p≤131072:=by rw[←a];obtain⟨f,_⟩:=eM g;have:=nL (eE f).1;omega
 have e:=IntWalk.wrap64_in (p-res) ⟨by omega,by omega⟩;have D:=IntWalk.i64_in (p-res) ⟨by omega,by omega⟩;clear g a;go_in;go_wp2_with(go_at_call 73;refine(q.out _).mono ?_;rintro e F ⟨rfl,v⟩;have n:=aE v (aG w _ _ rfl);have⟨f,g,h,i,j,k,l⟩:=x7 n;simp at f g h i j k l;have y:=aB n);refine bS (by kernel_rfl) (by kernel_rfl) ?_
 repeat
  with_reducible refine Mz fun K o=>?_
  go_simp
  try first
   |(apply Ei
     intro m a;obtain⟨z,A⟩:=a.cells;go_simp
     first
      |(go_at_call 74;with_reducible exact a.call (t.out _))
      |rfl)
   |(with_reducible refine aQ ?_ ?_;decide)
  refine o _ ?_;clear o K
 with_reducible refine Na ?_
 intro o a;go_wp2;go_ret;exact⟨rfl,(by repeat first|exact Bl|assumption|refine Ka ?_|refine Ks ?_ (by first|exact Nl|simp<;>omega|omega)|refine Kd ?_|refine Kc ?_ (by assumption))⟩
theorem EF {s c p:Int} (t:mN r s b d c way res=true) (f:cU r s b d c=p) (w:Mr):Mt Y 14 #[.agg #[I Z r,I Z s,I Z b,I Z d,I Z c,I Z way,I Z res]] w fun e i=>e=E (I Z ((p-res)*c))∧Mu w.heap.size w i:=by
 have j:=aA fun w=>JK t f w;obtain⟨g,l,m,k⟩:=eM t;have a:=nL (eE g).1;have n:=cM (eE g).1;rw[f]at k a;have⟨o,h⟩:=Ex (p-res)
 have u:0≤o*c∧o*c≤4096:=by
  rw[h];have q:1≤c:=by omega
  have:=Int.mul_le_mul_of_nonneg_right (show p-res≤p by omega) (show 0≤c by omega);have x:p*c≤4096:=by rw[a.1];exact a.2.2.2
  have v:=Int.mul_nonneg (show 0≤p-res by omega) (show 0≤c by omega);omega
 rw[←h]at j ⊢;have v:=IntWalk.wrap64_in (o*c) ⟨by omega,by omega⟩;have q:=IntWalk.i64_in (o*c) ⟨by omega,by omega⟩;clear t f l m k g a n h;go_in;go_wp2;refine bS (by kernel_rfl) (by kernel_rfl) ?_
 repeat
  with_reducible refine Mz fun K f=>?_
  go_simp
  try first
   |(apply Ei
     intro i a;obtain⟨g,h⟩:=a.cells;go_simp
     first
      |(go_at_call 45;with_reducible exact a.call (j.out _))
      |rfl)
   |(with_reducible refine aQ ?_ ?_;decide)
  refine f _ ?_;clear f K
 with_reducible refine Na ?_
 intro f a;go_wp2;go_ret;exact⟨rfl,(by repeat first|exact Bl|assumption|refine Ka ?_|refine Ks ?_ (by first|exact Nl|simp<;>omega|omega)|refine Kd ?_|refine Kc ?_ (by assumption))⟩
theorem d7.ints {l:List Int} (b:d7 3 g (l.map (I Z)) W) (a:j<l.length):W.cell? ⟨g,j,N⟩=S (I Z (l.getD j 0)):=b.cell (by rw[Of,Mx,Nn a];rfl)
theorem d7.bools {l:List Bool} (b:d7 4 g (l.map Ms.bool) W) (a:j<l.length):W.cell? ⟨g,j,N⟩=S (.bool (l.getD j false)):=b.cell (by rw[Of,Mx,Nn a];rfl)
theorem AZ {k:Int} (b:bel k n=true):∃a:Nat,k=a∧a<n:=by have:=eB b;exact⟨k.toNat,by omega,by omega⟩
theorem kl {S:Nat} (w:Mr) (h:cJ B L D S t w):Mt Y 77 #[.pointer (some ⟨B,0,N⟩)] w fun e a=>e=E (.agg #[I Z t.r,I Z t.s,I Z t.b,I Z t.d,I Z t.c,I Z t.way,I Z t.res])∧Mu w.heap.size w a:=by obtain⟨⟨s,u,a,o,b,p,c⟩,d,f,g,q⟩:=h;unfold aR.row at a;have r:=aB a;have⟨h,i,j,k,l,m,n⟩:=x7 a;simp at h i j k l m n;have v:=Nt (P:=Y) w 25 #[I Z 0,I Z 0,I Z 0,I Z 0,I Z 0,I Z 0,I Z 0] #[I Z t.r,I Z t.s,I Z t.b,I Z t.d,I Z t.c,I Z t.way,I Z t.res] (by kernel_rfl) rfl (by simp[Ni]);clear a d f g;go_in;go_wp2;refine My (Oa (P:=Y) results77 _ _ w.heap.size 25 #[I Z t.r,I Z t.s,I Z t.b,I Z t.d,I Z t.c,I Z t.way,I Z t.res] (0,0) _ rfl (by first|exact aG _ _ _ rfl|skip) underlying25 rfl (by kernel_rfl)) rfl ⟨rfl,by first|exact aU|skip⟩
theorem ko {S:Nat} (k:Int) (w:Mr) (b:cJ B L D S t w):Mt Y 161 #[.pointer (some ⟨B,0,N⟩),I Z k] w fun e a=>e=E (.bool (t.deadB k))∧Mu w.heap.size w a:=by
 obtain⟨⟨G,H,a,v,o,x,p⟩,i,c,j,y⟩:=b;unfold aR.row at a;have h:=aB a;have l:=Cw a 8;simp at l;unfold aR.deadB;cases b:bel k t.dead.length;focus have g:=aA fun w=>pA b w;clear a i c j b;go_in;go_wp2_with(go_at_call 97;refine(g.out _).mono ?_;rintro e m ⟨rfl,d⟩)
 rotate_left
 focus
  have g:=aA fun w=>pA b w;obtain⟨q,rfl,r⟩:=AZ b;have s:=c.bools r;have z:(q:Int)<t.dead.length:=by omega
  have u:=c.lt;have n:=aA (show(true&&t.dead.getD (q:Int).toNat false)=t.dead.getD q false by rw[Int.toNat_natCast,Bool.true_and]);rw[n.out];generalize t.dead.getD q false=J at*;clear a i c j b n;go_in;go_wp2_with(go_at_call 97;refine(g.out _).mono ?_;rintro e m ⟨rfl,d⟩;obtain⟨f,A⟩:=(show aC w m from d).cells;have C:=(f B 8 h).trans l;have F:=(f D q u).trans s)
 all_goals go_ret;exact⟨rfl,(by repeat first|exact Bl|assumption|refine Ka ?_|refine Ks ?_ (by first|exact Nl|simp<;>omega|omega)|refine Kd ?_|refine Kc ?_ (by assumption))⟩
theorem kt {S:Nat} (k:Int) (w:Mr) (b:cJ B L D S t w):Mt Y 160 #[.pointer (some ⟨B,0,N⟩),I Z k] w fun e a=>e=E (.tuple #[I Z (t.spareV k),.bool (t.spareB k)])∧Mu w.heap.size w a:=by
 obtain⟨⟨C,F,a,u,o,v,p⟩,j,l,c,x⟩:=b;unfold aR.row at a;have i:=aB a;have m:=Cw a 9;simp at m;unfold aR.spareV;have d:t.spareB k=(bel k t.spares.length&&!decide (t.spares.getD k.toNat 0=-1)):=rfl;cases b:bel k t.spares.length
 ·rw[d,b];have g:=aA fun w=>pA b w;clear a j l c b d;go_in;go_wp2_with(go_at_call 97;refine(g.out _).mono ?_;rintro e n ⟨rfl,f⟩);go_ret2;exact⟨rfl,(by repeat first|exact Bl|assumption|refine Ka ?_|refine Ks ?_ (by first|exact Nl|simp<;>omega|omega)|refine Kd ?_|refine Kc ?_ (by assumption))⟩
 ·have g:=aA fun w=>pA b w
  rw[d,b];obtain⟨A,rfl,q⟩:=AZ b;rw[Int.toNat_natCast];have r:=c.ints q;have y:(A:Int)<t.spares.length:=by omega
  have s:=c.lt;generalize t.spares.getD A 0=G at*;by_cases h:G=-1;focus subst h
  rotate_left
  focus rw[decide_eq_false h];have z:(G==-1)=false:=by simpa using h
  all_goals clear a j l c b d;go_in;go_wp2_with(go_at_call 97;refine(g.out _).mono ?_;rintro e n ⟨rfl,f⟩;obtain⟨a,b⟩:=(show aC w n from f).cells;have c:=(a B 9 i).trans m;have d:=(a S A s).trans r);go_ret2;exact⟨rfl,(by repeat first|exact Bl|assumption|refine Ka ?_|refine Ks ?_ (by first|exact Nl|simp<;>omega|omega)|refine Kd ?_|refine Kc ?_ (by assumption))⟩
theorem dA.bd (ok:dA t):0≤t.res∧t.res≤64∧t.res<cU t.r t.s t.b t.d t.c∧cU t.r t.s t.b t.d t.c≤131072∧t.seen=cU t.r t.s t.b t.d t.c-t.res∧0≤t.pages∧t.pages≤t.res∧iL t.r t.s t.b t.d t.c t.way=true:=by obtain⟨a,b,c,d⟩:=eM ok.right;have:=nL (eE a).1;exact⟨b,c,d,by omega,rfl,ok.p0,ok.p1,a⟩
theorem JL (ok:dA t) {x:Int} (a:t.seen=x) (w:Mr):Mt Y 45 #[.agg #[I Z t.r,I Z t.s,I Z t.b,I Z t.d,I Z t.c,I Z t.way,I Z t.res]] w fun e b=>e=E (I Z x)∧Mu w.heap.size w b:=by subst a;exact JK ok.right rfl w
theorem ku {S:Nat} (ok:dA t) (k:Int) (w:Mr) (b:cJ B L D S t w):Mt Y 60 #[.pointer (some ⟨B,0,N⟩),I Z k] w fun e j=>e=E (.bool (t.usedB k))∧Mu w.heap.size w j:=by
 obtain⟨⟨X,cs,a,J,s,M,u⟩,l,g,m,P⟩:=b;unfold aR.row at a;have Q:=aB a;have⟨v,x,y,z,A,C,F,G,i⟩:=OH a 0 1 2 3 4 5 6 8 10;simp at v x y z A C F G i;unfold aR.usedB;have c:=ok.bd;have b:=ok.dead;have⟨W,h⟩:=Ey t.seen;have H:=aA fun w=>JL ok h w;rw[h]at c ⊢;have e9:=IntWalk.wrap64_in (W+t.pages) ⟨by omega,by omega⟩;have R:=IntWalk.i64_in (W+t.pages) ⟨by omega,by omega⟩;cases f:bel k (W+t.pages);focus have n:=aA fun w=>pA f w;clear a l g m f ok h c b
 rotate_left
 focus
  have n:=aA fun w=>pA f w;have:=eB f;obtain⟨r,rfl⟩:∃r:Nat,k=r:=⟨k.toNat,by omega⟩;have o:r<t.dead.length:=by omega
  have e1:=g.bools o;have T:(r:Int)<t.dead.length:=by omega
  have ez:=g.lt;have p:=aA (show(true&&!t.dead.getD (r:Int).toNat false)=!t.dead.getD r false by rw[Int.toNat_natCast,Bool.true_and]);rw[p.out];generalize t.dead.getD r false=aa at*;clear a l g m f ok h c b this p o
 all_goals
  go_in;go_wp2;refine bS (by kernel_rfl) (by kernel_rfl) ?_
  repeat
   with_reducible refine Mz fun K q=>?_
   go_simp
   try first
    |(apply Ei
      intro j d;obtain⟨U,V⟩:=d.cells;go_simp
      first
       |(go_at_call 97;with_reducible exact d.call (n.out _))
       |(go_at_call 45;with_reducible exact d.call (H.out _))
       |rfl)
    |(with_reducible refine aQ ?_ ?_;decide)
   refine q _ ?_;clear q K
  with_reducible refine Na ?_
  intro j d;go_wp2;go_ret;exact⟨rfl,(by repeat first|exact Bl|assumption|refine Ka ?_|refine Ks ?_ (by first|exact Nl|simp<;>omega|omega)|refine Kd ?_|refine Kc ?_ (by assumption))⟩
theorem EG (ok:dA t) {k:Int} (a:0≤k):0≤t.ph k∧t.ph k<131072:=kz (eE (eM ok.right).1).1 t.way k a
theorem RK (ok:dA t) {k p:Int} (a:0≤k) (b:k<cU t.r t.s t.b t.d t.c) (c:t.ph k=p) (w:Mr):Mt Y 96 #[.agg #[I Z t.r,I Z t.s,I Z t.b,I Z t.d,I Z t.c],I Z t.way,I Z k] w fun e d=>e=E (.tuple #[I Z p,I Z 0])∧Mu w.heap.size w d:=by subst c;exact jy _ _ _ _ _ _ _ (eM ok.right).1 a b w
theorem EH (ok:dA t) {k:Int} (a:t.spareB k=true):t.r≤t.spareV k∧t.spareV k<t.r+t.ranks∧0≤k∧k<t.r:=by
 have e:t.spareV k=t.spares.getD k.toNat 0:=by unfold aR.spareV;rw[Fp a]
 unfold aR.spareB at a;rw[Nq]at a;have b:=eB a.1;have c:=ok.spares;rcases ok.spare k.toNat (by omega)with d|d
 ·rw[d]at a;simp at a
 ·rw[e];omega
theorem JO {S:Nat} {k v:Int} {x:Bool} (a:t.spareV k=v) (b:t.spareB k=x) (w:Mr) (d:cJ B L D S t w):Mt Y 160 #[.pointer (some ⟨B,0,N⟩),I Z k] w fun e c=>e=E (.tuple #[I Z v,.bool x])∧Mu w.heap.size w c:=by subst a b;exact kt k w d
theorem RM {S:Nat} (ok:dA t) (k:Int) (j:0≤k) (p:k<cU t.r t.s t.b t.d t.c) (w:Mr) (G:cJ B L D S t w):Mt Y 112 #[.pointer (some ⟨B,0,N⟩),I Z k] w fun e b=>e=E (.tuple #[I Z (t.lie k),I Z (t.ph k/16384),I Z 0])∧Mu w.heap.size w b:=by
 obtain⟨⟨W,X,a,H,n,J,o⟩,q,r,s,M⟩:=id G;unfold aR.row at a;have P:=aB a;have⟨u,v,x,y,z,A⟩:=oC a;simp at u v x y z A;have h:=EG ok j;have⟨V,d⟩:=Ey (t.ph k);have C:=aA fun w=>RK ok j p d w;unfold aR.lie;rw[d]at h ⊢;have⟨f,F⟩:=Ey (V/16384);have Q:0≤f∧f<8:=by omega
 rw[F];have i:=cM (eE (eM ok.right).1).1;cases c:t.spareB f;focus have l:=aA fun b (g:aC w b)=>JO rfl c b (G.keeps g);rw[Fn (by decide)];generalize t.spareV f=m at*
 rotate_left
 focus have l:=aA fun b (g:aC w b)=>JO rfl c b (G.keeps g);have hv:=EH ok c;have g:=ok.r1;rw[Fp rfl];generalize t.spareV f=m at*;have e1:=IntWalk.wrap64_in (m-f) ⟨by omega,by omega⟩;have R:=IntWalk.i64_in (m-f) ⟨by omega,by omega⟩;have e2:=IntWalk.wrap64_in ((m-f)*16384) ⟨by omega,by omega⟩;have T:=IntWalk.i64_in ((m-f)*16384) ⟨by omega,by omega⟩;have e3:=IntWalk.wrap64_in (V+(m-f)*16384) ⟨by omega,by omega⟩;have U:=IntWalk.i64_in (V+(m-f)*16384) ⟨by omega,by omega⟩
 all_goals
  clear a q r s G c d ok i;go_in;go_wp2;refine bS (by kernel_rfl) (by kernel_rfl) ?_
  repeat
   with_reducible refine Mz fun K c=>?_
   go_simp
   try first
    |(apply Ei
      intro b a;obtain⟨d,i⟩:=a.cells;go_simp
      first
       |(go_at_call 96;with_reducible exact a.call (C.out _))
       |rfl)
    |(with_reducible refine aQ ?_ ?_;decide)
   refine c _ ?_;clear c K
  with_reducible refine Na ?_
  intro c a;go_wp2_with(go_at_call 160;refine(l.out _ (Kc Kr a)).mono ?_;rintro e d ⟨rfl,b⟩)
  go_ret3
  exact⟨rfl,(by repeat first|exact Bl|assumption|refine Ka ?_|refine Ks ?_ (by first|exact Nl|simp<;>omega|omega)|refine Kd ?_|refine Kc ?_ (by assumption))⟩
theorem RN {S:Nat} (ok:dA t) (k:Int) (a:0≤k) (b:k<cU t.r t.s t.b t.d t.c) (w:Mr) (d:cJ B L D S t w):Mt Y 163 #[.pointer (some ⟨B,0,N⟩),I Z k] w fun e c=>e=E (.tuple #[I Z (t.lie k),I Z 0])∧Mu w.heap.size w c:=by have c:=aA (RM ok k a b w d);generalize t.lie k=g at*;generalize t.ph k/16384=h at*;clear d;go_in;go_wp2_with(go_at_call 112;refine c.out.mono ?_;rintro e f ⟨rfl,d⟩);go_ret2;exact⟨rfl,(by repeat first|exact Bl|assumption|refine Ka ?_|refine Ks ?_ (by first|exact Nl|simp<;>omega|omega)|refine Kd ?_|refine Kc ?_ (by assumption))⟩
theorem RO {S:Nat} (ok:dA t) (w:Mr) (o:cJ B L D S t w) (h:t.pages=t.res):Mt Y 250 #[.pointer (some ⟨B,0,N⟩)] w fun e c=>e=E (.tuple #[I Z 0,.bool false])∧Mu w.heap.size w c:=by
 obtain⟨⟨p,q,a,k,f,l,g⟩,c,d,i,m⟩:=id o;unfold aR.row at a;have n:=aB a;have⟨j,b⟩:=iO a 6 10;simp at j b;rw[h]at b;clear a c d i o ok;go_in;go_wp2;refine bS (by kernel_rfl) (by kernel_rfl) ?_
 repeat
  with_reducible refine Mz fun K d=>?_
  go_simp
  try first
   |(apply Ei
     intro c a;obtain⟨i,o⟩:=a.cells;go_simp
     rfl)
   |(with_reducible refine aQ ?_ ?_;decide)
  refine d _ ?_;clear d K
 with_reducible refine Na ?_
 intro c a;go_wp2;go_ret2;exact⟨rfl,(by repeat first|exact Bl|assumption|refine Ka ?_|refine Ks ?_ (by first|exact Nl|simp<;>omega|omega)|refine Kd ?_|refine Kc ?_ (by assumption))⟩
theorem RP {S:Nat} (ok:dA t) (w:Mr) (C:cJ B L D S t w) (f:t.pages≠t.res):Mt Y 250 #[.pointer (some ⟨B,0,N⟩)] w fun e o=>e=E (.tuple #[I Z (t.seen+t.pages),.bool true])∧Mu w.heap.size w o:=by
 obtain⟨⟨F,G,a,v,q,x,r⟩,n,o,s,y⟩:=id C;unfold aR.row at a;have p:=aB a;have⟨g,h,i,j,k,l,m,b⟩:=OG a 0 1 2 3 4 5 6 10;simp at g h i j k l m b;have c:=ok.bd;have⟨H,d⟩:=Ey t.seen;have u:=aA fun w=>JL ok d w;rw[d]at c ⊢;have J:=IntWalk.wrap64_in (H+t.pages) ⟨by omega,by omega⟩;have z:=IntWalk.i64_in (H+t.pages) ⟨by omega,by omega⟩;have A:(t.pages==t.res)=false:=by simpa using f
 clear n o s C ok c d f;have s:=aA a;clear a;go_in;go_wp2;refine bS (by kernel_rfl) (by kernel_rfl) ?_
 repeat
  with_reducible refine Mz fun K f=>?_
  go_simp
  try first
   |(apply Ei
     intro o a;obtain⟨c,d⟩:=a.cells;go_simp
     rfl)
   |(with_reducible refine aQ ?_ ?_;decide)
  refine f _ ?_;clear f K
 with_reducible refine Na ?_
 intro C n;go_wp2;obtain⟨c,d⟩:=n.cells;clear g h i j k l m b;have a:=aE n s.out;have⟨g,h,i,j,k,l,m,b⟩:=OG a 0 1 2 3 4 5 6 10;simp at g h i j k l m b;have p:=aB a;clear c d a;refine bS (by kernel_rfl) (by kernel_rfl) ?_
 repeat
  with_reducible refine Mz fun K f=>?_
  go_simp
  try first
   |(apply Ei
     intro o a;obtain⟨c,d⟩:=a.cells;go_simp
     first
      |(go_at_call 45;with_reducible exact a.call (u.out _))
      |rfl)
   |(with_reducible refine aQ ?_ ?_;decide)
  refine f _ ?_;clear f K
 with_reducible refine Na ?_
 intro w8 a;go_wp2;go_ret2;exact⟨rfl,(by repeat first|exact Bl|assumption|refine Ka ?_|refine Ks ?_ (by first|exact Nl|simp<;>omega|omega)|refine Kd ?_|refine Kc ?_ (by assumption))⟩
theorem pB {fn:Func} {t u v x:Tmp} (a:fn.results=#[.tmp t,.tmp u,.tmp v,.tmp x]) (tmps:Array Ms) (P:Program) (w:Mr):(results fn tmps).run P w=.ok (.tuple #[tmps.getD t Mv,tmps.getD u Mv,tmps.getD v Mv,tmps.getD x Mv]) w:=by simp[results,a]
theorem la {S:Nat} (w:Mr) (o:cJ B L D S t w) (h:t.ranks=t.s):Mt Y 265 #[.pointer (some ⟨B,0,N⟩)] w fun e c=>e=E (.tuple #[I Z 0,.bool false])∧Mu w.heap.size w c:=by
 obtain⟨⟨p,q,a,k,f,l,g⟩,c,d,i,m⟩:=id o;unfold aR.row at a;have n:=aB a;have⟨j,b⟩:=iO a 1 11;simp at j b;rw[h]at b;clear a c d i o;go_in;go_wp2;refine bS (by kernel_rfl) (by kernel_rfl) ?_
 repeat
  with_reducible refine Mz fun K d=>?_
  go_simp
  try first
   |(apply Ei
     intro c a;obtain⟨i,o⟩:=a.cells;go_simp
     rfl)
   |(with_reducible refine aQ ?_ ?_;decide)
  refine d _ ?_;clear d K
 with_reducible refine Na ?_
 intro c a;go_wp2;go_ret2;exact⟨rfl,(by repeat first|exact Bl|assumption|refine Ka ?_|refine Ks ?_ (by first|exact Nl|simp<;>omega|omega)|refine Kd ?_|refine Kc ?_ (by assumption))⟩
theorem lc {S:Nat} (ok:dA t) (w:Mr) (v:cJ B L D S t w) (i:t.ranks≠t.s):Mt Y 265 #[.pointer (some ⟨B,0,N⟩)] w fun e j=>e=E (.tuple #[I Z (t.r+t.ranks),.bool true])∧Mu w.heap.size w j:=by
 obtain⟨⟨x,y,a,p,l,q,m⟩,j,n,o,r⟩:=id v;unfold aR.row at a;have k:=aB a;have⟨g,h,b⟩:=pQ a 0 1 11;simp at g h b;have c:=cM (eE (eM ok.right).1).1;have d:=ok.r0;have f:=ok.r1;have z:=IntWalk.wrap64_in (t.r+t.ranks) ⟨by omega,by omega⟩;have s:=IntWalk.i64_in (t.r+t.ranks) ⟨by omega,by omega⟩;have u:(t.ranks==t.s)=false:=by simpa using i
 clear j n o v ok i c d f;have n:=aA a;clear a;go_in;go_wp2;refine bS (by kernel_rfl) (by kernel_rfl) ?_
 repeat
  with_reducible refine Mz fun K f=>?_
  go_simp
  try first
   |(apply Ei
     intro j a;obtain⟨c,d⟩:=a.cells;go_simp
     rfl)
   |(with_reducible refine aQ ?_ ?_;decide)
  refine f _ ?_;clear f K
 with_reducible refine Na ?_
 intro o i;go_wp2;obtain⟨c,d⟩:=i.cells;clear g h b;have a:=aE i n.out;have⟨g,h,b⟩:=pQ a 0 1 11;simp at g h b;have k:=aB a;clear c d a;refine bS (by kernel_rfl) (by kernel_rfl) ?_
 repeat
  with_reducible refine Mz fun K f=>?_
  go_simp
  try first
   |(apply Ei
     intro j a;obtain⟨c,d⟩:=a.cells;go_simp
     rfl)
   |(with_reducible refine aQ ?_ ?_;decide)
  refine f _ ?_;clear f K
 with_reducible refine Na ?_
 intro w8 a;go_wp2;go_ret2;exact⟨rfl,(by repeat first|exact Bl|assumption|refine Ka ?_|refine Ks ?_ (by first|exact Nl|simp<;>omega|omega)|refine Kd ?_|refine Kc ?_ (by assumption))⟩
def aR.setPages (t:aR) (x:Int):aR:={t with pages:=x}
def aR.setRanks (t:aR) (x:Int):aR:={t with ranks:=x}
theorem cJ.nB {S:Nat} (h:cJ B L D S t W):L≠B∧D≠B∧S≠B∧L≠S∧D≠L∧D≠S:=by obtain⟨⟨l,m,a,j,f,k,g⟩,d,b,e,c⟩:=h;obtain⟨n,h,_⟩:=id d;obtain⟨o,i,_⟩:=id e;exact⟨d.ne a (by decide),b.ne a (by decide),e.ne a (by decide),c,b.ne h (by decide),b.ne i (by decide)⟩
theorem cJ.setP {S:Nat} (o:cJ B L D S t W) (x:Int):cJ B L D S (t.setPages x) (W.setCell ⟨B,10,N⟩ (I Z x)):=by obtain⟨g,h,i,_⟩:=o.nB;obtain⟨⟨j,k,a,d,b,e,c⟩,l,m,n,f⟩:=o;refine⟨⟨j,k,?_,d,b,e,c⟩,l.same (Ho g),m.same (Ho h),n.same (Ho i),f⟩;rw[Hs 10 _ a];rfl
theorem cJ.setR {S:Nat} (o:cJ B L D S t W) (x:Int):cJ B L D S (t.setRanks x) (W.setCell ⟨B,11,N⟩ (I Z x)):=by obtain⟨g,h,i,_⟩:=o.nB;obtain⟨⟨j,k,a,d,b,e,c⟩,l,m,n,f⟩:=o;refine⟨⟨j,k,?_,d,b,e,c⟩,l.same (Ho g),m.same (Ho h),n.same (Ho i),f⟩;rw[Hs 11 _ a];rfl
theorem lf {S:Nat} (ok:dA t) (w:Mr) (c:cJ B L D S t w) (a:t.pages=t.res):Mt Y 251 #[.pointer (some ⟨B,0,N⟩)] w fun e b=>e=E (.tuple #[I Z 0,I Z 52])∧Mu w.heap.size w b:=by have b:=aA (RO ok w c a);clear c ok a;go_in;go_wp2_with(go_at_call 250;refine b.out.mono ?_;rintro e c ⟨rfl,a⟩);go_ret2;exact⟨rfl,(by repeat first|exact Bl|assumption|refine Ka ?_|refine Ks ?_ (by first|exact Nl|simp<;>omega|omega)|refine Kd ?_|refine Kc ?_ (by assumption))⟩
theorem lh {S:Nat} (w:Mr) (c:cJ B L D S t w) (a:t.ranks=t.s):Mt Y 252 #[.pointer (some ⟨B,0,N⟩)] w fun e b=>e=E (.tuple #[I Z 0,I Z 52])∧Mu w.heap.size w b:=by have b:=aA (la w c a);clear c a;go_in;go_wp2_with(go_at_call 265;refine b.out.mono ?_;rintro e c ⟨rfl,a⟩);go_ret2;exact⟨rfl,(by repeat first|exact Bl|assumption|refine Ka ?_|refine Ks ?_ (by first|exact Nl|simp<;>omega|omega)|refine Kd ?_|refine Kc ?_ (by assumption))⟩
theorem lj {S:Nat} (ok:dA t) (w:Mr) (k:cJ B L D S t w) (f:t.pages≠t.res):Mt Y 251 #[.pointer (some ⟨B,0,N⟩)] w fun e a=>e=E (.tuple #[I Z (t.seen+t.pages),I Z 0])∧cJ B L D S (t.setPages (t.pages+1)) a∧aF (fun b=>b=B) w a:=by have h:=aA (RP ok w k f);have g:=aA k;have i:=cM (eE (eM ok.right).1).1;have a:=ok.bd;have c:=ok.r0;have d:=ok.r1;have l:=IntWalk.wrap64_in (t.pages+1) ⟨by omega,by omega⟩;have j:=IntWalk.i64_in (t.pages+1) ⟨by omega,by omega⟩;generalize t.seen+t.pages=o at*;clear k ok f i a c d;go_in;go_wp2_with(go_at_call 250;refine h.out.mono ?_;rintro e i ⟨rfl,c⟩;obtain⟨k,m,a,_⟩:=(g.out.keeps c).row;unfold aR.row at a;have d:=Cw a 10;have f:=Fw a 10;have n:=aB a;simp at d;clear a);go_ret2;exact⟨rfl,(g.out.keeps c).setP (t.pages+1),(aF.of_below c fun b=>b=B).setCell (.inl rfl) _⟩
theorem lr {S:Nat} (ok:dA t) (w:Mr) (k:cJ B L D S t w) (f:t.ranks≠t.s):Mt Y 252 #[.pointer (some ⟨B,0,N⟩)] w fun e a=>e=E (.tuple #[I Z (t.r+t.ranks),I Z 0])∧cJ B L D S (t.setRanks (t.ranks+1)) a∧aF (fun b=>b=B) w a:=by have h:=aA (lc ok w k f);have g:=aA k;have i:=cM (eE (eM ok.right).1).1;have a:=ok.bd;have c:=ok.r0;have d:=ok.r1;have l:=IntWalk.wrap64_in (t.ranks+1) ⟨by omega,by omega⟩;have j:=IntWalk.i64_in (t.ranks+1) ⟨by omega,by omega⟩;generalize t.r+t.ranks=o at*;clear k ok f i a c d;go_in;go_wp2_with(go_at_call 265;refine h.out.mono ?_;rintro e i ⟨rfl,c⟩;obtain⟨k,m,a,_⟩:=(g.out.keeps c).row;unfold aR.row at a;have d:=Cw a 11;have f:=Fw a 11;have n:=aB a;simp at d;clear a);go_ret2;exact⟨rfl,(g.out.keeps c).setR (t.ranks+1),(aF.of_below c fun b=>b=B).setCell (.inl rfl) _⟩
def aR.home (t:aR) (n:Int):Int:=t.lives.getD (n/t.c).toNat 0
theorem ls {S:Nat} (ok:dA t) (n:Int) (d:bel n (t.seen*t.c)=false) (w:Mr) (z:cJ B L D S t w):Mt Y 75 #[.pointer (some ⟨B,0,N⟩),I Z n] w fun e b=>e=E (.tuple #[I Z 0,I Z 0,I Z 0,I Z 12])∧Mu w.heap.size w b:=by
 obtain⟨⟨A,C,a,u,f,v,g⟩,h,i,j,x⟩:=id z;unfold aR.row at a;have y:=aB a;have⟨k,l,m,o,p,q,r⟩:=x7 a;simp at k l m o p q r;have c:=aA fun w=>EF ok.right rfl w;have s:=aA fun w=>pA d w;replace c:Hid (∀w,Mt Y 14 #[.agg #[I Z t.r,I Z t.s,I Z t.b,I Z t.d,I Z t.c,I Z t.way,I Z t.res]] w fun e b=>e=E (I Z (t.seen*t.c))∧Mu w.heap.size w b):=c;generalize t.seen*t.c=F at*;clear a h i j z ok d;go_in;go_wp2_with(first|(go_at_call 14;refine(c.out _).mono ?_;rintro e d ⟨rfl,a⟩)|(go_at_call 97;refine(s.out _).mono ?_;rintro e h ⟨rfl,b⟩))
 (try simp only[Exit.inBlock,Exit.then])
 refine My (pB rfl _ _ _) rfl ?_;exact⟨rfl,(by repeat first|exact Bl|assumption|refine Ka ?_|refine Ks ?_ (by first|exact Nl|simp<;>omega|omega)|refine Kd ?_|refine Kc ?_ (by assumption))⟩
theorem vZ {S:Nat} (ok:dA t) (n:Int) (v:bel n (t.seen*t.c)=true) (w:Mr) (bv:cJ B L D S t w):Mt Y 75 #[.pointer (some ⟨B,0,N⟩),I Z n] w fun e d=>e=E (.tuple #[I Z (t.lie (t.home n)*64+n%t.c),I Z (t.home n),I Z (t.ph (t.home n)/16384),I Z 0])∧Mu w.heap.size w d:=by
 obtain⟨⟨cl,cs,a,an,ab,ar,ad⟩,m,hD,hS,av⟩:=id bv;unfold aR.row at a;have b:=aB a;have⟨U,V,W,X,f,q5,q6,k⟩:=OF a;simp at U V W X f q5 q6 k;have x:=aA fun w=>EF ok.right rfl w;have HB:=aA fun w=>pA v w;replace x:Hid (∀w,Mt Y 14 #[.agg #[I Z t.r,I Z t.s,I Z t.b,I Z t.d,I Z t.c,I Z t.way,I Z t.res]] w fun e d=>e=E (I Z (t.seen*t.c))∧Mu w.heap.size w d):=x;obtain⟨h,o⟩:=eB v;have F:=cM (eE (eM ok.right).1).1;have p:=nL (eE (eM ok.right).1).1;have G:=ok.bd;have u:=ok.lives;have q:1≤t.c:=by omega
 have H:0≤n/t.c:=Int.ediv_nonneg h (by omega);have J:n/t.c<t.seen:=Int.ediv_lt_of_lt_mul (by omega) o;have hy:t.seen*t.c≤4096:=by have g1:t.seen*t.c≤cU t.r t.s t.b t.d t.c*t.c:=Int.mul_le_mul_of_nonneg_right (by omega) (by omega);rw[p.1]at g1;omega
 obtain⟨C,y⟩:∃C:Nat,n/t.c=C:=⟨(n/t.c).toNat,by omega⟩;obtain⟨ae,g⟩:∃ae:Nat,n%t.c=ae:=⟨(n%t.c).toNat,by have:=Int.emod_nonneg n (show t.c≠0 by omega);omega⟩;have ba:(ae:Int)<t.c:=by rw[←g];exact Int.emod_lt_of_pos n (by omega)
 have i:C<t.lives.length:=by omega
 have M:=IntWalk.i64_quo n t.c ⟨h,by omega,q⟩;rw[y]at M;have hm:n.tmod t.c=ae:=by rw[Int.tmod_eq_emod_of_nonneg h,g]
 have bb:(t.c==0)=false:=by simp;omega
 have bd:¬t.c=0:=by omega
 have z:=m.ints i;have A:=m.lt;have bm:(C:Int)<t.lives.length:=by omega
 have hl:=ok.live C i;have HX:=aA (show t.home n=t.lives.getD C 0 by unfold aR.home;rw[y,Int.toNat_natCast]);rw[HX.out,g];have HE:Hid ((t.lives.map (I Z))[C]?=some (I Z (t.lives.getD C 0))):=aA (by rw[Of,Mx,Nn i];rfl);generalize t.lives.getD C 0=aa at*;have r:0≤aa∧aa<cU t.r t.s t.b t.d t.c:=by omega
 have j:0≤t.lie aa∧t.lie aa<131072:=by
  have h1:=EG ok r.1;unfold aR.lie;split
  ·rename_i h2;have h3:=EH ok h2;have:=ok.r1;omega
  ·exact h1
 have HL:=aA fun d (g:aC w d)=>RM ok aa r.1 r.2 d (bv.keeps g);generalize t.lie aa=bw at*;generalize t.ph aa/16384=bx at*;have eo:=RQ bw ae j.1 j.2 (by omega);have es:=IntWalk.wrap64_in (bw*64) ⟨by omega,by omega⟩;have bn:=IntWalk.i64_in (bw*64) ⟨by omega,by omega⟩;have c:=aH a m;generalize t.seen*t.c=bz at*;clear a m hD hS bv ok v F p G u y g hl HX o H J r j q;go_in;go_wp2_with(first|(go_at_call 14;refine(x.out _).mono ?_;rintro e w1 ⟨rfl,P⟩)|(go_at_call 97;refine(HB.out _).mono ?_;rintro e w2 ⟨rfl,Q⟩;have l:aC w w2:=Kc (Kc Kr P) Q;have a:=aE l c.out.1;clear U V W X f q5 q6 k b z A;have⟨f,k⟩:=iO a 4 7;simp at f k;have b:=aB a;have z:=(c.out.2.keeps l).cell (show(t.lives.map (I Z))[C]?=some (I Z aa) from HE.out);have A:=(c.out.2.keeps l).lt));refine bS (by kernel_rfl) (by kernel_rfl) ?_
 repeat
  with_reducible refine Mz fun K hK=>?_
  go_simp
  try first
   |(apply Ei
     intro d R;obtain⟨br,bs⟩:=R.cells;go_simp
     rfl)
   |(with_reducible refine aQ ?_ ?_;decide)
  refine hK _ ?_;clear hK K
 with_reducible refine Na ?_
 intro w9 s;go_wp2_with fail;refine(HL.out _ (Kc l s)).mono ?_;rintro e w3 ⟨rfl,T⟩;have k3:aC w w3:=Kc (Kc l s) T;have a:=aE k3 c.out.1;clear f k z A b;have f:=Cw a 4;simp at f;have b:=aB a;clear a;go_wp2
 (try simp only[Exit.inBlock,Exit.then])
 refine My (pB rfl _ _ _) rfl ?_;exact⟨rfl,k3⟩
theorem lu (i n:Int) (w:Mr):Mt Y 113 #[I Z i,I Z n] w fun e a=>e=E (.bool (bel i n))∧w=a:=by
 by_cases b:0≤i
 ·go_in;go_wp2;go_ret;exact⟨eR (by simp[bel,b]),rfl⟩
 ·go_in;go_wp2;go_ret;exact⟨eR (by unfold bel;rw[show decide (0≤i)=false from by simp;omega];rfl),rfl⟩
theorem uI {x:Bool} (d:bel a b=x) (w:Mr):Mt Y 113 #[I Z a,I Z b] w fun e c=>e=E (.bool x)∧Mu w.heap.size w c:=by subst d;exact(lu a b w).mono fun e c ⟨d,f⟩=>⟨d,by subst f;exact Bl⟩
def lB (k r s b d c:Int):Int:=if k=1 then c else if k=2 then kK r s b d c else 0
theorem JP (k f g n r s b d c way i:Int) (w:Mr):Mt Y 20 #[.agg #[I Z k,I Z f,I Z g,I Z n],.agg #[I Z r,I Z s,I Z b,I Z d,I Z c,I Z way,I Z i]] w fun e j=>e=E (I Z (lB k r s b d c))∧Mu w.heap.size w j:=by
 unfold lB;by_cases a:k=1
 ·subst a;rw[Fp rfl];go_in;go_wp2;go_ret;exact⟨rfl,(by repeat first|exact Bl|assumption|refine Ka ?_|refine Ks ?_ (by first|exact Nl|simp<;>omega|omega)|refine Kd ?_|refine Kc ?_ (by assumption))⟩
 by_cases h:k=2
 ·subst h;rw[Fn a,Fp rfl];have l:=aA fun w=>df r s b d c w;generalize kK r s b d c=p at*;clear a;go_in;go_wp2_with(go_at_call 47;refine(l.out _).mono ?_;rintro e o ⟨rfl,m⟩);go_ret;exact⟨rfl,(by repeat first|exact Bl|assumption|refine Ka ?_|refine Ks ?_ (by first|exact Nl|simp<;>omega|omega)|refine Kd ?_|refine Kc ?_ (by assumption))⟩
 ·rw[Fn a,Fn h]
  have l:(k==1)=false:=by simpa using a
  have m:(k==2)=false:=by simpa using h
  go_in;go_wp2;go_ret;exact⟨rfl,(by repeat first|exact Bl|assumption|refine Ka ?_|refine Ks ?_ (by first|exact Nl|simp<;>omega|omega)|refine Kd ?_|refine Kc ?_ (by assumption))⟩
theorem EI {k s c x:Int} (i:lB k r s b d c=x) (f g n way a:Int) (w:Mr):Mt Y 20 #[.agg #[I Z k,I Z f,I Z g,I Z n],.agg #[I Z r,I Z s,I Z b,I Z d,I Z c,I Z way,I Z a]] w fun e h=>e=E (I Z x)∧Mu w.heap.size w h:=by subst i;exact JP k f g n r s b d c way a w
def tN (d c rk i:Int):Int:=dD rk (i/c/d) (i/c%d) (i%c)
theorem lv {s c rk i:Int} (t:eY r s b d c rk (i/c/d) (i/c%d) (i%c)=true) (f:0≤i) (u:i≤131072) (w:Mr):Mt Y 162 #[.agg #[I Z r,I Z s,I Z b,I Z d,I Z c],I Z rk,I Z i] w fun e a=>e=E (.tuple #[I Z (tN d c rk i),I Z 0])∧Mu w.heap.size w a:=by
 have k:=aA fun w=>J6 t w;have m:=cM (oV t).1;unfold tN;have a:=Int.ediv_nonneg f (show 0≤c by omega);have g:=Int.ediv_le_self c f;have t1:i.tmod c=i%c:=Int.tmod_eq_emod_of_nonneg f;have n:=IntWalk.i64_quo i c ⟨f,by omega,by omega⟩;have h:¬c=0:=by omega
 have j:¬d=0:=by omega
 have p:(c==0)=false:=by simpa using h
 have q:(d==0)=false:=by simpa using j
 have⟨o,l⟩:=Ey (i/c);rw[l]at k n a g ⊢;have t3:o.tmod d=o%d:=Int.tmod_eq_emod_of_nonneg a;have t4:=IntWalk.i64_quo o d ⟨a,by omega,by omega⟩;generalize i%c=v at*;generalize o%d=x at*;generalize o/d=y at*;generalize dD rk y x v=z at*;clear t m l a g;go_in;go_wp2_with fail;go_region
 go_wp2_with(go_at_call 133;refine(k.out _).mono ?_;rintro e g ⟨rfl,a⟩);go_ret2;exact⟨rfl,(by repeat first|exact Bl|assumption|refine Ka ?_|refine Ks ?_ (by first|exact Nl|simp<;>omega|omega)|refine Kd ?_|refine Kc ?_ (by assumption))⟩
def fK (d c i:Int):Int:=(i/65536%16*d+i/64%1024)*c+i%64
theorem RR {s c i:Int} (q:eC r s b d c i=true) (w:Mr):Mt Y 78 #[.agg #[I Z r,I Z s,I Z b,I Z d,I Z c],I Z i] w fun e a=>e=E (I Z (fK d c i))∧Mu w.heap.size w a:=by
 have f:=aA fun w=>DN r s b d c i w;have j:dF r s b d c=true:=by unfold eC at q;rw[Nq]at q;exact(oV q.2).1
 have j:=cM j;rw[q]at f;unfold AL at f;unfold fK;have⟨g,k⟩:=Ey (i/65536%16);have⟨n,l⟩:=Ey (i/64%1024);have⟨y,m⟩:=Ey (i%64);have a:0≤g∧g≤15:=by omega
 have o:0≤n∧n≤1023:=by omega
 have p:0≤y∧y≤63:=by omega
 rw[k,l,m]at f;rw[k,l,m];have t:0≤g*d:=Int.mul_nonneg a.1 (by omega);have u:g*d≤15*1024:=Int.mul_le_mul a.2 (by omega) (by omega) (by decide);have D:=IntWalk.wrap64_in (g*d) ⟨by omega,by omega⟩;have z:=IntWalk.i64_in (g*d) ⟨by omega,by omega⟩;have F:=IntWalk.wrap64_in (g*d+n) ⟨by omega,by omega⟩;have A:=IntWalk.i64_in (g*d+n) ⟨by omega,by omega⟩;have v:0≤(g*d+n)*c:=Int.mul_nonneg (by omega) (by omega);have x:(g*d+n)*c≤16384*64:=Int.mul_le_mul (by omega) (by omega) (by omega) (by decide);have G:=IntWalk.wrap64_in ((g*d+n)*c) ⟨by omega,by omega⟩;have B:=IntWalk.i64_in ((g*d+n)*c) ⟨by omega,by omega⟩;have H:=IntWalk.wrap64_in ((g*d+n)*c+y) ⟨by omega,by omega⟩;have C:=IntWalk.i64_in ((g*d+n)*c+y) ⟨by omega,by omega⟩;have h:=aG w (O #[I Z r,I Z s,I Z b,I Z d,I Z c] 23) w.heap.size rfl;clear k l m a o p t u v x j q;go_in;go_wp2_with(go_at_call 21;refine(f.out _).mono ?_;rintro e k ⟨rfl,a⟩;have h:=aE a h;have⟨b3,j⟩:=iO h 3 4;simp at b3 j;have l:=aB h);go_ret;exact⟨rfl,(by repeat first|exact Bl|assumption|refine Ka ?_|refine Ks ?_ (by first|exact Nl|simp<;>omega|omega)|refine Kd ?_|refine Kc ?_ (by assumption))⟩
theorem BB (r s b d c way a:Int) (w:Mr):(Instr.field 25 (.agg #[I Z r,I Z s,I Z b,I Z d,I Z c,I Z way,I Z a]) 0).run Y w=.ok (.agg #[I Z r,I Z s,I Z b,I Z d,I Z c]) w:=by simp[go_sem,Instr.field,asAgg]
attribute [local go_sem] BB
theorem aK {a b c:Mr} (d:aC a b) (k:aC b c):aC a c:=Kc d k
theorem lC {S:Nat} (d:cJ B L D S t w):∀a,aC w a→Mt Y 77 #[.pointer (some ⟨B,0,N⟩)] a fun e b=>e=E (.agg #[I Z t.r,I Z t.s,I Z t.b,I Z t.d,I Z t.c,I Z t.way,I Z t.res])∧Mu a.heap.size a b:=fun a c=>kl a (d.keeps c)
theorem JQ {S:Nat} (d:cJ B L D S t w) {k:Int} {x:Bool} (e:t.deadB k=x):∀a,aC w a→Mt Y 161 #[.pointer (some ⟨B,0,N⟩),I Z k] a fun e b=>e=E (.bool x)∧Mu a.heap.size a b:=fun a c=>by subst e;exact ko k a (d.keeps c)
theorem RS {S:Nat} (f:cJ B L D S t w) {k v:Int} {x:Bool} (c:t.spareV k=v) (e:t.spareB k=x):∀a,aC w a→Mt Y 160 #[.pointer (some ⟨B,0,N⟩),I Z k] a fun e b=>e=E (.tuple #[I Z v,.bool x])∧Mu a.heap.size a b:=fun a d=>JO c e a (f.keeps d)
theorem lw {S:Nat} (k f g n:Int) (a:bel f (cU t.r t.s t.b t.d t.c)=true) (c:bel g (cU t.r t.s t.b t.d t.c)=true) (o:f≠g) (h:t.deadB f=false) (i:t.deadB g=false) (w:Mr) (l:cJ B L D S t w):Mt Y 114 #[.agg #[I Z k,I Z f,I Z g,I Z n],.pointer (some ⟨B,0,N⟩)] w fun e b=>e=E (.bool true)∧Mu w.heap.size w b:=by
 have p:=aA (lC l);have q:=aA (JQ l h);have r:=aA (JQ l i);have⟨y,d⟩:=Ey (cU t.r t.s t.b t.d t.c);have s:=aA fun w=>xM d w;rw[d]at a c;have u:=aA fun w=>uI a w;have v:=aA fun w=>uI c w;have x:(f !=g)=true:=by simpa using o
 have b:=aG w (O #[I Z k,I Z f,I Z g,I Z n] 63) w.heap.size rfl;have j:aC w (w.alloc (O #[I Z k,I Z f,I Z g,I Z n] 63)):=aU;clear a c h i l d;go_in;go_wp2_with(first|(go_at_call 77;(with_reducible refine(p.out _ j).mono ?_);rintro e m ⟨rfl,a⟩;replace b:=aE a b;replace j:=Kc j a;have⟨c,d,h,i⟩:=eD b;simp at c d h i;have l:=aB b;clear a)|(go_at_call 74;(with_reducible refine(s.out _).mono ?_);rintro e m ⟨rfl,a⟩;replace b:=aE a b;replace j:=Kc j a;have⟨c,d,h,i⟩:=eD b;simp at c d h i;have l:=aB b;clear a)|(go_at_call 113;(with_reducible refine(u.out _).mono ?_);rintro e m ⟨rfl,a⟩;replace b:=aE a b;replace j:=Kc j a;have⟨c,d,h,i⟩:=eD b;simp at c d h i;have l:=aB b;clear a)|(go_at_call 113;(with_reducible refine(v.out _).mono ?_);rintro e m ⟨rfl,a⟩;replace b:=aE a b;replace j:=Kc j a;have⟨c,d,h,i⟩:=eD b;simp at c d h i;have l:=aB b;clear a)|(go_at_call 161;(with_reducible refine(q.out _ j).mono ?_);rintro e m ⟨rfl,a⟩;replace b:=aE a b;replace j:=Kc j a;have⟨c,d,h,i⟩:=eD b;simp at c d h i;have l:=aB b;clear a)|(go_at_call 161;(with_reducible refine(r.out _ j).mono ?_);rintro e m ⟨rfl,a⟩;replace b:=aE a b;replace j:=Kc j a;have⟨c,d,h,i⟩:=eD b;simp at c d h i;have l:=aB b;clear a));go_ret;exact⟨rfl,j⟩
theorem mb {S:Nat} (ok:dA t) (k f g n:Int) (d:bel f t.r=true) (h:t.spareB f=false) (a:bel (g-t.r) t.s=true) (w:Mr) (j:cJ B L D S t w):Mt Y 115 #[.agg #[I Z k,I Z f,I Z g,I Z n],.pointer (some ⟨B,0,N⟩)] w fun e b=>e=E (.bool true)∧Mu w.heap.size w b:=by have v:=aA (lC j);have x:=aA (RS j rfl h);have y:=aA fun w=>uI d w;have z:=aA fun w=>uI a w;have i:=cM (eE (eM ok.right).1).1;have b:=eB a;have C:=IntWalk.wrap64_in (g-t.r) ⟨by omega,by omega⟩;have A:=IntWalk.i64_in (g-t.r) ⟨by omega,by omega⟩;have c:=aG w (O #[I Z k,I Z f,I Z g,I Z n] 63) w.heap.size rfl;have l:aC w (w.alloc (O #[I Z k,I Z f,I Z g,I Z n] 63)):=aU;clear d h a j i b ok;go_in;go_wp2_with(first|(go_at_call 77;(with_reducible refine(v.out _ l).mono ?_);rintro e m ⟨rfl,a⟩;replace c:=aE a c;replace l:=Kc l a;have⟨d,h,i,j⟩:=eD c;simp at d h i j;have o:=aB c;clear a));refine(x.out _ (Ka l)).mono ?_;rintro e u ⟨rfl,p⟩;have b:=aE p (aG m (O #[I Z t.r,I Z t.s,I Z t.b,I Z t.d,I Z t.c] 23) m.heap.size rfl);have q:=cell_of_row u m.heap.size 0 _ 23 (0,0) b;have r:=cell_of_row u m.heap.size 1 _ 23 (0,0) b;simp at q r;have s:=aB b;replace c:=aE p ((aV m (O #[I Z t.r,I Z t.s,I Z t.b,I Z t.d,I Z t.c] 23) w.heap.size o).trans c);clear d h i j o;have⟨d,h,i,j⟩:=eD c;simp at d h i j;have o:=aB c;replace l:=Kc (Ka l) p;clear p;go_wp2_with(first|(go_at_call 113;(with_reducible refine(y.out _).mono ?_);rintro e p ⟨rfl,a⟩;replace b:=aE a b;replace c:=aE a c;replace l:=Kc l a;have⟨d,h,i,j⟩:=eD c;simp at d h i j;have o:=aB c;have q:=cell_of_row p m.heap.size 0 _ 23 (0,0) b;have r:=cell_of_row p m.heap.size 1 _ 23 (0,0) b;simp at q r;have s:=aB b;clear a)|(go_at_call 113;(with_reducible refine(z.out _).mono ?_);rintro e p ⟨rfl,a⟩;replace b:=aE a b;replace c:=aE a c;replace l:=Kc l a;have⟨d,h,i,j⟩:=eD c;simp at d h i j;have o:=aB c;have q:=cell_of_row p m.heap.size 0 _ 23 (0,0) b;have r:=cell_of_row p m.heap.size 1 _ 23 (0,0) b;simp at q r;have s:=aB b;clear a));go_ret;exact⟨rfl,l⟩
def lD (t:aR) (k f g n:Int):Prop:=
 (k=0∧f=0∧g=0∧n=0)∨(k=1∧0≤n∧n≤t.c∧bel f (cU t.r t.s t.b t.d t.c)=true∧bel g (cU t.r t.s t.b t.d t.c)=true∧f≠g∧t.deadB f=false∧t.deadB g=false)∨
 (k=2∧0≤n∧n≤kK t.r t.s t.b t.d t.c∧bel f t.r=true∧t.spareB f=false∧bel (g-t.r) t.s=true)
def aR.cnt (t:aR) (k:Int):Int:=lB k t.r t.s t.b t.d t.c
theorem sE {s c:Int} (g:dF r s b d c=true):kK r s b d c=b*d*c∧1≤b*d*c∧b*d*c≤4096:=by
 have a:=cM g;have h:=nL g;have e:kK r s b d c=b*d*c:=by unfold kK;rw[g];rfl
 have i:1≤b*d:=by have:=pR a.2.2.2.1 a.2.2.2.2.1 a.2.2.2.2.2.1 a.2.2.2.2.2.2.1;omega
 have f:1≤b*d*c:=by have:=Int.mul_le_mul_of_nonneg_left (show 1≤c by omega) (show 0≤b*d by omega);omega
 have j:b*d*c≤r*(b*d*c):=by have:=Int.mul_le_mul_of_nonneg_right a.1 (show 0≤b*d*c by omega);omega
 have k:r*b*d*c=r*(b*d*c):=by rw[Int.mul_assoc,Int.mul_assoc,Int.mul_assoc]
 exact⟨e,f,by omega⟩
theorem EJ (ok:dA t) (k:Int):0≤t.cnt k∧t.cnt k≤4096:=by have a:=(eE (eM ok.right).1).1;have b:=cM a;have c:=sE a;unfold aR.cnt lB;split;omega;split;omega;omega
theorem lD.next {k g n:Int} (j:lD t k f g n):0≤n∧n≤t.cnt k:=by
 unfold aR.cnt lB;rcases j with⟨c,a,b,d⟩|⟨c,a,b,_⟩|⟨c,a,b,_⟩<;>subst c
 ·simp;omega
 ·simp;omega
 ·simp;omega
theorem mc {S:Nat} (ok:dA t) (w:Mr) (f:cJ B L D S t w):Mt Y 76 #[.agg #[I Z 0,I Z 0,I Z 0,I Z 0],.pointer (some ⟨B,0,N⟩)] w fun e i=>e=E (.bool true)∧Mu w.heap.size w i:=by
 have m:=aA (lC f);have n:=aA fun w=>EI (k:=0) (r:=t.r) (s:=t.s) (b:=t.b) (d:=t.d) (c:=t.c) (x:=0) rfl 0 0 0 t.way t.res w;have o:=aA fun w=>uI (a:=0) (b:=1) (x:=true) rfl w;have q:IntKind.i64.wrap 1=1:=by decide
 have g:=aG w (O #[I Z 0,I Z 0,I Z 0,I Z 0] 63) w.heap.size rfl;have h:aC w (w.alloc (O #[I Z 0,I Z 0,I Z 0,I Z 0] 63)):=aU;clear f ok;go_in;go_wp2;refine bS (by kernel_rfl) (by kernel_rfl) ?_
 repeat
  with_reducible refine Mz fun K j=>?_
  go_simp
  try first
   |(apply Ei
     intro i f;obtain⟨l,p⟩:=f.cells;go_simp
     first
      |(go_at_call 77;with_reducible exact f.call (m.out _ (aK h f)))
      |(go_at_call 20;with_reducible exact f.call (n.out _))
      |(go_at_call 113;with_reducible exact f.call (o.out _))
      |rfl)
   |(with_reducible refine aQ ?_ ?_;decide)
  refine j _ ?_;clear j K
 with_reducible refine Na ?_
 intro u f;replace g:=aE f g;replace h:=Kc h f;clear f;have⟨f,i,j,l⟩:=eD g;simp at f i j l;have p:=aB g;go_wp2;go_ret;exact⟨rfl,h⟩
theorem me {S:Nat} (ok:dA t) (f g n:Int) (o:0≤n) (p:n≤t.c) (q:bel f (cU t.r t.s t.b t.d t.c)=true) (u:bel g (cU t.r t.s t.b t.d t.c)=true) (v:f≠g) (y:t.deadB f=false) (z:t.deadB g=false) (w:Mr) (J:cJ B L D S t w):Mt Y 76 #[.agg #[I Z 1,I Z f,I Z g,I Z n],.pointer (some ⟨B,0,N⟩)] w fun e j=>e=E (.bool true)∧Mu w.heap.size w j:=by
 have A:=aA (lC J);have C:=aA fun j (h:aC w j)=>lw 1 f g n q u v y z j (J.keeps h);have⟨x,h⟩:=Ey t.c;have j:=EJ ok 1;have l:t.cnt 1=x:=by rw[←h];rfl
 rw[l]at j;rw[h]at p;have F:=aA fun w=>EI (k:=1) (r:=t.r) (s:=t.s) (b:=t.b) (d:=t.d) (c:=t.c) (x:=x) h f g n t.way t.res w;have G:=aA fun w=>uI (a:=n) (b:=x+1) (x:=true) (by unfold bel;rw[decide_eq_true o,decide_eq_true (show n<x+1 by omega)];rfl) w;have M:=IntWalk.wrap64_in (x+1) ⟨by omega,by omega⟩;have H:=IntWalk.i64_in (x+1) ⟨by omega,by omega⟩;have m:=aG w (O #[I Z 1,I Z f,I Z g,I Z n] 63) w.heap.size rfl;have i:aC w (w.alloc (O #[I Z 1,I Z f,I Z g,I Z n] 63)):=aU;clear J ok h j l o p q u v y z;go_in;go_wp2;refine bS (by kernel_rfl) (by kernel_rfl) ?_
 repeat
  with_reducible refine Mz fun K l=>?_
  go_simp
  try first
   |(apply Ei
     intro j h;obtain⟨o,p⟩:=h.cells;go_simp
     first
      |(go_at_call 77;with_reducible exact h.call (A.out _ (aK i h)))
      |(go_at_call 20;with_reducible exact h.call (F.out _))
      |(go_at_call 113;with_reducible exact h.call (G.out _))
      |rfl)
   |(with_reducible refine aQ ?_ ?_;decide)
  refine l _ ?_;clear l K
 with_reducible refine Na ?_
 intro u h;replace m:=aE h m;replace i:=Kc i h;clear h;have⟨j,l,o,p⟩:=eD m;simp at j l o p;have q:=aB m;go_wp2_with(go_at_call 114;(with_reducible refine(C.out _ i).mono ?_);rintro e v ⟨rfl,h⟩;replace i:=Kc i h;clear h);go_ret;exact⟨rfl,i⟩
theorem mh {S:Nat} (ok:dA t) (f g n:Int) (o:0≤n) (p:n≤kK t.r t.s t.b t.d t.c) (q:bel f t.r=true) (u:t.spareB f=false) (v:bel (g-t.r) t.s=true) (w:Mr) (G:cJ B L D S t w):Mt Y 76 #[.agg #[I Z 2,I Z f,I Z g,I Z n],.pointer (some ⟨B,0,N⟩)] w fun e j=>e=E (.bool true)∧Mu w.heap.size w j:=by
 have y:=aA (lC G);have z:=aA fun j (h:aC w j)=>mb ok 2 f g n q u v j (G.keeps h);have⟨x,h⟩:=Ey (kK t.r t.s t.b t.d t.c);have j:=EJ ok 2;have l:t.cnt 2=x:=by rw[←h];rfl
 rw[l]at j;rw[h]at p;have A:=aA fun w=>EI (k:=2) (r:=t.r) (s:=t.s) (b:=t.b) (d:=t.d) (c:=t.c) (x:=x) h f g n t.way t.res w;have C:=aA fun w=>uI (a:=n) (b:=x+1) (x:=true) (by unfold bel;rw[decide_eq_true o,decide_eq_true (show n<x+1 by omega)];rfl) w;have H:=IntWalk.wrap64_in (x+1) ⟨by omega,by omega⟩;have F:=IntWalk.i64_in (x+1) ⟨by omega,by omega⟩;have m:=aG w (O #[I Z 2,I Z f,I Z g,I Z n] 63) w.heap.size rfl;have i:aC w (w.alloc (O #[I Z 2,I Z f,I Z g,I Z n] 63)):=aU;clear G ok h j l o p q u v;go_in;go_wp2;refine bS (by kernel_rfl) (by kernel_rfl) ?_
 repeat
  with_reducible refine Mz fun K l=>?_
  go_simp
  try first
   |(apply Ei
     intro j h;obtain⟨o,p⟩:=h.cells;go_simp
     first
      |(go_at_call 77;with_reducible exact h.call (y.out _ (aK i h)))
      |(go_at_call 20;with_reducible exact h.call (A.out _))
      |(go_at_call 113;with_reducible exact h.call (C.out _))
      |rfl)
   |(with_reducible refine aQ ?_ ?_;decide)
  refine l _ ?_;clear l K
 with_reducible refine Na ?_
 intro u h;replace m:=aE h m;replace i:=Kc i h;clear h;have⟨j,l,o,p⟩:=eD m;simp at j l o p;have q:=aB m;go_wp2_with(go_at_call 115;(with_reducible refine(z.out _ i).mono ?_);rintro e v ⟨rfl,h⟩;replace i:=Kc i h;clear h);go_ret;exact⟨rfl,i⟩
theorem uJ {S:Nat} (ok:dA t) {k g n:Int} (j:lD t k f g n) (w:Mr) (m:cJ B L D S t w):Mt Y 76 #[.agg #[I Z k,I Z f,I Z g,I Z n],.pointer (some ⟨B,0,N⟩)] w fun e a=>e=E (.bool true)∧Mu w.heap.size w a:=by
 rcases j with⟨rfl,rfl,rfl,rfl⟩|⟨rfl,a,b,c,d,h,i,l⟩|⟨rfl,a,b,c,d,h⟩
 ·exact mc ok w m
 ·exact me ok f g n a b c d h i l w m
 ·exact mh ok f g n a b c d h w m
theorem mi (k f g n r s b d c way i:Int) (w:Mr):Mt Y 200 #[.agg #[I Z k,I Z f,I Z g,I Z n],.agg #[I Z r,I Z s,I Z b,I Z d,I Z c,I Z way,I Z i]] w fun e l=>e=E (.bool (decide (k≠0)&&decide (n=lB k r s b d c)))∧Mu w.heap.size w l:=by
 by_cases j:k=0
 focus
  subst j;go_in;go_wp2;refine bS (by kernel_rfl) (by kernel_rfl) ?_
  repeat
   with_reducible refine Mz fun K h=>?_
   go_simp
   try first
    |(apply Ei
      intro l a;obtain⟨m,o⟩:=a.cells;go_simp
      rfl)
    |(with_reducible refine aQ ?_ ?_;decide)
   refine h _ ?_;clear h K
 rotate_left
 focus
  have p:=aA fun w=>JP k f g n r s b d c way i w;generalize lB k r s b d c=t at*;have u:(k !=0)=true:=by simpa using j
  rw[decide_eq_true j];have q:=aA (show(true&&decide (n=t))=(n==t) by rw[Bool.true_and];rfl);rw[q.out];clear j;go_in;go_wp2;refine bS (by kernel_rfl) (by kernel_rfl) ?_
  repeat
   with_reducible refine Mz fun K h=>?_
   go_simp
   try first
    |(apply Ei
      intro l a;obtain⟨m,o⟩:=a.cells;go_simp
      first
       |(go_at_call 20;with_reducible exact a.call (p.out _))
       |rfl)
    |(with_reducible refine aQ ?_ ?_;decide)
   refine h _ ?_;clear h K
 all_goals
  with_reducible refine Na ?_
  intro h a;go_wp2;go_ret;exact⟨rfl,(by repeat first|exact Bl|assumption|refine Ka ?_|refine Ks ?_ (by first|exact Nl|simp<;>omega|omega)|refine Kd ?_|refine Kc ?_ (by assumption))⟩
end
section
open Go.RowKit Go.Shelf lin
attribute [local go_sem] Oper.semAt_some BB
theorem JR {s c rk i:Int} (q:dF r s b d c=true) (a:0≤rk) (e:rk<r+s) (f:0≤i) (g:i<b*d*c):eY r s b d c rk (i/c/d) (i/c%d) (i%c)=true:=by have t:=cM q;have h:=Int.ediv_nonneg f (show 0≤c by omega);have j:i/c<b*d:=Int.ediv_lt_of_lt_mul (by omega) g;have k:=Int.ediv_nonneg h (show 0≤d by omega);have l:i/c/d<b:=Int.ediv_lt_of_lt_mul (by omega) j;have m:=Int.emod_nonneg (i/c) (show d≠0 by omega);have n:=Int.emod_lt_of_pos (i/c) (show 0<d by omega);have o:=Int.emod_nonneg i (show c≠0 by omega);have p:=Int.emod_lt_of_pos i (show 0<c by omega);unfold eY bel;simp[q,a,e,k,l,m,n,o,p]
def aR.pos (t:aR) (k wh i:Int):Int:=if k=2 then tN t.d t.c wh i else t.lie wh*64+i
theorem RT (ok:dA t) {x:Int} (e:0≤x):0≤t.lie x∧t.lie x<131072:=by
 have a:=EG ok e;unfold aR.lie;split
 ·rename_i b;have c:=EH ok b;have:=ok.r1;have d:=cM (eE (eM ok.right).1).1;omega
 ·exact a
theorem RU {S:Nat} (ok:dA t) {k g n wh i:Int} (j:lD t k f g n) (C:bel i (t.cnt k)=true) (P:k=1→0≤wh∧wh<cU t.r t.s t.b t.d t.c) (Q:k=2→0≤wh∧wh<t.r+t.s) (w:Mr) (R:cJ B L D S t w):Mt Y 116 #[.agg #[I Z k,I Z f,I Z g,I Z n],.pointer (some ⟨B,0,N⟩),I Z wh,I Z i] w fun e l=>e=E (.tuple #[I Z (t.pos k wh i),I Z 0])∧Mu w.heap.size w l:=by
 have T:=aA (lC R);have W:=aA fun l (F:aC w l)=>uJ ok j l (R.keeps F);have⟨x,G⟩:=Ey (t.cnt k);have u:=EJ ok k;rw[G]at u C;have X:=aA fun w=>EI (k:=k) (r:=t.r) (s:=t.s) (b:=t.b) (d:=t.d) (c:=t.c) (x:=x) G f g n t.way t.res w;have HB:=aA fun w=>uI C w;have q:=eB C;have H:=(eE (eM ok.right).1).1;have hp:=sE H;have hb:=cM H
 have F:k=1∨k=2:=by
  rcases j with⟨R,_⟩|⟨R,_⟩|⟨R,_⟩
  ·subst R;have:t.cnt 0=0:=rfl;omega
  ·exact .inl R
  ·exact .inr R
 have o:=aG w (O #[I Z k,I Z f,I Z g,I Z n] 63) w.heap.size rfl;have h:aC w (w.alloc (O #[I Z k,I Z f,I Z g,I Z n] 63)):=aU;rcases F with rfl|rfl
 ·have p:=P rfl
  have U:=RT ok p.1;have HP:=aA fun l (F:aC w l)=>RN ok wh p.1 p.2 l (R.keeps F);have M:x≤64:=by have:t.cnt 1=t.c:=rfl;omega
  have J:t.pos 1 wh i=t.lie wh*64+i:=rfl;rw[J];generalize t.lie wh=aa at*;obtain⟨i,rfl⟩:∃m:Nat,i=m:=⟨i.toNat,by omega⟩;have eo:=RQ aa i U.1 U.2 (by omega);have e1:=IntWalk.wrap64_in (aa*64) ⟨by omega,by omega⟩;have ab:=IntWalk.i64_in (aa*64) ⟨by omega,by omega⟩;clear R ok G u C P Q q H hp hb p U M j J;go_in;go_wp2;refine bS (by kernel_rfl) (by kernel_rfl) ?_
  repeat
   with_reducible refine Mz fun K p=>?_
   go_simp
   try first
    |(apply Ei
      intro l a;obtain⟨q,u⟩:=a.cells;go_simp
      first
       |(go_at_call 76;with_reducible exact a.call (W.out _ (aK h a)))
       |(go_at_call 77;with_reducible exact a.call (T.out _ (aK h a)))
       |(go_at_call 20;with_reducible exact a.call (X.out _))
       |(go_at_call 113;with_reducible exact a.call (HB.out _))
       |rfl)
    |(with_reducible refine aQ ?_ ?_;decide)
   refine p _ ?_;clear p K
  with_reducible refine Na ?_
  intro w9 l;replace o:=aE l o;replace h:=Kc h l;clear l;have⟨v,y,z,A⟩:=eD o;simp at v y z A;have V:=aB o;go_wp2_with(go_at_call 163;(with_reducible refine(HP.out _ h).mono ?_);rintro e w1 ⟨rfl,a⟩;replace h:=Kc h a;clear a);go_ret2;exact⟨rfl,h⟩
 ·have p:=Q rfl
  have a:x=kK t.r t.s t.b t.d t.c:=G.symm;have M:=aA fun w=>lv (JR (i:=i) H p.1 p.2 q.1 (by omega)) q.1 (by omega) w;have J:t.pos 2 wh i=tN t.d t.c wh i:=rfl;rw[J];generalize tN t.d t.c wh i=aa at*;clear R ok G u C P Q q H hp hb p a j J;go_in;go_wp2;refine bS (by kernel_rfl) (by kernel_rfl) ?_
  repeat
   with_reducible refine Mz fun K p=>?_
   go_simp
   try first
    |(apply Ei
      intro l a;obtain⟨q,u⟩:=a.cells;go_simp
      first
       |(go_at_call 76;with_reducible exact a.call (W.out _ (aK h a)))
       |(go_at_call 77;with_reducible exact a.call (T.out _ (aK h a)))
       |(go_at_call 20;with_reducible exact a.call (X.out _))
       |(go_at_call 113;with_reducible exact a.call (HB.out _))
       |rfl)
    |(with_reducible refine aQ ?_ ?_;decide)
   refine p _ ?_;clear p K
  with_reducible refine Na ?_
  intro w9 l;replace o:=aE l o;replace h:=Kc h l;clear l;have⟨v,y,z,A⟩:=eD o;simp at v y z A;have V:=aB o;go_wp2_with(first|(go_at_call 77;(with_reducible refine(T.out _ h).mono ?_);rintro e w1 ⟨rfl,a⟩;replace h:=Kc h a;clear a)|(go_at_call 162;(with_reducible refine(M.out _).mono ?_);rintro e w1 ⟨rfl,a⟩;replace h:=Kc h a;clear a));go_ret2;exact⟨rfl,h⟩
theorem mm {S:Nat} (ok:dA t) {k g n i:Int} (j:lD t k f g n) (d:bel i (t.cnt k)=true) (w:Mr) (h:cJ B L D S t w):Mt Y 94 #[.agg #[I Z k,I Z f,I Z g,I Z n],.pointer (some ⟨B,0,N⟩),I Z i] w fun e a=>e=E (.tuple #[I Z (t.pos k f i),I Z 0])∧Mu w.heap.size w a:=by have c:=cM (eE (eM ok.right).1).1;have l:=aA fun a (m:aC w a)=>RU ok (wh:=f) j d (fun e=>by rcases j with⟨h,_⟩|⟨h,o,p,b,q,_⟩|⟨h,_⟩;omega;exact eB b;omega) (fun e=>by rcases j with⟨h,_⟩|⟨h,_⟩|⟨h,o,p,b,q,r⟩;omega;omega;have:=eB b;omega) a (h.keeps m);generalize t.pos k f i=o at*;have m:=aG w (O #[I Z k,I Z f,I Z g,I Z n] 63) w.heap.size rfl;have a:aC w (w.alloc (O #[I Z k,I Z f,I Z g,I Z n] 63)):=aU;clear h ok j d c;go_in;go_wp2_with(go_at_call 116;(with_reducible refine(l.out _ a).mono ?_);rintro e c ⟨rfl,b⟩;replace a:=Kc a b;clear b);go_ret2;exact⟨rfl,a⟩
theorem JS {S:Nat} (ok:dA t) {k g n i:Int} (j:lD t k f g n) (c:bel i (t.cnt k)=true) (w:Mr) (d:cJ B L D S t w):Mt Y 79 #[.agg #[I Z k,I Z f,I Z g,I Z n],.pointer (some ⟨B,0,N⟩),I Z i] w fun e a=>e=E (.tuple #[I Z (t.pos k g i),I Z 0])∧Mu w.heap.size w a:=by have b:=cM (eE (eM ok.right).1).1;have l:=aA fun a (m:aC w a)=>RU ok (wh:=g) j c (fun e=>by rcases j with⟨d,_⟩|⟨d,o,p,q,h,_⟩|⟨d,_⟩;omega;exact eB h;omega) (fun e=>by rcases j with⟨d,_⟩|⟨d,_⟩|⟨d,o,p,q,h,r⟩;omega;omega;have:=eB r;omega) a (d.keeps m);generalize t.pos k g i=m at*;have h:=aG w (O #[I Z k,I Z f,I Z g,I Z n] 63) w.heap.size rfl;have a:aC w (w.alloc (O #[I Z k,I Z f,I Z g,I Z n] 63)):=aU;clear d ok j c b;go_in;go_wp2_with(go_at_call 116;(with_reducible refine(l.out _ a).mono ?_);rintro e c ⟨rfl,b⟩;replace a:=Kc a b;clear b);go_ret2;exact⟨rfl,a⟩
end
end Go.Proofs.YtlbgenenpheheaaGreat
