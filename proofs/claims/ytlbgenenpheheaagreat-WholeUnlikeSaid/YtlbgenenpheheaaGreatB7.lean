/- What the six laws Whole.. of the program cuirasstop lean on, part 8: contracts of its functions and laws of what they compute; for all arguments that each theorem names -/
import Derived.Test.YtlbgenenpheheaaGreatB6
import Derived.DeepKeys
set_option linter.unusedVariables false
set_option linter.unusedSimpArgs false
set_option maxHeartbeats 100000000
set_option maxRecDepth 100000
namespace Go.Proofs.YtlbgenenpheheaaGreat
open Go.Value renaming int→I
open Go.IntKind renaming i64→Z
open Go.Obj renaming cells→O
open Go.Ending renaming returned→E
open Tryz renaming prog→Y
open Tryz
open _root_.Array renaming replicate→Nv,getElem?_eq_some_iff→Og,length_toList→Ot
open _root_.Bool renaming and_eq_true→Nx
open Go renaming World→Mz,Value→Na,Calls→Nb,undef→Nd,bodyPost_ret→Ng,wpQuiet_step→Nh,wpQuiet_nil→Ni,callsIn_wide→Ns,results_none→Od,heap_setCell_same→Oe,results_cell_row→Oh,below_setRow→Oi
open Go.RowKit renaming Below→Nc
open Go.Value renaming slice→Np,oneCell'→Nq,ownBlock→Of
open Go.World renaming putObj_heap_other→Ou
open _root_.List renaming getD→Nf,replicate→Nm,range→Nn,getElem?_eq_getElem→Nu,length_map→Nw,length_append→Ny,size_toArray→Oc,length_cons→Oj,getElem?_eq_some_iff→Ol,getElem?_map→Om,getElem?_toArray→Oq
open _root_.Nat renaming le_trans→No,lt_of_lt_of_le→Nr,zero_le→Nz,le_succ→Ob,mod_eq_of_lt→On
open _root_.Option renaming some→S,none→N
variable {B i j k n:Nat} {P:Program} {W W' w w' w1 w2:World} {X:Array Value} {a b d e l r res way:Int} {cw:Nat→Prop} {o:Obj} {s s':CtSt} {v:Value} {x:aW} {y:cQ}
section
open Go.RowKit Go.Shelf lin
theorem Gl {s c i:Int} (a:eC r s b d c i=true):i∈jG r s b d c:=by
 unfold eC at a;simp only[Nx,decide_eq_true_eq]at a;obtain⟨G,o⟩:=a;obtain⟨e,p,H,q,J,t,K,u,L⟩:=oV o;obtain⟨M,Q,R,T,U,V,W,X,a9⟩:=cM e;obtain⟨P,hP⟩:=Int.eq_ofNat_of_zero_le p;obtain⟨B,hB⟩:=Int.eq_ofNat_of_zero_le q;obtain⟨a,hD⟩:=Int.eq_ofNat_of_zero_le t;obtain⟨C,hC⟩:=Int.eq_ofNat_of_zero_le u;have v:i=dD P B a C:=by unfold dD;omega
 have f:C<c.toNat:=by omega
 have g:a<d.toNat:=by omega
 have w:B<b.toNat:=by omega
 have k:P<(r+s).toNat:=by omega
 have l:(B*d.toNat+a)*c.toNat+C<fV b d c:=by unfold fV;rw[←Nat.mul_assoc];exact CS (CS w g) f
 have x:=CS k l;have m:=NH e P _ k l
 have y:tK (P:Nat) d.toNat c.toNat ((B*d.toNat+a)*c.toNat+C)=i:=by
  have h:0<c.toNat:=by omega
  have j:0<d.toNat:=by omega
  have n:((B*d.toNat+a)*c.toNat+C)/c.toNat=B*d.toNat+a:=by rw[Nat.mul_comm,Nat.mul_add_div h,Nat.div_eq_of_lt f,Nat.add_zero]
  have z:((B*d.toNat+a)*c.toNat+C)%c.toNat=C:=by rw[Nat.mul_comm,Nat.mul_add_mod,On f]
  have A:(B*d.toNat+a)/d.toNat=B:=by rw[Nat.mul_comm,Nat.mul_add_div j,Nat.div_eq_of_lt g,Nat.add_zero]
  have D:(B*d.toNat+a)%d.toNat=a:=by rw[Nat.mul_comm,Nat.mul_add_mod,On g]
  have F:((B*d.toNat+a)*c.toNat+C)/(d.toNat*c.toNat)=B:=by rw[Nat.mul_comm d.toNat,←Nat.div_div_eq_div_mul,n,A]
  unfold tK;rw[F,n,D,z,v]
 rw[y]at m;have h:P*fV b d c+((B*d.toNat+a)*c.toNat+C)<(jG r s b d c).length:=by rw[yL e];exact x
 rw[←m,Nf,Nu h];exact List.getElem_mem h
structure yO (x:aY) (D:Int→Prop) (s:CtSt):Prop where
 ld:s.ld=bH.new x
 cur:s.cur=0
 q:fI s.dv.dr
 calm:iZ s.dv
 gh:∀i:Nat,D i→s.dv.gh i=cD x.m ln0 i false∧s.dv.mark i=0∧s.dv.dr.at i=cD x.m ln0 i false
theorem Gm {x:aY} {D:Int→Prop} (d:yO x D s) (j:Nat):yO x (fun h=>D h∨h=j) (s.put j ln0 false):=by
 have f:s.ld.c.m=x.m:=by rw[d.ld];rfl
 have g:(s.put j ln0 false).dv=s.dv.put j (cD x.m ln0 j false) 0:=by show s.dv.put _ (cD s.ld.c.m ln0 j false) _=_;rw[f];rfl
 have c:=pJ d.q j ln0 false;rw[f]at c;refine⟨d.ld,d.cur,by rw[c];exact d.q,?_,fun h b=>?_⟩
 ·rw[g]
  intro i a;unfold cF.put at a;rcases List.mem_append.1 a with a|a
  ·exact d.calm i a
  ·have a:=List.mem_singleton.1 a
   subst a;rw[d.q.went];refine⟨?_,?_⟩
   ·unfold dP.ast;simp
   ·simp
 ·rw[c,g,CU,G6,uY]
  by_cases e:(h:Int)=j
  ·rw[Fp e,Fp e,Fp e]
   have:h=j:=by omega
   subst this;exact⟨rfl,rfl,rfl⟩
  ·rw[Fn e,Fn e,Fn e]
   rcases b with b|b
   ·exact d.gh h b
   ·exact absurd b e
theorem Y3 {x:aY}:∀(L:List Int) {D:Int→Prop} {s:CtSt},(∀b∈L,0≤b)→yO x D s→yO x (fun b=>D b∨b∈L) (L.foldl (fun s b=>s.put b.toNat ln0 false) s)
 |[],D,s,_,d=>⟨d.ld,d.cur,d.q,d.calm,fun b a=>d.gh b (a.resolve_right (by simp))⟩
 |e::L,D,s,c,d=>by
  rw[List.foldl_cons];have:=Y3 L (fun b a=>c b (by simp[a])) (Gm d e.toNat);refine⟨this.ld,this.cur,this.q,this.calm,fun b a=>this.gh b ?_⟩;have f:=c e (by simp);rcases a with a|a
  ·exact .inl (.inl a)
  ·rcases List.mem_cons.1 a with a|a
   ·exact .inl (.inr (by omega))
   ·exact .inr a
theorem wV {x:aY} (f:lE x):yO x (fun g=>eC x.r x.s x.b x.d x.c g=true) (CtSt.wipe x 4096):=by
 have b:=(eE (eM f.lay).1).1;have c:(jG x.r x.s x.b x.d x.c).length≤4096:=by rw[yL b];obtain⟨a,d,g,h,i,j,k,l,m⟩:=cM b;unfold fV;exact XN (show 0≤x.r+x.s by omega) (show 0≤x.b by omega) (show 0≤x.d by omega) (show 0≤x.c by omega) (uB b).2.2.2.2.2.2
 have h:yO x (fun _=>False) (CtSt.new x):=⟨rfl,rfl,⟨rfl,rfl⟩,(fun d a=>by cases a),fun g a=>False.elim a⟩;unfold CtSt.wipe;rw[List.take_of_length_le c]
 have:=Y3 (jG x.r x.s x.b x.d x.c) (fun g a=>by
  obtain⟨i,d,e⟩:=List.getElem_of_mem a;have:=(XM b d).2;rw[Nf,Nu d,Option.getD_some,e]at this
  exact this) h
 exact⟨this.ld,this.cur,this.q,this.calm,fun g a=>this.gh g (.inr (Gl a))⟩
def jM (n:Int) (g:Int→List Int):Int→Option (List Int):=fun l=>if l=n then N else S (g l)
theorem NS {n:Int} {g:Int→List Int} (a:wS g):yN (jM n g):=fun l b e=>by
 unfold jM at e;split at e
 ·cases e
 ·injection e with e;rw[←e];exact a l
theorem NT {n:Int} (b:l≠n) (g:Int→List Int) (d:List Int):qL (jM n g) l (S d)=jM n (mF g l d):=by
 funext k;unfold qL jM mF;by_cases a:k=l
 ·subst a;rw[Fp rfl,Fn b,Fp rfl]
 ·rw[Fn a,Fn a]
theorem Gp (n:Int) (g:Int→List Int) (d:List Int):jM n (mF g n d)=jM n g:=by
 funext k;unfold jM mF;by_cases a:k=n
 ·rw[Fp a,Fp a]
 ·rw[Fn a,Fn a,Fn a]
theorem Did.lost {s o:MSt} {x:Sp} {a:aN} {n:Int} (ok:dZ s) (t:wT x) (j:Did s x a o) (w:x.k≠8) (p:¬(x.k=2∧x.ln=n)) (y:¬(x.k=3∧x.ln=n∧x.ms=full64)) (d:gB (jM n s.idl) s.ct):gB (jM n o.idl) o.ct:=by
 have gk:=ok.gok;have h:=NS (n:=n) gk;rw[j.idl];unfold wU;cases j with
 |bad j=>rw[Fn fun u=>by rw[j]at u;exact absurd u.1 (by decide)];exact d
 |no j b k=>
  rw[Fn]
  ·exact d
  ·rintro⟨_,c,p⟩
   rcases k with k|k
   ·exact k p
   ·omega
 |rd j b f q=>rw[Fn fun u=>by omega];exact NQ ok.ct.rt d h f q
 |wr j b f r=>rw[Fp ⟨j,.inl b,f⟩,Fp b];have c:x.ln≠n:=fun e=>p ⟨b,e⟩;have:=((Y2 ok.ct.rt d h f r).1 rfl).2;rw[NT c]at this;rw[CY (gk x.ln).1 t.dl];exact this
 |ma j b f m r=>
  rw[Fp ⟨j,.inr ⟨b,m⟩,f⟩,Fn (by omega)];obtain⟨z,v⟩:=Y2 ok.ct.rt d h f r;by_cases i:x.ms=full64
  ·have c:x.ln≠n:=fun e=>y ⟨b,e,i⟩;have:=(z i).2;rw[NT c]at this;rw[i,CY (gk x.ln).1 t.dl];exact this
  ·by_cases c:x.ln=n
   ·rw[c,Gp];exact((v i).2 (by unfold jM;rw[Fp c])).2
   ·have:=((v i).1 (s.idl x.ln) (by unfold jM;rw[Fn c])).2;rw[NT c]at this;exact this
 |sc j b q=>rw[Fn fun u=>by omega];exact NQ ok.ct.rt.nextCur (s:=s.ct.nextCur) ⟨d.1,fun l f=>d.2 l f⟩ h ok.ct.curL q
 |idle j b m=>rw[Fn fun u=>by omega];exact d
 |cp j b m g=>rw[Fn fun u=>by omega];exact Gk ok.ct.rt m d h g
 |tk j b g=>rw[Fn fun u=>by omega];exact Y1 d g.rp
 |cl j b g=>rw[Fn fun u=>by omega];exact Y1 d g.rp
 |inj j b=>exact absurd b w
theorem Did.read {s h:MSt} {x:Sp} {a:aN} {o:Int→Option (List Int)} (ok:dZ s) (f:Did s x a h) (m:x.okB=true) (n:x.k=1) (c:s.ct.ld.c.has x.ln) (i:gB o s.ct) (j:yN o):gB o h.ct∧h.idl=s.idl∧(∀p,o x.ln=S p→a=⟨0,0,p⟩)∧(o x.ln=N→(a.e=40∨a.e=41)∧a.l=ln0):=by
 cases f with
 |rd f n c k=>
  refine⟨NQ ok.ct.rt i j c k,rfl,fun p l=>?_,fun d=>?_⟩
  ·obtain⟨b,g⟩:=(D0 ok.ct.rt i j c).1 p l;rw[b,yM g]
  ·obtain⟨b,g⟩:=(D0 ok.ct.rt i j c).2 d
   refine⟨?_,b⟩;show toldV _=40∨toldV _=41;rcases g with e|e<;>rw[e]
   ·exact .inr rfl
   ·exact .inl rfl
 |bad f=>rw[m]at f;cases f
 |no f b d=>
  rcases d with d|d
  ·exact absurd c d
  ·omega
 |wr f b c p=>omega
 |ma f b c l p=>omega
 |sc f b k=>omega
 |idle f b l=>omega
 |cp f b l g=>omega
 |tk f b g=>omega
 |cl f b g=>omega
 |inj f b=>omega
theorem Did.write {s e:MSt} {x:Sp} {a:aN} {n:Int} (ok:dZ s) (m:wT x) (d:Did s x a e) (j:x.okB=true) (k:x.k=2) (c:s.ct.ld.c.has x.ln):a=⟨0,0,ln0⟩∧e.idl=mF s.idl x.ln x.dt∧∃b,e.ct=s.ct.put (s.ct.ix x.ln) x.dt false∧b=e.ct:=by
 have i:=d.idl;unfold wU at i;rw[Fp ⟨j,.inl k,c⟩,Fp k,CY (ok.gok x.ln).1 m.dl]at i;cases d with
 |wr d b c f=>unfold Wrt at f;rw[Fp rfl]at f;obtain⟨rfl,rfl⟩:=f;exact⟨rfl,i,_,rfl,rfl⟩
 |bad d=>rw[j]at d;cases d
 |no d b g=>
  rcases g with g|g
  ·exact absurd c g
  ·omega
 |rd d b c o=>omega
 |ma d b c l f=>omega
 |sc d b o=>omega
 |idle d b l=>omega
 |cp d b l h=>omega
 |tk d b h=>omega
 |cl d b h=>omega
 |inj d b=>omega
theorem Did.job {s j:MSt} {x:Sp} {a:aN} (ok:dZ s) (f:Did s x a j):(x.okB=true∧x.k=5∧s.ct.ld.rp.k≠0∧tO s.ct.ld.rp j.ct.ld.rp)∨(¬(x.okB=true∧x.k=5∧s.ct.ld.rp.k≠0)∧eF s.ct.ld.rp j.ct.ld.rp):=by
 have m:∀{s d:CtSt} {l:Int} {b:Bool},Readed s l b d→eF s.ld.rp d.ld.rp:=fun{s d l b} f=>by
  obtain⟨g,c,rfl⟩:=f;split
  ·exact c.rp
  ·exact c.rp
 have n:∀{s d:CtSt} {l:Int} {h:List Int} {x:Nat} {e:Int},Wrt s l h x e d→eF s.ld.rp d.ld.rp:=fun{s d l h x e} f=>by
  unfold Wrt at f;split at f
  ·rw[f.2];exact eF.refl _
  ·obtain⟨g,c,_,rfl⟩:=f;split<;>exact c.rp
 cases f with
 |bad f=>exact .inr ⟨fun i=>by rw[f]at i;exact absurd i.1 (by decide),eF.refl _⟩
 |no f c q=>exact .inr ⟨fun i=>by omega,eF.refl _⟩
 |rd f c o d=>exact .inr ⟨fun i=>by omega,m d⟩
 |wr f c o d=>exact .inr ⟨fun i=>by omega,n d⟩
 |ma f c o g d=>exact .inr ⟨fun i=>by omega,n d⟩
 |sc f c d=>exact .inr ⟨fun i=>by omega,m (s:=s.ct.nextCur) d⟩
 |idle f c g=>exact .inr ⟨fun i=>i.2.2 g,eF.refl _⟩
 |cp f c g h=>obtain⟨r,l,k,⟨v,u,t,p,rfl⟩,rfl⟩:=h;refine .inl ⟨f,c,g,?_⟩;rw[k.rp g]at p;exact p
 |tk f c h=>refine .inr ⟨fun i=>by omega,?_⟩;show eF _ (CtSt.ld _).rp;rw[h.rp.1];exact eF.refl _
 |cl f c h=>refine .inr ⟨fun i=>by omega,?_⟩;show eF _ (CtSt.ld _).rp;rw[h.rp.1];exact eF.refl _
 |inj f c=>exact .inr ⟨fun i=>by omega,eF.refl _⟩
theorem cV.zero (c:cV x) (b:x.k=0):x.f=0∧x.g=0∧x.n=0:=by
 rcases c.job with a|a|a
 ·exact a.2
 ·omega
 ·omega
end
section
open Go.RowKit Go.Shelf lin
attribute [local go_sem] Oper.semAt_some cK
def lJ (k:Int):List Nat:=if k=1 then[1,2,3,4,6]else if k=2 then[1,2,3,4,6,7]else if k=3 then[1,2,3,5,7]else if k=4 then[1,2,4,5,7]else if k=5 then[1,5,7]else if k=6 then[1,2,3,4]else[]
def tY (b off:Nat) (l:List Nat):List Na:=l.map fun j=>.pointer (S ⟨b,off+j,N⟩)
def Gu (k:Int) (b off:Nat) (w:Mz) (e:Ending) (w':Mz):Prop:=∃a c,e=E (.slice a (lJ k).length c)∧Nc w.heap.size w w'∧((lJ k).length=0∨∃g,a=S ⟨g,0,N⟩∧w.heap.size≤g∧w'.heap[g]?=S (O (tY b off (lJ k)).toArray 172))
theorem Y7 (k:Int) (b off:Nat) (w:Mz) (m:w.cell? ⟨b,off,N⟩=S (I Z k)):Nb Y 72 #[.pointer (S ⟨b,off,N⟩)] w (Gu k b off w):=by
 by_cases a:k=1∨k=2∨k=3∨k=4∨k=5∨k=6
 ·rcases a with a|a|a|a|a|a
  all_goals
   have g:=aA a;rw[a]at m ⊢;clear a;go_in;go_wp2_with fail
   first
    |(have T:Hid (k=2):=g;clear T;refine eK (by kernel_rfl) (iK [0,1,2,3,4,5,6,7,8,9,10,11,12,13,14,15,16,17] [18] [19] (by kernel_rfl) ?_))
    |(have T:Hid (k=6):=g;clear T;refine eK (by kernel_rfl) (iK [0,1,2,3,4,5,6,7,8,9,10,11] [12] [13] (by kernel_rfl) ?_))
    |(have T:Hid (k=5):=g;clear T;refine eK (by kernel_rfl) (iK [0,1,2,3,4,5,6,7,8] [9] [10] (by kernel_rfl) ?_))
    |refine eK (by kernel_rfl) (iK [0,1,2,3,4,5,6,7,8,9,10,11,12,13,14] [15] [16] (by kernel_rfl) ?_)
   simp only[aM,d8]
   repeat
    with_reducible refine dS fun K f=>?_
    go_simp
    try first
     |(apply Ei
       intro h a;obtain⟨c,d⟩:=a.cells;go_simp
       rfl)
     |(with_reducible refine aQ ?_ ?_;first|decide|simp[Nd];done)
    refine f _ ?_;clear f K
   with_reducible refine dR ?_
   with_reducible refine jX fun j c h f=>?_
   go_simp;refine f _ _ (Ka c) ?_;clear f h;with_reducible refine iJ fun l d=>?_
   have i:=aH c d;clear c d;go_wp2_with fail;refine dT ?_;go_wp2_with fail;go_ret;have⟨c,d⟩:=i.out;exact⟨_,_,rfl,aK (Ka c) d,.inr ⟨_,rfl,c.size,(aE d (aG _ _ _ rfl)).trans (by simp[tY,lJ,Nat.add_assoc])⟩⟩
 have c:¬k=1:=by omega
 have d:¬k=2:=by omega
 have f:¬k=3:=by omega
 have g:¬k=4:=by omega
 have h:¬k=5:=by omega
 have i:¬k=6:=by omega
 clear a;have e:lJ k=[]:=by unfold lJ;simp only[Fn c,Fn d,Fn f,Fn g,Fn h,Fn i]
 go_in;go_wp2_with fail;go_ret;exact⟨N,0,by rw[e];rfl,Bl,.inl (by rw[e];rfl)⟩
end
section
open Go.RowKit Go.Shelf lin
attribute [local go_sem] Oper.semAt_some cK Mh
attribute [local simp] Mf Mg
theorem Sp.size {x:Sp} (a:x.dt.length=64):x.vals.size=75:=by unfold Sp.vals aZ.cells;simp[aP,a]
theorem Sp.c0 (x:Sp):x.vals[0]?=S (I Z x.k):=by
 have e:x.vals=#[I Z x.k,I Z x.ln]++(aD .u8 x.dt++(#[.int .u64 x.ms]++x.f.cells.toArray)):=by unfold Sp.vals;simp only[Array.append_assoc]
 rw[e,Array.getElem?_append_left (by simp)];rfl
theorem Sp.c1 (x:Sp):x.vals[1]?=S (I Z x.ln):=by
 have e:x.vals=#[I Z x.k,I Z x.ln]++(aD .u8 x.dt++(#[.int .u64 x.ms]++x.f.cells.toArray)):=by unfold Sp.vals;simp only[Array.append_assoc]
 rw[e,Array.getElem?_append_left (by simp)];rfl
theorem Sp.cd {x:Sp} (a:x.dt.length=64) (b:i<64):x.vals[2+i]?=S (.int .u8 (x.dt.getD i 0)):=by
 have e:x.vals=#[I Z x.k,I Z x.ln]++(aD .u8 x.dt++(#[.int .u64 x.ms]++x.f.cells.toArray)):=by unfold Sp.vals;simp only[Array.append_assoc]
 rw[e,Array.getElem?_append_right (by simp),Array.getElem?_append_left (by simp[aP,a];omega)];unfold aD;simp[a,b,Nf]
theorem Sp.cm {x:Sp} (a:x.dt.length=64):x.vals[66]?=S (.int .u64 x.ms):=by
 have e:x.vals=(#[I Z x.k,I Z x.ln]++aD .u8 x.dt)++(#[.int .u64 x.ms]++x.f.cells.toArray):=by unfold Sp.vals;simp only[Array.append_assoc]
 have b:(#[I Z x.k,I Z x.ln]++aD .u8 x.dt:Array Na).size=66:=by simp[aP,a]
 rw[e,Array.getElem?_append_right (by omega),b];rfl
theorem Sp.cf {x:Sp} (a:x.dt.length=64) (i:Nat):x.vals[67+i]?=x.f.cells[i]?:=by
 have b:(#[I Z x.k,I Z x.ln]++aD .u8 x.dt++#[.int .u64 x.ms]:Array Na).size=67:=by simp[aP,a]
 unfold Sp.vals;rw[Array.getElem?_append_right (by omega),b,Nat.add_sub_cancel_left];simp
theorem Sp.list (x:Sp):x.vals.toList=[I Z x.k,I Z x.ln]++(x.dt.map (I .u8)++(.int .u64 x.ms::x.f.cells)):=by unfold Sp.vals aD;simp
theorem Sp.set1 (x:Sp) (l:Int):x.vals.setIfInBounds 1 (I Z l)=({x with ln:=l}:Sp).vals:=by apply Array.ext';rw[Array.toList_setIfInBounds,Sp.list,Sp.list];rfl
theorem Sp.set66 {x:Sp} (a:x.dt.length=64) (m:Nat):x.vals.setIfInBounds 66 (.int .u64 m)=({x with ms:=m}:Sp).vals:=by apply Array.ext';rw[Array.toList_setIfInBounds,Sp.list,Sp.list,←List.append_assoc,←List.append_assoc,List.set_append_right _ _ (by simp[a])];simp[a]
theorem Sp.setd {x:Sp} (a:x.dt.length=64) (d:List Int) (b:d.length=64):(x.vals.toList.take 2++(aD .u8 d).toList++x.vals.toList.drop 66).toArray=({x with dt:=d}:Sp).vals:=by
 apply Array.ext';rw[Sp.list,Sp.list];have e:([I Z x.k,I Z x.ln]++(x.dt.map (I .u8)++(.int .u64 x.ms::x.f.cells)):List Na).drop 66=.int .u64 x.ms::x.f.cells:=by rw[←List.append_assoc,List.drop_append_of_le_length (by simp[a]),List.drop_of_length_le (by simp[a])];rfl
 rw[e];simp[aD]
theorem Gv (k:Int):zeroCells45.setIfInBounds 0 (I Z k)=(⟨k,0,ln0,0,dQ⟩:Sp).vals:=by kernel_rfl
theorem Gw (k:Int):(⟨8,0,ln0,0,dQ⟩:Sp).vals.setIfInBounds 67 (I Z k)=(⟨8,0,ln0,0,{dQ with k:=k}⟩:Sp).vals:=by kernel_rfl
theorem Sp.one (x:Sp):x.vals.all (·.oneCell')=true:=by unfold Sp.vals aD aZ.cells;simp[Nq]
def mW (R:Array Na) (f:aZ) (l:List Nat):Array Na:=l.foldl (fun a o=>a.setIfInBounds (67+o) (f.cells.getD o Nd)) R
theorem Gx (R:Array Na) (f:aZ) (l:List Nat):(mW R f l).size=R.size:=by
 unfold mW
 induction l generalizing R with
 |nil=>rfl
 |cons b l a=>rw[List.foldl_cons,a];simp
theorem Gy (R:Array Na) (f:aZ) (l:List Nat) (o:Nat):mW R f (l++[o])=(mW R f l).setIfInBounds (67+o) (f.cells.getD o Nd):=by unfold mW;rw[List.foldl_append];rfl
theorem Gz (k:Int):∀b∈lJ k,b<8:=by
 unfold lJ;intro b a;split at a
 ·simp at a;omega
 split at a
 ·simp at a;omega
 split at a
 ·simp at a;omega
 split at a
 ·simp at a;omega
 split at a
 ·simp at a;omega
 split at a
 ·simp at a;omega
 ·cases a
theorem Hb (k:Int):(lJ k).length≤6:=by
 unfold lJ;repeat(split;(first|decide|skip))
 decide
theorem Hc (f:aZ) {o:Nat} (k:o<8):∃j:Int,f.cells[o]?=S (I Z j)∧f.cells.getD o Nd=I Z j:=by
 rcases f with⟨a,b,c,d,e,g,h,i⟩
 match o,k with
 |0,_=>exact⟨a,rfl,rfl⟩
 |1,_=>exact⟨b,rfl,rfl⟩
 |2,_=>exact⟨c,rfl,rfl⟩
 |3,_=>exact⟨d,rfl,rfl⟩
 |4,_=>exact⟨e,rfl,rfl⟩
 |5,_=>exact⟨g,rfl,rfl⟩
 |6,_=>exact⟨h,rfl,rfl⟩
 |7,_=>exact⟨i,rfl,rfl⟩
def f8 (k:Int):Sp:=⟨8,0,ln0,0,{dQ with k:=k}⟩
theorem Hd (r b d c ch bt vl:Int):mW (f8 1).vals ⟨1,r,b,d,c,ch,bt,vl⟩ [1,2,3,4,6]=(⟨8,0,ln0,0,⟨1,r,b,d,c,0,bt,0⟩⟩:Sp).vals:=by kernel_rfl
theorem He (r b d c ch bt vl:Int):mW (f8 2).vals ⟨2,r,b,d,c,ch,bt,vl⟩ [1,2,3,4,6,7]=(⟨8,0,ln0,0,⟨2,r,b,d,c,0,bt,vl⟩⟩:Sp).vals:=by kernel_rfl
theorem Hf (r b d c ch bt vl:Int):mW (f8 3).vals ⟨3,r,b,d,c,ch,bt,vl⟩ [1,2,3,5,7]=(⟨8,0,ln0,0,⟨3,r,b,d,0,ch,0,vl⟩⟩:Sp).vals:=by kernel_rfl
theorem Hg (r b d c ch bt vl:Int):mW (f8 4).vals ⟨4,r,b,d,c,ch,bt,vl⟩ [1,2,4,5,7]=(⟨8,0,ln0,0,⟨4,r,b,0,c,ch,0,vl⟩⟩:Sp).vals:=by kernel_rfl
theorem Hh (r b d c ch bt vl:Int):mW (f8 5).vals ⟨5,r,b,d,c,ch,bt,vl⟩ [1,5,7]=(⟨8,0,ln0,0,⟨5,r,0,0,0,ch,0,vl⟩⟩:Sp).vals:=by kernel_rfl
theorem Hi (r b d c ch bt vl:Int):mW (f8 6).vals ⟨6,r,b,d,c,ch,bt,vl⟩ [1,2,3,4]=(⟨8,0,ln0,0,⟨6,r,b,d,c,0,0,0⟩⟩:Sp).vals:=by kernel_rfl
theorem Hj (f:aZ):mW (f8 f.k).vals f (lJ f.k)=(⟨8,0,ln0,0,f.own⟩:Sp).vals:=by
 rcases f with⟨l,m,b,n,o,a,c,d⟩;unfold aZ.own lJ;by_cases e:l=1
 ·subst e;exact Hd m b n o a c d
 by_cases g:l=2
 ·subst g;exact He m b n o a c d
 by_cases h:l=3
 ·subst h;exact Hf m b n o a c d
 by_cases i:l=4
 ·subst i;exact Hg m b n o a c d
 by_cases j:l=5
 ·subst j;exact Hh m b n o a c d
 by_cases k:l=6
 ·subst k;exact Hi m b n o a c d
 simp only[Fn e,Fn g,Fn h,Fn i,Fn j,Fn k];rfl
theorem jC (W:Mz) (b j:Nat) (v:Na):aF (fun a=>a=b) W (W.setCell ⟨b,j,N⟩ v):=aF.setCell (cw:=fun a=>a=b) Cl (p:=⟨b,j,N⟩) (.inl rfl) v
theorem Hk (k ln:Int) (dt:List Int) (ms:Nat) (f:aZ) (c:dt.length=64) (w:Mz):Nb Y 44 #[.agg (⟨k,ln,dt,ms,f⟩:Sp).vals] w fun e d=>e=E (.agg (⟨k,ln,dt,ms,f⟩:Sp).bare.vals)∧Nc w.heap.size w d:=by
 have⟨X,j⟩:=Ex (⟨k,ln,dt,ms,f⟩:Sp).vals;have⟨ab,a⟩:=Ex ((w.alloc (O X 45)).alloc (O zeroCells45 45));have o:aC w ab:=by rw[a];exact gH
 have i:ab.heap[w.heap.size]?=S (O X 45):=by rw[a,aV _ _ _ (by simp)];exact aG _ _ _ rfl
 have g:ab.heap[w.heap.size+1]?=S (O zeroCells45 45):=by rw[a];exact aG _ _ _ (by simp)
 have r:=Cw i 0;rw[j,Sp.c0]at r;rw[←j];have p:=aA j;clear j;have q:=aB i;have s:=Hd3 o i g;clear o i g;go_in;go_upto_region 1 with fail;rw[←a];clear a;have j:(Me ⟨ab.heap.size,0,N⟩ (zeroCells45.toList.set 0 (I .i64 k)) 0).run Y (ab.alloc (O zeroCells45 45))=.ok () (ab.alloc (O (⟨k,0,ln0,0,dQ⟩:Sp).vals 45)):=by rw[←Array.toList_setIfInBounds,Gv];exact Mi ab 45 _ _ (by rw[Sp.size rfl];kernel_rfl) (by rw[Sp.size rfl];kernel_rfl) (Sp.one _)
 have⟨J,a⟩:=Ex (ab.alloc (O (⟨k,0,ln0,0,dQ⟩:Sp).vals 45));rw[←a]at j;have l:aC ab J:=by rw[a];exact Ka (K.refl ab)
 have n:J.heap[ab.heap.size]?=S (O (⟨k,0,ln0,0,dQ⟩:Sp).vals 45):=by rw[a];exact aG _ _ _ rfl
 clear a;have⟨o,i,g⟩:=s.out;have B:w.heap.size+1<ab.heap.size:=aB g;have⟨m,a⟩:=Ex ab.heap.size;rw[←a]at n B;have t:=aA a;clear a;have d:=aE l i;have h:=aE l g;have⟨f0,f1⟩:=bQ d;rw[p.out,Sp.c0]at f0;rw[p.out,Sp.c1]at f1;have a:=nF (aK o l) n d h B p.out c;have an:=aB d;have ar:=aB n;clear s o i g l n d h c p;go_upto_region 2 with fail;rw[←t.out];clear j t r q
 have s:Hid (∀(W:Mz) (o:Sp),aF (fun b=>b=m) J W→W.heap[m]?=S (O o.vals 45)→o.dt.length=64→∃Q:Array Na,Q=o.vals∧Q.size=75∧(Mc ⟨m,0,N⟩ 0 75 #[]).run Y W=.ok Q W∧(Me ⟨w.heap.size+1,0,N⟩ Q.toList 0).run Y W=.ok () (W.setRow (w.heap.size+1) Q)∧Nc w.heap.size w (W.setRow (w.heap.size+1) Q)∧(W.setRow (w.heap.size+1) Q).heap[w.heap.size+1]?=S (O Q 45)):=aA (fun W o j q c=>by
  have⟨l,n,d,h,B,_,_⟩:=a.out;have g:=aJ j h (by omega)
  refine⟨_,rfl,Sp.size c,fJ W _ _ 45 (0,0) q 75 (Sp.size c),jV W _ _ _ 45 g (by rw[Sp.size c];kernel_rfl) (Sp.one _),Oi ((K.chg l j).below Nl fun p i=>by omega) (Ob _) _,Hw g _⟩)
 by_cases h1:k=1
 ·subst h1
  have r:=Cw a.out.2.1 1;have F:=Fw a.out.2.1 1;rw[Sp.c1]at r;go_upto_region 17 with fail;have j:=jC J m 1 (I .i64 ln);have h:(J.setCell ⟨m,1,N⟩ (I .i64 ln)).heap[m]?=S (O (⟨1,ln,ln0,0,dQ⟩:Sp).vals 45):=by rw[Hs 1 _ a.out.2.1,Sp.set1]
  obtain⟨Q,l,i,V,g2,n,o⟩:=s.out _ ⟨1,ln,ln0,0,dQ⟩ j h rfl;have t:=aA l;clear l;go_wp2_with fail;exact Ng (Oh (P:=Y) results44 _ _ (w.heap.size+1) 45 Q (0,0) _ rfl o underlying45 rfl (by rw[i];kernel_rfl)) rfl ⟨by rw[t.out,show(⟨1,ln,dt,ms,f⟩:Sp).bare=⟨1,ln,ln0,0,dQ⟩ by unfold Sp.bare;rw[Fp rfl]],n⟩
 have A:(Mc ⟨w.heap.size,2,N⟩ 0 64 #[]).run Y J=.ok (aD .u8 dt) J:=by
  have⟨l,n,d,h,B,j,c⟩:=a.out
  have:=lL (P:=Y) J w.heap.size 2 (dt.map (Na.int .u8)) (fun p o g=>by
   rw[Cw d (2+p),j];have i:p<64:=by have:=(Ol.1 g).1;simp[c]at this;exact this
   rw[Sp.cd c i,←g]
   simp[Nf,c,i])
  rw[Nw,c]at this;exact this
 have g:=jC J m 1 (I .i64 ln);have j:(aD .u8 dt).toList.length=64:=by have:=a.out.2.2.2.2.2.2;simp[aD,this]
 have y:(aD .u8 dt).size=64:=by rw[aP];exact a.out.2.2.2.2.2.2
 by_cases h2:k=2
 ·subst h2
  have r:=Cw a.out.2.1 1;have F:=Fw a.out.2.1 1;rw[Sp.c1]at r;have h:(J.setCell ⟨m,1,N⟩ (I .i64 ln)).heap[m]?=S (O (⟨2,ln,ln0,0,dQ⟩:Sp).vals 45):=by rw[Hs 1 _ a.out.2.1,Sp.set1]
  have p:=Mo (P:=Y) m 2 45 (aD .u8 dt).toList 0 _ _ h (by rw[j,Sp.size rfl];decide) (fun bs c=>by simp[aD]at c;obtain⟨d,_,rfl⟩:=c;rfl);rw[j,Sp.setd rfl dt a.out.2.2.2.2.2.2]at p;have c:=Hw h (⟨2,ln,dt,0,dQ⟩:Sp).vals;have d:=g.trans (kO (J.setCell ⟨m,1,N⟩ (I .i64 ln)) m (⟨2,ln,dt,0,dQ⟩:Sp).vals);have v:=aH c d;clear h c d g j;go_upto_region 17 with fail;have⟨c,d⟩:=v.out;obtain⟨Q,l,i,V,g2,n,o⟩:=s.out _ ⟨2,ln,dt,0,dQ⟩ d c a.out.2.2.2.2.2.2;have t:=aA l;clear l;go_wp2_with fail;exact Ng (Oh (P:=Y) results44 _ _ (w.heap.size+1) 45 Q (0,0) _ rfl o underlying45 rfl (by rw[i];kernel_rfl)) rfl ⟨by rw[t.out,show(⟨2,ln,dt,ms,f⟩:Sp).bare=⟨2,ln,dt,0,dQ⟩ by unfold Sp.bare;rw[Fn (show¬(2:Int)=1 by decide),Fp rfl]],n⟩
 by_cases h3:k=3
 ·subst h3
  have r:=Cw a.out.2.1 1;have F:=Fw a.out.2.1 1;rw[Sp.c1]at r;have H:=Cw a.out.2.2.1 66;rw[a.out.2.2.2.2.2.1,Sp.cm a.out.2.2.2.2.2.2]at H;have h:(J.setCell ⟨m,1,N⟩ (I .i64 ln)).heap[m]?=S (O (⟨3,ln,ln0,0,dQ⟩:Sp).vals 45):=by rw[Hs 1 _ a.out.2.1,Sp.set1]
  have p:=Mo (P:=Y) m 2 45 (aD .u8 dt).toList 0 _ _ h (by rw[j,Sp.size rfl];decide) (fun bs c=>by simp[aD]at c;obtain⟨d,_,rfl⟩:=c;rfl);rw[j,Sp.setd rfl dt a.out.2.2.2.2.2.2]at p;have c:=Hw h (⟨3,ln,dt,0,dQ⟩:Sp).vals;have d:=g.trans (kO (J.setCell ⟨m,1,N⟩ (I .i64 ln)) m (⟨3,ln,dt,0,dQ⟩:Sp).vals);have⟨z,q⟩:=Ex ((J.setCell ⟨m,1,N⟩ (I .i64 ln)).setRow m (⟨3,ln,dt,0,dQ⟩:Sp).vals);rw[←q]at p c d;clear q;have C:=Cw c 66;have D:=Fw c 66;rw[Sp.cm (x:=⟨3,ln,dt,0,dQ⟩) a.out.2.2.2.2.2.2]at C;have u:(z.setCell ⟨m,66,N⟩ (.int .u64 ms)).heap[m]?=S (O (⟨3,ln,dt,ms,dQ⟩:Sp).vals 45):=by rw[Hs 66 _ c,Sp.set66 a.out.2.2.2.2.2.2]
  have v:=aH u (d.trans (jC z m 66 (.int .u64 ms)));clear h c d g u j;go_upto_region 17 with fail;have⟨c,d⟩:=v.out;obtain⟨Q,l,i,V,g2,n,o⟩:=s.out _ ⟨3,ln,dt,ms,dQ⟩ d c a.out.2.2.2.2.2.2;have t:=aA l;clear l;go_wp2_with fail;exact Ng (Oh (P:=Y) results44 _ _ (w.heap.size+1) 45 Q (0,0) _ rfl o underlying45 rfl (by rw[i];kernel_rfl)) rfl ⟨by rw[t.out,show(⟨3,ln,dt,ms,f⟩:Sp).bare=⟨3,ln,dt,ms,dQ⟩ by unfold Sp.bare;rw[Fn (show¬(3:Int)=1 by decide),Fn (show¬(3:Int)=2 by decide),Fp rfl]],n⟩
 clear A g j y;by_cases h8:k=8
 ·subst h8
  have r:=Cw a.out.2.1 67;have F:=Fw a.out.2.1 67;rw[Sp.cf (x:=⟨8,0,ln0,0,dQ⟩) rfl 0]at r;have H:=Cw a.out.2.2.1 67;rw[a.out.2.2.2.2.2.1,Sp.cf (x:=⟨8,ln,dt,ms,f⟩) a.out.2.2.2.2.2.2 0]at H;unfold aZ.cells at H r;simp at H r;have h:(J.setCell ⟨m,67,N⟩ (I .i64 f.k)).heap[m]?=S (O (f8 f.k).vals 45):=by rw[Hs 67 _ a.out.2.1,Gw];rfl
  have g:=jC J m 67 (I .i64 f.k);have⟨R,L⟩:=Ex (J.setCell ⟨m,67,N⟩ (I .i64 f.k));rw[←L]at h g;have av:=aA L;clear L;have C:w.heap.size≠m:=by have:=a.out.2.2.2.2.1;omega
  have G:=aJ g a.out.2.2.1 C;have D:R.cell? ⟨m,67,N⟩=S (I .i64 f.k):=by rw[Cw h 67,Sp.cf (x:=f8 f.k) rfl 0];rfl
  have c:R.cell? ⟨w.heap.size,67,N⟩=S (I .i64 f.k):=by rw[Cw G 67,a.out.2.2.2.2.2.1,Sp.cf (x:=⟨8,ln,dt,ms,f⟩) a.out.2.2.2.2.2.2 0];rfl
  have u:=aB h;have v:=aB G;have HN:=aA fun W (d:aC R W)=>Y7 f.k m 67 W (by rw[d.cells.1 m 67 u];exact D);have ba:=aA fun W (d:aC R W)=>Y7 f.k w.heap.size 67 W (by rw[d.cells.1 _ 67 v];exact c);have H1:=eQ h g G u v C;clear h g G D c u v;go_upto_region 11 with fail;rw[←av.out];clear r F H f0 f1 an ar;go_wp2_with fail;refine(HN.out R Kr).mono ?_;rintro e W3 ⟨a3,c3,rfl,p,y⟩;have T:=aH p y;clear p y;go_wp2_with fail;refine(ba.out W3 T.out.1).mono ?_;rintro e W4 ⟨a4,c4,rfl,q,z⟩;have H4:=aH q z;clear q z;have⟨ae,hL⟩:=Ex (lJ f.k);rw[←hL]at T H4 ⊢;have HL:=aA hL;clear hL;have bv:ae.length≤6:=by rw[HL.out];exact Hb _
  go_wp2_with fail;go_loopw [48] (fun c W=>∃U:Nat,U≤ae.length∧c=I .i64 U∧W.heap[m]?=S (O (mW (f8 f.k).vals f (ae.take U)) 45)∧aF (fun b=>b=m) W4 W) fun c _=>ae.length-(intOf c).toNat
  case atStart=>exact⟨0,Nz _,rfl,(aE H4.out.1 (aE T.out.1 H1.out.1)),Cl⟩
  case round=>
   obtain⟨U,hj,rfl,A,j⟩:=hrel;by_cases bb:U<ae.length
   ·have ad:(U:Int)<ae.length:=by omega
    obtain⟨t,i⟩:∃t,ae[U]?=S t:=⟨_,Nu bb⟩;have V:t<8:=Gz f.k t (by rw[←HL.out];exact List.mem_of_getElem? i);have⟨p,y⟩:=T.out;have⟨q,z⟩:=H4.out;have⟨D,g,G,u,v,C⟩:=H1.out;obtain⟨n,rfl,aa,q3⟩:=y.resolve_left (by omega);obtain⟨o,rfl,an,q4⟩:=z.resolve_left (by omega);have z3:=p.size;have l:=aJ j (aE q q3) (show n≠m by omega);have r:=aJ j q4 (show o≠m by omega);have x3:=Cw l U;have x4:=Cw r U;have eL:∀b,(tY b 67 ae).toArray[U]?=S (.pointer (S ⟨b,67+t,N⟩)):=fun b=>by unfold tY;simp[i]
    rw[eL]at x3 x4;obtain⟨bs,d,h⟩:=Hc f V;have bR:=aJ j (aE q (aE p G)) C;have H:=Cw bR (67+t);rw[a.out.2.2.2.2.2.1,Sp.cf (x:=⟨8,ln,dt,ms,f⟩) a.out.2.2.2.2.2.2 t]at H;replace H:wr.cell? ⟨w.heap.size,67+t,N⟩=S (I .i64 bs):=H.trans d;have M:=Cw A (67+t);have F:=Fw A (67+t);have ar:(mW (f8 f.k).vals f (ae.take U)).size=75:=by rw[Gx];exact Sp.size rfl
    obtain⟨bx,hy⟩:∃bx,(mW (f8 f.k).vals f (ae.take U))[67+t]?=S bx:=⟨_,Array.getElem?_eq_getElem (by omega)⟩;rw[hy]at M;have L:=aB A;have bd:=aB bR;have bm:=aB l;have bn:=aB r;have br:=aH (IntWalk.wrap64_in ((U:Int)+1) ⟨by omega,by omega⟩) (IntWalk.i64_in ((U:Int)+1) ⟨by omega,by omega⟩);have HR:=bT A j i h;clear p y q z D g G u v q3 q4 l r eL d h bR A j i ar hy z3 aa an;go_wp2_with fail;refine eK (by kernel_rfl) (iK [0,1,2,3,4,5,6,7] [] [8] (by kernel_rfl) ?_);simp only[aM,d8]
    repeat
     with_reducible refine dS fun K g=>?_
     go_simp
     try first
      |(apply Ei
        intro d c;obtain⟨h,i⟩:=c.cells;go_simp
        rfl)
      |(with_reducible refine aQ ?_ ?_;first|decide|simp[Nd];done)
     refine g _ ?_;clear g K
    with_reducible refine dR ?_
    with_reducible refine iJ fun Q c=>?_
    have y9:Q.cell? ⟨m,67+t,N⟩=S bx:=by rw[c.cells.1 m _ L];exact M
    have z9:Q.frozen? ⟨m,67+t,N⟩=false:=by rw[c.cells.2 m _ L];exact F
    have H9:=aA c;clear c H x3 x4 M F bd bm bn;go_wp2_with fail;refine dT ?_;have⟨e9,bw⟩:=br.out;go_wp2_with fail;go_roundw
    case rel=>have⟨A,j,i,h⟩:=HR.out;have c:=aE H9.out A;refine⟨U+1,by omega,by simp,?_,(aF.keeps j H9.out).trans (jC Q m (67+t) (I .i64 bs))⟩;rw[Hs (67+t) _ c,List.take_add_one,i];rw[show(S t).toList=[t] from rfl,Gy,h]
    case measure=>simp[intOf];omega
   ·have ad:¬(U:Int)<ae.length:=by omega
    have aa:U=ae.length:=by omega
    have M:=A;rw[aa,List.take_length,HL.out,Hj]at M;have d:aF (fun b=>b=m) J wr:=H1.out.2.1.trans (aF.trans (aF.of_below (aK T.out.1 H4.out.1) _) j);obtain⟨Q,l,i,V,g2,n,o⟩:=s.out wr ⟨8,0,ln0,0,f.own⟩ d M rfl;have t:=aA l;clear l A M j d aa;go_wp2_with fail;exact Ng (Oh (P:=Y) results44 _ _ (w.heap.size+1) 45 Q (0,0) _ rfl o underlying45 rfl (by rw[i];kernel_rfl)) rfl ⟨by rw[t.out,show(⟨8,ln,dt,ms,f⟩:Sp).bare=⟨8,0,ln0,0,f.own⟩ by unfold Sp.bare;rw[Fn (show¬(8:Int)=1 by decide),Fn (show¬(8:Int)=2 by decide),Fn (show¬(8:Int)=3 by decide),Fp rfl]],n⟩
 ·go_upto_region 17 with fail;have h:=a.out.2.1;obtain⟨Q,l,i,V,g2,n,o⟩:=s.out J ⟨k,0,ln0,0,dQ⟩ Cl h rfl;have t:=aA l;clear l;go_wp2_with fail;exact Ng (Oh (P:=Y) results44 _ _ (w.heap.size+1) 45 Q (0,0) _ rfl o underlying45 rfl (by rw[i];kernel_rfl)) rfl ⟨by rw[t.out,show(⟨k,ln,dt,ms,f⟩:Sp).bare=⟨k,0,ln0,0,dQ⟩ by unfold Sp.bare;simp only[Fn h1,Fn h2,Fn h3,Fn h8]],n⟩
theorem Hl (x:Sp) (a:x.dt.length=64) (w:Mz):Nb Y 44 #[.agg x.vals] w fun e b=>e=E (.agg x.bare.vals)∧Nc w.heap.size w b:=Hk x.k x.ln x.dt x.ms x.f a w
theorem Hz:(Y.info? 152).map (fun a=>(a.zero,a.size,a.bytes))=S (S (.agg #[I Z 0,I Z 0,I Z 0,I Z 0,I Z 0,I Z 0,I Z 0,I Z 0,I Z 0,I Z 0]),10,80):=by kernel_rfl
theorem Ia (x:Int):zeroCells48.setIfInBounds 0 (I Z x)=#[I Z x,I Z 0]++aD .u8 ln0:=by kernel_rfl
theorem Ib {col:Nat→Nat} {s:MSt} (ok:dZ s) (u:n+2<bY) (f:aZ) (w:Mz) (h:dL y col s n w):Nb Y 40 #[y.ar,.agg f.cells.toArray] w fun e c=>∃(x:Int) (T:Nat→Nat),e=E (.agg (#[I Z x,I Z 0]++aD .u8 ln0))∧dL y T {s with ct:={s.ct with dv:=s.ct.dv.inj f} } (n+2) c∧aS KM col w T c:=by
 have⟨bx,a⟩:=Ex ((w.alloc (O f.cells.toArray 43)).alloc (O zeroCells48 48));have l:aC w bx:=by rw[a];exact gH
 have b3:bx.heap[w.heap.size]?=S (O f.cells.toArray 43):=by rw[a,aV _ _ _ (by simp)];exact aG _ _ _ rfl
 have o:bx.heap[w.heap.size+1]?=S (O zeroCells48 48):=by rw[a];exact aG _ _ _ (by simp)
 have j:∀V,w.heap.size≤V→col V=0:=h.top;have p:=h.keeps l;have v:=aA fun W (d:aC bx W)=>(F7 W ((p.ct.keeps d).dev)).mono (fun e c (h:_∧_)=>(⟨h.1,h.2▸Bl⟩:_∧Nc W.heap.size W c));generalize s.ct.dv.accs.length=r at v;obtain⟨vi,vs,A,c,g,q,t⟩:=p.row;have G:=nF p l b3 o j ok u;have hz:=aB A;have i:=aB b3;unfold MSt.row at A;unfold aZ.cells at b3;have⟨B,k⟩:=iO A 0 5;simp at B k;have LF:Hid (∀W,aC bx W→(Mc ⟨w.heap.size,0,N⟩ 0 8 #[]).run Y W=.ok #[I Z f.k,I Z f.r,I Z f.b,I Z f.d,I Z f.c,I Z f.ch,I Z f.bt,I Z f.vl] W):=aA fun W d=>Lw (aE d b3) 8 rfl;unfold cQ.ar aZ.cells at*;clear h p l b3 o j ok u A c g q t;go_in;go_upto_region 1 with fail;rw[←a];clear a;refine eK (by kernel_rfl) (iK [0,1,2,3,4,5,6,7,8,9,10] [11] [12] (by kernel_rfl) ?_);simp only[aM,d8]
 repeat
  with_reducible refine dS fun K h=>?_
  go_simp
  try first
   |(apply Ei
     intro c a;obtain⟨d,g⟩:=a.cells;have j:=LF.out _ a;go_simp
     first
      |(go_at_call 43;with_reducible exact l9 (v.out _ a))
      |rfl)
   |(with_reducible refine aQ ?_ ?_;first|decide|simp[Nd];done)
  refine h _ ?_;clear h K
 with_reducible refine dR ?_
 with_reducible refine jX fun W3 a K0 h=>?_
 go_simp;refine h _ _ (Ka a) ?_;clear h K0;with_reducible refine iJ fun W4 d=>?_
 have g:W4.heap[W3.heap.size]?=S (O #[I Z 0,I Z 0,I Z 0,I Z 0,I Z 0,I Z 0,I Z 0,I Z 0,I Z 0,I Z 0] 152):=aE d (aG _ _ _ rfl);have A:=Sw g #[I Z f.k,I Z f.r,I Z f.b,I Z f.d,I Z f.c,I Z f.ch,I Z f.bt,I Z f.vl,I Z s.sc,I Z r] rfl (by simp[Nq]);have H:=aB g;have c:aC W3 W4:=aK aU d;have H4:=Hd3 a c g;clear a d c g B k hz i;go_wp2_with fail;refine dT ?_;go_upto_region 2 with fail;have⟨a,c,g⟩:=H4.out;have⟨p,l,b3,o,j,ok,u⟩:=G.out;have i:bx.heap.size≤W3.heap.size:=a.size;have⟨bz,D⟩:=Ex W3.heap.size;rw[←D]at g i A ⊢;have⟨W5,k⟩:=Ex (W4.setRow bz #[I Z f.k,I Z f.r,I Z f.b,I Z f.d,I Z f.c,I Z f.ch,I Z f.bt,I Z f.vl,I Z s.sc,I Z r]);have z:W5.heap[bz]?=S (O #[I Z f.k,I Z f.r,I Z f.b,I Z f.d,I Z f.c,I Z f.ch,I Z f.bt,I Z f.vl,I Z s.sc,I Z r] 152):=by rw[k];exact Hw g _
 have q:aC bx W5:=by rw[k];exact Oi (aK a c) i _
 rw[←k];have h:=p.keeps q;have ae:=aA fun W (d:aC W5 W)=>LF.out W (aK q d);obtain⟨cc,cd,t,_⟩:=h.row;have F:=aB t;unfold MSt.row at t;have B:=Cw t 0;simp at B;have C:=aA fun W (d:aC W5 W)=>Ab ok.ct.dv (show n<bY by omega) f W (h.ct.keeps d).dev;unfold aZ.cells at C;have M:=bT h q z i;have⟨Q,d⟩:=Ey (s.ct.dv.dr.inj f).1;rw[d]at C;clear a c g p l b3 o j ok u i D k z q h t d A H v;refine eK (by kernel_rfl) (iK [0,1,2,3,4] [] [5,6] (by kernel_rfl) ?_);simp only[aM,d8]
 repeat
  with_reducible refine dS fun K h=>?_
  go_simp
  try first
   |(apply Ei
     intro c a;obtain⟨d,g⟩:=a.cells;have j:=ae.out _ a;go_simp
     rfl)
   |(with_reducible refine aQ ?_ ?_;first|decide|simp[Nd];done)
  refine h _ ?_;clear h K
 with_reducible refine dR ?_
 with_reducible refine iJ fun W6 a=>?_
 have D:=aA (C.out W6 a);have v:=aA a;clear C a B F;go_wp2_with fail;refine D.out.mono ?_;rintro e R ⟨rfl,B,C⟩;have⟨h,q,z,i⟩:=M.out;have⟨p,l,b3,o,j,ok,u⟩:=G.out;have A:=h.keeps v.out;obtain⟨F,d⟩:=A.ct.setDev B (Ob n) C;have c:=A.setCt F (Ob n) (d.mono fun V U=>by unfold KC;omega);have H:=l.size;have J:=aB o;have k:=d.at (aE v.out z) (by rw[j bz (by omega)];decide);have g:=d.at (aE v.out (aE q o)) (by rw[j _ (by omega)];decide);have t:fX col W6.heap.size R.heap.size 8 bz=0:=(d.old _ (aB (aE v.out z))).trans (j bz (by omega));have t4:fX col W6.heap.size R.heap.size 8 (w.heap.size+1)=0:=(d.old _ (aB (aE v.out (aE q o)))).trans (j _ (by omega));have a:aS KM col w (fX col W6.heap.size R.heap.size 8) R:=(aS.keeps (aK l (aK q v.out))).trans (d.mono fun V U=>by unfold KM;omega);generalize fX col W6.heap.size R.heap.size 8=c7 at*;have U:=eQ c k g t t4 a;have HN:=aA u;clear h q z i p l b3 o j ok u A F d c H J k g t t4 a B C;go_wp2_with fail;refine dT ?_;go_upto_if 25 with fail;have⟨s7,d⟩:=Ex ({s with ct:={s.ct with dv:=s.ct.dv.inj f} }:MSt);have⟨c,k,g,t,t4,a⟩:=U.out;rw[←d]at c;have an:=aA d;have HH:=eQ c k g t t4 a;clear c k g t t4 a U d M v D G;go_cut [] from 25 to 36 fun c=>∃a,dL y a s7 (n+2) c∧aS KM col w a c∧c.heap[w.heap.size+1]?=S (O zeroCells48 48)∧a (w.heap.size+1)=0
 case first=>
  cases he:(Q==0)
  ·go_wp2_with fail;go_meet;have⟨c,k,g,t,t4,a⟩:=HH.out;exact⟨c7,c.mono (Ob _),a,g,t4⟩
  ·obtain⟨i0,ar,ba,bb,bd⟩:=info_parts Hz
   have⟨c,k,g,t,t4,a⟩:=HH.out;obtain⟨cl,vs,A,⟨L,hL,hl⟩,_,ho,_⟩:=c.row;obtain⟨av,D,rfl⟩:=hL.slice;have HV:=bT A hL hl ho;have hz:=aB A;have bm:=aB k;unfold MSt.row at A;have q3:=Cw A 3;simp at q3;have LA:Hid (∀W,aC R W→(Mc ⟨bz,0,N⟩ 0 10 #[]).run Y W=.ok #[I Z f.k,I Z f.r,I Z f.b,I Z f.d,I Z f.c,I Z f.ch,I Z f.bt,I Z f.vl,I Z s.sc,I Z r] W):=aA fun W d=>Lw (aE d k) 10 rfl;have⟨m,B⟩:=Ey L.length;rw[B]at HV q3;clear c k g t t4 a A hL hl ho;have HM:=aA B;clear B;go_wp2_with fail;refine vO [0] [1,2,3,4] [5] [6] [7,8,9,10] (by kernel_rfl) (by kernel_rfl) ?_;simp only[aM,d8]
   repeat(
    with_reducible refine i9 fun K h=>?_
    go_simp;unfold gI;apply Ei
    ·intro c a;go_simp;exact⟨rfl,rfl⟩
    refine h _ ?_
    clear h K)
   with_reducible refine eZ ?_
   repeat(
    with_reducible refine i9 fun K h=>?_
    go_simp;unfold gI;apply Ei
    ·intro c a;obtain⟨d,g⟩:=a.cells;go_simp;exact⟨rfl,rfl⟩
    refine h _ ?_
    clear h K)
   with_reducible refine eZ ?_
   repeat
    with_reducible refine Nh fun K h=>?_
    go_simp
    try first
     |(apply Ei
       intro c a;obtain⟨d,g⟩:=a.cells;have i:=LA.out _ a;go_simp
       rfl)
     |(with_reducible refine aQ ?_ ?_;first|decide|simp[Nd];done)
    refine h _ ?_;clear h K
   with_reducible refine Ni ?_
   intro w9 X;with_reducible refine kZ fun K0 h=>?_
   go_simp;refine h _ _ (Ka X) ?_;clear h K0;with_reducible refine lX ?_
   have⟨aa,J,ad,u⟩:=HV.out;have⟨c,k,g,t,t4,a⟩:=HH.out;have B:=HM.out;have i:aC R (w9.alloc (O #[I Z f.k,I Z f.r,I Z f.b,I Z f.d,I Z f.c,I Z f.ch,I Z f.bt,I Z f.vl,I Z s.sc,I Z r] 152)):=Ka X;have U:(w9.alloc (O #[I Z f.k,I Z f.r,I Z f.b,I Z f.d,I Z f.c,I Z f.ch,I Z f.bt,I Z f.vl,I Z s.sc,I Z r] 152)).ownsRow 0 152 10 (.slice av m D) m L.flatten:=by have:=(J.keeps i).own;rw[B]at this;exact this
   have p:=aE i aa;have b9:=aE i g;have F:∀A,(Np av m D).ownBlock=S A→A≠y.Y:=fun A h e=>by have:=u A h;rw[e,c.cY]at this;cases this
   have M:∀A,(Np av m D).ownBlock=S A→A≠w.heap.size+1:=fun A h e=>by have:=u A h;rw[e,t4]at this;cases this
   have cf:m+1≤1000000:=by have:=HN.out;unfold bY at this;omega
   have ck:=aB p;have HS:=eQ p b9 F M i B;refine FB ?_;refine step_append_lies _ (by rfl) (.tmp 30) (.tmp 32) 90 (by rfl) 0 152 i0 _ 10 80 underlying90 ar ba bb bd (by rfl) (by decide) (.slice av m D) m L.flatten (by rfl) U ⟨w9.heap.size,0,N⟩ 1 1 [I Z f.k,I Z f.r,I Z f.b,I Z f.d,I Z f.c,I Z f.ch,I Z f.bt,I Z f.vl,I Z s.sc,I Z r] (by rfl) (by rfl) (Mz.news_of_block (heap_alloc_new w9 _)) (by simp[Nq]) (by decide) (by unfold maxLen;omega) (by omega) (Nz _) _ rfl ?_;intro H l w8 j d o V;have q:=eS d p fun e=>F _ e.symm rfl;have C:=eS d b9 fun e=>M _ e.symm rfl;have f8:=fun v=>Fw q v;have bn:=aB q;have G:=q;unfold MSt.row at G;have r3:=Cw G 3;simp at r3;clear G;have H8:=eQ q C j d o V;clear aa J ad u c k g t t4 a i U p b9 F M B q C j d o X hz bm q3;go_wp2_with fail;rw[cK];go_wp2_with fail;go_meet;have⟨q,C,j,d,o,V⟩:=H8.out;have⟨p,b9,F,M,i,B⟩:=HS.out;have⟨aa,J,ad,u⟩:=HV.out;have⟨c,k,g,t,t4,a⟩:=HH.out;have br:=c.keeps i;have ab:=dY y.Y 3 w8 (.slice (S ⟨H,0,N⟩) (m+1) l)
   have bs:¬H=y.Y:=by
    rcases o with h|h
    ·exact F H h
    ·rw[h];simp;have:=aB p;simp at this;omega
   have bv:bP 152 10 (.slice (S ⟨H,0,N⟩) (m+1) l) (L++[[I Z f.k,I Z f.r,I Z f.b,I Z f.d,I Z f.c,I Z f.ch,I Z f.bt,I Z f.vl,I Z s.sc,I Z r]]) (w8.setCell ⟨y.Y,3,N⟩ (.slice (S ⟨H,0,N⟩) (m+1) l)):=(bP.push (x:=[I Z f.k,I Z f.r,I Z f.b,I Z f.d,I Z f.c,I Z f.ch,I Z f.bt,I Z f.vl,I Z s.sc,I Z r]) (J.keeps i) rfl (by rw[B];exact j)).chg ab fun A h e=>bs (by rw[←e];simpa[Of]using h);have bw:aF (fun b=>c7 b=9∨c7 b=11) (w9.alloc (O #[I Z f.k,I Z f.r,I Z f.b,I Z f.d,I Z f.c,I Z f.ch,I Z f.bt,I Z f.vl,I Z s.sc,I Z r] 152)) (w8.setCell ⟨y.Y,3,N⟩ (.slice (S ⟨H,0,N⟩) (m+1) l)):=(aF.grown Cl d fun v h=>.inl (.inr (u v h))).trans (ab.mono fun b _ h=>by subst h;exact .inl c.cY)
   obtain⟨v,z⟩:=br.setI (L:=L++[[I Z f.k,I Z f.r,I Z f.b,I Z f.d,I Z f.c,I Z f.ch,I Z f.bt,I Z f.vl,I Z s.sc,I Z r]]) (v':=.slice (S ⟨H,0,N⟩) (m+1) l) (n':=n+2) (fun h A G=>by
    have e:=p.symm.trans G;obtain⟨Q,U⟩:(.slice av m D:Na)=h∧vs=A:=by unfold MSt.row at e;simpa using e
    subst Q U
    rw[Hs 3 _ q];rfl) bv (by rw[Ny,B];simp;omega) (Ob _) (fun A h=>by
    have e:H=A:=by simpa[Of]using h
    subst e;rcases o with h|h
    ·exact .inl (u _ h)
    ·exact .inr (by rw[h];exact Nl)) bw
   exact⟨_,v,(a.trans (aS.keeps i)).trans z,aJ ab C (fun e=>by have:=c.cY;rw[←e,t4]at this;cases this),(nV (aB b9)).trans t4⟩
 case rest=>obtain⟨a,v,z,C,c⟩:=hcut;have bn:=aB C;have H8:=bT v z C c;clear v z C c HH;have A:=Sw H8.out.2.2.1 (zeroCells48.setIfInBounds 0 (I Z Q)) (by kernel_rfl) (by kernel_rfl);rw[Array.toList_setIfInBounds]at A;go_wp2_with fail;have⟨v,z,C,c⟩:=H8.out;refine Ng (Oh (P:=Y) results40 _ _ (w.heap.size+1) 48 (zeroCells48.setIfInBounds 0 (I Z Q)) (0,0) _ rfl (Hw C _) underlying48 rfl (by kernel_rfl)) rfl ?_;have d:=kO wc (w.heap.size+1) (zeroCells48.setIfInBounds 0 (I Z Q));have:=v.chg d (fun b h=>by rw[h,c];exact jU);rw[an.out]at this;exact⟨⟨Q,by rw[Ia]⟩,a,this,z.loc _ (Ob _) d⟩
end
section
open Go.RowKit Go.Shelf lin
theorem pK {t:TypeId} (a:Y.underlying t=S (.int .i64)) (D:Nat) {k:Int} (b:bN k):Y.keyLits (D+1) t [.int .i64 k]=S [.int .i64 k]:=by unfold Program.keyLits;rw[a];simp[JF b]
theorem Hm (D m:Nat) (b:m<2^64):Y.keyLits (D+1) 39 [.int .u64 (m:Int)]=S [.int .u64 (m:Int)]:=by
 have a:(Lit.int .u64 (m:Int)).wf=true:=by simp[Lit.wf,IntKind.min,IntKind.max,IntKind.bits,IntKind.signed];omega
 unfold Program.keyLits;rw[underlying39];simp[a]
theorem GB {t:Nat} (d:Y.underlying t=S (.array n 5)) (f:Y.cellsOf t=n) (D:Nat) {l:List Int} (b:l.length=n) (h:aX n l):Y.keyLits (D+2) t (l.map (Na.int .u8))=S (l.map (Lit.int .u8)):=by
 unfold Program.keyLits;rw[d];simp only[Nw,b,f,if_true]
 rw[MC (g:=fun c=>[Lit.int .u8 (l.getD c 0)]) _ (fun c a=>by
  have a:=List.mem_range.1 a;rw[VE,Nat.mul_one];obtain⟨m,e,i⟩:=h c a;have j:((l.map (Na.int .u8)).drop c).take 1=[.int .u8 (l.getD c 0)]:=by rw[List.drop_eq_getElem_cons (by simp[b];exact a)];simp[Nf,b,a]
  rw[j,e]
  exact VD _ _ i),Option.map_some]
 congr 1
 rw[show(List.map (fun c=>[Lit.int .u8 (l.getD c 0)]) (Nn n)).flatten=(Nn n).map fun c=>Lit.int .u8 (l.getD c 0) from by
  generalize Nn n=i
  induction i with
  |nil=>rfl
  |cons j i a=>rw[List.map_cons,List.flatten_cons,a];rfl]
 apply List.ext_getElem?;intro c;rw[Om,Om];by_cases a:c<n
 ·rw[List.getElem?_range a,Nu (by omega)];simp[Nf,b,a]
 ·rw[List.getElem?_eq_none (by simp;omega),List.getElem?_eq_none (by omega)];rfl
structure uZ (f:aZ):Prop where
 k:bN f.k
 r:bN f.r
 b:bN f.b
 d:bN f.d
 c:bN f.c
 ch:bN f.ch
 bt:bN f.bt
 vl:bN f.vl
def aZ.lits (f:aZ):List Lit:=[.int .i64 f.k,.int .i64 f.r,.int .i64 f.b,.int .i64 f.d,.int .i64 f.c,.int .i64 f.ch,.int .i64 f.bt,.int .i64 f.vl]
theorem c3:Y.cellsOf 3=1:=by kernel_rfl
theorem Hn:Y.cellsOf 46=1:=by kernel_rfl
theorem D5:Y.cellsOf 38=64:=by kernel_rfl
theorem Hq:Y.cellsOf 39=1:=by kernel_rfl
theorem Y8:Y.cellsOf 41=4:=by kernel_rfl
theorem Y9:Y.cellsOf 43=8:=by kernel_rfl
theorem NU:Y.cellsOf 45=75:=by kernel_rfl
theorem NV:Y.cellsOf 48=66:=by kernel_rfl
theorem Ht (D:Nat) {c:Int} (e:bN a) (f:bN b) (g:bN c) (h:bN d):Y.keyLits (D+2) 41 [.int .i64 a,.int .i64 b,.int .i64 c,.int .i64 d]=S [.int .i64 a,.int .i64 b,.int .i64 c,.int .i64 d]:=by unfold Program.keyLits;rw[underlying41];simp[Y8,c3,pK underlying3 D e,pK underlying3 D f,pK underlying3 D g,pK underlying3 D h,List.mapM_cons]
theorem Hu (D:Nat) {f:aZ} (a:uZ f):Y.keyLits (D+3) 43 f.cells=S f.lits:=by unfold Program.keyLits aZ.cells aZ.lits;rw[underlying43];simp[Y9,c3,Y8,pK underlying3 (D+1) a.k,Ht D a.r a.b a.d a.c,pK underlying3 (D+1) a.ch,pK underlying3 (D+1) a.bt,pK underlying3 (D+1) a.vl,List.mapM_cons]
structure dJ (x:Sp):Prop where
 k:bN x.k
 ln:bN x.ln
 dl:x.dt.length=64
 db:aX 64 x.dt
 ms:x.ms<2^64
 f:uZ x.f
theorem YA (D:Nat) {x:Sp} (a:dJ x):Y.keyLits (D+4) 45 x.vals.toList=S ([.int .i64 x.k,.int .i64 x.ln]++(x.dt.map (Lit.int .u8)++(.int .u64 (x.ms:Int)::x.f.lits))):=by
 have d:(x.vals.toList.drop 2).take 64=x.dt.map (Na.int .u8):=by rw[Sp.list];simp[a.dl]
 have b:(x.vals.toList.drop 66).take 1=[.int .u64 (x.ms:Int)]:=by rw[Sp.list,←List.append_assoc,List.drop_append_of_le_length (by simp[a.dl]),List.drop_of_length_le (by simp[a.dl])];rfl
 have c:(x.vals.toList.drop 67).take 8=x.f.cells:=by rw[Sp.list,show([.int .i64 x.k,.int .i64 x.ln]++(x.dt.map (Na.int .u8)++(.int .u64 (x.ms:Int)::x.f.cells)):List Na)=([.int .i64 x.k,.int .i64 x.ln]++(x.dt.map (Na.int .u8)++[.int .u64 (x.ms:Int)]))++x.f.cells by simp,List.drop_append_of_le_length (by simp[a.dl]),List.drop_of_length_le (by simp[a.dl])];rfl
 have e:x.vals.toList.take 1=[.int .i64 x.k]:=by rw[Sp.list];rfl
 have f:x.vals.toList.tail.take 1=[.int .i64 x.ln]:=by rw[Sp.list];rfl
 have g:x.vals.toList.length=75:=by rw[Ot,Sp.size a.dl]
 generalize x.vals.toList=h at*;unfold Program.keyLits;rw[underlying45];simp[NU,c3,D5,Hq,Y9,g,e,f,d,b,c,pK underlying3 (D+2) a.k,pK underlying3 (D+2) a.ln,GB underlying38 D5 (D+1) a.dl a.db,Hm (D+2) x.ms a.ms,Hu D a.f,List.mapM_cons]
theorem NW {a b:List Int} (d:a.map (Lit.int .u8)=b.map (Lit.int .u8)):a=b:=by have c:=congrArg (fun l=>l.map (fun e=>match e with|Lit.int _ f=>f|_=>0)) d;simpa[List.map_map,Function.comp_def]using c
theorem Hv {x y:Sp} (a:dJ x) (b:dJ y) (w:Mz):(Mj 10000 45 (.agg x.vals) (.agg y.vals)).run Y w=.ok (decide (x=y)) w:=by
 obtain⟨aa,j,k⟩:=run_equalIn_deep (P:=Y) 9990 10 45 (by kernel_rfl) w 10 10 (.agg x.vals) (.agg y.vals) _ _ (by unfold Na.formed;rw[underlying45];simp[Sp.size a.dl,NU]) (by unfold Na.formed;rw[underlying45];simp[Sp.size b.dl,NU]) (YA 6 a) (YA 6 b);unfold Mj;rw[j];congr 1;rw[Bool.eq_iff_iff,k,decide_eq_true_eq];constructor
 ·intro B
  rcases x with⟨ab,C,l,m,⟨D,F,G,H,J,K,L,M⟩⟩;rcases y with⟨Q,A,e,f,⟨R,T,U,b3,V,W,X,b7⟩⟩;simp only[List.cons_append,List.nil_append,List.cons.injEq]at B;obtain⟨g,h,n⟩:=B;have o:(l.map (Lit.int .u8)).length=(e.map (Lit.int .u8)).length:=by simp;rw[a.dl,b.dl]
  obtain⟨c,d⟩:=List.append_inj n o;have c:=NW c;unfold aZ.lits at d;simp only[List.cons.injEq,Lit.int.injEq,true_and,and_true]at g h d;obtain⟨i,p,q,r,s,t,u,v,z⟩:=d;have i:m=f:=by omega
  rw[g,h,c,i,p,q,r,s,t,u,v,z]
 ·rintro rfl;rfl
structure kP (a:aN):Prop where
 e:bN a.e
 n:bN a.n
 ll:a.l.length=64
 lb:aX 64 a.l
theorem aN.list (a:aN):a.vals.toList=[I Z a.e,I Z a.n]++a.l.map (I .u8):=by unfold aN.vals aD;simp
theorem aN.size {a:aN} (b:a.l.length=64):a.vals.size=66:=by unfold aN.vals;simp[aP,b]
theorem YB (D:Nat) {a:aN} (b:kP a):Y.keyLits (D+4) 48 a.vals.toList=S ([.int .i64 a.e,.int .i64 a.n]++a.l.map (Lit.int .u8)):=by
 have c:(a.vals.toList.drop 2).take 64=a.l.map (Na.int .u8):=by rw[aN.list];show(a.l.map (Na.int .u8)).take 64=_;exact List.take_of_length_le (by simp[b.ll])
 have d:a.vals.toList.take 1=[.int .i64 a.e]:=by rw[aN.list];rfl
 have e:a.vals.toList.tail.take 1=[.int .i64 a.n]:=by rw[aN.list];rfl
 have f:a.vals.toList.length=66:=by rw[Ot,aN.size b.ll]
 generalize a.vals.toList=g at*;unfold Program.keyLits;rw[underlying48];simp[NV,c3,Hn,D5,f,d,e,c,pK underlying46 (D+2) b.e,pK underlying3 (D+2) b.n,GB underlying38 D5 (D+1) b.ll b.lb,List.mapM_cons]
theorem yP {a b:aN} (c:kP a) (d:kP b) (w:Mz):(Mj 10000 48 (.agg a.vals) (.agg b.vals)).run Y w=.ok (decide (a=b)) w:=by
 obtain⟨q,f,g⟩:=run_equalIn_deep (P:=Y) 9990 10 48 (by kernel_rfl) w 10 10 (.agg a.vals) (.agg b.vals) _ _ (by unfold Na.formed;rw[underlying48];simp[aN.size c.ll,NV]) (by unfold Na.formed;rw[underlying48];simp[aN.size d.ll,NV]) (YB 6 c) (YB 6 d);unfold Mj;rw[f];congr 1;rw[Bool.eq_iff_iff,g,decide_eq_true_eq];constructor
 ·intro k;rcases a with⟨e,n,l⟩;rcases b with⟨m,o,p⟩;simp only[List.cons_append,List.nil_append,List.cons.injEq,Lit.int.injEq,true_and]at k;obtain⟨h,i,j⟩:=k;rw[h,i,NW j]
 ·rintro rfl;rfl
theorem NX {t:Nat} (c:Y.underlying t=S (.array n 5)) (d:Y.cellsOf t=n) (h:Y.keyTypeAt 10 t=true) {a b:List Int} (e:a.length=n) (f:b.length=n) (i:aX n a) (j:aX n b) (w:Mz):(Mj 10000 t (.agg (aD .u8 a)) (.agg (aD .u8 b))).run Y w=.ok (decide (a=b)) w:=by
 have g:∀l:List Int,(aD .u8 l).toList=l.map (Na.int .u8):=fun l=>by unfold aD;simp
 obtain⟨p,k,m⟩:=run_equalIn_deep (P:=Y) 9990 10 t h w 10 10 (.agg (aD .u8 a)) (.agg (aD .u8 b)) _ _ (by unfold Na.formed;rw[c];simp[aP,e,d]) (by unfold Na.formed;rw[c];simp[aP,f,d]) (by show Y.keyLits 10 t (aD .u8 a).toList=_;rw[g];exact GB c d 8 e i) (by show Y.keyLits 10 t (aD .u8 b).toList=_;rw[g];exact GB c d 8 f j);unfold Mj;rw[k];congr 1;rw[Bool.eq_iff_iff,m,decide_eq_true_eq];exact⟨NW,fun o=>by rw[o]⟩
end
section
open Go.RowKit Go.Shelf lin
attribute [local go_sem] Oper.semAt_some cK Mh
attribute [local simp] Mf Mg Ml
theorem mY:bN 0:=by unfold bN;omega
theorem uZ.own {f:aZ} (b:uZ f):uZ f.own:=by
 have a:=mY;unfold aZ.own;split
 ·exact⟨b.k,b.r,b.b,b.d,b.c,a,b.bt,a⟩
 split
 ·exact⟨b.k,b.r,b.b,b.d,b.c,a,b.bt,b.vl⟩
 split
 ·exact⟨b.k,b.r,b.b,b.d,a,b.ch,a,b.vl⟩
 split
 ·exact⟨b.k,b.r,b.b,a,b.c,b.ch,a,b.vl⟩
 split
 ·exact⟨b.k,b.r,a,a,a,b.ch,a,b.vl⟩
 split
 ·exact⟨b.k,b.r,b.b,b.d,b.c,a,a,a⟩
 ·exact⟨b.k,a,a,a,a,a,a,a⟩
theorem GC:uZ dQ:=⟨mY,mY,mY,mY,mY,mY,mY,mY⟩
theorem dJ.bare {x:Sp} (a:dJ x):dJ x.bare:=by
 have b:=mY;unfold Sp.bare;split
 ·rename_i e;exact⟨by rw[←e];exact a.k,a.ln,rfl,kI,Nat.two_pow_pos 64,GC⟩
 split
 ·rename_i e;exact⟨by rw[←e];exact a.k,a.ln,a.dl,a.db,Nat.two_pow_pos 64,GC⟩
 split
 ·rename_i e;exact⟨by rw[←e];exact a.k,a.ln,a.dl,a.db,a.ms,GC⟩
 split
 ·rename_i e;exact⟨by rw[←e];exact a.k,b,rfl,kI,Nat.two_pow_pos 64,a.f.own⟩
 ·exact⟨a.k,b,rfl,kI,Nat.two_pow_pos 64,GC⟩
theorem NY {x:Sp} (a:dJ x) (w:Mz):Nb Tryz.prog 13 #[.agg x.vals] w fun e d=>e=E (.bool x.okB)∧Nc w.heap.size w d:=by
 have⟨X,d⟩:=Ex x.vals;obtain⟨D,i⟩:=Ex x.bare.vals;have⟨C,c⟩:=Ex (w.alloc (O X 45));have j:aC w C:=by rw[c];exact aU
 have h:C.heap[w.heap.size]?=S (O X 45):=by rw[c];exact aG _ _ _ rfl
 have⟨g,b⟩:=iO h 0 67;rw[d,Sp.c0]at g;rw[d,Sp.cf a.dl 0]at b;replace b:C.cell? ⟨w.heap.size,67,N⟩=S (I Z x.f.k):=b;have l:=aA fun W=>Hl x a.dl W;have m:=aA fun W=>Hv a a.bare W;rw[←d,←i]at m l;have n:Hid (∀W,aC C W→(Mc ⟨w.heap.size,0,N⟩ 0 75 #[]).run Tryz.prog W=.ok X W):=aA fun W f=>fJ W _ _ 45 (0,0) (aE f h) 75 (by rw[d];exact Sp.size a.dl);have f:=aB h;have o:=aA j;have p:Hid (x.okB=(decide (1≤x.k∧x.k≤8)&&(decide (x=x.bare)&&(decide (x.k≠8)||decide (1≤x.f.k∧x.f.k≤7))))):=aA rfl;rw[←d];generalize x.okB=ok at*;generalize decide (x=x.bare)=q at*;generalize x.k=v at*;generalize x.f.k=fk at*;clear d i j h a;by_cases y:v<1
 ·have r:decide (v<1)=true:=by simpa using y
  go_in;go_upto_region 1 with fail;rw[←c];clear c;refine bS (by kernel_rfl) (by kernel_rfl) ?_
  repeat
   with_reducible refine Nh fun K c=>?_
   go_simp
   try first
    |(apply Ei
      intro d a;obtain⟨h,i⟩:=a.cells;have j:=n.out _ a;have k:=m.out d;go_simp
      first
       |(go_at_call 44;with_reducible exact a.call (l.out _))
       |rfl)
    |(with_reducible refine aQ ?_ ?_;first|decide|simp[Nd];done)
   refine c _ ?_;clear c K
  with_reducible refine Ni ?_
  intro h a;have d:=aA a;clear a g b f;go_wp2_with fail;go_ret;exact⟨by rw[p.out];first|simp<;>omega,aK o.out d.out⟩
 ·have r:decide (v<1)=false:=by simpa using y
  by_cases z:v>8
  ·have s:decide (v>8)=true:=by simpa using z
   go_in;go_upto_region 1 with fail;rw[←c];clear c;refine bS (by kernel_rfl) (by kernel_rfl) ?_
   repeat
    with_reducible refine Nh fun K c=>?_
    go_simp
    try first
     |(apply Ei
       intro d a;obtain⟨h,i⟩:=a.cells;have j:=n.out _ a;have k:=m.out d;go_simp
       first
        |(go_at_call 44;with_reducible exact a.call (l.out _))
        |rfl)
     |(with_reducible refine aQ ?_ ?_;first|decide|simp[Nd];done)
    refine c _ ?_;clear c K
   with_reducible refine Ni ?_
   intro h a;have d:=aA a;clear a g b f;go_wp2_with fail;go_ret;exact⟨by rw[p.out];first|simp<;>omega,aK o.out d.out⟩
  ·have s:decide (v>8)=false:=by simpa using z
   cases q
   ·skip
    go_in;go_upto_region 1 with fail;rw[←c];clear c;refine bS (by kernel_rfl) (by kernel_rfl) ?_
    repeat
     with_reducible refine Nh fun K c=>?_
     go_simp
     try first
      |(apply Ei
        intro d a;obtain⟨h,i⟩:=a.cells;have j:=n.out _ a;have k:=m.out d;go_simp
        first
         |(go_at_call 44;with_reducible exact a.call (l.out _))
         |rfl)
      |(with_reducible refine aQ ?_ ?_;first|decide|simp[Nd];done)
     refine c _ ?_;clear c K
    with_reducible refine Ni ?_
    intro h a;have d:=aA a;clear a g b f;go_wp2_with fail;go_ret;exact⟨by rw[p.out];first|simp<;>omega,aK o.out d.out⟩
   ·by_cases u:v=8
    ·subst u
     by_cases A:fk≥1
     ·have t:decide (fk≥1)=true:=by simpa using A
      by_cases B:fk≤7;focus have u:decide (fk≤7)=true:=by simpa using B
      rotate_left
      focus have u:decide (fk≤7)=false:=by simpa using B
      all_goals
       go_in;go_upto_region 1 with fail;rw[←c];clear c;refine bS (by kernel_rfl) (by kernel_rfl) ?_
       repeat
        with_reducible refine Nh fun K c=>?_
        go_simp
        try first
         |(apply Ei
           intro d a;obtain⟨h,i⟩:=a.cells;have j:=n.out _ a;have k:=m.out d;go_simp
           first
            |(go_at_call 44;with_reducible exact a.call (l.out _))
            |rfl)
         |(with_reducible refine aQ ?_ ?_;first|decide|simp[Nd];done)
        refine c _ ?_;clear c K
       with_reducible refine Ni ?_
       intro h a;have d:=aA a;have j:=(a.cells.1 _ 0 f).trans g;have i:=(a.cells.1 _ 67 f).trans b;clear a g b f;go_wp2_with fail;go_ret;exact⟨by rw[p.out];first|simp<;>omega,aK o.out d.out⟩
     ·have t:decide (fk≥1)=false:=by simpa using A
      go_in;go_upto_region 1 with fail;rw[←c];clear c;refine bS (by kernel_rfl) (by kernel_rfl) ?_
      repeat
       with_reducible refine Nh fun K c=>?_
       go_simp
       try first
        |(apply Ei
          intro d a;obtain⟨h,i⟩:=a.cells;have j:=n.out _ a;have k:=m.out d;go_simp
          first
           |(go_at_call 44;with_reducible exact a.call (l.out _))
           |rfl)
        |(with_reducible refine aQ ?_ ?_;first|decide|simp[Nd];done)
       refine c _ ?_;clear c K
      with_reducible refine Ni ?_
      intro h a;have d:=aA a;have j:=(a.cells.1 _ 0 f).trans g;have i:=(a.cells.1 _ 67 f).trans b;clear a g b f;go_wp2_with fail;go_ret;exact⟨by rw[p.out];first|simp<;>omega,aK o.out d.out⟩
    ·have t:(v==8)=false:=by simpa using u
     go_in;go_upto_region 1 with fail;rw[←c];clear c;refine bS (by kernel_rfl) (by kernel_rfl) ?_
     repeat
      with_reducible refine Nh fun K c=>?_
      go_simp
      try first
       |(apply Ei
         intro d a;obtain⟨h,i⟩:=a.cells;have j:=n.out _ a;have k:=m.out d;go_simp
         first
          |(go_at_call 44;with_reducible exact a.call (l.out _))
          |rfl)
       |(with_reducible refine aQ ?_ ?_;first|decide|simp[Nd];done)
      refine c _ ?_;clear c K
     with_reducible refine Ni ?_
     intro h a;have d:=aA a;have j:=(a.cells.1 _ 0 f).trans g;have i:=(a.cells.1 _ 67 f).trans b;clear a g b f;go_wp2_with fail;go_ret;exact⟨by rw[p.out];first|simp<;>omega,aK o.out d.out⟩
end
section
open Go.RowKit Go.Shelf lin
def Ms (f:Nat→Option (Nat×Nat)) (z:Array Na) (p:List (Nat×Na)):Option (Array Na):=Instr.fill f z p
theorem Mu (f:Nat→Option (Nat×Nat)) (z:Array Na) (p:List (Nat×Na)):Instr.fill f z p=Ms f z p:=rfl
theorem Mv (a:Array (Nat×Nat)) (z:Array Na) (p:List (Nat×Na)):Instr.fill (fun b=>a[b]?) z p=Ms (fun b=>a[b]?) z p:=rfl
theorem YD {a b c x:List Na} {m:Nat} (d:a.length=n) (e:b.length=m):(a++b++c).take n++x++(a++b++c).drop (n+m)=a++x++c:=by subst d e;rw[List.append_assoc a b c,List.take_append_of_le_length Nl,List.take_length,←List.append_assoc a b c,show a.length+b.length=(a++b).length by simp,List.drop_append_of_le_length Nl,List.drop_length,List.nil_append]
theorem YE:∀(l:List Na) (k off:Nat) (cs:Array Na),off+k+l.length≤cs.size→
 ((l.zipIdx k).foldl (fun cs (p:Na×Nat)=>cs.setIfInBounds (off+p.2) p.1) cs).toList=cs.toList.take (off+k)++l++cs.toList.drop (off+k+l.length)
 |[],k,off,cs,_=>by simp
 |c::l,k,off,cs,b=>by
  have b:off+k+(l.length+1)≤cs.size:=b;rw[List.zipIdx_cons,List.foldl_cons,YE l (k+1) off _ (by simp;omega),Array.toList_setIfInBounds];have a:off+k<cs.toList.length:=by simp;omega
  rw[show off+(k+1)=(off+k)+1 by omega,List.take_add_one,List.getElem?_set_self a,List.take_set,List.set_eq_of_length_le (by simp;omega),List.drop_set_of_lt (by omega)];simp[Nat.add_assoc,Nat.add_comm,Nat.add_left_comm]
theorem tZ {d:Nat→Option (Nat×Nat)} {cells:Array Na} {off size:Nat} {e:List (Nat×Na)} {a b c:List Na} (k:d i=S (off,size)) (l:v.cells.size=size) (g:cells=(a++b++c).toArray) (h:a.length=off) (j:b.length=size):Instr.fill d cells ((i,v)::e)=Instr.fill d (a++v.cells.toList++c).toArray e:=by
 have n:cells.size=off+size+c.length:=by rw[g];simp[h,j];omega
 show(match d i with|none=>N|some (off,size)=>if v.cells.size≠size||off+v.cells.size>cells.size then N else Instr.fill d (v.cells.zipIdx.foldl (fun f (c,m)=>f.setIfInBounds (off+m) c) cells) e)=_;rw[k];have f:(decide (v.cells.size≠size)||decide (off+v.cells.size>cells.size))=false:=by simp;omega
 simp only[f];show Instr.fill d _ e=_;congr 1;apply Array.ext';have m:=YE v.cells.toList 0 off cells (by rw[Ot];omega);rw[←Array.foldl_toList,Array.toList_zipIdx];refine Eq.trans m ?_;rw[Nat.add_zero,Ot,l,g];exact YD h j
theorem D6 {b t off:Nat} {p s q:Array Na} (g:W.heap[b]?=S (O (p++s++q) t)) (c:p.size=off) (d:s.size=n):(Mc ⟨b,off,N⟩ 0 n #[]).run Y W=.ok s W:=by
 have:=lL (P:=Y) W b off s.toList (fun e h a=>by
  have f:e<s.size:=by have:=(Ol.1 a).1;simpa using this
  rw[Cw g (off+e),Array.getElem?_append_left (by simp;omega),Array.getElem?_append_right (by omega),c,Nat.add_sub_cancel_left]
  simpa using a)
 rw[Ot,d]at this;exact this
theorem Hy {b t off:Nat} {p s d q:Array Na} (j:W.heap[b]?=S (O (p++s++q) t)) (g:p.size=off) (i:d.size=s.size) (f:d.all (·.oneCell')=true):(Me ⟨b,off,N⟩ d.toList 0).run Y W=.ok () (W.setRow b (p++d++q)):=by
 have:=Mo (P:=Y) b off t d.toList 0 _ W j (by simp;omega) (fun k h=>by rw[Array.all_eq_true']at f;exact f k (by simpa using h));rw[this];congr 2;apply Array.ext';have e:(p++s++q).toList=p.toList++s.toList++q.toList:=by simp
 rw[e,Nat.add_zero];have:=YD (a:=p.toList) (b:=s.toList) (c:=q.toList) (x:=d.toList) (n:=off) (m:=d.toList.length) (by simpa using g) (by simp;omega);show _=(p++d++q).toList;rw[List.toList_toArray]at*;rw[this];simp
theorem YF {b t off:Nat} {p q:Array Na} {x y:Na} (c:W.heap[b]?=S (O (p++#[x]++q) t)) (a:p.size=off):(W.setCell ⟨b,off,N⟩ y).heap[b]?=S (O (p++#[y]++q) t):=by rw[Hs off _ c];congr 2;subst a;apply Array.ext';rw[Array.toList_setIfInBounds];simp
theorem YG {b t off:Nat} {p q:Array Na} {x:Na} (c:W.heap[b]?=S (O (p++#[x]++q) t)) (a:p.size=off):W.cell? ⟨b,off,N⟩=S x:=by rw[Cw c off,Array.getElem?_append_left (by simp;omega),Array.getElem?_append_right (by omega),a,Nat.sub_self];rfl
theorem Il {size:Nat} {cells:Array Na} {S:Array Na} (d:cells.size=size) (e:S.size=size):Instr.fill (fun f=>some (f*size,size)) cells [(0,.agg S)]=some S:=by rw[tZ (off:=0) (size:=size) (v:=.agg S) (a:=[]) (b:=cells.toList) (c:=[]) (by simp) e (by simp) rfl (by simpa using d)];simp[Instr.fill,Na.cells]
theorem GD {t e:TypeId} {a:TypeInfo} {z:Na} {S:Array Na} (c:P.underlying t=some (.slice e)) (d:P.info? e=some a) (f:a.zero=some z) (j:a.size≤1000) (g:a.size≠0) (h:S.size=a.size) (W:Mz):(Instr.buildSlice t 1 #[(0,.agg S)]).run P W=.ok (.slice (some ⟨W.heap.size,0,N⟩) 1 1) (W.alloc (O S e)):=by
 have i:=Il (size:=a.size) (cells:=(Array.range a.size).map (fun b=>z.cells[b%z.cells.size]!)) (S:=S) (by simp) h;have b:¬(a.size>2^24):=by omega
 simp[Instr.buildSlice,run_underlying c,sizeOf,typeInfo,d,zeroValue,f,b,g,i,newRow]
end
section
open Go.RowKit Go.Shelf lin
attribute [local go_sem] Oper.semAt_some cK Mh
attribute [local simp] Mf Mg Ml
theorem YH:(Y.info? 155).map (fun a=>(a.zero,a.size,a.bytes))=S (S (.agg zeroCells155),207,312):=by kernel_rfl
def fW (X A G:Array Na) (f l:Int):Array Na:=X++A++G++#[I Z f,I Z l]
theorem Ic:zeroCells155=(([]:List Na)++(⟨0,0,ln0,0,dQ⟩:Sp).vals.toList++((⟨0,0,ln0⟩:aN).vals.toList++(aD .u8 ln0).toList++[I Z 0,I Z 0])).toArray:=by kernel_rfl
theorem Id:((match Y.underlying 155 with|some (.struct fields)=>fields.toList.mapM (fun f=>(Y.info? f.type).map fun a=>(f.offset,a.size))|_=>N):Option (List (Nat×Nat)))=S [(0,75),(75,66),(141,64),(205,1),(206,1)]:=by kernel_rfl
theorem Ie {X G:Array Na} (l:X.size=75) (m:G.size=64) (n:Int):Y.built 155 [(0,.agg X),(2,.agg G),(3,I Z n)]=S (fW X (⟨0,0,ln0⟩:aN).vals G n 0):=by
 obtain⟨q,g,h,o,p⟩:=info_parts YH;have f:=Id;unfold Program.built;rw[underlying155]at f ⊢;rw[g];simp only[h];simp only at f;rw[f];show Instr.fill ([(0,75),(75,66),(141,64),(205,1),(206,1)].toArray[·]?) zeroCells155 _=_;have i:(⟨0,0,ln0,0,dQ⟩:Sp).vals.toList.length=75:=by rw[Ot];exact Sp.size rfl
 have d:(⟨0,0,ln0⟩:aN).vals.toList.length=66:=by rw[Ot];exact aN.size rfl
 have j:(aD .u8 ln0).toList.length=64:=by rw[Ot,aP];rfl
 have e:X.toList.length=75:=by simpa using l
 have k:G.toList.length=64:=by simpa using m
 rw[tZ (off:=0) (size:=75) (v:=.agg X) rfl l Ic rfl i];rw[tZ (off:=141) (size:=64) (v:=.agg G) (a:=X.toList++(⟨0,0,ln0⟩:aN).vals.toList) (b:=(aD .u8 ln0).toList) (c:=[I Z 0,I Z 0]) rfl m (by simp[Na.cells]) (by rw[Ny,e,d]) j];rw[tZ (off:=205) (size:=1) (v:=I Z n) (a:=X.toList++(⟨0,0,ln0⟩:aN).vals.toList++G.toList) (b:=[I Z 0]) (c:=[I Z 0]) rfl rfl (by simp[Na.cells]) (by rw[Ny,Ny,e,d,k]) rfl];show S _=S _;congr 1;unfold fW;apply Array.ext';simp[Na.cells]
theorem If (X G:Array Na) (e m f t:Int) (l:List Int):fW X (⟨e,m,l⟩:aN).vals G f t=(X++#[I Z e,I Z m])++aD .u8 l++(G++#[I Z f,I Z t]):=by unfold fW aN.vals;simp only[Array.append_assoc]
theorem YI (X G:Array Na) (e m f t:Int) (l:List Int):fW X (⟨e,m,l⟩:aN).vals G f t=X++#[I Z e]++(#[I Z m]++aD .u8 l++G++#[I Z f,I Z t]):=by unfold fW aN.vals;rw[show(#[I Z e,I Z m]:Array Na)=#[I Z e]++#[I Z m] from rfl];simp only[Array.append_assoc]
theorem Ig (X A G:Array Na) (f t:Int):fW X A G f t=X++A++(G++#[I Z f,I Z t]):=by unfold fW;simp only[Array.append_assoc]
theorem Ih (X A G:Array Na) (f t:Int):fW X A G f t=(X++A)++G++#[I Z f,I Z t]:=rfl
theorem YJ (X A G:Array Na) (f t:Int):fW X A G f t=(X++A++G++#[I Z f])++#[I Z t]++#[]:=by unfold fW;rw[show(#[I Z f,I Z t]:Array Na)=#[I Z f]++#[I Z t] from rfl];simp only[Array.append_assoc,Array.append_empty]
section
variable {W:World} {b:Nat} {X G:Array Value} {e m f t:Int} {l:List Int}
theorem YK (d:W.heap[b]?=S (O (fW X (⟨e,m,l⟩:aN).vals G f t) 155)) (a:X.size=75) {l':List Int} (c:l'.length=l.length):(Me ⟨b,77,N⟩ (aD .u8 l').toList 0).run Y W=.ok () (W.setRow b (fW X (⟨e,m,l'⟩:aN).vals G f t)):=by rw[If]at d ⊢;exact Hy d (by simp[a]) (by rw[aP,aP,c]) (dG _ _)
theorem vA (c:W.heap[b]?=S (O (fW X (⟨e,m,l⟩:aN).vals G f t) 155)) (a:X.size=75):W.cell? ⟨b,75,N⟩=S (I Z e):=by rw[YI]at c;exact YG c a
theorem wW (c:W.heap[b]?=S (O (fW X (⟨e,m,l⟩:aN).vals G f t) 155)) (a:X.size=75) (e':Int):(W.setCell ⟨b,75,N⟩ (I Z e')).heap[b]?=S (O (fW X (⟨e',m,l⟩:aN).vals G f t) 155):=by rw[YI]at c ⊢;exact YF c a
theorem NZ {A:Array Na} (d:W.heap[b]?=S (O (fW X A G f t) 155)) (a:X.size=75) (c:A.size=66):(Mc ⟨b,75,N⟩ 0 66 #[]).run Y W=.ok A W:=by rw[Ig]at d;exact D6 d a c
theorem Ii {A:Array Na} (e:W.heap[b]?=S (O (fW X A G f t) 155)) (a:X.size=75) (c:A.size=66) (d:G.size=64):(Mc ⟨b,141,N⟩ 0 64 #[]).run Y W=.ok G W:=by rw[Ih]at e;exact D6 e (by simp[a,c]) d
theorem Ij {A:Array Na} (h:W.heap[b]?=S (O (fW X A G f t) 155)) (d:X.size=75) (e:A.size=66) (g:G.size=64) (a:Int):W.cell? ⟨b,206,N⟩=S (I Z t)∧(W.setCell ⟨b,206,N⟩ (I Z a)).heap[b]?=S (O (fW X A G f a) 155):=by
 rw[YJ]at h;have c:(X++A++G++#[I Z f]).size=206:=by simp[d,e,g]
 refine⟨YG h c,?_⟩;rw[YJ];exact YF h c
theorem YL {A:Array Na} (a:X.size=75) (b:A.size=66) (c:G.size=64):(fW X A G f t).size=207:=by unfold fW;simp[a,b,c]
theorem YM {A:Array Na} (a:X.all (·.oneCell')=true) (b:A.all (·.oneCell')=true) (c:G.all (·.oneCell')=true):(fW X A G f t).all (·.oneCell')=true:=by unfold fW;simp only[Array.all_append,a,b,c];simp[Nq]
end
theorem aN.one (a:aN):a.vals.all (·.oneCell')=true:=by unfold aN.vals aD;simp[Nq]
def wX (s:MSt) (x:Sp) (a:aN) (s5:MSt):Prop:=
 (a=⟨30,0,ln0⟩∧s5=s∧(¬s.ct.ld.c.has x.ln∨x.k=3∧x.ms=0))∨
 (a.e≠30∧s.ct.ld.c.has x.ln∧∃c,s5={s with ct:=c}∧((x.k=1∧Readed s.ct x.ln s.ct.ld.c.back c∧a=⟨toldV (s.ct.dec (s.ct.ix x.ln)).2.1,0,(s.ct.dec (s.ct.ix x.ln)).1⟩)∨(x.k=2∧Wrt s.ct x.ln x.dt full64 a.e c∧a=⟨a.e,0,ln0⟩)∨(x.k=3∧x.ms≠0∧Wrt s.ct x.ln x.dt x.ms a.e c∧a=⟨a.e,0,ln0⟩)))
theorem Ik (n:Nat) (K:Act→Mz→Prop) (Q:Exit→Act→Mz→Prop):Exit.inBlock n (Exit.then K Q)=Exit.then K (Exit.inBlock n (Exit.then K Q)):=by funext e a w;cases e<;>rfl
end
section
open Go.RowKit
section
variable {P:Program} {ops:Array Oper} {Q:Exit→Act→World→Prop} {md:Region.Mode} {T:List Nat} {w0:World}
theorem O2 {l:List Oper} {n:Nat} {K:Act→Mz→Prop}:∀(c:List Nat) (b:Array Bool) (a:Act) (w:Mz),
 nJ md l.toArray c b=true→iA P l.toArray Q (fun _=>True) K (aM l c) a w→(∀d e,K d e→wpAny P md l.toArray Q n (bF b c) d e)→wpAny P md l.toArray Q (n+c.length) b a w
 |[],b,a,w,h,k,f=>f a w k
 |t::c,b,a,w,h,k,f=>by
  simp only[nJ,Nx,beq_iff_eq]at h;obtain⟨⟨q,m⟩,g⟩:=h;obtain⟨u,i⟩:=Option.isSome_iff_exists.1 q;have r:aM l (t::c)=u::aM l c:=by simp only[aM,lW];rw[Oq]at i;rw[i]
  rw[r]at k;refine⟨fun o=>(by rw[m]at o;cases o),fun v p=>?_⟩;rw[m]at p;obtain rfl:v=t:=by simpa using p
  unfold wpOp;rw[i];dsimp only;unfold iA at k;split
  ·rename_i j;rw[Fp j]at k;exact .inl (Oper.wp_mono (fun d e s=>O2 c _ d e g s.2 f) k)
  ·rename_i j;rw[Fn j]at k;exact O2 c _ _ w g k f
def YN (l:List Oper) (M H U E:List Nat):Bool:=
 Region.noSelect l.toArray&&vR l.toArray&&decide (E.length+U.length+H.length+M.length=l.length)&&tD .any l.toArray (H++(U++E)) M (Nv l.length false)&&decide (0<H.length)&&
 (Region.ready .any l.toArray (bF (Nv l.length false) M)).all ((H++(U++E)).contains ·)&&!(Region.ready .any l.toArray (bF (Nv l.length false) M)).isEmpty&&
 nJ .any l.toArray H (bF (Nv l.length false) M)&&tR .any l.toArray U (bF (bF (Nv l.length false) M) H)&&oF .any l.toArray E (bF (bF (bF (Nv l.length false) M) H) U)
theorem YO {a:Act} {w:Mz} {l:List Oper} (D H o E:List Nat) (c:YN l D H o E=true)
 (F:jW P l.toArray w (fun i=>∀W,aC w W→iA P l.toArray (gJ Q) (fun _=>True) (fun e b=>jD P l.toArray (fun _=>True) (fun f=>wpList P l.toArray (gJ Q) (aM l E) f b) (aM l o) e) (aM l H) i W) (aM l D) a):
 wpAny P .any l.toArray (gJ Q) l.toArray.size (Nv l.toArray.size false) a {w with drawn:=w.drawn+1}:=by
 simp only[YN,Nx,decide_eq_true_eq]at c;obtain⟨⟨⟨⟨⟨⟨⟨⟨⟨j,B⟩,d⟩,q⟩,p⟩,k⟩,b⟩,r⟩,s⟩,t⟩:=c;have g:l.toArray.size=l.length:=Oc ..;have c:aC w {w with drawn:=w.drawn+1}:=(Nc.refl _ w).drew;have h:=DJ l;rw[g];generalize(Nv l.length false:Array Bool)=rep at*;rw[←d];refine BY (w0:=w) (T:=H++(o++E)) _ _ _ _ (EY j uE D rep a _ h q F c fun e u=>?_);obtain⟨n,m⟩:∃n,E.length+o.length+H.length=n+1:=⟨E.length+o.length+H.length-1,by omega⟩;rw[m];refine UE (fun G v=>?_) (fun f=>by rw[f]at b;cases b) fun W x=>?_
 ·rw[List.all_eq_true]at k;exact k G v
 ·rw[←m];exact O2 H _ e W r (u W (cH c x)) fun f y z=>F0 j uE o _ f y s z fun i A=>t5 (need:=fun _=>false) (C:=fun _=>True) _ _ _ _ (vN E _ _ _ (fun _ _=>rfl) t A)
end
end
section
open Go.RowKit Go.Shelf lin
attribute [local go_sem] Oper.semAt_some cK Mh
attribute [local simp] Mf Mg Ml Mu
theorem Im:bN 30:=by unfold bN;omega
def O3 (y:cQ) (col:Nat→Nat) (s:MSt) (n:Nat) (x:Sp) (X:Array Na) (g:List Int) (na:Int) (w:Mz) (A:Nat) (wx:Mz):Prop:=∃(a:aN) (c5:Nat→Nat) (s5:MSt),wx.heap[A]?=S (O (fW X a.vals (aD .u8 g) na 0) 155)∧kP a∧dL y c5 s5 (n+3) wx∧dZ s5∧aS KM col w c5 wx∧wx.heap[w.heap.size]?=S (O ({x with ms:=if x.k=2 then full64 else x.ms}:Sp).vals 45)∧wx.heap[w.heap.size+1]?=S (O zeroCells48 48)∧c5 w.heap.size=0∧c5 (w.heap.size+1)=0∧c5 A=0∧wX s x a s5
theorem YP {d:List Int} {x:Nat} (a:Wrt s l d x e s'):e=0∨e=40∨e=41:=by
 unfold Wrt at a;split at a
 ·exact .inl a.1
 ·obtain⟨b,_,rfl,_⟩:=a;unfold toldV;split;exact .inr (.inl rfl);split;exact .inr (.inr rfl);exact .inl rfl
structure sQ (y:cQ) (col:Nat→Nat) (s:MSt) (n:Nat) (x:Sp) (X:Array Na) (g:List Int) (na:Int) (w:Mz) (A:Nat) (W:Mz):Prop where
 m:dL y col s n W
 ok:dZ s
 k:aC w W
 b1:W.heap[w.heap.size]?=S (O ({x with ms:=if x.k=2 then full64 else x.ms}:Sp).vals 45)
 b2:W.heap[w.heap.size+1]?=S (O zeroCells48 48)
 t:∀k,w.heap.size≤k→col k=0
 r:W.heap[A]?=S (O (fW X (⟨0,0,ln0⟩:aN).vals (aD .u8 g) na 0) 155)
 hA:w.heap.size+1<A
 n:n+5<bY
 X:X=x.vals
 x:dJ x
theorem sQ.sz {col:Nat→Nat} {s:MSt} {x:Sp} {g:List Int} {a:Int} {A:Nat} (b:sQ y col s n x X g a w A W):X.size=75:=by rw[b.X];exact Sp.size b.x.dl
theorem GE {col:Nat→Nat} {s:MSt} {x:Sp} {g:List Int} {d:Int} {h e:Mz} {A:Nat} (f:sQ y col s n x X g d w A W) (a:aC W h) (c:aF (fun b=>b=A) h e) (j:e.heap[A]?=S (O (fW X (⟨30,0,ln0⟩:aN).vals (aD .u8 g) d 0) 155)) (k:¬s.ct.ld.c.has x.ln∨x.k=3∧x.ms=0):O3 y col s n x X g d w A e:=by have m:=f.hA;have i:=f.t A (by omega);exact⟨⟨30,0,ln0⟩,col,s,j,⟨Im,mY,rfl,kI⟩,((f.m.keeps a).chg c fun b l=>by rw[l,i];exact jU).mono (by omega),f.ok,(aS.keeps (aK f.k a)).loc A (by omega) c,aJ c (aE a f.b1) (by omega),aJ c (aE a f.b2) (by omega),f.t _ Nl,f.t _ (Ob _),i,.inl ⟨rfl,rfl,k⟩⟩
theorem O4 {col f:Nat→Nat} {s:MSt} {x:Sp} {g:List Int} {j:Int} {o k l:Mz} {A:Nat} {c:CtSt} {a:aN} (i:sQ y col s n x X g j w A W) (d:aC W o) (q:dB y.q f c (n+3) k) (m:cO c) (e:aS KC col o f k) (h:aF (fun b=>b=A) k l) (r:l.heap[A]?=S (O (fW X a.vals (aD .u8 g) j 0) 155)) (t:kP a) (u:wX s x a {s with ct:=c}):O3 y col s n x X g j w A l:=by have F:=i.hA;have D:∀b,w.heap.size≤b→b<W.heap.size→f b=0:=fun b p v=>(e.old b (Nr v d.size)).trans (i.t b p);have p:=D A (by omega) (aB i.r);have v:=e.at (aE d i.b1) (by rw[i.t _ Nl];exact jS);have z:=e.at (aE d i.b2) (by rw[i.t _ (Ob _)];exact jS);have B:=(i.m.keeps d).setCt q (by omega) e;refine⟨a,f,{s with ct:=c},r,t,B.chg h fun b C=>by rw[C,p];exact jU,i.ok.setCt m,?_,aJ h v (by omega),aJ h z (by omega),D _ Nl (aB i.b1),D _ (Ob _) (aB i.b2),p,u⟩;exact((aS.keeps (aK i.k d)).trans (e.mono fun G C=>C.km)).loc A (by omega) h
theorem sQ.dat {col:Nat→Nat} {s:MSt} {x:Sp} {g:List Int} {a:Int} {A:Nat} (c:sQ y col s n x X g a w A W):sP w.heap.size 2 x.dt W:=by refine⟨aB c.b1,fun d b=>?_⟩;rw[Cw c.b1 (2+d),Sp.cd (x:={x with ms:=if x.k=2 then full64 else x.ms}) c.x.dl b]
theorem sQ.has {col:Nat→Nat} {s:MSt} {x:Sp} {g:List Int} {a:Int} {A:Nat} (d:sQ y col s n x X g a w A W) (b:bel x.ln (s.ct.ld.rp.t.seen*s.ct.ld.rp.t.c)=false):¬s.ct.ld.c.has x.ln:=fun c=>by have:=(d.ok.ct.ld.has x.ln).2 c;unfold aW.has at this;rw[b]at this;cases this
theorem In {s b:MSt} {x:Sp} {a:aN} (c:wX s x a b):b.ideal=s.ideal:=by rcases c with⟨_,rfl,_⟩|⟨_,_,d,rfl,_⟩<;>rfl
def YQ (s:MSt) (x:Sp) (a:aN) (s':MSt):Prop:=∃s5,wX s x a s5∧s'=if a.e=30∨x.k=1 then s5 else{s5 with ideal:=s.wr x.ln x.dt (if x.k=2 then full64 else x.ms)}
def Io (y:cQ) (col:Nat→Nat) (s:MSt) (n:Nat) (x:Sp) (w:Mz) (e:Ending) (w':Mz):Prop:=∃a col' s',e=E (.agg a.vals)∧kP a∧dL y col' s' (n+5) w'∧dZ s'∧aS KM col w col' w'∧YQ s x a s'
theorem Ip {col:Nat→Nat} {s:MSt} (ok:dZ s) (R:n+5<bY) {x:Sp} (i:dJ x) (A:x.k=1∨x.k=2∨x.k=3) (w:Mz) (bz:dL y col s n w):Nb Y 41 #[y.ar,.agg x.vals] w (Io y col s n x w):=by
 have⟨X,k⟩:=Ex x.vals;have⟨es,q⟩:=Ex ((w.alloc (O X 45)).alloc (O zeroCells48 48));have c:aC w es:=by rw[q];exact gH
 have j:es.heap[w.heap.size]?=S (O X 45):=by rw[q,aV _ _ _ (by simp)];exact aG _ _ _ rfl
 have r:es.heap[w.heap.size+1]?=S (O zeroCells48 48):=by rw[q];exact aG _ _ _ (by simp)
 have d:∀cc,w.heap.size≤cc→col cc=0:=bz.top;have o:=bz.keeps c;have dd:=aA fun W (h:aC es W)=>(F7 W ((o.ct.keeps h).dev)).mono (fun e g (bz:_∧_)=>(⟨bz.1,bz.2▸Bl⟩:_∧Nc W.heap.size W g));have⟨na,a⟩:=Ey s.ct.dv.accs.length;rw[a]at dd;have ew:=aA a;clear a;obtain⟨vi,vs,hr,g,z,B,D⟩:=o.row
 have u:Hid (∀W,aC es W→(Instr.lookup 89 (.map (S y.I)) (I Z x.ln) false).run Y W=.ok (.agg (aD .u8 (s.idl x.ln))) W):=aA (fun W h=>by
  rw[((o.keeps h).ide).lookup underlying3 underlying89 (FE _) i.ln]
  unfold MSt.idl eJ;cases s.ideal x.ln<;>rfl)
 have⟨ae,M⟩:=Ey (s.idl x.ln);rw[M]at u;have LX:Hid (∀W,aC es W→(Mc ⟨w.heap.size,0,N⟩ 0 75 #[]).run Y W=.ok X W):=aA fun W h=>fJ W _ _ 45 (0,0) (aE h j) 75 (by rw[k];exact Sp.size i.dl);have e1:=Cw j 1;rw[k,Sp.c1]at e1;have hz:=aB hr;have C:=aB j;unfold MSt.row at hr;have⟨F,Q⟩:=iO hr 0 2;simp at F Q;rw[←k];have dg:(aD .u8 ae).size=64:=by rw[aP,←M];exact(ok.len x.ln).1
 have bu0:∀l,Hid (l=[(0,.agg X),(2,.agg (aD .u8 ae)),(3,I Z na)])→∀W,(Instr.build 155 l.toArray).run Y W=.ok (.agg (fW X (⟨0,0,ln0⟩:aN).vals (aD .u8 ae) na 0)) W:=fun l hl W=>by rw[hl.out];exact run_build W 155 _ _ (Ie (by rw[k];exact Sp.size i.dl) dg na)
 simp[go_sem]at bu0;have v:=aA (bu0 _ (aA rfl));clear bu0;have⟨S0,a⟩:=Ex (fW X (⟨0,0,ln0⟩:aN).vals (aD .u8 ae) na 0);rw[←a]at v;have ed:S0.size=207:=by rw[a];exact YL (by rw[k];exact Sp.size i.dl) (aN.size rfl) dg
 have dl:=aA a;clear a;have U:X.size=75:=by rw[k];exact Sp.size i.dl
 have HU:=zI o c j r d ok R k i M;unfold cQ.ar at*;clear bz o c j r d ok R hr g z B D k M;go_in;go_upto_region 1 with fail;rw[←q];clear q;refine eK (by kernel_rfl) (iK [0,1,2,3,4,5,6,7,8,9,10,11,12,13] [14] [15] (by kernel_rfl) ?_);simp only[aM,d8]
 repeat
  with_reducible refine dS fun K c=>?_
  go_simp
  try first
   |(apply Ei
     intro g d;obtain⟨h,k⟩:=d.cells;have a:=LX.out _ d;have j:=u.out _ d;have o:=v.out g;go_simp
     first
      |(go_at_call 43;with_reducible exact l9 (dd.out _ d))
      |rfl)
   |(with_reducible refine aQ ?_ ?_;first|decide|simp[Nd];done)
  refine c _ ?_;clear c K
 with_reducible refine dR ?_
 with_reducible refine jX fun W3 a D c=>?_
 go_simp;refine c _ _ (Ka a) ?_;clear c D;with_reducible refine iJ fun W4 c=>?_
 have B:W4.heap[W3.heap.size]?=S (O zeroCells155 155):=aE c (aG _ _ _ rfl);have SP:=Sw B S0 (by rw[ed];kernel_rfl) (by rw[dl.out];exact YM (by rw[HU.out.2.2.2.2.2.2.2.1];exact Sp.one _) (aN.one _) (dG _ _));have zA:=aB B;have h:aC W3 W4:=aK aU c;have H4:=Hd3 a h B;clear a c h B F Q hz C e1 v u;go_wp2_with fail;refine dT ?_;go_upto_region 2 with fail;have⟨a,h,B⟩:=H4.out;have⟨o,c,j,r,d,ok,R,k,i,M⟩:=HU.out;have C:es.heap.size≤W3.heap.size:=a.size;have⟨bx,hA⟩:=Ex W3.heap.size;rw[←hA]at B C SP zA ⊢;have⟨V,D⟩:=Ex (W4.setRow bx S0);have r5:V.heap[bx]?=S (O S0 155):=by rw[D];exact Hw B _
 have k5:aC es V:=by rw[D];exact Oi (aK a h) C _
 rw[←D];have u:=o.keeps k5;have q:=aE k5 j;have aa:=aE k5 r;have v:col bx=0:=d bx (No c.size C);have an:=c.size;have z1:=aB j;have z2:=aB r;have n1:w.heap.size≠bx:=by omega
 have n2:w.heap.size+1≠bx:=by omega
 rw[dl.out]at r5;have F:Hid (x.k≠2→sQ y col s n x X ae na w bx V):=aA fun h2=>⟨u,ok,aK c k5,by rw[Fn h2,←k];exact q,aa,d,r5,by omega,R,k,i⟩
 have ab:Hid (x.k=2→sQ y col s n x X ae na w bx (V.setCell ⟨w.heap.size,66,N⟩ (.int .u64 full64))):=aA (fun h2=>by
  have Q:=jC V w.heap.size 66 (.int .u64 full64);refine⟨u.chg Q fun b g=>by rw[g,d _ Nl];exact jU,ok,Ks (aK c k5) Nl,?_,aJ Q aa (by omega),d,aJ Q r5 (by omega),by omega,R,k,i⟩
  rw[Hs 66 _ q,k,Fp h2,Sp.set66 i.dl])
 have ad:=aB r5;have e0:=Cw q 0;rw[k,Sp.c0]at e0;have H:=aB q;obtain⟨ex,ez,g,_⟩:=u.row;have z:=aB g;unfold MSt.row at g;have J:=Cw g 1;simp at J;have e1:=Cw q 1;rw[k,Sp.c1]at e1;have em:=Cw q 66;rw[k,Sp.cm i.dl]at em;have eh:y.Y≠w.heap.size:=fun e=>by have:=u.cY;rw[e,d _ Nl]at this;cases this
 have fm:=Fw q 66;have OK:=aA ok;have HN:=aA R;have HX:=aH k i;have HG:=aA M;have ei:Hid (w.heap.size≤bx):=aA (by omega);clear a h B o c j r d ok R k i M C hA D r5 k5 u q aa v SP zA H4 HU an z1 z2 n1 n2 LX g;go_upto_if 35 with fail;rw[Ik];go_cut [] from 22 to 64 fun c=>O3 y col s n x X ae na w bx c
 case first=>
  rcases A with A|A|A
  ·have h1:(x.k==1)=true:=by rw[A];rfl
   have a:=F.out (by rw[A];decide);have HK:=aA A;clear A ab em fm;cases g:bel x.ln (s.ct.ld.rp.t.seen*s.ct.ld.rp.t.c)
   ·have u:=aA fun W (h:aC V W)=>El a.ok.ct x.ln g W (a.m.keeps h).ct
    have j:=aH a g;clear g a F;unfold dK.ar at u;go_wp2_with fail;refine eK (by kernel_rfl) (YO [0,1,2,3,4,5] [6,7] [9] [8,10,11,12,13,14,15] (by kernel_rfl) ?_);simp only[aM,d8]
    repeat
     with_reducible refine dS fun K c=>?_
     go_simp
     try first
      |(apply Ei
        intro g d;obtain⟨h,k⟩:=d.cells;go_simp
        rfl)
      |(with_reducible refine aQ ?_ ?_;first|decide|simp[Nd];done)
     refine c _ ?_;clear c K
    with_reducible refine dR ?_
    intro C i;have r:=aA i;clear i J e1 H z e0;with_reducible refine kZ fun D c=>?_
    go_simp;refine(u.out C r.out).mono ?_;rintro e w7 ⟨rfl,k⟩;have⟨a,g⟩:=j.out;have d:=aK r.out k;have h:=aE d a.r;have SD:=YK h a.sz (l':=ln0) rfl;have M:=Hw h (fW X (⟨0,0,ln0⟩:aN).vals (aD .u8 ae) na 0);have c8:=vA M a.sz;have f8:=Fw M 75;have z7:=aB h;have B:=aH d M;clear k a g d h M;go_simp;refine c _ _ trivial ?_;clear c D;with_reducible refine kZ fun D c=>?_
    go_simp;refine c _ _ trivial ?_;clear c D;with_reducible refine lX ?_
    repeat(
     with_reducible refine i9 fun K c=>?_
     go_simp;unfold gI;apply Ei
     ·intro g d;go_simp;exact⟨rfl,rfl⟩
     refine c _ ?_
     clear c K)
    with_reducible refine eZ ?_
    go_wp2_with fail;refine dT ?_;go_wp2_with fail;go_meet;exact GE j.out.1 B.out.1 ((kO _ _ _).trans (jC _ _ _ _)) (wW B.out.2 j.out.1.sz 30) (.inl (j.out.1.has j.out.2))
   ·have u:=aA fun W (h:aC V W)=>Ek a.ok.ct (show n+3<bY by have:=a.n;omega) x.ln g W (a.m.keeps h).ct
    have j:=aH a g;clear g a F;unfold dK.ar at u;go_wp2_with fail;refine eK (by kernel_rfl) (YO [0,1,2,3,4,5] [6,7] [9] [8,10,11,12,13,14,15] (by kernel_rfl) ?_);simp only[aM,d8]
    repeat
     with_reducible refine dS fun K c=>?_
     go_simp
     try first
      |(apply Ei
        intro g d;obtain⟨h,k⟩:=d.cells;go_simp
        rfl)
      |(with_reducible refine aQ ?_ ?_;first|decide|simp[Nd];done)
     refine c _ ?_;clear c K
    with_reducible refine dR ?_
    intro C i;have r:=aA i;clear i J e1 H z e0;with_reducible refine kZ fun D c=>?_
    go_simp;refine(u.out C r.out).mono ?_;rintro e w7 ⟨c7,an,rfl,o,q,k,v⟩;have⟨a,g⟩:=j.out;have h:=k.at (aE r.out a.r) (by rw[a.t bx (by have:=a.hA;omega)];exact jS);have R:(s.ct.dec (s.ct.ix x.ln)).1.length=64:=uV (a.ok.ct.dv.dr.read_len _) _;have aa:aX 64 (s.ct.dec (s.ct.ix x.ln)).1:=FT _ (a.ok.ct.dv.dr.read_len _) (a.ok.ct.dv.dr.read_bts _) _;have Q:toldV (s.ct.dec (s.ct.ix x.ln)).2.1=0∨toldV (s.ct.dec (s.ct.ix x.ln)).2.1=40∨toldV (s.ct.dec (s.ct.ix x.ln)).2.1=41:=by unfold toldV;split;exact .inr (.inl rfl);split;exact .inr (.inr rfl);exact .inl rfl
    have d:wX s x ⟨toldV (s.ct.dec (s.ct.ix x.ln)).2.1,0,(s.ct.dec (s.ct.ix x.ln)).1⟩ {s with ct:=an}:=.inr ⟨by show toldV _≠30;omega,(a.ok.ct.ld.has x.ln).1 g,an,rfl,.inl ⟨HK.out,v,rfl⟩⟩;generalize toldV (s.ct.dec (s.ct.ix x.ln)).2.1=T at*;generalize(s.ct.dec (s.ct.ix x.ln)).1=av at*;have SD:=YK h a.sz (l':=av) R;have M:=Hw h (fW X (⟨0,0,av⟩:aN).vals (aD .u8 ae) na 0);have c8:=vA M a.sz;have f8:=Fw M 75;have z7:=aB h;have ar:(aD .u8 av).size=64:=by rw[aP];exact R
    have B:=pP o q k M d Q R aa;clear o q k a g h M v d Q R aa;go_simp;refine c _ _ trivial ?_;clear c D;with_reducible refine kZ fun D c=>?_
    go_simp;refine c _ _ trivial ?_;clear c D;with_reducible refine lX ?_
    repeat(
     with_reducible refine i9 fun K c=>?_
     go_simp;unfold gI;apply Ei
     ·intro g d;go_simp;exact⟨rfl,rfl⟩
     refine c _ ?_
     clear c K)
    with_reducible refine eZ ?_
    go_wp2_with fail;refine dT ?_;go_wp2_with fail;go_meet;have⟨o,q,k,M,d,Q,R,aa⟩:=B.out;exact O4 j.out.1 r.out o q k ((kO _ _ _).trans (jC _ _ _ _)) (wW M j.out.1.sz T) ⟨by show bN T;unfold bN;omega,mY,R,aa⟩ d
  ·have h1:(x.k==1)=false:=by rw[A];rfl
   have h2:(x.k==2)=true:=by rw[A];rfl
   have a:=ab.out A;have HK:=aA A;have c:=(jC V w.heap.size 66 (.int .u64 full64)).cell (p:=⟨y.Y,1,N⟩) z eh;have D:(V.setCell ⟨w.heap.size,66,N⟩ (.int .u64 full64)).cell? ⟨w.heap.size,1,N⟩=S (I Z x.ln):=by rw[Cw a.b1 1,Sp.c1]
   rw[J]at c;have⟨R,M⟩:=Ex (V.setCell ⟨w.heap.size,66,N⟩ (.int .u64 full64));rw[←M]at a c D;have aa:=aA M;have HY:=aH c D;clear A F ab M c D J e1;go_upto_region 8 with fail;rw[show(V.setCell ⟨w.heap.size,66,N⟩ (.int .u64 18446744073709551615))=R from aa.out.symm];have⟨J,g1⟩:=HY.out;have zb:=aB a.b1;have zY:y.Y<R.heap.size:=by rw[aa.out];simpa using z
   clear em fm e0 H z ad;cases g:bel x.ln (s.ct.ld.rp.t.seen*s.ct.ld.rp.t.c)
   ·have u:=aA fun W (h:aC R W)=>Ga a.ok.ct x.ln g w.heap.size 2 64 x.dt a.x.dl W (a.m.keeps h).ct (a.dat.keeps h)
    have j:=aH a g;clear g a;unfold dK.ar at u;go_wp2_with fail;refine eK (by kernel_rfl) (lS [0,1,2,3,4,5,6,7] [] [8,9,10,11] (by kernel_rfl) ?_);simp only[aM,d8]
    repeat
     with_reducible refine dS fun K c=>?_
     go_simp
     try first
      |(apply Ei
        intro g d;obtain⟨h,k⟩:=d.cells;go_simp
        rfl)
      |(with_reducible refine aQ ?_ ?_;first|decide|simp[Nd];done)
     refine c _ ?_;clear c K
    with_reducible refine dR ?_
    with_reducible refine eZ ?_
    intro C i;have r:=aA i;clear i J g1 zb zY;go_wp2_with fail;refine(u.out C r.out).mono ?_;rintro e w7 ⟨rfl,k⟩;have⟨a,g⟩:=j.out;have d:=aK r.out k;have h:=aE d a.r;have c8:=vA h a.sz;have f8:=Fw h 75;have z7:=aB h;have B:=aH d h;clear k a g d h;go_wp2_with fail;refine dT ?_;go_wp2_with fail;go_meet;exact GE j.out.1 B.out.1 (jC _ _ _ _) (wW B.out.2 j.out.1.sz 30) (.inl (j.out.1.has j.out.2))
   ·have u:=aA fun W (h:aC R W)=>Gb a.ok.ct (show n+3<bY by have:=a.n;omega) x.ln g w.heap.size 2 64 x.dt a.x.dl a.x.db W (a.m.keeps h).ct (a.dat.keeps h)
    have j:=aH a g;clear g a;unfold dK.ar at u;go_wp2_with fail;refine eK (by kernel_rfl) (lS [0,1,2,3,4,5,6,7] [] [8,9,10,11] (by kernel_rfl) ?_);simp only[aM,d8]
    repeat
     with_reducible refine dS fun K c=>?_
     go_simp
     try first
      |(apply Ei
        intro g d;obtain⟨h,k⟩:=d.cells;go_simp
        rfl)
      |(with_reducible refine aQ ?_ ?_;first|decide|simp[Nd];done)
     refine c _ ?_;clear c K
    with_reducible refine dR ?_
    with_reducible refine eZ ?_
    intro C i;have r:=aA i;clear i J g1 zb zY;go_wp2_with fail;refine(u.out C r.out).mono ?_;rintro e w7 ⟨c7,an,db,rfl,o,q,k,v⟩;have⟨a,g⟩:=j.out;have h:=k.at (aE r.out a.r) (by rw[a.t bx (by have:=a.hA;omega)];exact jS);have Q:db=0∨db=40∨db=41:=YP v;have d:wX s x ⟨db,0,ln0⟩ {s with ct:=an}:=.inr ⟨by show db≠30;omega,(a.ok.ct.ld.has x.ln).1 g,an,rfl,.inr (.inl ⟨HK.out,v,rfl⟩)⟩;have c8:=vA h a.sz;have f8:=Fw h 75;have z7:=aB h;have B:=eQ o q k h d Q;clear o q k a g h v d Q;go_wp2_with fail;refine dT ?_;go_wp2_with fail;go_meet;have⟨o,q,k,h,d,Q⟩:=B.out;exact O4 j.out.1 r.out o q k (jC _ _ _ _) (wW h j.out.1.sz db) ⟨by show bN db;unfold bN;omega,mY,rfl,kI⟩ d
  ·have h1:(x.k==1)=false:=by rw[A];rfl
   have h2:(x.k==2)=false:=by rw[A];rfl
   have a:=F.out (by rw[A];decide);have HK:=aA A;clear A F ab;cases g:bel x.ln (s.ct.ld.rp.t.seen*s.ct.ld.rp.t.c)
   ·have u:=aA fun W (h:aC V W)=>XR a.ok.ct x.ln g w.heap.size 2 64 x.dt a.x.dl x.ms W (a.m.keeps h).ct (a.dat.keeps h)
    have j:=aH a g;clear g a;unfold dK.ar at u;go_wp2_with fail;refine eK (by kernel_rfl) (lS [0,1,2,3,4,5,6,7,8,9] [] [10,11,12,13] (by kernel_rfl) ?_);simp only[aM,d8]
    repeat
     with_reducible refine dS fun K c=>?_
     go_simp
     try first
      |(apply Ei
        intro g d;obtain⟨h,k⟩:=d.cells;go_simp
        rfl)
      |(with_reducible refine aQ ?_ ?_;first|decide|simp[Nd];done)
     refine c _ ?_;clear c K
    with_reducible refine dR ?_
    with_reducible refine eZ ?_
    intro C i;have r:=aA i;clear i J e1 H z e0 em fm;go_wp2_with fail;refine(u.out C r.out).mono ?_;rintro e w7 ⟨rfl,k⟩;have⟨a,g⟩:=j.out;have d:=aK r.out k;have h:=aE d a.r;have c8:=vA h a.sz;have f8:=Fw h 75;have z7:=aB h;have B:=aH d h;clear k a g d h;go_wp2_with fail;refine dT ?_;go_wp2_with fail;go_meet;exact GE j.out.1 B.out.1 (jC _ _ _ _) (wW B.out.2 j.out.1.sz 30) (.inl (j.out.1.has j.out.2))
   ·by_cases c:x.ms=0
    ·have D:=aA c
     rw[c]at em;clear c;have u:=aA fun W (h:aC V W)=>Fy a.ok.ct x.ln g w.heap.size 2 64 x.dt a.x.dl W (a.m.keeps h).ct (a.dat.keeps h);have j:=aH a g;clear g a;unfold dK.ar at u;go_wp2_with fail;refine eK (by kernel_rfl) (lS [0,1,2,3,4,5,6,7,8,9] [] [10,11,12,13] (by kernel_rfl) ?_);simp only[aM,d8]
     repeat
      with_reducible refine dS fun K c=>?_
      go_simp
      try first
       |(apply Ei
         intro g d;obtain⟨h,k⟩:=d.cells;go_simp
         rfl)
       |(with_reducible refine aQ ?_ ?_;first|decide|simp[Nd];done)
      refine c _ ?_;clear c K
     with_reducible refine dR ?_
     with_reducible refine eZ ?_
     intro C i;have r:=aA i;clear i J e1 H z e0 em fm;go_wp2_with fail;refine(u.out C r.out).mono ?_;rintro e w7 ⟨rfl,k⟩;have⟨a,g⟩:=j.out;have d:=aK r.out k;have h:=aE d a.r;have c8:=vA h a.sz;have f8:=Fw h 75;have z7:=aB h;have B:=aH d h;clear k a g d h;go_wp2_with fail;refine dT ?_;go_wp2_with fail;go_meet;exact GE j.out.1 B.out.1 (jC _ _ _ _) (wW B.out.2 j.out.1.sz 30) (.inr ⟨HK.out,D.out⟩)
    ·have D:=aA c
     clear c
     have u:Hid (∀W,aC V W→Nb Y 67 #[y.q.ar,I Z x.ln,.slice (S ⟨w.heap.size,2,N⟩) 64 64,.int .u64 x.ms] W (G8 y.q s.ct n x.ln x.dt x.ms col W)):=aA (fun W h=>by
      by_cases c:x.ms=full64
      ·exact XS a.ok.ct (show n+3<bY by have:=a.n;omega) x.ln g w.heap.size 2 64 x.dt a.x.dl a.x.db x.ms a.x.ms c W (a.m.keeps h).ct (a.dat.keeps h)
      ·exact Fz a.ok.ct (show n+3<bY by have:=a.n;omega) x.ln g w.heap.size 2 64 x.dt a.x.dl a.x.db x.ms a.x.ms D.out c W (a.m.keeps h).ct (a.dat.keeps h))
     have j:=aH a g;clear g a;unfold dK.ar at u;go_wp2_with fail;refine eK (by kernel_rfl) (lS [0,1,2,3,4,5,6,7,8,9] [] [10,11,12,13] (by kernel_rfl) ?_);simp only[aM,d8]
     repeat
      with_reducible refine dS fun K c=>?_
      go_simp
      try first
       |(apply Ei
         intro g d;obtain⟨h,k⟩:=d.cells;go_simp
         rfl)
       |(with_reducible refine aQ ?_ ?_;first|decide|simp[Nd];done)
      refine c _ ?_;clear c K
     with_reducible refine dR ?_
     with_reducible refine eZ ?_
     intro C i;have r:=aA i;clear i J e1 H z e0 em fm;go_wp2_with fail;refine(u.out C r.out).mono ?_;rintro e w7 ⟨c7,an,db,rfl,o,q,k,v⟩;have⟨a,g⟩:=j.out;have h:=k.at (aE r.out a.r) (by rw[a.t bx (by have:=a.hA;omega)];exact jS);have Q:db=0∨db=40∨db=41:=YP v;have d:wX s x ⟨db,0,ln0⟩ {s with ct:=an}:=.inr ⟨by show db≠30;omega,(a.ok.ct.ld.has x.ln).1 g,an,rfl,.inr (.inr ⟨HK.out,D.out,v,rfl⟩)⟩;have c8:=vA h a.sz;have f8:=Fw h 75;have z7:=aB h;have B:=eQ o q k h d Q;clear o q k a g h v d Q;go_wp2_with fail;refine dT ?_;go_wp2_with fail;go_meet;have⟨o,q,k,h,d,Q⟩:=B.out;exact O4 j.out.1 r.out o q k (jC _ _ _ _) (wW h j.out.1.sz db) ⟨by show bN db;unfold bN;omega,mY,rfl,kI⟩ d
 case rest=>
  obtain⟨eg,c5,s5,B,c,o,q,u,j,r,t1,D,v,d⟩:=hcut;have⟨k,i⟩:=HX.out;have U:X.size=75:=by rw[k];exact Sp.size i.dl
  have cE:=vA (e:=eg.e) (m:=eg.n) (l:=eg.l) B U;have C:=NZ B U (aN.size c.ll);have M:=Sw r eg.vals (by rw[aN.size c.ll];kernel_rfl) (aN.one _);have aa:eg.vals.size=66:=aN.size c.ll;have zA:=aB B;have R:=aB j;have an:=aB r;have k0:=Cw j 0;rw[Sp.c0]at k0;have a:=aA (Ai B (Ai c (Ai o (Ai q (Ai u (Ai j (Ai r (Ai t1 (Ai D (Ai v d))))))))));have⟨ef,g⟩:=Ey eg.e;rw[g]at cE;have⟨ek,h⟩:=Ey eg.vals;rw[h]at C M aa;have HA:=aH g h;clear F ab A B c o q u j r t1 D v d k i g h J e1 em fm e0 H z ad;by_cases g:ef=30
  ·have ee:(ef==30)=true:=by rw[g];rfl
   have cu:=aA g;clear g;go_wp2_with fail;have⟨B,c,o,q,u,j,r,t1,D,v,d⟩:=a.out;have Q:=kO wc (w.heap.size+1) ek;refine Ng (Oh (P:=Y) results41 _ _ (w.heap.size+1) 48 ek (0,0) _ rfl (Hw r _) underlying48 rfl (by rw[aa];kernel_rfl)) rfl ?_;refine⟨eg,c5,s5,by rw[HA.out.2],c,(o.chg Q fun b g=>by rw[g,D];exact jU).mono (by omega),q,u.loc _ (Ob _) Q,s5,d,?_⟩;rw[Fp (.inl (by rw[HA.out.1,cu.out]))]
  ·have ee:(ef==30)=false:=by simpa using g
   have cu:=aA g;clear g C M;go_upto_if 73 with fail;go_cut [] from 73 to 86 (fun c=>∃s6:MSt,dL y c5 s6 (n+4) c∧dZ s6∧aS KM col w c5 c∧c.heap[bx]?=S (O (fW X ek (aD .u8 ae) na 0) 155)∧c.heap[w.heap.size+1]?=S (O zeroCells48 48)∧s6=if x.k=1 then s5 else{s5 with ideal:=s.wr x.ln x.dt (if x.k=2 then full64 else x.ms)})
   case first=>
    by_cases g:x.k=1
    ·have ba:(x.k==1)=true:=by rw[g];rfl
     have HK:=aA g;clear g;go_wp2_with fail;go_meet;have⟨B,c,o,q,u,j,r,t1,D,v,d⟩:=a.out;exact⟨s5,o.mono (by omega),q,u,by rw[←HA.out.2];exact B,r,by rw[Fp HK.out]⟩
    ·have ba:(x.k==1)=false:=by simpa using g
     have HK:=aA g;clear g;have⟨B,c,o,q,u,j,r,t1,D,v,d⟩:=a.out;have⟨k,i⟩:=HX.out;obtain⟨cd,cf,F,_⟩:=o.row;have z:=aB F;unfold MSt.row at F;have Q:=Cw F 2;simp at Q;have k1:=Cw j 1;rw[Sp.c1]at k1;obtain⟨C,bd⟩:∃C:Nat,(if x.k=2 then full64 else x.ms)=C:=⟨_,rfl⟩;have ab:C<2^64:=by rw[←bd];split;decide;exact i.ms
     rw[bd]at j;have km:=Cw j 66;rw[Sp.cm (x:={x with ms:=C}) i.dl]at km;have J:ae.length=64:=by rw[←HG.out];exact(OK.out.len x.ln).1
     have LG:Hid (∀W,aC wc W→(Mc ⟨bx,141,N⟩ 0 64 #[]).run Y W=.ok (aD .u8 ae) W):=aA fun W h=>Ii (aE h B) U (aN.size c.ll) (by rw[aP];exact J)
     have LD:Hid (∀W,aC wc W→(Mc ⟨w.heap.size,2,N⟩ 0 64 #[]).run Y W=.ok (aD .u8 x.dt) W):=aA (fun W h=>by
      have e:({x with ms:=C}:Sp).vals=#[I Z x.k,I Z x.ln]++aD .u8 x.dt++(#[.int .u64 C]++x.f.cells.toArray):=by unfold Sp.vals;simp only[Array.append_assoc]
      have:=aE h j;rw[e]at this
      exact D6 this rfl (by rw[aP];exact i.dl))
     have bb:=aA fun W=>PH ae x.dt J i.dl C ab W;have ad:Hid (∀W,aC wc W→∃W',(Instr.mapUpdate 89 (.map (S y.I)) (I Z x.ln) (.agg (aD .u8 (fO ae x.dt (dO C))))).run Y W=.ok () W'∧eT Y 3 y.I (n+3+1) (fun g=>if g=x.ln then S (.agg (aD .u8 (fO ae x.dt (dO C))))else(s5.ideal g).map eJ) W'∧aF (fun g=>g=y.I) W W'):=aA fun W h=>((o.keeps h).ide).update underlying3 underlying89 (by have:=HN.out;unfold bY at this;unfold maxLen;omega) i.ln _;have bm:=aA bd;have bn:=aH J i;clear B c o q u j r t1 D v d k i F bd ab J;go_wp2_with fail;refine eK (by kernel_rfl) (lS [0,1,2,3,4,5,6,7,8,9,10,11,12] [] [13] (by kernel_rfl) ?_);simp only[aM,d8]
     repeat
      with_reducible refine dS fun K c=>?_
      go_simp
      try first
       |(apply Ei
         intro g d;obtain⟨h,k⟩:=d.cells;have i:=LG.out _ d;have j:=LD.out _ d;go_simp
         first
          |(go_at_call 68;with_reducible exact l9 (bb.out _))
          |rfl)
       |(with_reducible refine aQ ?_ ?_;first|decide|simp[Nd];done)
      refine c _ ?_;clear c K
     with_reducible refine dR ?_
     with_reducible refine eZ ?_
     intro ar h;obtain⟨br,u1,M,H⟩:=ad.out ar h;have bs:=Hd3 h M H;clear h M H Q k1 km k0 cE z zA R an ad;go_wp2_with fail;refine dT ?_;go_wp2_with fail;go_meet;have⟨h,M,H⟩:=bs.out;have⟨B,c,o,q,u,j,r,t1,D,v,d⟩:=a.out;have⟨J,i⟩:=bn.out;have bv:s5.ideal=s.ideal:=In d;have bz:(fun g=>if g=x.ln then S (.agg (aD .u8 (fO ae x.dt (dO C))))else(s5.ideal g).map eJ)=fun cc=>(s.wr x.ln x.dt C cc).map eJ:=by funext cc;unfold MSt.wr;rw[bv,HG.out];split<;>rfl
     rw[bz]at M;have av:=(o.keeps h).setIdeal M H;have nI:∀b,c5 b=0→b≠y.I:=fun b g e=>by have:=o.cI;rw[←e,g]at this;cases this
     have bw:aS KM c5 ar c5 br:=⟨fun _ _=>rfl,H.mono fun b _ g=>by rw[g,o.cI];unfold KM;omega⟩;refine⟨_,av,⟨q.ct,fun cc l A=>?_⟩,(u.trans (aS.keeps h)).trans bw,?_,aJ H (aE h r) (nI _ D),by rw[Fn (by have:=HK.out;exact this),bm.out]⟩
     ·unfold MSt.wr at A
      simp only at A;split at A
      ·injection A with A
       rw[←A,HG.out];have g:aX 64 ae:=by rw[←HG.out];exact(OK.out.len x.ln).2
       exact⟨by rw[uD];exact J,XQ g J i.db _⟩
      ·exact OK.out.ide cc l A
     ·rw[←HA.out.2];exact aJ H (aE h B) (nI _ v)
   case rest=>
    obtain⟨s6,M,A,ab,B,Q,C⟩:=hcut;have r:=eQ M A ab B Q C;have j:=aA fun W (h:aC wc W)=>(F7 W ((M.ct.keeps h).dev)).mono (fun e g (bz:_∧_)=>(⟨bz.1,bz.2▸Bl⟩:_∧Nc W.heap.size W g));have⟨nb,c⟩:=Ey s6.ct.dv.accs.length;rw[c]at j;clear c;have⟨u,c,H,q,o,ad,ar,t1,D,v,d⟩:=a.out;have⟨k,i⟩:=HX.out;have J:(aD .u8 ae).size=64:=by rw[aP,←HG.out];exact(OK.out.len x.ln).1
    have el:=aA fun W (h:aC wc W)=>Ij (aE h B) U aa J nb;obtain⟨ff,fg,g,_⟩:=M.row;have z:=aB g;have h:=aB B;unfold MSt.row at g;have F:=Cw g 0;simp at F;have HT:=nF t1 D v c d k i;clear k0 cE zA R an u c H q o ad ar t1 D v d k i g M A ab B Q C;go_wp2_with fail;refine(j.out wc Kr).mono ?_;rintro e cc ⟨rfl,u⟩;obtain⟨bd,c⟩:=el.out cc u;have⟨M,A,ab,B,Q,C⟩:=r.out;have fL:=Fw (aE u B) 206;have bb:bx<cc.heap.size:=aB (aE u B);have em:=aH u c;clear u c F z h M A ab B Q C j;go_upto_region 14 with fail;have⟨u,z⟩:=em.out;have⟨M,A,ab,B,Q,C⟩:=r.out;have⟨t1,D,v,c,d,k,i⟩:=HT.out;have R:=jC cc bx 206 (I Z nb);have o:=(M.keeps u).chg R (fun b g=>by rw[g,v];exact jU);have⟨cd,ad⟩:=Ex (cc.setCell ⟨bx,206,N⟩ (I Z nb));rw[←ad]at z R o ⊢;have⟨S1,g⟩:=Ey (fW X ek (aD .u8 ae) na nb);have ar:S1.size=207:=by rw[←g];exact YL U aa J
    have cn:S1.all (·.oneCell')=true:=by rw[←g];exact YM (by rw[k];exact Sp.one _) (by rw[←HA.out.2];exact aN.one _) (dG _ _)
    rw[g]at z;have en:=aA g;have an:w.heap.size+1≠bx:=fun e=>by rw[←e]at B;rw[Q]at B;injection B with bz;injection bz with bz h';cases h'
    have q:=aJ R (aE u Q) an;have H:=NZ (by rw[g];exact z:cd.heap[bx]?=S (O (fW X ek (aD .u8 ae) na nb) 155)) U aa;have ba:w.heap.size≤bx:=ei.out;have F:aS KM col w c5 cd:=(ab.trans (aS.keeps u)).loc bx ba R;obtain⟨i0,dn,ds,cf,eo⟩:=info_parts YH;obtain⟨vi,db,hr,_,⟨L,hL,hl⟩,_,ho⟩:=o.row;obtain⟨cp,av,rfl⟩:=hL.slice;have HV:=bT hr hL hl ho;have hz:=aB hr;have bw:=aB z;unfold MSt.row at hr;have q4:=Cw hr 4;simp at q4;have LS:Hid (∀W,aC cd W→(Mc ⟨bx,0,N⟩ 0 207 #[]).run Y W=.ok S1 W):=aA fun W h=>Lw (aE h z) 207 ar;have bu0:∀l,Hid (l=[(0,.agg S1)])→∀W,(Instr.buildSlice 91 1 l.toArray).run Y W=.ok (.slice (S ⟨W.heap.size,0,N⟩) 1 1) (W.alloc (O S1 155)):=fun l hl W=>by rw[hl.out];exact GD underlying91 dn ds (by rw[cf];decide) (by rw[cf];decide) (by rw[cf];exact ar) W
    simp[go_sem]at bu0;have ep:=aA (bu0 _ (aA rfl));clear bu0;have⟨m,hm⟩:=Ey L.length;rw[hm]at HV q4;have cv:=nF o z q F H A C;have j:=aA hm;clear hm hr hL hl ho o z q F H ad R g u M A ab B Q C t1 D v c d k i bd fL bb ba an;refine vO [0] [1,2,3,4] [5] [6] [7,8,9,10] (by kernel_rfl) (by kernel_rfl) ?_;simp only[aM,d8]
    repeat(
     with_reducible refine i9 fun K c=>?_
     go_simp;unfold gI;apply Ei
     ·intro g d;go_simp;exact⟨rfl,rfl⟩
     refine c _ ?_
     clear c K)
    with_reducible refine eZ ?_
    repeat(
     with_reducible refine i9 fun K c=>?_
     go_simp;unfold gI;apply Ei
     ·intro g d;obtain⟨h,k⟩:=d.cells;go_simp;exact⟨rfl,rfl⟩
     refine c _ ?_
     clear c K)
    with_reducible refine eZ ?_
    repeat
     with_reducible refine Nh fun K c=>?_
     go_simp
     try first
      |(apply Ei
        intro g d;obtain⟨h,k⟩:=d.cells;have i:=LS.out _ d;go_simp
        rfl)
      |(with_reducible refine aQ ?_ ?_;first|decide|simp[Nd];done)
     refine c _ ?_;clear c K
    with_reducible refine Ni ?_
    intro w9 bs;have o:=ep.out w9;with_reducible refine kZ fun D c=>?_
    go_simp;refine c _ _ (Ka bs) ?_;clear c D;with_reducible refine lX ?_
    clear o;have⟨ck,bm,cx,ab⟩:=HV.out;have⟨o,z,q,F,H,A,C⟩:=cv.out;have⟨t1,D,v,c,d,k,i⟩:=HT.out;have hm:=j.out;have u:aC cd (w9.alloc (O S1 155)):=Ka bs;have bb:(w9.alloc (O S1 155)).ownsRow 0 155 207 (.slice cp m av) m L.flatten:=by have:=(bm.keeps u).own;rw[hm]at this;exact this
    have an:=aE u ck;have b9:=aE u q;have a9:=aE u z;have ba:∀ae,(Np cp m av).ownBlock=S ae→ae≠y.Y:=fun ae M e=>by have:=ab ae M;rw[e,o.cY]at this;cases this
    have bn:∀ae,(Np cp m av).ownBlock=S ae→ae≠w.heap.size+1:=fun ae M e=>by have:=ab ae M;rw[e,D]at this;cases this
    have br:∀ae,(Np cp m av).ownBlock=S ae→ae≠bx:=fun ae M e=>by have:=ab ae M;rw[e,v]at this;cases this
    have bd:m+1≤1000000:=by have:=HN.out;unfold bY at this;omega
    have M:S1.toList.length=207:=by simpa using ar
    have HS:=pP an b9 a9 ba bn br u hm;refine FB ?_;refine step_append_lies _ (by rfl) (.tmp 97) (.tmp 99) 91 (by rfl) 0 155 i0 _ 207 312 underlying91 dn ds cf eo (by rfl) (by decide) (.slice cp m av) m L.flatten (by rfl) bb ⟨w9.heap.size,0,N⟩ 1 1 S1.toList (by rfl) (by rw[M]) (Mz.news_of_block (heap_alloc_new w9 _)) (by rw[Array.all_eq_true']at cn;simpa using cn) (by decide) (by unfold maxLen;omega) (by omega) (Nz _) _ rfl ?_;intro g8 B w8 Q h R bv;have ad:=eS h an fun e=>ba _ e.symm rfl;have b8:=eS h b9 fun e=>bn _ e.symm rfl;have a8:=eS h a9 fun e=>br _ e.symm rfl;have f8:=fun g=>Fw ad g;have er:=aB ad;have g:=ad;unfold MSt.row at g;have r4:=Cw g 4;simp at r4;clear g;have H8:=nF ad b8 a8 Q h R bv;clear ck bm cx ab o z q F H A C t1 D v c d k i hm u bb an b9 a9 ba bn br ad b8 a8 Q h R bs hz bw q4 M;go_upto_region 15 with fail;rw[cK];have⟨ad,b8,a8,Q,h,R,bv⟩:=H8.out;have⟨an,b9,a9,ba,bn,br,u,hm⟩:=HS.out;have⟨ck,bm,cx,ab⟩:=HV.out;have⟨o,z,q,F,H,A,C⟩:=cv.out;have⟨t1,D,v,c,d,k,i⟩:=HT.out;have dz:=o.keeps u;have bs:=dY y.Y 4 w8 (.slice (S ⟨g8,0,N⟩) (m+1) B)
    have ea:¬g8=y.Y:=by
     rcases R with bz|bz
     ·exact ba g8 bz
     ·rw[bz];simp;have:=aB an;simp at this;omega
    have eb:bP 155 207 (.slice (S ⟨g8,0,N⟩) (m+1) B) (L++[S1.toList]) (w8.setCell ⟨y.Y,4,N⟩ (.slice (S ⟨g8,0,N⟩) (m+1) B)):=(bP.push (x:=S1.toList) (bm.keeps u) (by simpa using ar) (by rw[hm];exact Q)).chg bs fun ae M e=>ea (by rw[←e];simpa[Of]using M);have ec:aF (fun b=>c5 b=9∨c5 b=12) (w9.alloc (O S1 155)) (w8.setCell ⟨y.Y,4,N⟩ (.slice (S ⟨g8,0,N⟩) (m+1) B)):=(aF.grown Cl h fun g M=>.inl (.inr (ab g M))).trans (bs.mono fun b _ g=>by subst g;exact .inl o.cY)
    obtain⟨bb,bw⟩:=dz.setS (L:=L++[S1.toList]) (v':=.slice (S ⟨g8,0,N⟩) (m+1) B) (n':=n+5) (fun g M hq=>by
     have e:=an.symm.trans hq;obtain⟨e1,e2⟩:vi=g∧(.slice cp m av:Na)=M:=by unfold MSt.row at e;simpa using e
     subst e1 e2
     rw[Hs 4 _ ad];rfl) eb (by rw[Ny,hm];simp;omega) (Ob _) (fun ae M=>by
     have e:g8=ae:=by simpa[Of]using M
     subst e;rcases R with bz|bz
     ·exact .inl (ab _ bz)
     ·exact .inr (by rw[bz];exact Nl)) ec
    have nY:∀b,c5 b=0→b≠y.Y:=fun b g e=>by have:=o.cY;rw[←e,g]at this;cases this
    have M:=aJ bs b8 (nY _ D);have g:=aJ bs a8 (nY _ v);have cl:=(bw.old _ (aB b9)).trans D;have cm:=(F.trans (aS.keeps u)).trans bw;generalize fX c5 (w9.alloc (O S1 155)).heap.size (w8.setCell ⟨y.Y,4,N⟩ (.slice (S ⟨g8,0,N⟩) (m+1) B)).heap.size 12=c9 at*;generalize w8.setCell ⟨y.Y,4,N⟩ (.slice (S ⟨g8,0,N⟩) (m+1) B)=cz at*;have et:(Mc ⟨bx,75,N⟩ 0 66 #[]).run Y cz=.ok ek cz:=NZ (X:=X) (G:=aD .u8 ae) (f:=na) (t:=nb) (by rw[en.out];exact g) U aa;have ev:=Sw M ek (by rw[aa];kernel_rfl) (by rw[←HA.out.2];exact aN.one _);have zb:=aB M;have za:=aB g;have HF:=bT bb M cl cm;clear ad b8 a8 Q h R bv an b9 a9 ba bn br u hm ck bm cx ab o z q F H A C t1 D v c d k i dz bs ea eb ec bb bw nY M g cl cm r4 f8 er;go_wp2_with fail;have⟨bb,M,cl,cm⟩:=HF.out;have⟨t1,D,v,c,d,k,i⟩:=HT.out;have⟨o,z,q,F,H,A,C⟩:=cv.out;have Q:=kO cz (w.heap.size+1) ek;refine Ng (Oh (P:=Y) results41 _ _ (w.heap.size+1) 48 ek (0,0) _ rfl (Hw M _) underlying48 rfl (by rw[aa];kernel_rfl)) rfl ?_;refine⟨eg,c9,s6,by rw[HA.out.2],c,bb.chg Q fun b g=>by rw[g,cl];exact jU,A,cm.loc _ (Ob _) Q,s5,d,?_⟩;rw[C];by_cases g:x.k=1
    ·rw[Fp g,Fp (.inr g)]
    ·have h:¬(eg.e=30∨x.k=1):=fun bz=>bz.elim (fun bz=>cu.out (by rw[←HA.out.1,bz])) g;rw[Fn g,Fn h]
end
section
open Go.RowKit Go.Shelf lin
attribute [local go_sem] Oper.semAt_some cK Mh
attribute [local simp] Mf Mg Ml
def YR (y:cQ) (col:Nat→Nat) (s:MSt) (n:Nat) (x:Sp) (w:Mz) (e:Ending) (w':Mz):Prop:=∃a col' s',e=E (.agg a.vals)∧(x.k≤3→kP a)∧dL y col' s' (n+5) w'∧dZ s'∧aS KM col w col' w'∧Did s x a s'
theorem YS (e n:Int):(zeroCells48.setIfInBounds 0 (I Z e)).setIfInBounds 1 (I Z n)=(⟨e,n,ln0⟩:aN).vals:=by kernel_rfl
theorem vB (e:Int):zeroCells48.setIfInBounds 0 (I Z e)=(⟨e,0,ln0⟩:aN).vals:=by kernel_rfl
theorem YT (n:Int):zeroCells48.setIfInBounds 1 (I Z n)=(⟨0,n,ln0⟩:aN).vals:=by kernel_rfl
theorem dZ.num {s:MSt} (ok:dZ s) (a b:Int):dZ {s with sc:=a,st:=b}:=⟨ok.ct,ok.ide⟩
theorem cO.inj (ok:cO s) (f:aZ):cO {s with dv:=s.dv.inj f}:=⟨ok.ld,ok.dv.inj f,by
 obtain⟨a,b,c,d,e,g⟩:=ok.geo
 have:∀t:bO,(t.inj f).2.r=t.r∧(t.inj f).2.s=t.s∧(t.inj f).2.b=t.b∧(t.inj f).2.d=t.d∧(t.inj f).2.c=t.c∧(t.inj f).2.m=t.m:=fun t=>by
  unfold bO.inj;split
  ·exact⟨rfl,rfl,rfl,rfl,rfl,rfl⟩
  split
  ·exact⟨rfl,rfl,rfl,rfl,rfl,rfl⟩
  split
  ·split<;>exact⟨rfl,rfl,rfl,rfl,rfl,rfl⟩
  ·split<;>exact⟨rfl,rfl,rfl,rfl,rfl,rfl⟩
 obtain⟨h,i,j,k,l,m⟩:=this s.dv.dr
 exact⟨h.trans a,i.trans b,j.trans c,k.trans d,l.trans e,m.trans g⟩,ok.cur⟩
theorem Iq:bN 60:=by unfold bN;omega
structure GF (y:cQ) (col:Nat→Nat) (s:MSt) (n:Nat) (x:Sp) (X:Array Na) (w W:Mz):Prop where
 m:∃u t,dL y col {s with sc:=u,st:=t} n W
 ok:dZ s
 k:aS KM col w col W
 b1:W.heap[w.heap.size]?=S (O X 45)
 b2:W.heap[w.heap.size+1]?=S (O zeroCells48 48)
 t:∀k,w.heap.size≤k→col k=0
 n:n+5<bY
 X:X=x.vals
 x:dJ x
theorem GF.fin {col e:Nat→Nat} {s f:MSt} {n':Nat} {x:Sp} {d:Mz} {a:aN} (m:GF y col s n x X w W) (o:dL y e f n' d) (i:n'≤n+5) (j:dZ f) (g:aS KM col W e d) (k:a.l.length=64) (p:x.k≤3→kP a) (q:Did s x a f):(Me ⟨w.heap.size+1,0,N⟩ a.vals.toList 0).run Y d=.ok () (d.setRow (w.heap.size+1) a.vals)∧w.heap.size+1<d.heap.size∧∀c:Array Na,c.getD 4 Nd=.pointer (S ⟨w.heap.size+1,0,N⟩)→bodyPost Y Tryz.f11 (YR y col s n x w) .ret ⟨c,[]⟩ (d.setRow (w.heap.size+1) a.vals):=by
 have h:=g.at m.b2 (by rw[m.t _ (Ob _)];exact jU);have r:e (w.heap.size+1)=0:=(g.old _ (aB m.b2)).trans (m.t _ (Ob _));have l:=kO d (w.heap.size+1) a.vals;refine⟨jV d _ _ _ 48 h (by rw[aN.size k];kernel_rfl) (aN.one _),aB h,fun c t=>Ng (Oh (P:=Y) results11 _ _ (w.heap.size+1) 48 a.vals (0,0) _ t (Hw h _) underlying48 rfl (by rw[aN.size k];kernel_rfl)) rfl ⟨a,e,f,rfl,p,?_,j,?_,q⟩⟩
 ·exact(o.chg l fun b u=>by rw[u,r];exact jU).mono i
 ·exact(m.k.trans g).loc _ (Ob _) l
theorem Ir {s i:MSt} {x:Sp} {a:aN} {t:Int} (d:x.okB=true) (p:x.k=1∨x.k=2∨x.k=3) (l:YQ {s with sc:=s.sc,st:=t} x a i):Did s x a i:=by
 obtain⟨q,f,rfl⟩:=l;rcases f with⟨rfl,rfl,b⟩|⟨j,g,r,rfl,f⟩
 ·rw[Fp (.inl rfl)];exact .no d (by omega) b
 ·rcases f with⟨k,m,c⟩|⟨e,h,c⟩|⟨n,o,h,c⟩
  ·rw[Fp (.inr k),c];exact .rd d k g m
  ·have b:¬(a.e=30∨x.k=1):=fun l=>l.elim j (fun l=>by omega);rw[Fn b,Fp e];have:=Did.wr (s:=s) (t:=t) d e g h;rw[←c]at this;exact this
  ·have b:¬(a.e=30∨x.k=1):=fun l=>l.elim j (fun l=>by omega)
   have e:¬x.k=2:=by omega
   rw[Fn b,Fn e];have:=Did.ma (s:=s) (t:=t) d n g o h;rw[←c]at this;exact this
theorem Is {col:Nat→Nat} {s:MSt} (ok:dZ s) (z:n+5<bY) {x:Sp} (l:dJ x) (w:Mz) (r:dL y col s n w):Nb Y 11 #[y.ar,.agg x.vals] w (YR y col s n x w):=by
 have⟨X,i⟩:=Ex x.vals;have⟨bd,c⟩:=Ex ((w.alloc (O X 45)).alloc (O zeroCells48 48));have p:aC w bd:=by rw[c];exact gH
 have k:bd.heap[w.heap.size]?=S (O X 45):=by rw[c,aV _ _ _ (by simp)];exact aG _ _ _ rfl
 have A:bd.heap[w.heap.size+1]?=S (O zeroCells48 48):=by rw[c];exact aG _ _ _ (by simp)
 have m:∀F,w.heap.size≤F→col F=0:=r.top;have q:=r.keeps p;have V:=Lw k 75 (by rw[i];exact Sp.size l.dl);have K:=aA fun W=>NY l W;rw[←i]at K;have hz:=aB k;rw[←i];have an:X.size=75:=by rw[i];exact Sp.size l.dl
 have HU:=mI q p k A m ok z i l;unfold cQ.ar at*;clear r q p k A m ok z i;go_in;go_upto_region 1 with fail;rw[←c];clear c;cases f:x.okB
 ·rw[f]at K;have v:=aA f;clear f;go_wp2_with fail;refine(K.out _).mono ?_;rintro e R ⟨rfl,d⟩;have⟨q,p,k,A,m,ok,z,i,l⟩:=HU.out;have r:GF y col s n x X w R:=⟨⟨s.sc,s.st,q.keeps d⟩,ok,aS.keeps (aK p d),aE d k,aE d A,m,z,i,l⟩;obtain⟨o,C,g⟩:=r.fin (a:=⟨60,0,ln0⟩) (q.keeps d) (by omega) ok aS.refl rfl (fun _=>⟨Iq,mY,rfl,kI⟩) (.bad v.out);have g:=aA g;rw[←vB,Array.toList_setIfInBounds]at o;clear q p k A m ok z i l r V hz d;go_wp2_with fail;rw[vB];exact g.out _ rfl
 ·rw[f]at K
  have v:=aA f;go_wp2_with fail;refine(K.out _).mono ?_;rintro e R ⟨rfl,d⟩;have⟨q,p,k,A,m,ok,z,i,l⟩:=HU.out;have g:=q.keeps d;obtain⟨L,M,j,_⟩:=id g.row;have H:=j;unfold MSt.row at j;have F:=aB j;have⟨T,Q,q6⟩:=pQ j 1 5 6;simp at T Q q6;have fY:=fun o=>Fw j o;have G:y.Y≠w.heap.size:=fun e=>by have:=g.cY;rw[e,m _ Nl]at this;cases this
  have C:y.Y≠w.heap.size+1:=fun e=>by have:=g.cY;rw[e,m _ (Ob _)]at this;cases this
  have c0:=Cw (aE d k) 0;rw[i,Sp.c0]at c0;have⟨t,ht⟩:=Ey (wrap64 (s.st+1));have⟨h,B⟩:=Ex (R.setCell ⟨y.Y,6,N⟩ (I Z t));have o:aF (fun b=>b=y.Y) R h:=by rw[B];exact jC _ _ _ _
  have D:dL y col {s with sc:=s.sc,st:=t} n h:=g.setNums o (fun L M J=>by rw[B,Hs 6 _ J];rfl);have r:GF y col s n x X w h:=⟨⟨s.sc,t,D⟩,ok,((aS.keeps p).trans (aS.keeps d)).trans ⟨fun _ _=>rfl,o.mono fun b _ J=>by rw[J,g.cY];unfold KM;omega⟩,aJ o (aE d k) (Ne.symm G),aJ o (aE d A) (Ne.symm C),m,z,i,l⟩;have c:=aH r D;have U:=aA B;have HT:=aA ht;have u:1≤x.k∧x.k≤8:=by unfold Sp.okB at f;simp only[Nx,decide_eq_true_eq]at f;exact f.1
  clear q p k A m ok z i l r V hz d g j H D B f o ht;go_upto_region 4 with fail;rw[HT.out,←U.out];have D:=(c.out.1.k).size;have p:=aB c.out.1.b1;have q:=aB c.out.1.b2;have z:y.Y<h.heap.size:=by rw[U.out];simpa using F
  have A:h.cell? ⟨w.heap.size,0,N⟩=S (I Z x.k):=by rw[Cw c.out.1.b1 0,c.out.1.X,Sp.c0]
  have B:h.cell? ⟨y.Y,1,N⟩=S (.pointer (S ⟨y.q.X,0,N⟩)):=by obtain⟨L,M,j,_⟩:=c.out.2.row;rw[Cw j 1];rfl
  have HG:=aA B;have r:(Mc ⟨w.heap.size,0,N⟩ 0 75 #[]).run Y h=.ok X h:=fJ h _ _ 45 (0,0) c.out.1.b1 75 an;clear T Q q6 fY G C c0 F;have⟨F,d⟩:=Ey x.k;rw[d]at A u;have l:=aA d;clear d;rcases(show F=4∨F=5∨F=6∨F=7∨F=8∨(F=1∨F=2∨F=3) by omega)with rfl|rfl|rfl|rfl|rfl|H
  ·have y2:=c.out.2.row
   obtain⟨L,M,j,_⟩:=y2;unfold MSt.row at j;have Q:=Cw j 5;simp at Q;have fY:=fun o=>Fw j o;have⟨bb,V⟩:=Ey (wrap64 (s.sc+1));have⟨m,k⟩:=Ex (h.setCell ⟨y.Y,5,N⟩ (I Z bb));have G:aF (fun b=>b=y.Y) h m:=by rw[k];exact jC _ _ _ _
   have d:dL y col {s with sc:=bb,st:=t} n m:=c.out.2.setNums G (fun L M J=>by rw[k,Hs 5 _ J];rfl);have f:aS KM col h col m:=⟨fun _ _=>rfl,G.mono fun b _ J=>by rw[J,d.cY];unfold KM;omega⟩;have T:m.cell? ⟨y.Y,1,N⟩=S (.pointer (S ⟨y.q.X,0,N⟩)):=by obtain⟨L,M,j,_⟩:=d.row;rw[Cw j 1];rfl
   have ar:=aA V;have av:=aA k;have H3:=aH d f;have i:=aA (Eo c.out.1.ok.ct (show n+3<bY by have:=c.out.1.n;omega) m d.ct);unfold dK.ar at i;have ba:y.Y<m.heap.size:=by rw[k];simpa using z
   clear r j V k G d f B;go_upto_region 7 with fail;rw[ar.out,←av.out];clear Q fY A p q z;go_wp2_with fail;refine i.out.mono ?_;rintro e w4 ⟨a,b,rfl,c4,s4,aa,ab,J,ad⟩;have⟨d,f⟩:=H3.out;have ae:=d.setCt aa (by omega) J;obtain⟨o,C,g⟩:=c.out.1.fin (a:=⟨b,a,ln0⟩) ae (by omega) (dZ.setCt (s:={s with sc:=bb,st:=t}) (c.out.1.ok.num _ _) ab) (f.trans (J.mono fun F u=>u.km)) rfl (fun r=>by have:=l.out;omega) (Did.sc v.out l.out ad);have g:=aA g;rw[←YS,Array.toList_setIfInBounds,Array.toList_setIfInBounds]at o;clear aa ab J ad ae d f T D ba;go_wp2_with fail;rw[YS];exact g.out _ rfl
  ·by_cases G:s.ct.ld.rp.k=0
   ·have i:=aA fun W (d:aC h W)=>Eu G W (c.out.2.keeps d).ct;have Q:=aA G;unfold dK.ar at i;clear r G;go_wp2_with fail;refine(i.out h Kr).mono ?_;rintro e J ⟨rfl,d⟩;obtain⟨o,C,g⟩:=c.out.1.fin (a:=⟨51,0,ln0⟩) (c.out.2.keeps d) (by omega) (c.out.1.ok.num _ _) (aS.keeps d) rfl (fun r=>by have:=l.out;omega) (Did.idle v.out l.out Q.out);have g:=aA g;rw[←vB,Array.toList_setIfInBounds]at o;clear d A B D p q z;go_wp2_with fail;rw[vB];exact g.out _ rfl
   ·have i:=aA fun W (d:aC h W)=>Ev c.out.1.ok.ct (show n+4<bY by have:=c.out.1.n;omega) G W (c.out.2.keeps d).ct;have Q:=aA G;clear G;unfold dK.ar at i;clear r;go_wp2_with fail;refine(i.out h Kr).mono ?_;rintro e J ⟨T,c3,V,rfl,m,j,f,k⟩;have d:=c.out.2.setCt m (by omega) f;obtain⟨o,C,g⟩:=c.out.1.fin (a:=⟨T,0,ln0⟩) d (by omega) (dZ.setCt (s:={s with sc:=s.sc,st:=t}) (c.out.1.ok.num _ _) j) (f.mono fun F u=>u.km) rfl (fun r=>by have:=l.out;omega) (Did.cp v.out l.out Q.out k);have g:=aA g;rw[←vB,Array.toList_setIfInBounds]at o;clear m j f k d A B D p q z;go_wp2_with fail;rw[vB];exact g.out _ rfl
  ·have i:=aA fun W (d:aC h W)=>Em c.out.1.ok.ct (show n<bY by have:=c.out.1.n;omega) W (c.out.2.keeps d).ct;unfold dK.ar at i;clear r;go_wp2_with fail;refine(i.out h Kr).mono ?_;rintro e J ⟨T,c3,V,rfl,m,j,f,k⟩;have d:=c.out.2.setCt m (by omega) f;obtain⟨o,C,g⟩:=c.out.1.fin (a:=⟨T,0,ln0⟩) d (by omega) (dZ.setCt (s:={s with sc:=s.sc,st:=t}) (c.out.1.ok.num _ _) j) (f.mono fun F u=>u.km) rfl (fun r=>by have:=l.out;omega) (Did.tk v.out l.out k);have g:=aA g;rw[←vB,Array.toList_setIfInBounds]at o;clear m j f k d A B D p q z;go_wp2_with fail;rw[vB];exact g.out _ rfl
  ·have i:=aA fun W (d:aC h W)=>En c.out.1.ok.ct (show n<bY by have:=c.out.1.n;omega) W (c.out.2.keeps d).ct;unfold dK.ar at i;clear r;go_wp2_with fail;refine(i.out h Kr).mono ?_;rintro e J ⟨T,c3,V,rfl,m,j,f,k⟩;have d:=c.out.2.setCt m (by omega) f;obtain⟨o,C,g⟩:=c.out.1.fin (a:=⟨0,T,ln0⟩) d (by omega) (dZ.setCt (s:={s with sc:=s.sc,st:=t}) (c.out.1.ok.num _ _) j) (f.mono fun F u=>u.km) rfl (fun r=>by have:=l.out;omega) (Did.cl v.out l.out k);have g:=aA g;rw[←YT,Array.toList_setIfInBounds]at o;clear m j f k d A B D p q z;go_wp2_with fail;rw[YT];exact g.out _ rfl
  ·have m:(Mc ⟨w.heap.size,67,N⟩ 0 8 #[]).run Y h=.ok x.f.cells.toArray h:=lL (P:=Y) h w.heap.size 67 x.f.cells (fun d bb V=>by rw[Cw c.out.1.b1 (67+d),c.out.1.X,Sp.cf c.out.1.x.dl];exact V)
   have i:=aA (Ib (c.out.1.ok.num s.sc t) (show n+2<bY by have:=c.out.1.n;omega) x.f h c.out.2);have⟨V,j⟩:=Ey x.f.cells.toArray;have k:V.size=8:=by rw[←j];rfl
   rw[j]at m i;unfold cQ.ar at i;clear r j;go_wp2_with fail;refine i.out.mono ?_;rintro e J ⟨T,c3,rfl,d,f⟩;have Q:#[I Z T,I Z 0]++aD .u8 ln0=(⟨T,0,ln0⟩:aN).vals:=rfl;rw[Q];obtain⟨o,C,g⟩:=c.out.1.fin (a:=⟨T,0,ln0⟩) d (by omega) ⟨c.out.1.ok.ct.inj x.f,c.out.1.ok.ide⟩ f rfl (fun r=>by have:=l.out;omega) (Did.inj v.out l.out);have G:(⟨T,0,ln0⟩:aN).vals.size=66:=aN.size rfl;have g:=aA g;clear d f A B D p q z Q m k;generalize(⟨T,0,ln0⟩:aN).vals=aa at*;go_wp2_with fail;exact g.out _ rfl
  ·have i:=aA (Ip (c.out.1.ok.num s.sc t) c.out.1.n c.out.1.x (by rw[l.out];exact H) h c.out.2)
   rw[←c.out.1.X]at i;have T:(F==4)=false:=by simp;omega
   have n5:(F==5)=false:=by simp;omega
   have n6:(F==6)=false:=by simp;omega
   have n7:(F==7)=false:=by simp;omega
   have n8:(F==8)=false:=by simp;omega
   have Q:=aA H;unfold cQ.ar at i;clear H u;go_wp2_with fail;refine i.out.mono ?_;rintro e J ⟨a,c3,V,rfl,m,d,j,f,k⟩;obtain⟨o,C,g⟩:=c.out.1.fin (a:=a) d Nl j f m.ll (fun _=>m) (Ir v.out (by rw[l.out];exact Q.out) k);have G:a.vals.size=66:=aN.size m.ll;have g:=aA g;clear m d j f k A B D p q z r;generalize a.vals=aa at*;go_wp2_with fail;exact g.out _ rfl
end
section
open Go.RowKit Go.Shelf lin
attribute [local go_sem] Oper.semAt_some
def vC:dP:=⟨false,0,0,false,0,false⟩
def vD (l:List dP):List (Array Na):=(Nn l.length).map fun(j:Nat)=>#[I Z (j:Int),.agg (l.getD j vC).cells.toArray]
theorem O5 (l:List dP):(vD l).length=l.length:=by simp[vD]
theorem YU {l:List dP} (a:l.length=n) (b:j<n):(vD l)[j]?=S #[I Z (j:Int),.agg (l.getD j vC).cells.toArray]:=by subst a;simp[vD,b]
theorem YV {l:List dP} {x:Array Na} (b:(vD l)[j]?=S x):j<l.length∧x=#[I Z (j:Int),.agg (l.getD j vC).cells.toArray]:=by
 have a:j<l.length:=by have:=(Ol.1 b).1;rwa [O5]at this
 exact⟨a,by rw[YU rfl a]at b;exact(Option.some.inj b).symm⟩
theorem It (v f:Na) (w:Mz) (b:v.oneCell'=true) (c:f.oneCell'=true):Nb Y 70 #[v,f] w fun e a=>e=E (.func (.func 108) #[] #[.pointer (S ⟨w.heap.size+1,0,N⟩),.pointer (S ⟨w.heap.size,0,N⟩)])∧a=(w.alloc (O #[v] 74)).alloc (O #[f] 3):=by go_in;go_wp2;go_ret;exact⟨rfl,rfl⟩
def yQ (S B:Nat) (va:Na) (l:List dP) (W:Mz):Prop:=W.heap[S]?=some (O #[.pointer (some ⟨B,0,N⟩)] 74)∧W.heap[S+1]?=some (O #[I Z 0] 3)∧(∃D G K,W.heap[B]?=some (O #[.pointer (some ⟨D,0,N⟩),.map (some G),.map (some K),va] 121))∧jR va l W
theorem yQ.chg {S:Nat} {d:Na} {l:List dP} (i:yQ S B d l W) (a:aF cw W W') (c:∀b,b=S∨b=S+1∨b=B∨d.ownBlock=some b→¬cw b):yQ S B d l W':=by obtain⟨e,f,⟨j,G,K,g⟩,h⟩:=i;exact⟨aJ a e (c _ (.inl rfl)),aJ a f (c _ (.inr (.inl rfl))),⟨j,G,K,aJ a g (c _ (.inr (.inr (.inl rfl))))⟩,bP.chg h a fun k i=>c k (.inr (.inr (.inr i)))⟩
theorem Iu (S B:Nat) (m:Na) (l:List dP) (d:l.length≤bY) (W:Mz) (j:yQ S B m l W):pW Y 108 #[.pointer (some ⟨S+1,0,N⟩),.pointer (some ⟨S,0,N⟩)] (vD l) (fun b=>b=S∨b=S+1∨b=B∨m.ownBlock=some b) W:=by
 intro lp cw ae Jx aa a k g i c;have⟨n,f⟩:=Ey l.length;rw[f]at d;have ab:n≤1000000:=d;have HY:=aA i;have HC:=aA a;have h:=aA f;have H0:=aA c;have HG:=aA j;have g1:=Cw j.2.1 0;simp at g1;have zN:=aB j.2.1;clear i k g a c j f d;refine(Ns (n:=9)).1 ?_;refine callsIn_of_wp func108 rfl trivial ?_ rfl;simp only[ntmps108,Oc,Oj,List.length_nil,Nat.reduceAdd,Nat.reduceSub,Array.replicate_succ,Array.replicate_zero,List.push_toArray,List.append_toArray,List.nil_append,List.cons_append];gi_wp2_with fail
 gi_loopw [4] (fun s wr=>∃g:Nat,g≤n∧s=I Z (g:Int)∧yQ S B m l wr∧ae g wr∧W.heap.size≤wr.heap.size) fun s _=>n-(intOf s).toNat
 case atStart=>exact⟨0,by omega,rfl,HG.out,H0.out,Nl⟩
 case round=>
  obtain⟨g,hj,rfl,o,p,q⟩:=hrel;obtain⟨r,D,⟨ar,G,K,t⟩,u⟩:=id o;have HA:=aA o;obtain⟨av,v,a⟩:=bP.slice u;rw[Nw,h.out]at a;have F:=Cw r 0;have b3:=Cw t 3;simp at F b3;have zS:=aB r;have zB:=aB t;rw[a]at b3;by_cases i:g<n
  ·have U:(g:Int)<n:=by omega
   obtain⟨fn,V,A,X,hy,hR⟩:=HY.out g _ wr 8 (YU h.out i) p q
   obtain⟨H,c,j,hg,_,_,J⟩:∃H c,m=.slice (some ⟨H,0,N⟩) n c∧H<wr.heap.size∧n≤c∧c≤maxLen∧∀g d x,g<n→d<6→((l.map dP.cells).getD g [])[d]?=some x→wr.cell? ⟨H,6*g+d,N⟩=some x:=by
    rcases bP.cases u with⟨_,e⟩|⟨H,v,w,y,f,z,k⟩
    ·have:=congrArg List.length e;rw[Nw,h.out]at this;exfalso;simp at this;omega
    ·rw[Nw,h.out]at w f k;exact⟨H,v,w,y,f,z,k⟩
   have L:(l.map dP.cells).getD g []=(l.getD g vC).cells:=by have:=h.out;rw[Nf,Om,Nf,Nu (by omega)];rfl
   generalize l.getD g vC=an at*;have f:∀d x,d<6→an.cells[d]?=some x→wr.cell? ⟨H,6*g+d,N⟩=some x:=fun d x k w=>J g d x i k (by rw[L];exact w);unfold dP.cells at f hy;have M:=f 0 _ (by omega) rfl;have P:=f 1 _ (by omega) rfl;have Q:=f 2 _ (by omega) rfl;have R:=f 3 _ (by omega) rfl;have T:=f 4 _ (by omega) rfl;have x5:=f 5 _ (by omega) rfl;rw[Nat.mul_comm,Nat.add_zero]at M;rw[Nat.mul_comm]at P Q R T x5;obtain⟨w,C⟩:wrap64 ((g:Int)+1)=g+1∧IntKind.i64.wrap ((g:Int)+1)=g+1:=⟨IntWalk.wrap64_in _ ⟨by omega,by omega⟩,IntWalk.i64_in _ ⟨by omega,by omega⟩⟩;have x:av=some ⟨H,0,N⟩:=by rw[a]at j;injection j
   rw[x]at b3;have ad:=aA a;clear p r D t u o a j x J L f;gi_wp2_with fail;refine hR.mono ?_;rintro e W3 ⟨d,⟨rfl,y⟩|⟨rfl,z⟩⟩
   ·have a:W.heap.size≤W3.heap.size:=No q d.size
    have f:=aA (HA.out.chg d fun b k j=>HC.out b j k);have k:=aA y;clear y d F b3 M P Q R T x5;gi_wp2_with fail;clear w C;go_roundw
    case rel=>exact⟨g+1,by omega,by simp,f.out,k.out,a⟩
    case measure=>simp[intOf];omega
   ·have k:=aA z;clear z;gi_wp2_with fail;refine Ng (Od rfl _ _ _) rfl ?_;exact⟨⟨_,rfl⟩,.inr k.out⟩
  ·have c:g=n:=by omega
   subst c;have c:Hid (ae (vD l).length wr):=by rw[O5,h.out];exact aA p
   have d:¬(g:Int)<g:=by omega
   clear i r D t u p o a;gi_wp2_with fail;refine bodyPost_end (Od rfl _ _ _) rfl ?_;exact⟨⟨_,rfl⟩,.inl c.out⟩
end
section
open Go.RowKit Go.Shelf lin
attribute [local go_sem] Oper.semAt_some cK Mh
attribute [local simp] Mf Mg
theorem Iv:Y.cellsOf 243=3:=by kernel_rfl
def b3 (a:Int):List Int:=[a%256,a/256%256,a/65536%128]
theorem YW (a:Int):aX 3 (b3 a):=fun c b=>by
 unfold b3
 match c,b with
 |0,_=>exact⟨(a%256).toNat,by show a%256=_;omega,by omega⟩
 |1,_=>exact⟨(a/256%256).toNat,by show a/256%256=_;omega,by omega⟩
 |2,_=>exact⟨(a/65536%128).toNat,by show a/65536%128=_;omega,by omega⟩
theorem Iw (a b:Int) (w:Mz):(Op.equalIn 10000 243 (.agg #[.int .u8 (a%256),.int .u8 (a/256%256),.int .u8 (a/65536%128)]) (.agg #[.int .u8 (b%256),.int .u8 (b/256%256),.int .u8 (b/65536%128)])).run Y w=.ok (decide (b3 a=b3 b)) w:=NX (t:=243) underlying243 Iv (by kernel_rfl) (a:=b3 a) (b:=b3 b) rfl rfl (YW a) (YW b) w
theorem Iy (m a b:Int) (w:Mz):Nb Y 110 #[I Z m,I Z a,I Z b] w fun e f=>(∃c:Bool,e=E (.bool c))∧Nc w.heap.size w f:=by
 obtain⟨q,c⟩:∃q:Nat,a%8388608=(q:Int):=⟨(a%8388608).toNat,by omega⟩;obtain⟨r,d⟩:∃r:Nat,b%8388608=(r:Int):=⟨(b%8388608).toNat,by omega⟩;have g:=aA fun W=>JU a q c W;have h:=aA fun W=>JU b r d W;have i:=aA fun W=>JV a W;have j:=aA fun W=>JV b W;have k:=aA fun W=>Iw a b W;clear c d;by_cases c:m=1
 ·have l:(m==1)=true:=by rw[c];rfl
  clear c;go_in;go_wp2_with fail;refine(g.out _).mono ?_;rintro e d ⟨rfl,rfl⟩;go_wp2_with fail;refine(h.out _).mono ?_;rintro e d ⟨rfl,rfl⟩;go_wp2_with fail;go_ret;exact⟨⟨_,rfl⟩,Bl⟩
 ·have l:(m==1)=false:=by simpa using c
  clear c;go_in;go_wp2_with fail;refine(i.out _).mono ?_;rintro e d ⟨rfl,c⟩;go_wp2_with fail;refine(j.out _).mono ?_;rintro e n ⟨rfl,o⟩;have p:=k.out n;go_wp2_with fail;go_ret;exact⟨⟨_,rfl⟩,vK c o⟩
def vE (ex:Int) (a:dP):Int:=if a.ast=true then ex else max ex (a.ex+if a.mkd=true then 1 else 0)
def D7 (w:Mz) (E:Int) (A:Bool) (e:Ending) (w':Mz):Prop:=(∃d t:Bool,e=.returned (.agg #[I Z E,.bool A,.bool d,.bool t]))∧Nc w.heap.size w w'
theorem yT {E:Int} {A d t:Bool} (k:aC w W) (e:W.heap[w.heap.size]?=S (O #[I Z E,.bool A,.bool d,.bool t] 99)) (b:W.heap[w.heap.size+2]?=S (O #[I Z 0,.bool false,.bool false,.bool false] 99)):∃c:Array Na,c=#[I Z E,.bool A,.bool d,.bool t]∧c.size=4∧(Mc ⟨w.heap.size,0,N⟩ 0 4 #[]).run Y W=.ok c W∧(Me ⟨w.heap.size+2,0,N⟩ c.toList 0).run Y W=.ok () (W.setRow (w.heap.size+2) c)∧w.heap.size+2<W.heap.size∧∀a:Array Na,a.getD 6 Nd=.pointer (S ⟨w.heap.size+2,0,N⟩)→bodyPost Y Tryz.f71 (D7 w E A) .ret ⟨a,[]⟩ (W.setRow (w.heap.size+2) c):=⟨_,rfl,rfl,fJ W _ _ 99 (0,0) e 4 rfl,jV W _ _ _ 99 b rfl (by simp[Nq]),aB b,fun a c=>Ng (Oh (P:=Y) results71 _ _ (w.heap.size+2) 99 _ (0,0) _ c (Hw b _) underlying99 rfl (by kernel_rfl)) rfl ⟨⟨d,t,rfl⟩,Oi k (by omega) _⟩⟩
theorem Iz (f:Int) (sa dr J:Bool) (m:Int) (a:dP) (b:pI a) (w:Mz):Nb Y 71 #[.agg #[I Z f,.bool sa,.bool dr,.bool J],I Z m,.agg a.cells.toArray] w (D7 w (vE f a) (sa||a.ast)):=by
 have HA:=aA fun W=>Ac a W;have HP:=aA fun W=>Iy m a.i a.wi W;obtain⟨i,k⟩:=b;have s:Hid (vE f a=if a.ast=true then f else max f (a.ex+if a.mkd=true then 1 else 0)):=aA rfl;have c:Hid ((sa||a.ast)=(sa||a.ast)):=aA rfl;generalize vE f a=E at*;have⟨A,b⟩:=Ey (sa||a.ast);rw[b];have H:=aA b;clear c b;rcases a with⟨wr,ae,wi,L,g,mk⟩;unfold dP.cells at*;simp only at HA HP s H i k;generalize dP.ast ⟨wr,ae,wi,L,g,mk⟩=ad at*;have HW:=aH (IntWalk.wrap64_in (g+1) ⟨by omega,by omega⟩) (IntWalk.i64_in (g+1) ⟨by omega,by omega⟩);have⟨an,c⟩:=Ex (((w.alloc (O #[I Z f,.bool sa,.bool dr,.bool J] 99)).alloc (O #[.bool wr,I Z ae,I Z wi,.bool L,I Z g,.bool mk] 167)).alloc (O #[I Z 0,.bool false,.bool false,.bool false] 99));have Q:aC w an:=by rw[c];exact kS
 have h:an.heap[w.heap.size]?=S (O #[I Z f,.bool sa,.bool dr,.bool J] 99):=by rw[c,aV _ _ _ (by simp;omega),aV _ _ _ (by simp)];exact aG _ _ _ rfl
 have j:an.heap[w.heap.size+1]?=S (O #[.bool wr,I Z ae,I Z wi,.bool L,I Z g,.bool mk] 167):=by rw[c,aV _ _ _ (by simp)];exact aG _ _ _ (by simp)
 have o:an.heap[w.heap.size+2]?=S (O #[I Z 0,.bool false,.bool false,.bool false] 99):=by rw[c];exact aG _ _ _ (by simp)
 have⟨z0,z1,z2,M,z4,R⟩:=oC j;simp at z0 z1 z2 M z4 R;have z9:=aB j;have HU:=bT Q h j o;have LX:Hid (∀W,aC an W→(Mc ⟨w.heap.size+1,0,N⟩ 0 6 #[]).run Y W=.ok #[.bool wr,I Z ae,I Z wi,.bool L,I Z g,.bool mk] W):=aA fun W b=>fJ W _ _ 167 (0,0) (aE b j) 6 rfl;have lx:=LX.out an Kr;clear i k Q h j o;go_in;go_upto_region 1 with fail;rw[show w.heap.size+1+1=w.heap.size+2 from rfl,←c];clear c;cases ad
 ·go_wp2_with fail
  refine(HA.out _).mono ?_;rintro e l ⟨rfl,q⟩;have⟨Q,h,j,o⟩:=HU.out;have b:=aE q h;have k:=aE q j;have c:=aE q o;have T:=fun G=>Fw b G;have f6:=fun G=>Fw c G;clear z0 z1 z2 M z4 R z9 lx;have⟨u,v,x,y,z,B⟩:=oC k;simp at u v x y z B;have⟨C,D,F,p⟩:=eD b;simp at C D F p;have⟨v0,v1,P,v3⟩:=eD c;simp at v0 v1 P v3;have M:=aB b;have R:=aB k;have z6:=aB c;have i:=Hd3 (aK Q q) b c;have lx:=LX.out l q;clear Q h j o b k c q;cases mk
  ·by_cases aa:g>f
   ·have r:Hid (E=g):=aA (by have:=s.out;simp at this;omega)
    have h:¬(g≤f):=by omega
    clear s;go_upto_region 6 with fail;have⟨i,b,c⟩:=i.out;have n:=jC l w.heap.size 0 (I Z (g));obtain⟨X,U,ab,g1,g2,g3,G⟩:=yT (E:=g) (A:=A) (d:=dr) (t:=J) (W:=l.setCell ⟨w.heap.size,0,N⟩ (I Z (g))) (Ks i Nl) (by rw[Hs 0 _ b,←H.out];simp) (aJ n c (by omega));have V:=aA G;clear i b c n U G T f6 C D F p u v x y z B v0 v1 P v3;go_wp2_with fail;rw[r.out];exact V.out _ rfl
   ·have r:Hid (E=f):=aA (by have:=s.out;simp at this;omega);clear s;go_upto_region 6 with fail;have⟨i,b,c⟩:=i.out;have n:=jC l w.heap.size 0 (I Z (f));obtain⟨X,U,ab,g1,g2,g3,G⟩:=yT (E:=f) (A:=A) (d:=dr) (t:=J) (W:=l.setCell ⟨w.heap.size,0,N⟩ (I Z (f))) (Ks i Nl) (by rw[Hs 0 _ b,←H.out];simp) (aJ n c (by omega));have V:=aA G;clear i b c n U G T f6 C D F p u v x y z B v0 v1 P v3;go_wp2_with fail;rw[r.out];exact V.out _ rfl
  ·have⟨e1,ar⟩:=HW.out
   by_cases aa:g+1>f
   ·have r:Hid (E=g+1):=aA (by have:=s.out;simp at this;omega);clear s;go_upto_region 6 with fail;have⟨i,b,c⟩:=i.out;have n:=jC l w.heap.size 0 (I Z (g+1));obtain⟨X,U,ab,g1,g2,g3,G⟩:=yT (E:=g+1) (A:=A) (d:=dr) (t:=J) (W:=l.setCell ⟨w.heap.size,0,N⟩ (I Z (g+1))) (Ks i Nl) (by rw[Hs 0 _ b,←H.out];simp) (aJ n c (by omega));have V:=aA G;clear i b c n U G T f6 C D F p u v x y z B v0 v1 P v3;go_wp2_with fail;rw[r.out];exact V.out _ rfl
   ·have r:Hid (E=f):=aA (by have:=s.out;simp at this;omega);clear s;go_upto_region 6 with fail;have⟨i,b,c⟩:=i.out;have n:=jC l w.heap.size 0 (I Z (f));obtain⟨X,U,ab,g1,g2,g3,G⟩:=yT (E:=f) (A:=A) (d:=dr) (t:=J) (W:=l.setCell ⟨w.heap.size,0,N⟩ (I Z (f))) (Ks i Nl) (by rw[Hs 0 _ b,←H.out];simp) (aJ n c (by omega));have V:=aA G;clear i b c n U G T f6 C D F p u v x y z B v0 v1 P v3;go_wp2_with fail;rw[r.out];exact V.out _ rfl
 ·have r:Hid (E=f):=aA (by have:=s.out;simp at this;exact this)
  clear s HW;go_wp2_with fail;refine(HA.out _).mono ?_;rintro e l ⟨rfl,q⟩;have⟨Q,h,j,o⟩:=HU.out;have b:=aE q h;have k:=aE q j;have c:=aE q o;have T:=fun G=>Fw b G;clear z0 z1 z2 M z4 R z9 lx;have⟨u,v,x,y,z,B⟩:=oC k;simp at u v x y z B;have⟨C,D,F,p⟩:=eD b;simp at C D F p;have M:=aB b;have R:=aB k;have i:=bT (aK Q q) b c k;clear Q h j o b k c q;go_upto_region 8 with fail;go_cut [] from 24 to 36 (fun b=>∃ab:Bool,aC w b∧b.heap[w.heap.size]?=S (O #[I Z f,.bool true,.bool ab,.bool J] 99)∧b.heap[w.heap.size+2]?=S (O #[I Z 0,.bool false,.bool false,.bool false] 99)∧b.heap[w.heap.size+1]?=S (O #[.bool wr,I Z ae,I Z wi,.bool L,I Z g,.bool mk] 167))
  case first=>
   have h:Hid (∀ab:Bool,∃P:Bool,aC w ((l.setCell ⟨w.heap.size,1,N⟩ (.bool true)).setCell ⟨w.heap.size,2,N⟩ (.bool ab))∧((l.setCell ⟨w.heap.size,1,N⟩ (.bool true)).setCell ⟨w.heap.size,2,N⟩ (.bool ab)).heap[w.heap.size]?=S (O #[I Z f,.bool true,.bool P,.bool J] 99)∧((l.setCell ⟨w.heap.size,1,N⟩ (.bool true)).setCell ⟨w.heap.size,2,N⟩ (.bool ab)).heap[w.heap.size+2]?=S (O #[I Z 0,.bool false,.bool false,.bool false] 99)∧((l.setCell ⟨w.heap.size,1,N⟩ (.bool true)).setCell ⟨w.heap.size,2,N⟩ (.bool ab)).heap[w.heap.size+1]?=S (O #[.bool wr,I Z ae,I Z wi,.bool L,I Z g,.bool mk] 167)):=aA (fun ab=>by
    have⟨j,b,c,k⟩:=i.out;have n:=(jC l w.heap.size 1 (.bool true)).trans (jC (l.setCell ⟨w.heap.size,1,N⟩ (.bool true)) w.heap.size 2 (.bool ab));refine⟨ab,Ks (Ks j Nl) Nl,?_,aJ n c (by omega),aJ n k (by omega)⟩
    rw[Oe _ w.heap.size 2 _ _ _ (Hs 1 _ b)];rfl)
   clear i;by_cases aa:g>0
   ·cases dr<;>cases L<;>(go_wp2_with fail;go_meet;exact h.out _)
   ·have b:decide (g>0)=false:=by simpa using aa
    cases dr<;>cases L<;>(go_wp2_with fail;go_meet;exact h.out _)
  case rest=>
   obtain⟨ab,V,h,o,j⟩:=hcut;clear u v x y z B C D F p T M R;have⟨u,v,x,y,z,B⟩:=oC j;simp at u v x y z B;have⟨C,D,F,p⟩:=eD h;simp at C D F p;have T:=fun G=>Fw h G;have M:=aB h;have R:=aB j;have k:=bT V h o j
   have U:Hid (∀W,aC wc W→∃X:Array Na,X.size=4∧(Mc ⟨w.heap.size,0,N⟩ 0 4 #[]).run Y W=.ok X W∧(Me ⟨w.heap.size+2,0,N⟩ X.toList 0).run Y W=.ok () (W.setRow (w.heap.size+2) X)∧w.heap.size+2<W.heap.size∧Hid (∀b:Array Na,b.getD 6 Nd=.pointer (S ⟨w.heap.size+2,0,N⟩)→bodyPost Y Tryz.f71 (D7 w f true) .ret ⟨b,[]⟩ (W.setRow (w.heap.size+2) X))):=aA (fun W b=>by
    obtain⟨X,_,q,s,G,Q,c⟩:=yT (aK k.out.1 b) (aE b k.out.2.1) (aE b k.out.2.2.1)
    exact⟨X,q,s,G,Q,aA c⟩)
   have aa:Hid (∀W,aC wc W→∃X:Array Na,X.size=4∧(Mc ⟨w.heap.size,0,N⟩ 0 4 #[]).run Y (W.setCell ⟨w.heap.size,3,N⟩ (.bool false))=.ok X (W.setCell ⟨w.heap.size,3,N⟩ (.bool false))∧(Me ⟨w.heap.size+2,0,N⟩ X.toList 0).run Y (W.setCell ⟨w.heap.size,3,N⟩ (.bool false))=.ok () ((W.setCell ⟨w.heap.size,3,N⟩ (.bool false)).setRow (w.heap.size+2) X)∧w.heap.size+2<(W.setCell ⟨w.heap.size,3,N⟩ (.bool false)).heap.size∧Hid (∀b:Array Na,b.getD 6 Nd=.pointer (S ⟨w.heap.size+2,0,N⟩)→bodyPost Y Tryz.f71 (D7 w f true) .ret ⟨b,[]⟩ ((W.setCell ⟨w.heap.size,3,N⟩ (.bool false)).setRow (w.heap.size+2) X))):=aA (fun W b=>by
    have n:=jC W w.heap.size 3 (.bool false);obtain⟨X,_,q,s,G,Q,c⟩:=yT (E:=f) (A:=true) (d:=ab) (t:=false) (K.set (aK k.out.1 b) Nl (.bool false)) (by rw[Oe W w.heap.size 3 _ _ _ (aE b k.out.2.1)];rfl) (aJ n (aE b k.out.2.2.1) (by omega))
    exact⟨X,q,s,G,Q,aA c⟩)
   have b:Hid (A=true):=aA (by rw[←H.out];simp);clear V h o j;have done:Hid True:=aA trivial;cases wr
   ·cases L
    ·go_wp2_with fail
     refine(HP.out _).mono ?_;rintro e w2 ⟨⟨P,rfl⟩,n⟩;have⟨V,h,o,j⟩:=k.out;have ar:=fun G=>Fw (aE n h) G;clear u v x y z B C D F p T M R;have p:=Cw ((aE n h)) 3;simp at p;have M:=aB (aE n h);obtain⟨X,q,s,G,Q,c⟩:=U.out w2 n;obtain⟨R2,c1,c2,c3,c4,c5⟩:=aa.out w2 n;clear V h o j n;cases P
     ·go_wp2_with fail;rw[r.out,b.out];exact c5.out _ rfl
     ·go_wp2_with fail;rw[r.out,b.out];exact c.out _ rfl
    ·obtain⟨X,q,s,G,Q,c⟩:=U.out wc Kr;go_wp2_with fail;rw[r.out,b.out];exact c.out _ rfl
   ·obtain⟨X,q,s,G,Q,c⟩:=U.out wc Kr;go_wp2_with fail;rw[r.out,b.out];exact c.out _ rfl
def yU (p:Int×Bool) (a:dP):Int×Bool:=(vE p.1 a,p.2||a.ast)
def lK (l:List dP):Int×Bool:=l.foldl yU (0,false)
theorem Ja {l:List dP} (a:k<l.length):lK (l.take (k+1))=yU (lK (l.take k)) (l.getD k vC):=by unfold lK;rw[List.take_add_one,List.foldl_append,Nu a];simp[Nf,a]
def Jc (b:Nat) (p:Int×Bool) (W:Mz):Prop:=∃d t:Bool,W.heap[b]?=S (O #[I Z p.1,.bool p.2,.bool d,.bool t] 99)
theorem Jd {col:Nat→Nat} {s:MSt} (ok:dZ s) (a:∀c∈s.ct.dv.accs,pI c) (hn:n<bY) (w:Mz) (h:dL y col s n w):Nb Tryz.prog 42 #[y.ar,I Z 0,I Z (s.ct.dv.accs.length:Nat)] w (D7 w (lK s.ct.dv.accs).1 (lK s.ct.dv.accs).2):=by
 have⟨l,i⟩:=Ey s.ct.dv.accs;have⟨bs,c⟩:=Ey l.length;have av:bs≤1000000:=by obtain⟨cc,G,K,o,_,_,_,_,_,_,_,_,_,_,d⟩:=h.ct.dev;rw[i,c]at d;unfold bY at hn;omega
 have k:=aA fun W (m:aC w W)=>FV W (h.keeps m);have A:=aA fun W (m:aC w W)=>(zs W (h.keeps m).ct.dev);rw[i]at a ⊢;have HL:=aA c;have HE:=aA a;have HH:=Hd3 h i ok;rw[c];obtain⟨E,d⟩:=Ey (lK l).1;have⟨cf,f⟩:=Ey (lK l).2;rw[d,f];have L:=aH d f;unfold cQ.ar at*;clear a c h i d f ok;refine(Ns (n:=9)).1 ?_;refine callsIn_of_wp_marks func42 rfl trivial ?_;simp only[ntmps42,Oc,Oj,List.length_nil,Nat.reduceAdd,Nat.reduceSub,Array.replicate_succ,Array.replicate_zero,List.push_toArray,List.append_toArray,List.nil_append,List.cons_append];have⟨ar,d⟩:=Ex (((w.alloc (O #[I Z (bs:Int)] 3)).alloc (O #[I Z 0,.bool false,.bool false,.bool false] 99)).alloc (O #[I Z 0,.bool false,.bool false,.bool true] 99));have SP:(Me ⟨w.heap.size+1+1,0,N⟩ [I Z 0,.bool false,.bool false,.bool true] 0).run Tryz.prog (((w.alloc (O #[I Z (bs:Int)] 3)).alloc (O #[I Z 0,.bool false,.bool false,.bool false] 99)).alloc (O #[I Z 0,.bool false,.bool false,.bool false] 99))=.ok () ar:=by rw[d];have:=Mi (P:=Tryz.prog) ((w.alloc (O #[I Z (bs:Int)] 3)).alloc (O #[I Z 0,.bool false,.bool false,.bool false] 99)) 99 #[I Z 0,.bool false,.bool false,.bool false] #[I Z 0,.bool false,.bool false,.bool true] (by kernel_rfl) rfl (by simp[Nq]);simp only[Mz.size_alloc]at this;exact this
 have i:aC w ar:=by rw[d];exact kS
 have a:ar.heap[w.heap.size]?=S (O #[I Z (bs:Int)] 3):=by rw[d,aV _ _ _ (by simp;omega),aV _ _ _ (by simp)];exact aG _ _ _ rfl
 have c:ar.heap[w.heap.size+1]?=S (O #[I Z 0,.bool false,.bool false,.bool false] 99):=by rw[d,aV _ _ _ (by simp)];exact aG _ _ _ (by simp)
 have f:ar.heap[w.heap.size+1+1]?=S (O #[I Z 0,.bool false,.bool false,.bool true] 99):=by rw[d];exact aG _ _ _ (by simp)
 have D:=bT i a c f;have bw:ar.heap.size=w.heap.size+3:=by rw[d];simp
 clear d i a c f;gi_wp2_with fail;refine⟨trivial,?_⟩;refine((Ns (n:=8)).2 (k.out _ D.out.1)).mono ?_;rintro e r ⟨rfl,a⟩;have B:=aA (aK D.out.1 a);have R:=aA a;clear a SP;gi_wp2_with fail;refine⟨trivial,?_⟩;refine((Ns (n:=8)).2 (A.out _ B.out)).mono ?_;rintro e w2 ⟨cc,rfl,c,rfl⟩;obtain⟨cd,vl,vc,_,_,_,_,_,a,_,_,_⟩:=c;have c:=aA (JX cc [] _ _ _ _ _ _ _ _ _ r a);clear a;gi_wp2_with fail;refine⟨trivial,?_⟩;refine((Ns (n:=8)).2 c.out).mono ?_;rintro e w2 ⟨rfl,rfl⟩;generalize s.ct.dv.dr.m=M at*;clear c;gi_wp2_with fail;refine⟨trivial,?_⟩;refine((Ns (n:=8)).2 (k.out _ (Ka B.out))).mono ?_;rintro e Q ⟨rfl,a⟩;have C:=aA a;clear a;gi_wp2_with fail;refine⟨trivial,?_⟩;refine((Ns (n:=8)).2 (It _ _ Q rfl rfl)).mono ?_;rintro e c ⟨rfl,a⟩;have⟨F,i,ok⟩:=HH.out;have m:=aK (K.alloc (K.refl r) (O #[I Z M] 3)) C.out;have d:aC Q c:=by rw[a];exact gH
 have f:aC w c:=aK (aK B.out m) d;have h:aC ar c:=aK (aK R.out m) d;obtain⟨D',G',K',o,h1,h2,h3,p,h5,z,_,_,_,q,U⟩:=(F.keeps f).ct.dev;rw[i]at q;have T:c.heap[r.heap.size]?=S (O #[I Z M] 3):=aE d (aE C.out (aG _ _ _ rfl));obtain⟨an,j⟩:=Ex Q.heap.size;have V:c.heap[an]?=S (O #[.pointer (S ⟨y.q.B,0,N⟩)] 74):=by rw[a,j,aV _ _ _ (by simp)];exact aG _ _ _ rfl
 have a1:c.heap[an+1]?=S (O #[I Z 0] 3):=by rw[a,j];exact aG _ _ _ (by simp)
 have H:yQ an y.q.B o l c:=⟨V,a1,⟨D',G',K',z⟩,q⟩;have s4:c.heap.size=an+2:=by rw[a,j];simp
 have ba:=R.out.size;have u:r.heap.size<Q.heap.size:=aB (aE C.out (aG r (O #[I Z M] 3) _ rfl));have bx:y.q.B<w.heap.size:=by obtain⟨_,_,_,o,_,_,_,_,_,z,_⟩:=F.ct.dev;exact aB z
 have J:∀aa,o.ownBlock=S aa→aa<w.heap.size∨False:=fun aa hg=>by
  obtain⟨_,_,_,v,_,_,_,_,_,x,_,_,_,g,_⟩:=F.ct.dev;have e:=(aE f x).symm.trans z;have:v=o:=by have e:=Option.some.inj e;simp at e;exact e.2.2.2
  subst this;exact .inl (bP.lt g aa hg)
 obtain⟨M8,v⟩:∃cd,cd=r.heap.size:=⟨_,rfl⟩;rw[←j,←v];rw[←v]at T u ba;rw[←j]at u;have g:=eQ f (aE h D.out.2.1) (aE h D.out.2.2.1) (aE h D.out.2.2.2) T H;have x:=aA J;clear F i ok m d f h h1 h2 h3 p h5 z q U T j V a1 H a v J k A R C B;gi_wp2_with fail
 refine vV 9 9 (gf:=108) (lb:=#[.pointer (S ⟨an+1,0,N⟩),.pointer (S ⟨an,0,N⟩)]) rfl (enters_of func108 (by kernel_rfl) rfl) (vD l) (fun b=>b=an∨b=an+1∨b=y.q.B∨o.ownBlock=S b) (fun b d=>by
  rw[s4];rcases d with d|d|d|d
  ·omega
  ·omega
  ·omega
  ·have:=(x.out b d).resolve_right id;omega)
  (fun d a=>Iu an y.q.B o l (by rw[HL.out];exact av) d (g.out.2.2.2.2.2.chg (aF.of_below a fun _=>False) fun _ _ h=>h))
  (fun ad d a=>by obtain⟨_,rfl⟩:=YV a;rfl)
  (fun b=>b=w.heap.size+2) (fun b d=>.inl ⟨by omega,fun h=>by
   rcases h with h|h|h|h
   ·omega
   ·omega
   ·omega
   ·have:=(x.out b h).resolve_right id;omega⟩)
  (fun ad W=>Jc (w.heap.size+2) (lK (l.take ad)) W∧aF (fun b=>b=w.heap.size+2) c W)
  (fun _ _=>False)
  (fun ad X a h F=>?keep1) (fun _ _ _ h _=>h) ⟨⟨false,true,g.out.2.2.2.1⟩,Cl⟩ ?round1 ?done1 fun _ _ _ h _=>h.elim
 case keep1=>obtain⟨⟨bv,t,a⟩,f⟩:=h;exact⟨⟨bv,t,aJ F a (by omega)⟩,f.next F fun k h=>.inr (by omega)⟩
 case round1=>
  intro ad ck W F m h;obtain⟨p,rfl⟩:=YV F;have bz:ad<bs:=by rw[HL.out]at p;exact p
  have HF:=aA (Ja p);have bb:=HE.out (l.getD ad vC) (by rw[Nf,Nu p];exact List.getElem_mem p);generalize l.getD ad vC=bd at*;have⟨X,H⟩:=Ey bd.cells.toArray;have z:X.size=6:=by rw[←H];rfl
  rw[H];have SP:=Mi (P:=Tryz.prog) W 167 #[.bool false,I Z 0,I Z 0,.bool false,I Z 0,.bool false] X (by rw[z];kernel_rfl) (by rw[z];rfl) (by rw[←H];have:=MB bd;rw[Array.all_eq_true'];simpa using this);have bm:=aA H;have HI:=aH h m;clear H F h m;gi_wp2_with fail;obtain⟨⟨⟨bv,t,a⟩,f⟩,m⟩:=HI.out;have zW:w.heap.size+2<W.heap.size:=aB a;refine⟨aF.alloc Cl _,⟨⟨bv,t,(aV _ _ _ zW).trans a⟩,aF.alloc f _⟩,fun q i bn br=>?_⟩;clear bn br HI;have R:aF (fun b=>b=w.heap.size+2) c W:=f;have j:=aJ i ((aV _ (O X 167) _ zW).trans a) (by omega);have gA:q.heap[W.heap.size]?=S (O X 167):=aJ i (aG _ _ _ rfl) (by omega);have J:∀b v,b<an+2→b≠w.heap.size+2→c.heap[b]?=S v→q.heap[b]?=S v:=fun b v d k h=>aJ i ((aV _ (O X 167) _ (by have:=R.size;omega)).trans (aJ R h k)) (by omega);have LL:=Lw j 4 rfl;have LA:=Lw gA 6 z;have q5:=cell_of_row q w.heap.size 0 _ 3 (0,0) (J _ _ (by omega) (by omega) g.out.2.1);have q8:=cell_of_row q M8 0 _ 3 (0,0) (J _ _ (by omega) (by omega) g.out.2.2.2.2.1);simp at q5 q8;have T:¬(ad:Int)≥(bs:Int):=by omega
  have ae:decide ((ad:Int)≥(bs:Int))=false:=by simpa using T
  have⟨U,A⟩:=Ey (lK (l.take ad)).1;have⟨V,B⟩:=Ey (lK (l.take ad)).2;rw[A,B]at LL j;have d:lK (l.take (ad+1))=(vE U bd,V||bd.ast):=by rw[HF.out];unfold yU;rw[A,B]
  have aa:=aA (Iz U V bv t M bd bb q);rw[bm.out]at aa;have z5:=aB (J _ _ (by omega) (by omega) g.out.2.1);have z8:=aB (J _ _ (by omega) (by omega) g.out.2.2.2.2.1);have z7:=aB j;have zA:=aB gA;have HG:=bT j d (aF.next (cw:=fun b=>b=w.heap.size+2) (aF.alloc f (O X 167)) i fun k h=>.inr (by have:=R.size;omega)) (aF.refl (fun b=>b=w.heap.size+2) q);clear a f m zW R j gA J A B d i T SP;gi_wp2_with fail;refine⟨trivial,?_⟩;refine((Ns (n:=8)).2 aa.out).mono ?_;rintro e w6 ⟨⟨d6,t6,rfl⟩,k⟩;have⟨a,d,C,_⟩:=HG.out;have v:=aE k a;have SB:=Sw v #[I Z (vE U bd),.bool (V||bd.ast),.bool d6,.bool t6] rfl (by simp[Nq]);have HR:=aH v k;have z9:=aB v;clear v k a d C LL LA q5 q8 z5 z8 z7 zA ae;gi_wp2_with fail;have⟨a,d,C,_⟩:=HG.out;have⟨v,k⟩:=HR.out;have ab:aF (fun b=>b=w.heap.size+2) q (w6.setRow (w.heap.size+2) #[I Z (vE U bd),.bool (V||bd.ast),.bool d6,.bool t6]):=(aF.of_below k _).trans (kO _ _ _);exact⟨ab,⟨d6,t6,by rw[d];exact Hw v _⟩,C.trans ab⟩
 case done1=>
  rintro ar d h m;obtain⟨⟨bv,t,a⟩,f⟩:=h;rw[O5,List.take_length,L.out.1,L.out.2]at a;have LL:=Lw a 4 rfl;have j:ar.heap[w.heap.size+1]?=S (O #[I Z 0,.bool false,.bool false,.bool false] 99):=aJ f g.out.2.2.1 (by omega);have SB:=Sw j #[I Z E,.bool cf,.bool bv,.bool t] rfl (by simp[Nq]);have i:aC w ar:=((aF.of_below g.out.1 (fun _=>False)).next f fun k h=>.inr (by have h:k=w.heap.size+2:=h;omega)).below Nl fun k h=>h.elim;have h:=Hd3 i m j;have p:=aB j;have z7:=aB a;clear a f m i g x j;gi_wp2_with fail;have⟨i,m,j⟩:=h.out;rw[s4]at m;have k:an+2≠w.heap.size+1:=by omega
  refine⟨by simp,.inl ⟨_,_,rfl,run_takeDeferred (by rw[So k];exact m),?_⟩⟩;refine⟨_,Oh (P:=Tryz.prog) results42 _ _ (w.heap.size+1) 99 _ (0,0) _ rfl ((Ou (show w.heap.size+1≠an+2 by omega)).trans (Hw j _)) underlying99 rfl (by kernel_rfl),⟨bv,t,rfl⟩,?_⟩;exact(Oi i (by omega) _).trans ⟨rfl,rfl,rfl,by simp,fun ad a=>Ou (by omega)⟩
def sR (d:cF):Bool:=!(lK d.accs).2&&decide ((lK d.accs).1≤1)
theorem GG {col:Nat→Nat} {s:MSt} (ok:dZ s) (f:∀v∈s.ct.dv.accs,pI v) (k:n<bY) (w:Mz) (p:dL y col s n w):Nb Y 12 #[y.ar] w (fun e o=>e=.returned (.bool (sR s.ct.dv))∧Nc w.heap.size w o):=by
 have g:=aA fun W (d:aC w W)=>FV W (p.keeps d);have h:=aA fun W (d:aC w W)=>F7 W (p.keeps d).ct.dev;have c:=aA fun W (d:aC w W)=>Jd ok f k W (p.keeps d);unfold sR;unfold cQ.ar at*;generalize s.ct.dv.accs.length=A at*;obtain⟨x,j⟩:=Ey (lK s.ct.dv.accs).1;have⟨q,a⟩:=Ey (lK s.ct.dv.accs).2;rw[j,a];simp only[j,a]at c;clear j a ok f p k;go_in;go_wp2_with fail;refine(g.out _ (K.refl w)).mono ?_;rintro e r ⟨rfl,b⟩;go_wp2_with fail;refine(h.out _ b).mono ?_;rintro e l ⟨rfl,rfl⟩;go_wp2_with fail;refine(c.out _ b).mono ?_;rintro e l ⟨⟨z,t,rfl⟩,i⟩;have m:=aA (aK b i);clear b i g h c;have u:=Mi (P:=Y) l 99 #[I Z 0,.bool false,.bool false,.bool false] #[I Z x,.bool q,.bool z,.bool t] (by kernel_rfl) rfl (by simp[Nq]);go_wp2_with fail
 ·rename_i a;subst a;exact Ng (results_tmp (fn:=Tryz.f12) rfl _ _ _) rfl ⟨by simp,Ka m.out⟩
 ·rename_i a
  have a:q=false:=by simpa using a
  subst a;exact Ng (results_tmp (fn:=Tryz.f12) rfl _ _ _) rfl ⟨by simp,Ka m.out⟩
def oR (r s b d c way res m rl re pl pe room hv lg:Int):Bool:=cfgB r s b d c way res m rl re pl pe room hv lg&&(dF r s b d c&&decide ((r+s)*b*d*c≤100))
theorem Jf {s c:Int} (w:dF r s b d c=true):decide (wrap64 (wrap64 (wrap64 (wrap64 (r+s)*b)*d)*c)≤100)=decide ((r+s)*b*d*c≤100):=by obtain⟨a,e,f,g,h,i,_⟩:=uB w;obtain⟨j,k,l,m,n,o,p,q,t,u,v⟩:=OI a e f g h i;rw[IntWalk.wrap64_in (r+s) ⟨by omega,by omega⟩,IntWalk.wrap64_in ((r+s)*b) ⟨by omega,by omega⟩,IntWalk.wrap64_in ((r+s)*b*d) ⟨by omega,by omega⟩,IntWalk.wrap64_in ((r+s)*b*d*c) ⟨by omega,by omega⟩]
theorem YY (r s b d c way f m h i j k a l lg:Int) (bk:Bool) (w:Mz):Nb Y 34 #[.agg #[I Z r,I Z s,I Z b,I Z d,I Z c,I Z way,I Z f,I Z m,I Z h,I Z i,I Z j,I Z k,I Z a,I Z l,I Z lg,.bool bk]] w fun e g=>e=E (.bool (oR r s b d c way f m h i j k a l lg))∧Nc w.heap.size w g:=by
 have⟨t,n⟩:=Ex (w.alloc (O #[I Z r,I Z s,I Z b,I Z d,I Z c,I Z way,I Z f,I Z m,I Z h,I Z i,I Z j,I Z k,I Z a,I Z l,I Z lg,.bool bk] 31));have v:aC w t:=by rw[n];exact aU
 have g:t.heap[w.heap.size]?=S (O #[I Z r,I Z s,I Z b,I Z d,I Z c,I Z way,I Z f,I Z m,I Z h,I Z i,I Z j,I Z k,I Z a,I Z l,I Z lg,.bool bk] 31):=by rw[n];exact aG _ _ _ rfl
 have x:=aA fun w=>NF r s b d c way f m h i j k a l lg bk w;have y:=aA fun w=>di r s b d c w;unfold oR;have⟨z,o⟩:=Ey (cfgB r s b d c way f m h i j k a l lg);have V:=aA o;have⟨A,p⟩:=Ey (dF r s b d c);have B:=aA p;rw[o]at x ⊢;rw[p]at y ⊢;clear o p;have X:(Mc ⟨w.heap.size,0,N⟩ 0 5 #[]).run Y t=.ok #[I Z r,I Z s,I Z b,I Z d,I Z c] t:=tW g [_,_,_,_,_] _ rfl;have u:=aA fun W (q:aC t W)=>Lw (aE q g) 16 rfl;have C:=Mi (P:=Y) t 23 #[I Z 0,I Z 0,I Z 0,I Z 0,I Z 0] #[I Z r,I Z s,I Z b,I Z d,I Z c] (by kernel_rfl) rfl (by simp[Nq]);have D:=aH v g;have hz:=aB g;clear v g;go_in;go_upto_region 1 with fail;rw[←n];clear n;go_upto_region 2 with fail;have⟨v,g⟩:=Ex (t.alloc (O #[I Z r,I Z s,I Z b,I Z d,I Z c] 23));rw[←g];have o:aC t v:=by rw[g];exact Ka (K.refl t)
 have p:v.heap[t.heap.size]?=S (O #[I Z r,I Z s,I Z b,I Z d,I Z c] 23):=by rw[g];exact aG _ _ _ rfl
 have LV:=u.out v o;have F:=aA fun W (q:aC v W)=>Lw (aE q p) 5 rfl;have n:=aH (aK D.out.1 o) p;have Q:=aB p;have R:w.heap.size<v.heap.size:=by have:=o.size;omega
 clear g o p C;go_wp2_with fail;refine(x.out _).mono ?_;rintro e w1 ⟨rfl,g⟩;have p:=aA g;have C:=F.out _ g;have T:=aB (aE g n.out.2);clear g;cases z
 ·go_wp2_with fail;go_ret;exact⟨by simp,aK n.out.1 p.out⟩
 go_wp2_with fail;refine(y.out _).mono ?_;rintro e w2 ⟨rfl,g⟩;have g:=aK p.out g;have o:=aE g n.out.2;have U:=aB o;have⟨G,H,J,L,M⟩:=gZ o;simp at G H J L M;have q:=aA g;clear g o C;cases A
 ·go_wp2_with fail;go_ret;exact⟨by simp,aK n.out.1 q.out⟩
 go_wp2_with fail;all_goals rw[Jf B.out];go_ret;exact⟨by simp_all,aK n.out.1 q.out⟩
def aY.small (x:aY):Bool:=oR x.r x.s x.b x.d x.c x.way x.res x.m x.rl x.re x.pl x.pe x.room x.hv x.logn
theorem aY.small_ok {x:aY} (d:x.small=true):lE x:=by unfold aY.small oR cfgB at d;simp only[Nx,decide_eq_true_eq]at d;obtain⟨⟨a,b,c,e,f⟩,_⟩:=d;exact⟨a,b,c,by omega,by omega⟩
def mZ (r s b d c way res m rl re pl pe room hv lg:Int) (bk:Bool):Array Na:=#[I Z r,I Z s,I Z b,I Z d,I Z c,I Z way,I Z res,I Z m,I Z rl,I Z re,I Z pl,I Z pe,I Z room,I Z hv,I Z lg,.bool bk]
theorem yV {s c m f g h i a j lg:Int} {bk:Bool} (o:oR r s b d c way res m f g h i a j lg=true):∃l:aY,l.vals=mZ r s b d c way res m f g h i a j lg bk∧l.small=true∧l.r=r∧l.s=s∧l.b=b∧l.d=d∧l.c=c∧l.way=way∧l.res=res:=by
 have k:=o;unfold oR cfgB at k;simp only[Nx,decide_eq_true_eq]at k;obtain⟨⟨p,q,n,t,u⟩,_⟩:=k;have e:((lg.toNat:Nat):Int)=lg:=by omega
 have k:((a.toNat:Nat):Int)=a:=by unfold tQ at n;simp only[Nx,decide_eq_true_eq]at n;omega
 refine⟨⟨r,s,b,d,c,way,res,m,f,g,h,i,a.toNat,j,lg.toNat,bk⟩,?_,?_,rfl,rfl,rfl,rfl,rfl,rfl,rfl⟩
 ·unfold aY.vals mZ;dsimp only;rw[e,k]
 ·unfold aY.small;dsimp only;rw[e,k];exact o
theorem yW {s c m f g h i a j lg:Int} {bk:Bool} (o:oR r s b d c way res m f g h i a j lg=false) (w:Mz):Nb Y 10 #[.agg (mZ r s b d c way res m f g h i a j lg bk)] w fun e l=>e=E (.pointer N)∧Nc w.heap.size w l:=by
 have⟨u,k⟩:=Ex (w.alloc (O (mZ r s b d c way res m f g h i a j lg bk) 31));have p:aC w u:=by rw[k];exact aU
 have n:u.heap[w.heap.size]?=S (O (mZ r s b d c way res m f g h i a j lg bk) 31):=by rw[k];exact aG _ _ _ rfl
 have q:Hid (∀w,Nb Y 34 #[.agg (mZ r s b d c way res m f g h i a j lg bk)] w fun e l=>e=E (.bool false)∧Nc w.heap.size w l):=aA (fun w=>by rw[←o];exact YY _ _ _ _ _ _ _ _ _ _ _ _ _ _ _ _ w);have t:=Lw n 16 rfl;have l:=aA p;have v:=aB n;generalize mZ r s b d c way res m f g h i a j lg bk=X at*;clear p n o;go_in;go_upto_region 1 with fail;rw[←k];clear k;go_wp2_with fail;refine(q.out _).mono ?_;rintro e o ⟨rfl,k⟩;have n:=aA k;clear k;go_wp2_with fail;go_ret;exact⟨rfl,aK l.out n.out⟩
def Jg (x:aY) (w:Mz) (e:Ending) (w':Mz):Prop:=∃(y:cQ) (col:Nat→Nat),e=E y.ar∧dL y col (MSt.new x) 4096 w'∧cO (MSt.new x).ct∧Nc w.heap.size w w'∧∀b,b<w.heap.size→col b=0
theorem wY {x:aY} (d:x.small=true) (w:Mz):Nb Y 10 #[.agg x.vals] w (Jg x w):=by
 have⟨j,a⟩:=Ex (w.alloc (O x.vals 31));have g:aC w j:=by rw[a];exact aU
 have f:j.heap[w.heap.size]?=S (O x.vals 31):=by rw[a];exact aG _ _ _ rfl
 have k:Hid (∀w,Nb Y 34 #[.agg x.vals] w fun e c=>e=E (.bool true)∧Nc w.heap.size w c):=aA (fun w=>by rw[←d];exact YY _ _ _ _ _ _ _ _ _ _ _ _ _ _ _ _ w);have c:=aA fun W (h:aC j W)=>Lw (aE h f) 16 rfl;have l:=c.out j (K.refl j);have m:=aA fun W=>Fl (aY.small_ok d) W;have n:=aA g;have q:=aB f;generalize x.vals=X at*;clear g f d;go_in;go_upto_region 1 with fail;rw[←a];clear a;go_wp2_with fail;refine(k.out _).mono ?_;rintro e h ⟨rfl,a⟩;have i:=aA (aK n.out a);have o:=c.out h a;have p:w.heap.size<h.heap.size:=by have:=a.size;omega
 clear a l;go_wp2_with fail;refine(m.out _).mono ?_;rintro e r ⟨s,g,rfl,d,ok,a,f⟩;have l:=bT d ok a f;clear d ok a f o;unfold cQ.ar;go_wp2_with fail;go_ret;have⟨d,ok,a,f⟩:=l.out;exact⟨s,g,rfl,d,ok,aK i.out a,fun b o=>f b (by have:=i.out.size;omega)⟩
end
section
open Go.RowKit Go.Shelf lin
def nC:aY:=⟨1,0,1,2,2,0,0,1,9,9,9,9,2,2,4,true⟩
theorem O7:nC.small=true:=by decide+kernel
def sS:List Int:=Nm 64 6
def qM (n:Int) (d:List Int):Sp:=⟨2,n,d,0,dQ⟩
def kQ (n:Int):Sp:=⟨1,n,ln0,0,dQ⟩
def vF:Sp:=⟨8,0,ln0,0,⟨1,0,0,0,1,0,40,0⟩⟩
def O8:CtSt:=(CtSt.wipe nC 4096).put ((CtSt.wipe nC 4096).ix 1) sS false
def sT:CtSt:={O8 with dv:=O8.dv.inj vF.f}
theorem YZ:sT.ix 1=1:=by decide+kernel
theorem Jh:sT.dec (sT.ix 1)=(sS,1,1):=by decide+kernel
theorem Ji:sR ((sT.dv.rd 1).put 1 (cD sT.ld.c.m sS 1 false) 0)=true:=by decide+kernel
theorem Jj:(qM 1 sS).okB=true∧vF.okB=true∧(kQ 1).okB=true:=by decide+kernel
theorem Z1:(CtSt.wipe nC 4096).ld.c.has 1:=by show aY.has _ _;decide+kernel
theorem GH:sT.ld=bH.new nC:=by have a:=wV (aY.small_ok O7);exact a.ld
theorem Jk:UT (bH.new nC):=by refine⟨rfl,fun b a=>?_,by decide,by decide⟩;have:b=(0,0):=List.eq_of_mem_replicate a;rw[this]
theorem Jl {f g h:MSt} {o p m:aN} (q:Did (MSt.new nC) (qM 1 sS) o f) (r:Did f vF p g) (s:Did g (kQ 1) m h):m=⟨0,0,sS⟩∧h.ct.ld.lg.length=1∧sR h.ct.dv=true:=by
 obtain⟨u,v,w⟩:=Jj;have A:(qM 1 sS).k=2:=rfl;have B:vF.k=8:=rfl;have C:(kQ 1).k=1:=rfl
 have x:f.ct=O8:=by
  cases q with
  |bad b=>rw[u]at b;exact absurd b (by decide)
  |no b a c=>
   rcases c with c|c
   ·exact absurd Z1 c
   ·omega
  |rd b a=>omega
  |wr b a i d=>unfold Wrt at d;rw[Fp rfl]at d;exact d.2
  |ma b a=>omega
  |sc b a=>omega
  |idle b a=>omega
  |cp b a=>omega
  |tk b a=>omega
  |cl b a=>omega
  |inj b a=>omega
 have j:g.ct=sT:=by
  cases r with
  |bad b=>rw[v]at b;exact absurd b (by decide)
  |no b a c=>omega
  |rd b a=>omega
  |wr b a i d=>omega
  |ma b a=>omega
  |sc b a=>omega
  |idle b a=>omega
  |cp b a=>omega
  |tk b a=>omega
  |cl b a=>omega
  |inj b a=>rw[x];rfl
 have y:sT.ld.c.back=true:=by rw[GH];rfl
 have n:=Jh;rw[YZ]at n;cases s with
 |bad b=>rw[w]at b;exact absurd b (by decide)
 |no b a c=>
  rcases c with c|c
  ·rw[j]at c;exact absurd Z1 c
  ·omega
 |rd b a i e=>
  rw[j]at e;rw[j];have z:(kQ 1).ln=1:=rfl;rw[z]at e ⊢;rw[y]at e;obtain⟨D,⟨l,k,rfl⟩,rfl⟩:=e;rw[YZ,n]at k ⊢;refine⟨rfl,?_,?_⟩
  ·rw[Fp ⟨rfl,rfl⟩];obtain⟨F,e,t,_,rfl,_,d⟩:=k;have:=d rfl (by rw[GH];exact Jk) (by rw[GH];decide);rw[GH]at this;exact this
  ·rw[Fp ⟨rfl,rfl⟩];have:l.c=sT.ld.c:=k.rp.2;show sR ((sT.dv.rd 1).put 1 (cD l.c.m sS 1 false) 0)=true;rw[this];exact Ji
 |wr b a i d=>omega
 |ma b a=>omega
 |sc b a=>omega
 |idle b a=>omega
 |cp b a=>omega
 |tk b a=>omega
 |cl b a=>omega
 |inj b a=>omega
theorem Jm:(Y.info? 45).map (fun a=>(a.zero,a.size,a.bytes))=S (S (.agg zeroCells45),75,152):=by kernel_rfl
theorem Jn:zeroCells45=(⟨0,0,ln0,0,dQ⟩:Sp).vals:=by kernel_rfl
theorem Jo:((match Y.underlying 45 with|some (.struct fields)=>fields.toList.mapM (fun f=>(Y.info? f.type).map fun a=>(f.offset,a.size))|_=>N):Option (List (Nat×Nat)))=S [(0,1),(1,1),(2,64),(66,1),(67,8)]:=by kernel_rfl
theorem GI (ps:List (Nat×Na)) (R:Array Na) (f:Instr.fill ([(0,1),(1,1),(2,64),(66,1),(67,8)].toArray[·]?) (⟨0,0,ln0,0,dQ⟩:Sp).vals ps=S R):Y.built 45 ps=S R:=by obtain⟨g,b,c,d,e⟩:=info_parts Jm;have a:=Jo;unfold Program.built;rw[underlying45]at a ⊢;rw[b];simp only[c];simp only at a;rw[a];rw[←Jn]at f;exact f
theorem Z2 (k n:Int) (d:List Int) (m:Nat) (f:aZ):(⟨k,n,d,m,f⟩:Sp).vals=(([]:List Na)++[I Z k]++([I Z n]++(aD .u8 d).toList++[I .u64 m]++f.cells)).toArray:=by unfold Sp.vals;apply Array.ext';simp
theorem Z3 (k n:Int) (d:List Int) (m:Nat) (f:aZ):(⟨k,n,d,m,f⟩:Sp).vals=([I Z k]++[I Z n]++((aD .u8 d).toList++[I .u64 m]++f.cells)).toArray:=by unfold Sp.vals;apply Array.ext';simp
theorem Z4 (k n:Int) (d:List Int) (m:Nat) (f:aZ):(⟨k,n,d,m,f⟩:Sp).vals=([I Z k,I Z n]++(aD .u8 d).toList++([I .u64 m]++f.cells)).toArray:=by unfold Sp.vals;apply Array.ext';simp
theorem Z5 (k n:Int) (d:List Int) (m:Nat) (f:aZ):(⟨k,n,d,m,f⟩:Sp).vals=(([I Z k,I Z n]++(aD .u8 d).toList++[I .u64 m])++f.cells++[]).toArray:=by unfold Sp.vals;apply Array.ext';simp
theorem GJ (k:Int) {a n:Int} {d:List Int} {m:Nat} {f:aZ} (ps:List (Nat×Na)):Instr.fill ([(0,1),(1,1),(2,64),(66,1),(67,8)].toArray[·]?) (⟨a,n,d,m,f⟩:Sp).vals ((0,I Z k)::ps)=Instr.fill ([(0,1),(1,1),(2,64),(66,1),(67,8)].toArray[·]?) (⟨k,n,d,m,f⟩:Sp).vals ps:=by rw[tZ (off:=0) (size:=1) (v:=I Z k) rfl rfl (Z2 a n d m f) rfl rfl];congr 1;rw[Z2 k n d m f];rfl
theorem Z6 (n:Int) {k a:Int} {d:List Int} {m:Nat} {f:aZ} (ps:List (Nat×Na)):Instr.fill ([(0,1),(1,1),(2,64),(66,1),(67,8)].toArray[·]?) (⟨k,a,d,m,f⟩:Sp).vals ((1,I Z n)::ps)=Instr.fill ([(0,1),(1,1),(2,64),(66,1),(67,8)].toArray[·]?) (⟨k,n,d,m,f⟩:Sp).vals ps:=by rw[tZ (off:=1) (size:=1) (v:=I Z n) rfl rfl (Z3 k a d m f) rfl rfl];congr 1;rw[Z3 k n d m f];rfl
theorem Jp {d:List Int} (b:d.length=64) {k n:Int} {a:List Int} (c:a.length=64) {m:Nat} {f:aZ} (ps:List (Nat×Na)):Instr.fill ([(0,1),(1,1),(2,64),(66,1),(67,8)].toArray[·]?) (⟨k,n,a,m,f⟩:Sp).vals ((2,.agg (aD .u8 d))::ps)=Instr.fill ([(0,1),(1,1),(2,64),(66,1),(67,8)].toArray[·]?) (⟨k,n,d,m,f⟩:Sp).vals ps:=by rw[tZ (off:=2) (size:=64) (v:=.agg (aD .u8 d)) rfl (by show(aD .u8 d).size=64;rw[aP,b]) (Z4 k n a m f) rfl (by rw[Ot,aP,c])];congr 1;rw[Z4 k n d m f];rfl
theorem Jq (f:aZ) {k n:Int} {d:List Int} (b:d.length=64) {m:Nat} {a:aZ} (ps:List (Nat×Na)):Instr.fill ([(0,1),(1,1),(2,64),(66,1),(67,8)].toArray[·]?) (⟨k,n,d,m,a⟩:Sp).vals ((4,.agg f.cells.toArray)::ps)=Instr.fill ([(0,1),(1,1),(2,64),(66,1),(67,8)].toArray[·]?) (⟨k,n,d,m,f⟩:Sp).vals ps:=by rw[tZ (off:=67) (size:=8) (v:=.agg f.cells.toArray) rfl rfl (Z5 k n d m a) (by simp[aP,b]) rfl];congr 1;rw[Z5 k n d m f];rfl
theorem Z7:ln0.length=64:=rfl
theorem D8 (k n:Int) (W:Mz):(Instr.build 45 #[(0,I Z k),(1,I Z n)]).run Y W=.ok (.agg (⟨k,n,ln0,0,dQ⟩:Sp).vals) W:=run_build W 45 _ _ (GI _ _ ((GJ k _).trans (Z6 n _)))
theorem Z8 (k n:Int) {d:List Int} (a:d.length=64) (W:Mz):(Instr.build 45 #[(0,I Z k),(1,I Z n),(2,.agg (aD .u8 d))]).run Y W=.ok (.agg (⟨k,n,d,0,dQ⟩:Sp).vals) W:=run_build W 45 _ _ (GI _ _ ((GJ k _).trans ((Z6 n _).trans (Jp a Z7 _))))
theorem Z9 (k:Int) (f:aZ) (W:Mz):(Instr.build 45 #[(0,I Z k),(4,.agg f.cells.toArray)]).run Y W=.ok (.agg (⟨k,0,ln0,0,f⟩:Sp).vals) W:=run_build W 45 _ _ (GI _ _ ((GJ k _).trans (Jq f Z7 _)))
theorem GK:(Y.info? 48).map (fun a=>(a.zero,a.size,a.bytes))=S (S (.agg zeroCells48),66,80):=by kernel_rfl
theorem ZA:zeroCells48=([I Z 0,I Z 0]++(aD .u8 ln0).toList++[]).toArray:=by kernel_rfl
theorem ZB:((match Y.underlying 48 with|some (.struct fields)=>fields.toList.mapM (fun f=>(Y.info? f.type).map fun a=>(f.offset,a.size))|_=>N):Option (List (Nat×Nat)))=S [(0,1),(1,1),(2,64)]:=by kernel_rfl
theorem GL {l:List Int} (d:l.length=64) (W:Mz):(Instr.build 48 #[(2,.agg (aD .u8 l))]).run Y W=.ok (.agg (⟨0,0,l⟩:aN).vals) W:=by refine run_build W 48 _ _ ?_;obtain⟨g,b,c,e,f⟩:=info_parts GK;have a:=ZB;unfold Program.built;rw[underlying48]at a ⊢;rw[b];simp only[c];simp only at a;rw[a];show Instr.fill ([(0,1),(1,1),(2,64)].toArray[·]?) zeroCells48 _=_;rw[tZ (off:=2) (size:=64) (v:=.agg (aD .u8 l)) rfl (by show(aD .u8 l).size=64;rw[aP,d]) ZA rfl (by rw[Ot,aP];rfl)];show S _=S _;congr 1;unfold aN.vals;apply Array.ext';simp[Na.cells]
section
attribute [local simp] Mu
theorem Mr {l:List (Nat×Na)} {a:Array Na} (b:(Instr.build 45 l.toArray).run Y W=.ok (.agg a) W):Ms (fun c=>[(0,1),(1,1),(2,64),(66,1),(67,8)][c]?) zeroCells45 l=S a:=by simp[go_sem]at b;split at b<;>simp_all [go_sem]
theorem Mt {l:List (Nat×Na)} {a:Array Na} (b:(Instr.build 48 l.toArray).run Y W=.ok (.agg a) W):Ms (fun c=>[(0,1),(1,1),(2,64)][c]?) zeroCells48 l=S a:=by simp[go_sem]at b;split at b<;>simp_all [go_sem]
theorem My {l:List (Nat×Na)} {a:Array Na} (b:(Instr.build 41 l.toArray).run Y W=.ok (.agg a) W):Ms (fun c=>[(0,1),(1,1),(2,1),(3,1)][c]?) #[I Z 0,I Z 0,I Z 0,I Z 0] l=S a:=by simp[go_sem]at b;split at b<;>simp_all [go_sem]
theorem Mx {l:List (Nat×Na)} {a:Array Na} (b:(Instr.build 43 l.toArray).run Y W=.ok (.agg a) W):Ms (fun c=>[(0,1),(1,4),(5,1),(6,1),(7,1)][c]?) #[I Z 0,I Z 0,I Z 0,I Z 0,I Z 0,I Z 0,I Z 0,I Z 0] l=S a:=by simp[go_sem]at b;split at b<;>simp_all [go_sem]
end
end
section
open Go.RowKit Go.Shelf lin
attribute [local go_sem] Oper.semAt_some cK Mh
attribute [local simp] Mf Mg
theorem Jt (w:Mz):Nb Y 31 #[] w fun e i=>e=E (.agg nC.vals)∧Nc w.heap.size w i:=by
 have f:=Mi (P:=Y) (w.alloc (O #[I Z 0,I Z 0,I Z 0,I Z 0,I Z 0,I Z 0,I Z 0,I Z 0,I Z 0,I Z 0,I Z 0,I Z 0,I Z 0,I Z 0,I Z 0,.bool false] 31)) 27 #[I Z 0,I Z 0] #[I Z 9,I Z 9] (by kernel_rfl) rfl (by simp[Nq]);simp only[Mz.size_alloc]at f;have⟨n,a⟩:=Ex ((w.alloc (O #[I Z 0,I Z 0,I Z 0,I Z 0,I Z 0,I Z 0,I Z 0,I Z 0,I Z 0,I Z 0,I Z 0,I Z 0,I Z 0,I Z 0,I Z 0,.bool false] 31)).alloc (O #[I Z 9,I Z 9] 27));rw[←a]at f;have g:aC w n:=by rw[a];exact gH
 have b:n.heap[w.heap.size]?=S (O #[I Z 0,I Z 0,I Z 0,I Z 0,I Z 0,I Z 0,I Z 0,I Z 0,I Z 0,I Z 0,I Z 0,I Z 0,I Z 0,I Z 0,I Z 0,.bool false] 31):=by rw[a,aV _ _ _ (by simp)];exact aG _ _ _ rfl
 have c:n.heap[w.heap.size+1]?=S (O #[I Z 9,I Z 9] 27):=by rw[a];exact aG _ _ _ (by simp)
 have h:=aH g b;have o:=Lw c 2 rfl;have j:=Sw b nC.vals rfl (by simp[Nq,aY.vals]);have d:nC.vals=#[I Z 1,I Z 0,I Z 1,I Z 2,I Z 2,I Z 0,I Z 0,I Z 1,I Z 9,I Z 9,I Z 9,I Z 9,I Z 2,I Z 2,I Z 4,.bool true]:=rfl;have k:=aA d;rw[d]at j;have l:=aB b;have m:=aB c;clear g b c d a;go_in;go_wp2_with fail;rw[←k.out]
 trace_state
 refine Ng (Oh (P:=Y) results31 _ _ w.heap.size 31 nC.vals (0,0) _ rfl (Hw h.out.2 _) underlying31 rfl (by kernel_rfl)) rfl ⟨rfl,Oi h.out.1 Nl _⟩
end
section
open Go.RowKit Go.Shelf lin
theorem Ju (l:List Int):∀s:CtSt,(∀b∈s.dv.accs,pI b)→∀b∈(l.foldl (fun s d=>s.put d.toNat ln0 false) s).dv.accs,pI b:=by
 induction l with
 |nil=>intro s c;exact c
 |cons d l a=>intro s c;rw[List.foldl_cons];refine a _ ?_;exact(eX.put s.dv _ _ _).ex c
theorem Jv (x:aY):∀a∈(MSt.new x).ct.dv.accs,pI a:=Ju _ (CtSt.new x) fun a b=>by cases b
structure Mw (w0:Mz) (y:cQ) (col:Nat→Nat) (s:MSt) (n:Nat) (W:Mz):Prop where
 m:dL y col s n W
 ok:dZ s
 ex:∀a∈s.ct.dv.accs,pI a
 z:∀b,b<w0.heap.size→col b=0
 k:aC w0 W
def iE (col:Nat→Nat) (W:Mz) (b:Nat) (o:Obj):Prop:=W.heap[b]?=S o∧col b=0
theorem Mw.keeps {w0:Mz} {col:Nat→Nat} {s:MSt} (b:Mw w0 y col s n W) (a:aC W W'):Mw w0 y col s n W':=⟨b.m.keeps a,b.ok,b.ex,b.z,aK b.k a⟩
theorem Mw.of_begun {x:aY} (f:x.small=true) {w0:Mz} (c:aC w0 w) {col:Nat→Nat} (d:dL y col (MSt.new x) 4096 w') (ok:cO (MSt.new x).ct) (a:Nc w.heap.size w w') (e:∀b,b<w.heap.size→col b=0):Mw w0 y col (MSt.new x) 4096 w':=⟨d,⟨ok,fun h l g=>by cases g⟩,Jv x,fun b a=>e b (Nr a c.size),aK c a⟩
theorem iE.keeps {col:Nat→Nat} {b:Nat} (c:iE col W b o) (a:aC W W'):iE col W' b o:=⟨aE a c.1,c.2⟩
theorem iE.new {w0:Mz} {col:Nat→Nat} {s:MSt} (a:Mw w0 y col s n W) (o:Obj):iE col (W.alloc o) W.heap.size o:=⟨aG _ _ _ rfl,a.m.top _ Nl⟩
def Jw (w0:Mz) (y:cQ) (col:Nat→Nat) (s:MSt) (n:Nat) (x:Sp) (W:Mz) (e:Ending) (W':Mz):Prop:=∃a col' s',e=E (.agg a.vals)∧(x.k≤3→kP a)∧Mw w0 y col' s' (n+5) W'∧Did s x a s'∧aS KM col W col' W'
theorem iE.stq {col a:Nat→Nat} {b:Nat} (d:iE col W b o) (c:aS KM col W a W'):iE a W' b o:=⟨c.at d.1 (by rw[d.2];exact jU),(c.old b (aB d.1)).trans d.2⟩
theorem Mw.do {w0:Mz} {col:Nat→Nat} {s:MSt} (f:Mw w0 y col s n W) (i:n+5<bY) {x:Sp} (j:dJ x):Nb Y 11 #[y.ar,.agg x.vals] W (Jw w0 y col s n x W):=by
 refine(Is f.ok i j W f.m).mono ?_;rintro e W' ⟨o,c,k,rfl,l,m,ok,d,h⟩;refine⟨o,c,k,rfl,l,⟨m,ok,(h.grw f.ok.ct).ex f.ex,fun b a=>?_,?_⟩,h,d⟩
 ·exact(d.old b (Nr a f.k.size)).trans (f.z b a)
 ·exact((aF.of_below f.k fun _=>False).next d.chg (fun b a=>.inr (by
   by_cases g:b<w0.heap.size
   ·rw[f.z b g]at a;exact absurd a jU
   ·omega))).below Nl fun g f=>f.elim
end
section
open Go.RowKit Go.Shelf lin
attribute [local go_sem] Oper.semAt_some cK Mh
attribute [local simp] Mf Mg Ml Mv
theorem O9 {x:Int} (c:0≤x) (b:x<256):aX 64 (Nm 64 x):=fun d a=>⟨x.toNat,by rw[Nf,List.getElem?_replicate,Fp a];show x=_;omega,by omega⟩
theorem GM:uZ dQ:=by constructor<;>(unfold bN;decide)
theorem Jy:bN 2:=by unfold bN;decide
theorem GN:bN 1:=by unfold bN;decide
theorem OA:(0:Nat)<2^64:=by decide
theorem ZC {n:Int} (a:bN n) {d:List Int} (b:d.length=64) (c:aX 64 d):dJ (qM n d):=⟨Jy,a,b,c,OA,GM⟩
theorem DA {n:Int} (a:bN n):dJ (kQ n):=⟨GN,a,rfl,kI,OA,GM⟩
theorem Jz:dJ vF:=⟨by unfold bN;decide,by unfold bN;decide,rfl,O9 (by decide) (by decide),by decide,by constructor<;>(unfold bN;decide)⟩
theorem pO (w:Mz):Nb Y 9 #[] w fun e y=>e=E (.bool true)∧Nc w.heap.size w y:=by
 go_in;go_wp2_with fail;refine(Jt w).mono ?_;rintro e z ⟨rfl,b⟩;have m:nC.vals.size=16:=rfl;have h:=Mi (P:=Y) z 31 #[I Z 0,I Z 0,I Z 0,I Z 0,I Z 0,I Z 0,I Z 0,I Z 0,I Z 0,I Z 0,I Z 0,I Z 0,I Z 0,I Z 0,I Z 0,.bool false] nC.vals (by kernel_rfl) rfl (by simp[Nq,aY.vals]);have a:=aA fun W=>wY O7 W;have⟨P,c⟩:=Ey nC.vals;rw[c]at h a m ⊢;clear c;go_upto_region 2 with fail;have⟨ba,c⟩:=Ex (z.alloc (O P 31));rw[←c];have f:aC w ba:=by rw[c];exact Ka b
 have d:ba.heap[z.heap.size]?=S (O P 31):=by rw[c];exact aG _ _ _ rfl
 have i:=Lw d 16 m;have g:=aA f;have hz:=aB d;clear c f d b h;go_wp2_with fail;refine(a.out _).mono ?_;rintro e n ⟨an,o,rfl,d,ok,c,f⟩;have b:=Mw.of_begun O7 g.out d ok c f;clear d ok c f a i g;have r:=aA b;have aa:=b.k.size;clear b;unfold cQ.ar;have⟨x,a⟩:=Ey (Nm 64 (6:Int));have s:Hid (Nb Y 23 #[.int .u8 6] n fun e y=>e=E (.agg (aD .u8 x))∧Nc n.heap.size n y):=aA (by rw[←a];exact QJ 6 n);have d:x.length=64:=by rw[←a];rfl
 have Q:=aA a;clear a;go_wp2_with fail;refine s.out.mono ?_;rintro e p ⟨rfl,i⟩;have f:(aD .u8 x).size=64:=by rw[aP,d]
 have h:=Mi (P:=Y) p 38 (aD .u8 (Nm 64 0)) (aD .u8 x) (by rw[f];rfl) (by rw[f];rfl) (dG _ _);rw[←gR]at h;go_upto_region 6 with fail;have⟨ar,j⟩:=Ex (p.alloc (O (aD .u8 x) 38));rw[←j];have b:=(r.out.keeps i);have a:iE o ar p.heap.size (O (aD .u8 x) 38):=by rw[j];exact iE.new b _
 have l:Mw w an o (MSt.new nC) 4096 ar:=by rw[j];exact b.keeps (Ka (K.refl p))
 have G:=Lw a.1 64 f;have k:=Mr (Z8 2 1 d ar);have g:dJ (qM 1 sS):=ZC GN rfl (O9 (by decide) (by decide));have A:Hid (sS=x):=aA Q.out;rw[A.out]at g;have c:=aA (l.do (by decide) g);have t:=aA a;have zD:=aB a.1;unfold qM at c;obtain⟨X1,q⟩:∃X,(⟨2,1,x,0,dQ⟩:Sp).vals=X:=⟨_,rfl⟩;unfold cQ.ar at c;rw[q]at k c;clear q b a l g j i r h s;go_wp2_with fail;refine c.out.mono ?_;rintro e b ⟨R,U,V,rfl,_,r,s,u⟩;have v:=aA s;have a:=t.out.stq u;have l:=aA a;have ab:=aB a.1;have P1:Hid (Mw w an U V 4101 b):=aA r;have i:(Instr.build 41 #[(3,I Z 1)]).run Y b=.ok (.agg #[I Z 0,I Z 0,I Z 0,I Z 1]) b:=run_build b 41 _ _ (by kernel_rfl);replace i:=My i;have j:(Instr.build 43 #[(0,I Z 1),(1,.agg #[I Z 0,I Z 0,I Z 0,I Z 1]),(3,I Z 40)]).run Y b=.ok (.agg #[I Z 1,I Z 0,I Z 0,I Z 0,I Z 1,I Z 0,I Z 40,I Z 0]) b:=run_build b 43 _ _ (by kernel_rfl);replace j:=Mx j;have g:(Instr.build 45 #[(0,I Z 8),(4,.agg #[I Z 1,I Z 0,I Z 0,I Z 0,I Z 1,I Z 0,I Z 40,I Z 0])]).run Y b=.ok (.agg vF.vals) b:=Z9 8 vF.f b;replace g:=Mr g;have h:=aA (r.do (by decide) Jz);unfold cQ.ar at h;obtain⟨X2,q⟩:∃X,vF.vals=X:=⟨_,rfl⟩;rw[q]at g h;generalize R.vals=A1 at*;clear q c s r u a t G k;go_wp2_with fail;refine h.out.mono ?_;rintro e H ⟨a2,c2,s2,rfl,_,r,s,t⟩;have u:=aA s;have a:=l.out.stq t;have D:=aA a;have ad:=aB a.1;have P2:Hid (Mw w an c2 s2 4106 H):=aA r;have c:=aA (r.do (by decide) (DA GN));have k:=Mr (D8 1 1 H);unfold cQ.ar at c;unfold kQ at c;obtain⟨X3,q⟩:∃X,(⟨1,1,ln0,0,dQ⟩:Sp).vals=X:=⟨_,rfl⟩;rw[q]at k c;generalize a2.vals=A2 at*;clear q h s r t a l g j i;go_wp2_with fail;refine c.out.mono ?_;rintro e l ⟨a3,c3,s3,rfl,i,B,C,G⟩;obtain⟨j,J,L⟩:=Jl (by have:=v.out;rw[←A.out]at this;exact this) u.out C;rw[A.out]at j;have i:=i (by decide);rw[j]at i;have a:=D.out.stq G;have q:Hid (∀W,(Mj 10000 48 (.agg (⟨0,0,x⟩:aN).vals) (.agg (⟨0,0,x⟩:aN).vals)).run Y W=.ok true W):=aA (fun W=>by rw[yP i i W];simp);have r:=aA fun W=>Mt (GL d W);have g:(⟨0,0,x⟩:aN).vals.size=66:=aN.size d;have s:(⟨0,0,x⟩:aN).vals.all (·.oneCell')=true:=aN.one _;have ae:=aB a.1;rw[j];have⟨av,t⟩:=Ey (⟨0,0,x⟩:aN).vals;rw[t]at q r g s ⊢;have M:=aA B;have F:=aA a;have bb:=aH J L;have h:=Mi (P:=Y) l 48 zeroCells48 av (by rw[g];kernel_rfl) (by rw[g];rfl) s;clear t j i a G B C v u c J L k;go_upto_region 9 with fail;have⟨T,k⟩:=Ex (l.alloc (O av 48));rw[←k];have B:iE c3 T l.heap.size (O av 48):=by rw[k];exact iE.new M.out _
 have C:aC l T:=by rw[k];exact Ka (K.refl l)
 have J:=Lw B.1 66 g;have a:=F.out.keeps C;have G:=Lw a.1 64 f;have L:=r.out T;have EQ:=q.out T;have i:=aA (M.out.keeps C);have t:=aA fun W (c:aC T W)=>CT W (i.out.m.keeps c);have u:=aA fun W (c:aC T W)=>Fm W (i.out.m.keeps c).ct;have v:=aA fun W (c:aC T W)=>UM W (i.out.m.keeps c).ct.led.log;have j:=aA fun W (c:aC T W)=>GG i.out.ok i.out.ex (by decide) W (i.out.m.keeps c);simp only[bb.out.1,bb.out.2]at v j;have zA:=aB B.1;have zT:=aB a.1;unfold cQ.ar at t j;unfold dK.ar at u;clear k B a C h;go_wp2_with fail;refine(t.out _ (K.refl T)).mono ?_;rintro e B ⟨rfl,k⟩;go_wp2_with fail;refine(u.out _ k).mono ?_;rintro e w8 ⟨rfl,a⟩;have a:=aK k a;go_wp2_with fail;refine(v.out _ a).mono ?_;rintro e C ⟨rfl,c⟩;have c:=aK a c;go_wp2_with fail;refine(j.out _ c).mono ?_;rintro e wa ⟨rfl,h⟩;have h:=aK c h;go_wp2_with fail;go_ret;exact⟨by first|rfl|simp,(i.out.keeps h).k⟩
end
section
open Go.ChangeShapes Go.WideShapes Go.ChangeAt Go.RowKit Go.Deep lin
theorem gD {d:Type} (cs:List d) (a b c:Nat) (e:a+b=c):cs.drop a=(cs.drop a).take b++cs.drop c:=by subst e;rw[←List.drop_drop,List.take_append_drop]
section
variable {H:Type} {enc:TypeId×Value→H} {w:World} {base:Nat} {spare:Nat→Bool} {held:Bool}
def o9 (enc:TypeId×Na→H) (w:Mz) (base:Nat) (spare:Nat→Bool) (held:Bool) (t:TypeId) (cs:List Na):Prop:=∃n x,DataW.trod enc Tryz.prog w base spare held n t cs=S x
theorem vG {t:TypeId} {cs:List Na} {a:Array Field} {c:Nat} (b:Tryz.prog.underlying t=S (.struct a)) (d:Tryz.prog.cellsOf t=c) (f:o9 enc w base spare held t cs):cs.length=c:=by obtain⟨n,h,f⟩:=f;obtain⟨g,m,_,_,e,_⟩:=DataW.trod_struct b f;exact e.trans d
theorem gE {t:TypeId} {cs:List Na} {b:Array Field} (g:Tryz.prog.underlying t=S (.struct b)) (p:o9 enc w base spare held t cs) (i:Nat) {f:Field} (d:b[i]?=S f) {o c:Nat} (h:f.offset=o) (j:Tryz.prog.cellsOf f.type=c):o9 enc w base spare held f.type ((cs.drop o).take c):=by
 obtain⟨n,r,p⟩:=p;obtain⟨e,m,_,_,q,k,l⟩:=DataW.trod_struct g p;have:=l i f d;rw[h,j]at this;have a:i<e.length:=by rw[k];exact(Og.1 d).1
 exact⟨m,e[i],by rw[this,Nu a]⟩
theorem jH {cs:List Na} (c:o9 enc w base spare held 3 cs):∃n,cs=[.int .i64 n]∧bN n:=by obtain⟨n,e,c⟩:=c;obtain⟨d,a,_,b⟩:=DataW.trod_int underlying3 c;exact⟨d,a,IR b⟩
theorem Kb {cs:List Na} (b:o9 enc w base spare held 4 cs):∃n,cs=[.bool n]:=by obtain⟨n,d,b⟩:=b;obtain⟨c,a,_⟩:=DataW.trod_bool underlying4 b;exact⟨c,a⟩
theorem Ke {cs:List Na} (c:o9 enc w base spare held 39 cs):∃n:Nat,cs=[.int .u64 (n:Int)]∧n<2^64:=by obtain⟨n,f,c⟩:=c;obtain⟨d,a,_,b⟩:=DataW.trod_int underlying39 c;have e:=bounds_u64 b;exact⟨d.toNat,by rw[show((d.toNat:Nat):Int)=d by omega];exact a,by omega⟩
theorem Kf {l:List Na} (a:o9 enc w base spare held 38 l):∃r:List Int,l=r.map (Na.int .u8)∧r.length=64∧aX 64 r:=by
 obtain⟨n,u,k⟩:=a;obtain⟨j,m,_,_,g,t,o⟩:=DataW.trod_array underlying38 k;have g:l.length=64:=g.trans (by kernel_rfl);have p:Tryz.prog.cellsOf 5=1:=by kernel_rfl
 have h:∀(e:Nat) (a:e<l.length),∃f:Nat,l[e]=.int .u8 (f:Int)∧f<256:=by
  intro e a;have b:=o e (by omega);rw[p,Nat.mul_one]at b;have c:(l.drop e).take 1=[l[e]]:=by rw[List.drop_eq_getElem_cons (by omega)];rfl
  rw[c]at b;have i:j[e]?=S (j[e]'(by omega)):=Nu (by omega);obtain⟨f,d,_,q⟩:=DataW.trod_int underlying5 (b.trans i);have s:=bounds_u8 q;exact⟨f.toNat,by rw[show((f.toNat:Nat):Int)=f by omega];simpa using d,by omega⟩
 have i:∀(e:Nat) (a:e<l.length),∃f:Nat,(l.map fun s=>match s with|.int _ n=>n|_=>0)[e]?=S (f:Int)∧l[e]=.int .u8 (f:Int)∧f<256:=by intro e a;obtain⟨f,d,c⟩:=h e a;exact⟨f,by simp[a,d],d,c⟩
 refine⟨l.map fun s=>match s with|.int _ n=>n|_=>0,?_,by simpa using g,fun f d=>?_⟩
 ·refine List.ext_getElem (by simp) fun e a q=>?_;obtain⟨f,b,c,_⟩:=i e a;simp[c]
 ·obtain⟨m,b,_,c⟩:=i f (by omega);exact⟨m,by rw[Nf,b];rfl,c⟩
theorem jI:Tryz.prog.cellsOf 3=1:=by kernel_rfl
theorem Kg:Tryz.prog.cellsOf 4=1:=by kernel_rfl
theorem Kh {cs:List Na} (a:o9 enc w base spare held 41 cs):∃m b n c,cs=[.int .i64 m,.int .i64 b,.int .i64 n,.int .i64 c]∧bN m∧bN b∧bN n∧bN c:=by have p:=vG underlying41 (c:=4) (by kernel_rfl) a;obtain⟨m,d,e⟩:=jH (gE (o:=0) underlying41 a 0 rfl rfl jI);obtain⟨b,f,g⟩:=jH (gE (o:=1) underlying41 a 1 rfl rfl jI);obtain⟨n,h,i⟩:=jH (gE (o:=2) underlying41 a 2 rfl rfl jI);obtain⟨c,j,k⟩:=jH (gE (o:=3) underlying41 a 3 rfl rfl jI);refine⟨m,b,n,c,?_,e,g,i,k⟩;rw[←List.drop_zero (l:=cs),gD cs 0 1 1 rfl,gD cs 1 1 2 rfl,gD cs 2 1 3 rfl,gD cs 3 1 4 rfl,d,f,h,j,List.drop_of_length_le (by omega)];rfl
theorem Ki {cs:List Na} (a:o9 enc w base spare held 43 cs):∃f:aZ,cs=f.cells∧uZ f:=by have x:=vG underlying43 (c:=8) (by kernel_rfl) a;obtain⟨y,d,e⟩:=jH (gE (o:=0) underlying43 a 0 rfl rfl jI);obtain⟨z,b,A,c,g,h,i,j,k⟩:=Kh (gE (o:=1) underlying43 a 1 rfl rfl (by kernel_rfl));obtain⟨m,n,p⟩:=jH (gE (o:=5) underlying43 a 2 rfl rfl jI);obtain⟨q,r,s⟩:=jH (gE (o:=6) underlying43 a 3 rfl rfl jI);obtain⟨t,u,v⟩:=jH (gE (o:=7) underlying43 a 4 rfl rfl jI);refine⟨⟨y,z,b,A,c,m,q,t⟩,?_,⟨e,h,i,j,k,p,s,v⟩⟩;rw[←List.drop_zero (l:=cs),gD cs 0 1 1 rfl,gD cs 1 4 5 rfl,gD cs 5 1 6 rfl,gD cs 6 1 7 rfl,gD cs 7 1 8 rfl,d,g,n,r,u,List.drop_of_length_le (by omega)];rfl
theorem ZD {cs:List Na} (a:o9 enc w base spare held 45 cs):∃s:Sp,cs=s.vals.toList∧dJ s:=by have t:=vG underlying45 (c:=75) (by kernel_rfl) a;obtain⟨u,b,d⟩:=jH (gE (o:=0) underlying45 a 0 rfl rfl jI);obtain⟨n,e,g⟩:=jH (gE (o:=1) underlying45 a 1 rfl rfl jI);obtain⟨v,h,i,j⟩:=Kf (gE (o:=2) underlying45 a 2 rfl rfl (by kernel_rfl));obtain⟨m,k,p⟩:=Ke (gE (o:=66) underlying45 a 3 rfl rfl (by kernel_rfl));obtain⟨f,q,r⟩:=Ki (gE (o:=67) underlying45 a 4 rfl rfl (by kernel_rfl));refine⟨⟨u,n,v,m,f⟩,?_,⟨d,g,i,j,p,r⟩⟩;rw[Sp.list,←List.drop_zero (l:=cs),gD cs 0 1 1 rfl,gD cs 1 1 2 rfl,gD cs 2 64 66 rfl,gD cs 66 1 67 rfl,gD cs 67 8 75 rfl,b,e,h,k,q,List.drop_of_length_le (by omega)];simp
theorem ZE {cs:List Na} (d:o9 enc w base spare held 27 cs):∃l e,cs=[.int .i64 l,.int .i64 e]:=by have f:=vG underlying27 (c:=2) (by kernel_rfl) d;obtain⟨l,a,_⟩:=jH (gE (o:=0) underlying27 d 0 rfl rfl jI);obtain⟨e,b,_⟩:=jH (gE (o:=1) underlying27 d 1 rfl rfl jI);refine⟨l,e,?_⟩;rw[←List.drop_zero (l:=cs),gD cs 0 1 1 rfl,gD cs 1 1 2 rfl,a,b,List.drop_of_length_le (by omega)];rfl
theorem Kj {cs:List Na} (a:o9 enc w base spare held 23 cs):∃i s b j c,cs=[.int .i64 i,.int .i64 s,.int .i64 b,.int .i64 j,.int .i64 c]:=by have k:=vG underlying23 (c:=5) (by kernel_rfl) a;obtain⟨i,d,_⟩:=jH (gE (o:=0) underlying23 a 0 rfl rfl jI);obtain⟨s,e,_⟩:=jH (gE (o:=1) underlying23 a 1 rfl rfl jI);obtain⟨b,f,_⟩:=jH (gE (o:=2) underlying23 a 2 rfl rfl jI);obtain⟨j,g,_⟩:=jH (gE (o:=3) underlying23 a 3 rfl rfl jI);obtain⟨c,h,_⟩:=jH (gE (o:=4) underlying23 a 4 rfl rfl jI);refine⟨i,s,b,j,c,?_⟩;rw[←List.drop_zero (l:=cs),gD cs 0 1 1 rfl,gD cs 1 1 2 rfl,gD cs 2 1 3 rfl,gD cs 3 1 4 rfl,gD cs 4 1 5 rfl,d,e,f,g,h,List.drop_of_length_le (by omega)];rfl
theorem Kk {cs:List Na} (u:o9 enc w base spare held 31 cs):∃G s b H c e f m h i j k a n p q,cs=(mZ G s b H c e f m h i j k a n p q).toList:=by
 have L:=vG underlying31 (c:=16) (by kernel_rfl) u;have g:=gE (o:=0) underlying31 u 0 rfl rfl (c:=7) (by kernel_rfl);have J:=vG underlying25 (c:=7) (by kernel_rfl) g;obtain⟨G,s,b,H,c,v⟩:=Kj (gE (o:=0) underlying25 g 0 rfl rfl (c:=5) (by kernel_rfl));obtain⟨e,x,_⟩:=jH (gE (o:=5) underlying25 g 1 rfl rfl jI);obtain⟨f,y,_⟩:=jH (gE (o:=6) underlying25 g 2 rfl rfl jI);obtain⟨m,z,_⟩:=jH (gE (o:=7) underlying31 u 1 rfl rfl jI);have d:=gE (o:=8) underlying31 u 2 rfl rfl (c:=6) (by kernel_rfl);have K:=vG underlying29 (c:=6) (by kernel_rfl) d;obtain⟨h,i,A⟩:=ZE (gE (o:=0) underlying29 d 0 rfl rfl (c:=2) (by kernel_rfl));obtain⟨j,k,B⟩:=ZE (gE (o:=2) underlying29 d 1 rfl rfl (c:=2) (by kernel_rfl));obtain⟨a,C,_⟩:=jH (gE (o:=4) underlying29 d 2 rfl rfl jI);obtain⟨n,b3,_⟩:=jH (gE (o:=5) underlying29 d 3 rfl rfl jI);obtain⟨p,D,_⟩:=jH (gE (o:=14) underlying31 u 3 rfl rfl jI);obtain⟨q,F⟩:=Kb (gE (o:=15) underlying31 u 4 rfl rfl Kg);refine⟨G,s,b,H,c,e,f,m,h,i,j,k,a,n,p,q,?_⟩;have r:(cs.drop 0).take 7=[.int .i64 G,.int .i64 s,.int .i64 b,.int .i64 H,.int .i64 c,.int .i64 e,.int .i64 f]:=by rw[←List.drop_zero (l:=(cs.drop 0).take 7),gD _ 0 5 5 rfl,gD _ 5 1 6 rfl,gD _ 6 1 7 rfl,v,x,y,List.drop_of_length_le (by omega)];rfl
 have t:(cs.drop 8).take 6=[.int .i64 h,.int .i64 i,.int .i64 j,.int .i64 k,.int .i64 a,.int .i64 n]:=by rw[←List.drop_zero (l:=(cs.drop 8).take 6),gD _ 0 2 2 rfl,gD _ 2 2 4 rfl,gD _ 4 1 5 rfl,gD _ 5 1 6 rfl,A,B,C,b3,List.drop_of_length_le (by omega)];rfl
 rw[←List.drop_zero (l:=cs),gD cs 0 7 7 rfl,gD cs 7 1 8 rfl,gD cs 8 6 14 rfl,gD cs 14 1 15 rfl,gD cs 15 1 16 rfl,r,z,t,D,F,List.drop_of_length_le (by omega)];rfl
theorem ZF {r:Reach} {b:Nat} {t:TypeId} {c:Array Field} {v:Na} {d:DataW H} {p:List MemPlace} (e:Tryz.prog.underlying t=S (.struct c)) (a:Na.okWide Tryz.prog w r b t v) (f:DataW.Trod enc Tryz.prog w base spare held t v d p):∃l:List Na,v=.agg l.toArray∧o9 enc w base spare held t l:=by unfold Na.okWide at a;simp only[e]at a;obtain⟨⟨l⟩,rfl,_⟩:=a;obtain⟨n,a⟩:=f;exact⟨l,rfl,n,_,a⟩
theorem yX {r:Reach} {q:Nat} {v:Na} {d:DataW H} {p:List MemPlace} (o:Na.okWide Tryz.prog w r q 31 v) (x:DataW.Trod enc Tryz.prog w base spare held 31 v d p):∃r s b d u c e m f g h i a j k n,v=.agg (mZ r s b d u c e m f g h i a j k n):=by obtain⟨l,rfl,t⟩:=ZF underlying31 o x;obtain⟨r,s,b,d,u,c,e,m,f,g,h,i,a,j,k,n,rfl⟩:=Kk t;exact⟨r,s,b,d,u,c,e,m,f,g,h,i,a,j,k,n,by rw[Array.toArray_toList]⟩
def mG (a:Option Addr) (len:Nat) (x:Nat→Sp) (w:Mz):Prop:=len=0∨∃b off,a=S ⟨b,off,N⟩∧b<w.heap.size∧∀i,i<len→∀j,j<75→w.cell? ⟨b,off+i*75+j,N⟩=(x i).vals[j]?
def OB:Sp:=⟨0,0,ln0,0,dQ⟩
theorem ZG:dJ OB:=⟨by unfold bN;decide,by unfold bN;decide,rfl,kI,by decide,GM⟩
theorem yY {r:Reach} {G:Nat} {v:Na} {d:DataW H} {p:List MemPlace} (J:Na.okWide Tryz.prog w r G 32 v) (A:DataW.Trod enc Tryz.prog w base spare held 32 v d p):∃(a:Option Addr) (c cap:Nat) (x:Nat→Sp),v=.slice a c cap∧c≤maxLen∧(∀i,dJ (x i))∧mG a c x w:=by
 obtain⟨a0,c,cap,rfl⟩:=okWide_slice underlying32 J;obtain⟨C,K⟩:=A;rcases open_slice underlying32 K with⟨e,_⟩|⟨a,D,F,m,n,ad,Pl,e,_,L,M,l,_,P⟩
 ·simp[Na.cells]at e;obtain⟨rfl,rfl,rfl⟩:=e;exact⟨N,0,0,fun _=>OB,rfl,Nz _,fun _=>ZG,.inl rfl⟩
 ·simp[Na.cells]at e
  obtain⟨rfl,rfl,rfl⟩:=e;have V:c≤m:=by rw[l];split<;>omega
  have Q:Tryz.prog.cellsOf 45=75:=by kernel_rfl
  have f:∀i,i<c→∃W:Sp,dJ W∧∀B,B<75→w.cell? ((a.add (i*75)).add B)=W.vals[B]?:=fun i g=>by obtain⟨X,u,o⟩:=P i (by omega);rw[Q]at u;obtain⟨_,aa,q⟩:=Mz.cells?_some u;obtain⟨W,rfl,R⟩:=ZD ⟨n,_,o⟩;refine⟨W,R,fun B y=>?_⟩;rw[q B (by omega),Array.getElem?_toList]
  refine⟨S a,c,cap,fun i=>if A:i<c then(f i A).choose else OB,rfl,No L M,fun i=>?_,?_⟩
  ·dsimp only
   split
   ·rename_i A;exact(f i A).choose_spec.1
   ·exact ZG
  by_cases T:c=0
  ·exact .inl T
  ·right
   obtain⟨b,s,k⟩:=a;obtain⟨y0,_,t⟩:=f 0 (by omega);have h:=t 0 (by omega);rw[Sp.c0]at h;have j:k=N:=by simpa[Addr.add]using Mz.cell?_spot h
   subst j
   have z:∀ab i:Nat,(⟨b,ab,N⟩:Addr).add i=⟨b,ab+i,N⟩:=fun ab i=>by
    unfold Addr.add;split
    ·rename_i A;subst A;rfl
    ·rfl
   refine⟨b,s,rfl,QA h,fun i g B y=>?_⟩;simp only[dif_pos g];have U:=(f i g).choose_spec.2 B y;exact(congrArg w.cell? (by rw[z,z])).trans U
end
end
section
open Go.RowKit Go.Shelf lin
def aY.lines (x:aY):Nat:=((cU x.r x.s x.b x.d x.c-x.res)*x.c).toNat
structure dW (w:Mz) (X:Array Na) (y:cQ) (col:Nat→Nat) (s:MSt) (n:Nat) (W:Mz):Prop where
 m:Mw w y col s n W
 c:iE col W w.heap.size (O X 31)
theorem dW.keeps {col:Nat→Nat} {s:MSt} (b:dW w X y col s n W) (a:aC W W'):dW w X y col s n W':=⟨b.m.keeps a,b.c.keeps a⟩
theorem dW.up {col:Nat→Nat} {s:MSt} {n':Nat} (a:dW w X y col s n W) (b:n≤n'):dW w X y col s n' W:=⟨⟨a.m.m.mono b,a.m.ok,a.m.ex,a.m.z,a.m.k⟩,a.c⟩
theorem dW.chg {col:Nat→Nat} {s:MSt} {f:Nat} (c:dW w X y col s n W) (a:aF (fun b=>b=f) W W') (e:col f=0) (g:w.heap.size<f):dW w X y col s n W':=⟨⟨c.m.m.chg a fun b d=>by rw[d,e];exact jU,c.m.ok,c.m.ex,c.m.z,((aF.of_below c.m.k fun _=>False).next a fun b d=>.inr (by omega)).below Nl fun d c=>c.elim⟩,aJ a c.c.1 (by omega),c.c.2⟩
theorem dW.new {x:aY} (e:x.small=true) (f:aC w w1) (c:w1.heap[w.heap.size]?=S (O X 31)) {col:Nat→Nat} (g:dL y col (MSt.new x) 4096 w2) (ok:cO (MSt.new x).ct) (a:Nc w1.heap.size w1 w2) (d:∀b,b<w1.heap.size→col b=0):dW w X y col (MSt.new x) 4096 w2:=⟨Mw.of_begun e f g ok a d,aE a c,d _ (aB c)⟩
theorem vH {x:aY} (a:x.small=true):(MSt.new x).ct.ld.c=x:=by have b:=wV (aY.small_ok a);show(CtSt.wipe x 4096).ld.c=x;rw[b.ld];rfl
def Kp (w:Mz) (X:Array Na) (y:cQ) (col:Nat→Nat) (s:MSt) (n:Nat) (x:Sp) (W:Mz) (e:Ending) (W':Mz):Prop:=∃a col' s',e=E (.agg a.vals)∧(x.k≤3→kP a)∧dW w X y col' s' (n+5) W'∧Did s x a s'∧aS KM col W col' W'
theorem dW.do {col:Nat→Nat} {s:MSt} (j:dW w X y col s n W) (c:n+5<bY) {x:Sp} (d:dJ x):Nb Y 11 #[y.ar,.agg x.vals] W (Kp w X y col s n x W):=by refine(j.m.do c d).mono ?_;rintro e W' ⟨k,a,f,rfl,g,h,i,b⟩;exact⟨k,a,f,rfl,g,⟨h,j.c.stq b⟩,i,b⟩
theorem mG.load {a:Option Addr} {d:Nat} {xs:Nat→Sp} (n:mG a d xs w) (g:∀m,dJ (xs m)) (h:aC w W) (e:k<d):∃b c,a=S ⟨b,c,N⟩∧b<W.heap.size∧(Mc ⟨b,c+k*75,N⟩ 0 75 #[]).run Y W=.ok (xs k).vals W:=by
 obtain⟨b,c,rfl,i,f⟩:=n.resolve_left (by omega);refine⟨b,c,rfl,Nr i h.size,?_⟩
 have:=lL (P:=Y) W b (c+k*75) (xs k).vals.toList (fun m o j=>by
  have l:m<75:=by have:=(Ol.1 j).1;rwa [Ot,Sp.size (g k).dl]at this
  rw[h.cells.1 b _ i,f k e m l,←Array.getElem?_toList];exact j)
 rw[Ot,Sp.size (g k).dl,Array.toArray_toList]at this;exact this
end
end Go.Proofs.YtlbgenenpheheaaGreat
