/- WholeHeld of the program cuirasstop holds for all arguments, as the given statement says; no further condition -/
import Derived.Test.YtlbgenenpheheaaGreatB7
import Derived.Test.YtlbgenenpheheaaGreatRows
set_option linter.unusedVariables false
set_option linter.unusedSimpArgs false
set_option maxHeartbeats 100000000
set_option maxRecDepth 100000
namespace Go.Proofs.YtlbgenenpheheaaGreat
open Go.Value renaming int→I
open Go.IntKind renaming i64→Z
open Go.Obj renaming cells→O
open Go.Ending renaming returned→E
open _root_.Go.Proofs.YtlbgenenpheheaaGreat.Rows renaming wholeHeldRow→wB,wholeHeldSpec→wZ
open _root_.Go.Proofs.Tryz renaming prog→Y
open _root_.Go.Proofs.Tryz
open _root_.Array renaming length_toList→Ot
open Go renaming World→Mz,Value→Na,Calls→Nb,undef→Nd,bodyPost_ret→Ng,wpQuiet_step→Nh,wpQuiet_nil→Ni,results_cell_row→Oh,below_setRow→Oi
open Go.RowKit renaming Below→Nc
open Go.Value renaming oneCell'→Nq
open _root_.List renaming getD→Nf,replicate→Nm,length_map→Nw
open _root_.Nat renaming le_trans→No,lt_of_lt_of_le→Nr,zero_le→Nz,le_succ→Ob
open _root_.Option renaming some→S,none→N
variable {W W' w:World} {X:Array Value} {b l:Int} {g i j k n:Nat} {q:dK} {s:CtSt} {v:Value} {y:cQ}
section
open Go.ChangeShapes Go.WideShapes Go.ChangeAt Go.RowKit Go.Deep
section
variable {H:Type} {enc:TypeId×Value→H} {P:Program} {w:World} {base:Nat} {spare:Nat→Bool} {held:Bool}
theorem fj {l:Type} (E:l→Na) (z:l) {t e:TypeId} {r:Reach} {Q:Nat} {v:Na} {d:DataW H} {p:List MemPlace} (C:P.underlying t=S (.slice e)) (R:P.cellsOf e=1)
 (o:∀n D ae,DataW.trod enc P w base spare held n e D=S ae→∃T:l,D=[E T])
 (U:Na.okWide P w r Q t v) (J:DataW.Trod enc P w base spare held t v d p):
 ∃(a:Option Addr) (c cap:Nat) (f:Nat→l),v=.slice a c cap∧c≤cap∧c≤maxLen∧(c=0∨∃b g,a=S ⟨b,g,N⟩∧b<w.heap.size∧∀k,k<c→w.cell? ⟨b,g+k,N⟩=S (E (f k))):=by
 obtain⟨a0,c,cap,rfl⟩:=okWide_slice C U;obtain⟨K,V⟩:=J;rcases open_slice C V with⟨h,_⟩|⟨a,L,M,m,n,an,Pl,h,_,F,W,y,_,X⟩
 ·simp[Na.cells]at h;obtain⟨rfl,rfl,rfl⟩:=h;exact⟨N,0,0,fun _=>z,rfl,Nl,Nz _,.inl rfl⟩
 ·simp[Na.cells]at h
  obtain⟨rfl,rfl,rfl⟩:=h;have aa:c≤m:=by rw[y];split<;>omega
  have i:∀k,k<c→∃T:l,w.cell? (a.add k)=S (E T):=fun k j=>by obtain⟨ab,G,A⟩:=X k (by omega);rw[R,Nat.mul_one]at G;obtain⟨_,ad,B⟩:=Mz.cells?_some G;obtain⟨T,rfl⟩:=o _ _ _ A;have x:=B 0 (by omega);refine⟨T,?_⟩;simpa[Addr.add]using x
  refine⟨S a,c,cap,fun k=>if J:k<c then(i k J).choose else z,rfl,F,No F W,?_⟩;by_cases x:c=0
  ·exact .inl x
  ·right
   obtain⟨b,g,u⟩:=a;obtain⟨y0,s⟩:=i 0 (by omega);have q:u=N:=by simpa[Addr.add]using Mz.cell?_spot s
   subst q;refine⟨b,g,rfl,QA s,fun k j=>?_⟩;show w.cell? ⟨b,g+k,N⟩=S (E (if J:k<c then(i k J).choose else z));rw[dif_pos j];have hs:=(i k j).choose_spec
   have ea:(⟨b,g,N⟩:Addr).add k=⟨b,g+k,N⟩:=by
    unfold Addr.add;split
    ·rename_i J;subst J;rfl
    ·rfl
   exact(congrArg w.cell? ea).symm.trans hs
end
section
variable {H:Type} {enc:TypeId×Value→H} {P:Program} {w:World} {base:Nat} {spare:Nat→Bool} {held:Bool}
theorem fo {e:TypeId} (a:P.underlying e=S (.int .i64)) (n:Nat) (cs:List Na) (x:DataW H×List MemPlace) (f:DataW.trod enc P w base spare held n e cs=S x):∃d:{n:Int//bN n},cs=[.int .i64 d.1]:=by obtain⟨d,b,_,c⟩:=DataW.trod_int a f;exact⟨⟨d,IR c⟩,b⟩
end
section
variable {H:Type} {enc:TypeId×Value→H} {w:World} {base:Nat} {spare:Nat→Bool} {held:Bool}
theorem fp {r:Reach} {a:Nat} {v:Na} {d:DataW H} {p:List MemPlace} (b:Na.okWide Y w r a 3 v) (e:DataW.Trod enc Y w base spare held 3 v d p):∃n:Int,v=.int .i64 n∧bN n:=by obtain⟨f,rfl,_,_,c⟩:=open_int underlying3 b e;exact⟨f,rfl,IR c⟩
end
end
section
open Go.RowKit Go.Shelf lin
attribute [local go_sem] Oper.semAt_some
theorem FW {col:Nat→Nat} (w:Mz) (h:dB q col s n w):Nb Y 16 #[q.ar] w fun e d=>e=E q.l.p.ar∧Nc w.heap.size w d:=by obtain⟨j,b,_,_⟩:=h.row;have a:=h.led.row;have i:=aB b;have g:=aB a;unfold CtSt.row at b;unfold bH.row at a;have f:=Cw b 0;simp at f;have c:=Cw a 16;simp at c;unfold dK.ar dH.ar at*;clear h b a;go_in;go_wp2;go_ret;exact⟨rfl,(by repeat first|exact Bl|assumption|refine Ka ?_|refine Ks ?_ (by first|exact Nl|simp<;>omega|omega)|refine Kd ?_|refine Kc ?_ (by assumption))⟩
end
section
open Go.RowKit Go.Shelf lin
attribute [local go_sem] Oper.semAt_some cK Mh
attribute [local simp] Mf Mg
theorem NK {col:Nat→Nat} {s:MSt} (ok:dZ s) (k:Int) (m:bN k) (w:Mz) (t:dL y col s n w):Nb Y 22 #[y.ar,I Z k] w fun e a=>e=E (.agg (aD .u8 (s.idl k)))∧Nc w.heap.size w a:=by
 have⟨q,c⟩:=Ex (w.alloc (O (aD .u8 ln0) 38));have b:aC w q:=by rw[c];exact aU
 have a:q.heap[w.heap.size]?=S (O (aD .u8 ln0) 38):=by rw[c];exact aG _ _ _ rfl
 have h:=t.keeps b;obtain⟨u,v,d,_⟩:=h.row;unfold MSt.row at d;have x:=aB d;have r:=aB a;have o:=Cw d 2;simp at o;have⟨l,i⟩:=Ey (s.idl k);have f:=(ok.len k).1;rw[i]at f ⊢;have j:=h.ide.lookup underlying3 underlying89 (FE _) m;replace j:(Instr.lookup 89 (.map (S y.I)) (I Z k) false).run Y q=.ok (.agg (aD .u8 l)) q:=by rw[j,←i];unfold MSt.idl eJ;cases s.ideal k<;>rfl
 have g:(aD .u8 l).size=64:=by rw[aP,f]
 have z:=Sw a (aD .u8 l) (by rw[g,aP];rfl) (dG _ _);have p:=aH b a;unfold cQ.ar;clear t h d b a i ok;go_in;go_upto_region 1 with fail;rw[gR,show aD .u8 (Nm 64 (0:Int))=aD .u8 ln0 from rfl,←c];clear c;go_wp2_with fail;have⟨b,a⟩:=p.out;exact Ng (Oh (P:=Y) results22 _ _ w.heap.size 38 (aD .u8 l) (0,0) (.array 64 5) rfl (Hw a _) (by kernel_rfl) rfl (by rw[g];kernel_rfl)) rfl ⟨rfl,Oi b Nl _⟩
end
section
open Go.RowKit Go.Shelf lin
theorem eA.ix_at (ok:eA s) (a:s.ld.c.has l):eC s.ld.c.r s.ld.c.s s.ld.c.b s.ld.c.d s.ld.c.c (s.ix l)=true:=by have h:=ok.rp.at ((ok.has l).2 a);have e:s.ld.rp.route l=s.ix l:=ok.ixr a;unfold aW.route at e h;obtain⟨b,c,d,f,g,_⟩:=ok.geo;rw[e,b,c,d,f,g]at h;exact h
theorem Gn {x:aY} (b:lE x) (ok:cO (MSt.new x).ct):gB (fun l=>S ((MSt.new x).idl l)) (MSt.new x).ct:=by
 have e:=wV b;have c:(MSt.new x).ct.ld.c=x:=by show(CtSt.wipe x 4096).ld.c=x;rw[e.ld];rfl
 refine⟨e.q,fun l d=>?_⟩;have a:=ok.rt.ix_at d;rw[c]at a ⊢;exact(e.gh _ a).2.2
theorem Gq (n:Int) (g:Int→List Int) (d:List Int):qL (jM n g) n (S d)=fun l=>S (mF g n d l):=by
 funext k;unfold qL jM mF;by_cases a:k=n
 ·rw[Fp a,Fp a]
 ·rw[Fn a,Fn a,Fn a]
theorem YC {a b:List Int} (c:a.length=64) (d:b.length=64) (e:aX 64 a) (f:aX 64 b) (w:Mz):(Mj 10000 38 (.agg (aD .u8 a)) (.agg (aD .u8 b))).run Y w=.ok (decide (a=b)) w:=NX underlying38 D5 (by kernel_rfl) c d e f w
theorem Js (W:Mz):(Instr.build 48 #[]).run Y W=.ok (.agg (⟨0,0,ln0⟩:aN).vals) W:=by refine run_build W 48 _ _ ?_;obtain⟨f,b,c,d,e⟩:=info_parts GK;have a:=ZB;unfold Program.built;rw[underlying48]at a ⊢;rw[b];simp only[c];simp only at a;rw[a];show S zeroCells48=_;rw[ZA];congr 1
section
attribute [local simp] Mu
end
end
section
open Go.RowKit Go.Shelf lin
def aY.layV (x:aY):Array Na:=#[I Z x.r,I Z x.s,I Z x.b,I Z x.d,I Z x.c,I Z x.way,I Z x.res]
theorem aY.lines_is {x:aY} (c:lE x):((x.lines:Nat):Int)=(cU x.r x.s x.b x.d x.c-x.res)*x.c∧x.lines≤4096:=by
 obtain⟨a,e,f,g⟩:=eM c.lay;have b:=nL (eE a).1;have h:=cM (eE a).1;unfold aY.lines;generalize cU x.r x.s x.b x.d x.c=d at*;have i:1≤x.c:=by omega
 have j:=Int.mul_le_mul_of_nonneg_right (show d-x.res≤d by omega) (show 0≤x.c by omega);have k:d*x.c≤4096:=by rw[b.1];exact b.2.2.2
 have l:=Int.mul_nonneg (show 0≤d-x.res by omega) (show 0≤x.c by omega);omega
theorem aY.lines_has {x:aY} (a:lE x) (l:Int):x.has l↔0≤l∧l<(x.lines:Nat):=by unfold aY.has;rw[←(aY.lines_is a).1];exact⟨fun b=>eB b,fun b=>jO b.1 b.2⟩
theorem GO {x:aY} (a:lE x) (w:Mz):Nb Y 14 #[.agg x.layV] w fun e b=>e=E (I Z (x.lines:Nat))∧Nc w.heap.size w b:=by rw[(aY.lines_is a).1];exact EF a.lay rfl w
theorem yZ {x:aY} (a:W.heap[g]?=S (O x.vals 31)):(Mc ⟨g,0,N⟩ 0 7 #[]).run Y W=.ok x.layV W:=tW a [_,_,_,_,_,_,_] _ rfl
theorem Lj:∀a:Fin 256,∀t:Fin 8,Go.Proofs.YtlbgenenpheheaaGreat.popc (a.val^^^2^t.val)≤Go.Proofs.YtlbgenenpheheaaGreat.popc a.val+1:=by decide+kernel
theorem ZJ {a a' b:List Int} {j:Nat} (g:∀c,c≠j→a'.getD c 0=a.getD c 0) (d:Go.Proofs.YtlbgenenpheheaaGreat.popc ((a'.getD j 0).toNat^^^(b.getD j 0).toNat)≤Go.Proofs.YtlbgenenpheheaaGreat.popc ((a.getD j 0).toNat^^^(b.getD j 0).toNat)+1):∀n,(n≤j→diffN a' b n=diffN a b n)∧diffN a' b n≤diffN a b n+1
 |0=>⟨fun _=>rfl,Nz _⟩
 |n+1=>by
  obtain⟨c,h⟩:=ZJ g d n;unfold diffN;by_cases e:n=j
  ·subst e;have:=c Nl;exact⟨fun f=>by omega,by omega⟩
  ·rw[g n e];exact⟨fun f=>by rw[c (by omega)],by omega⟩
theorem ZK {a a' b:List Int} {j:Nat} (f:∀c,c≠j→a'.getD c 0=a.getD c 0):∀n,(n≤j→unlN a' b n=unlN a b n)∧unlN a' b n≤unlN a b n+1
 |0=>⟨fun _=>rfl,Nz _⟩
 |n+1=>by
  obtain⟨c,g⟩:=ZK (b:=b) f n;unfold unlN;by_cases e:n=j
  ·subst e;have:=c Nl;exact⟨fun d=>by omega,by split<;>split<;>omega⟩
  ·rw[f n e];exact⟨fun d=>by rw[c (by omega)],by omega⟩
theorem Lk {m:Int} {a a' b:List Int} (c:a'.length=a.length) (e:∀d,d≠j→a'.getD d 0=a.getD d 0) (d:Go.Proofs.YtlbgenenpheheaaGreat.popc ((a'.getD j 0).toNat^^^(b.getD j 0).toNat)≤Go.Proofs.YtlbgenenpheheaaGreat.popc ((a.getD j 0).toNat^^^(b.getD j 0).toNat)+1):unlV m a' b≤unlV m a b+1:=by
 unfold unlV;rw[c];split
 ·exact(ZJ e d _).2
 ·exact(ZK e _).2
theorem DB (l:List Int) (n k i:Nat) (a:n≤i):(cG l n k).getD i 0=0:=by unfold cG;rw[Nf,List.getElem?_eq_none (by rw[List.length_take];omega)];rfl
theorem Ll {m:Int} {r d e:List Int} {p:Nat} (h:d.length=r.length) (o:∀f,f≠p→d.getD f 0=r.getD f 0) (i:Go.Proofs.YtlbgenenpheheaaGreat.popc ((d.getD p 0).toNat^^^(e.getD p 0).toNat)≤Go.Proofs.YtlbgenenpheheaaGreat.popc ((r.getD p 0).toNat^^^(e.getD p 0).toNat)+1):expV m d e≤expV m r e+1:=by
 unfold expV;generalize(iQ m).toNat=n;refine(yI _).2 (fun f k=>?_);have l:=(yI (m:=m) (n:=n) (a:=r) (b:=e) (jA m).toNat).1 Nl f k;refine No (Lk (j:=p-n*f) ?_ (fun s q=>?_) ?_) (Nat.add_le_add_right l 1)
 ·unfold cG;rw[List.length_take,List.length_take,List.length_drop,List.length_drop,h]
 ·by_cases c:s<n
  ·rw[oZ _ _ _ _ c,oZ _ _ _ _ c];exact o _ (by omega)
  ·rw[DB _ _ _ _ (by omega),DB _ _ _ _ (by omega)]
 ·by_cases c:p-n*f<n
  ·rw[oZ _ _ _ _ c,oZ _ _ _ _ c,oZ _ _ _ _ c]
   by_cases g:n*f+(p-n*f)=p
   ·rw[g];exact i
   ·rw[o _ g];exact Ob _
  ·rw[DB _ _ _ _ (by omega),DB _ _ _ _ (by omega),DB _ _ _ _ (by omega)];exact Ob _
theorem Lm {m:Int} {r e:List Int} (w:r.length=72) (j:aX 72 r) (k:aX 72 e) (b:Int):expV m (iT r b) e≤expV m r e+1:=by
 by_cases g:0≤b∧b<576
 ·have h:∀l,(iT r b).getD l 0=if(b/8).toNat=l then bits .xor .u8 (r.getD (b/8).toNat 0) (2^(b%8).toNat)else r.getD l 0:=fun l=>by
   unfold iT;rw[Fp g,xN (by omega)]
  refine Ll (p:=(b/8).toNat) (E3 _ _) (fun l a=>by rw[h,Fn fun e=>a e.symm]) ?_;rw[h,Fp rfl];obtain⟨i,o,a⟩:=j (b/8).toNat (by omega);obtain⟨v,q,c⟩:=k (b/8).toNat (by omega);rw[o,q];have s:(b%8).toNat<8:=by omega
  generalize(b%8).toNat=t at*
  have d:(2:Nat)^t<256:=by
   have:t=0∨t=1∨t=2∨t=3∨t=4∨t=5∨t=6∨t=7:=by omega
   rcases this with rfl|rfl|rfl|rfl|rfl|rfl|rfl|rfl<;>decide
  have u:bits .xor .u8 (i:Int) (2^t)=((i^^^2^t:Nat):Int):=by have:=u8_xor_nat i (2^t) a d;rw[←this];push_cast;rfl
  rw[u];have f:i^^^v<256:=Nat.xor_lt_two_pow (n:=8) a c;have:=Lj ⟨i^^^v,f⟩ ⟨t,s⟩;rw[Int.toNat_natCast,Int.toNat_natCast,Int.toNat_natCast,show(i^^^2^t)^^^v=(i^^^v)^^^2^t by rw[Nat.xor_assoc,Nat.xor_comm (2^t),←Nat.xor_assoc]];exact this
 ·unfold iT;rw[Fn g];exact Ob _
theorem Ln {i:Int} (a:0≤i):dD (i/1048576) (i/65536%16) (i/64%1024) (i%64)=i:=by unfold dD;omega
def jN (i:Nat) (b:Int):Sp:=⟨8,0,ln0,0,⟨1,(i:Int)/1048576,(i:Int)/65536%16,(i:Int)/64%1024,(i:Int)%64,0,b,0⟩⟩
theorem Lo (i:Nat) (b:Int):(jN i b).okB=true:=by unfold Sp.okB;rw[decide_eq_true (show jN i b=(jN i b).bare from rfl)];rfl
structure sU (x:aY) (n:Int) (i:Nat) (j:Nat) (s:MSt):Prop where
 c:s.ct.ld.c=x
 q:fI s.ct.dv.dr
 ix:s.ct.ix n=i
 o:∀l,x.has l→l≠n→s.ct.dv.dr.at (s.ct.ix l)=cD x.m (s.idl l) (s.ct.ix l) false
 e:expV x.m (s.ct.dv.dr.at i) (cD x.m (s.idl n) i false)≤j
theorem sU.new {x:aY} (c:lE x) (ok:cO (MSt.new x).ct) {n:Int} (d:x.has n):sU x n ((MSt.new x).ct.ix n) 0 (MSt.new x):=by
 have f:=Gn c ok;have b:(MSt.new x).ct.ld.c=x:=by have f:=wV c;show(CtSt.wipe x 4096).ld.c=x;rw[f.ld];rfl
 have a:∀l,x.has l→(MSt.new x).ct.dv.dr.at ((MSt.new x).ct.ix l)=cD x.m ((MSt.new x).idl l) ((MSt.new x).ct.ix l) false:=fun l a=>by have:=f.2 l (by rw[b];exact a);rw[b]at this;exact this
 exact⟨b,f.1,rfl,fun l e _=>a l e,by rw[a n d,NP];exact Nl⟩
theorem sU.flip {x:aY} {n:Int} {s o:MSt} {a:aN} (g:sU x n i j s) (ok:dZ s) (p:x.has n) (d:Did s (jN i b) a o):sU x n i (j+1) o:=by
 have u:(jN i b).k=8:=rfl;have t:=Lo i b;have k:=ok.ct.ld.c;rw[g.c]at k;cases d with
 |bad g=>rw[t]at g;exact absurd g (by decide)
 |no g f p=>omega
 |rd g f=>omega
 |wr g f=>omega
 |ma g f=>omega
 |sc g f=>omega
 |idle g f=>omega
 |cp g f=>omega
 |tk g f=>omega
 |cl g f=>omega
 |inj _ _=>
  have q:((s.ct.dv.inj (jN i b).f).dr=s.ct.dv.dr)∨(s.ct.dv.inj (jN i b).f).dr=s.ct.dv.dr.put i (iT (s.ct.dv.dr.at i) b):=by
   show(s.ct.dv.dr.inj (jN i b).f).2=_∨(s.ct.dv.dr.inj (jN i b).f).2=_;unfold bO.inj;split
   ·exact .inl rfl
   ·rw[Fp (show(jN i b).f.k=1 from rfl)];right;have c:dD (jN i b).f.r (jN i b).f.b (jN i b).f.d (jN i b).f.c=i:=Ln (Int.natCast_nonneg i);rw[c];rfl
  have r:fI (s.ct.dv.inj (jN i b).f).dr:=g.q.inj rfl;have m:∀l,x.has l→l≠n→¬((s.ct.ix l:Int)=(i:Int)):=fun l h c e=>c (ok.ct.rt.ix_inj (by rw[g.c];exact h) (by rw[g.c];exact p) (by rw[g.ix];omega));refine⟨g.c,r,g.ix,fun l h c=>?_,?_⟩
  ·show(s.ct.dv.inj (jN i b).f).dr.at (s.ct.ix l)=cD x.m (s.idl l) (s.ct.ix l) false
   rcases q with e|e
   ·rw[e];exact g.o l h c
   ·rw[e,uY,Fn (m l h c)];exact g.o l h c
  ·show expV x.m ((s.ct.dv.inj (jN i b).f).dr.at i) (cD x.m (s.idl n) i false)≤j+1
   rcases q with e|e
   ·rw[e];exact Nat.le_succ_of_le g.e
   ·rw[e,uY,Fp rfl];exact No (Lm (ok.ct.dv.dr.at_len _) (ok.ct.dv.dr.at_bts _) (NB k.mode (ok.gok n).2 _ _) b) (Nat.add_le_add_right g.e 1)
theorem sU.read {x:aY} {n:Int} {s h:MSt} {a:aN} (f:sU x n i 2 s) (ok:dZ s) (y:x.has n) {z:Sp} (r:z.okB=true) (b:z.k=1) (g:z.ln=n) (d:Did s z a h):h.idl=s.idl∧(a.e≠40→a=⟨0,0,s.idl n⟩)∧(a.e=40→gB (jM n h.idl) h.ct):=by
 have o:h.idl=s.idl:=by rw[d.idl];unfold wU;rw[Fn (by rintro⟨_,t,_⟩;omega)]
 have j:s.ct.ld.c.has n:=by rw[f.c];exact y
 have k:=ok.ct.ld.c;rw[f.c]at k;have u:=CR k.mode (ok.gok n).1 (ok.gok n).2 (ok.ct.dv.dr.at_len i) (ok.ct.dv.dr.at_bts i) i;have m:s.ct.dec (s.ct.ix n)=fZ x.m (s.ct.dv.dr.at i) i:=by unfold CtSt.dec;rw[f.q.read,f.c,f.ix]
 have p:a=⟨toldV (s.ct.dec (s.ct.ix n)).2.1,0,(s.ct.dec (s.ct.ix n)).1⟩:=by
  cases d with
  |bad f=>rw[r]at f;exact absurd f (by decide)
  |no f q c=>
   rcases c with c|c
   ·rw[g]at c;exact absurd j c
   ·omega
  |rd f b t=>rw[g]
  |wr f b=>omega
  |ma f b=>omega
  |sc f b=>omega
  |idle f b=>omega
  |cp f b=>omega
  |tk f b=>omega
  |cl f b=>omega
  |inj f b=>omega
 rw[m]at p;by_cases t:expV x.m (s.ct.dv.dr.at i) (cD x.m (s.idl n) i false)≤1
 ·obtain⟨v,q⟩:=u.1 t
  have c:a=⟨0,0,s.idl n⟩:=by rw[p,v,yM (q.imp And.left id)]
  exact⟨o,fun _=>c,fun f=>by rw[c]at f;exact absurd f (by show¬(0:Int)=40;decide)⟩
 ·have w:expV x.m (s.ct.dv.dr.at i) (cD x.m (s.idl n) i false)=2:=by have:=f.e;omega
  obtain⟨v,q⟩:=u.2 w;have c:a.e=40:=by rw[p,q];rfl
  refine⟨o,fun f=>absurd c f,fun _=>?_⟩
  have A:gB (jM n s.idl) s.ct:=⟨f.q,fun l g=>by
   rw[f.c]at g ⊢;unfold jM;by_cases e:l=n
   ·subst e;rw[Fp rfl,f.ix];exact .inl ⟨_,ok.gok l,w⟩
   ·rw[Fn e];exact f.o l g e⟩
  have:=(d.read ok r b (by rw[g];exact j) A (NS ok.gok)).1;rw[o];exact this
end
section
open Go.RowKit Go.Shelf lin
attribute [local go_sem] Oper.semAt_some cK Mh
attribute [local simp] Mf Mg Ml Mu
def kR (l:List aN):List (List Na):=l.map fun a=>a.vals.toList
structure mH (w0:Mz) (col:Nat→Nat) (v:Na) (l:List aN) (W:Mz):Prop where
 s:bP 48 66 v (kR l) W
 o:∀g,v.ownBlock=S g→col g=0∧w0.heap.size<g
theorem mH.nil (w0:Mz) (col:Nat→Nat) (W:Mz):mH w0 col (.slice N 0 0) [] W:=⟨bP.nil 48 66 W,fun b a=>by cases a⟩
theorem mH.keeps {w0:Mz} {col:Nat→Nat} {l:List aN} (b:mH w0 col v l W) (a:aC W W'):mH w0 col v l W':=⟨b.s.keeps a,b.o⟩
theorem mH.stq {w0:Mz} {col a:Nat→Nat} {l:List aN} (e:mH w0 col v l W) (c:aS KM col W a W'):mH w0 a v l W':=⟨e.s.chg c.chg fun d b=>by rw[(e.o d b).1];exact jU,fun d b=>⟨(c.old d (e.s.lt d b)).trans (e.o d b).1,(e.o d b).2⟩⟩
theorem mH.slice {w0:Mz} {col:Nat→Nat} {l:List aN} (c:mH w0 col v l W):∃b a,v=.slice b l.length a:=by obtain⟨b,a,rfl⟩:=c.s.slice;exact⟨b,a,by unfold kR;rw[Nw]⟩
theorem dW.grown {col:Nat→Nat} {s:MSt} {a:Option Nat} (g:dW w X y col s n W) (c:W.grownBy W' a) (d:∀f,a=S f→col f=0∧w.heap.size<f):dW w X y col s n W':=by have h:aF (fun b=>a=S b) W W':=(aF.refl _ W).grown c fun i f=>.inl f;exact⟨⟨g.m.m.chg h fun b f=>by rw[(d b f).1];exact jU,g.m.ok,g.m.ex,g.m.z,sI g.m.k c fun i f=>by have:=(d i f).2;omega⟩,eS c g.c.1 (fun e=>by have:=(d _ e.symm).2;omega),g.c.2⟩
theorem mH.push {col:Nat→Nat} {s:MSt} {b:Mz} {v':Na} {l:List aN} {a:aN} (m:mH w col v l W) (f:dW w X y col s n W) (h:a.l.length=64) (g:aC W W') (i:W'.grownBy b v.ownBlock) (c:l.length=k) (j:b.ownsRow 0 48 66 v' (k+1) ((kR l).flatten++a.vals.toList)) (d:v'.ownBlock=v.ownBlock∨v'.ownBlock=S W'.heap.size):mH w col v' (l++[a]) b∧dW w X y col s n b:=by
 subst c;refine⟨⟨?_,fun o c=>?_⟩,(f.keeps g).grown i m.o⟩
 ·unfold kR
  rw[List.map_append];refine bP.push (W:=W) m.s ?_ ?_
  ·rw[Ot,aN.size h]
  ·rw[Nw];exact j
 ·rcases d with e|e
  ·exact m.o o (e▸c)
  ·rw[e]at c;have c:=Option.some.inj c;have p:=g.size;have q:=aB f.c.1;exact⟨f.m.m.top o (by omega),by omega⟩
theorem Did.len {s b:MSt} {x:Sp} {a:aN} (c:Did s x a b) (ok:dZ s):a.l.length=64:=by
 cases c with
 |rd c d e f=>exact uV (ok.ct.dv.dr.read_len _) _
 |_=>rfl
end
section
open Go.RowKit Go.Shelf lin
attribute [local go_sem] Oper.semAt_some cK Mh
attribute [local simp] Mf Mg Ml Mv
theorem Lp (a c d e b:Int) (W:Mz):(Instr.build 43 #[(0,I Z 1),(1,.agg #[I Z a,I Z c,I Z d,I Z e]),(3,I Z b)]).run Y W=.ok (.agg #[I Z 1,I Z a,I Z c,I Z d,I Z e,I Z 0,I Z b,I Z 0]) W:=run_build W 43 _ _ (by kernel_rfl)
theorem Lq:bN 8:=by unfold bN;decide
theorem zF:bN 0:=by unfold bN;decide
theorem Lr (c:(0:Int)≤i∧(i:Int)<8388608) (a:bN b):dJ (jN i b):=by
 refine⟨Lq,zF,rfl,kI,OA,⟨GN,?_,?_,?_,?_,zF,a,zF⟩⟩
 ·show bN ((i:Int)/1048576);unfold bN;omega
 ·show bN ((i:Int)/65536%16);unfold bN;omega
 ·show bN ((i:Int)/64%1024);unfold bN;omega
 ·show bN ((i:Int)%64);unfold bN;omega
def OC (a:Option Addr) (len:Nat) (f:Nat→Int) (w:Mz):Prop:=len=0∨∃b off,a=S ⟨b,off,N⟩∧b<w.heap.size∧∀i,i<len→w.cell? ⟨b,off+i,N⟩=S (I Z (f i))
theorem OD (n:Int):(kQ n).okB=true:=by unfold Sp.okB;rw[decide_eq_true (show kQ n=(kQ n).bare from rfl)];rfl
theorem aN.c0 (a:aN):a.vals[0]?=S (I Z a.e):=by unfold aN.vals;rw[Array.getElem?_append_left (by simp)];rfl
theorem dJ.spok'' {x:Sp} (a:dJ x):wT x:=⟨a.dl,a.db,a.ms,a.ln⟩
theorem Lt (h:X.size=16) (b:∀W,Nb Y 10 #[.agg X] W fun e c=>e=E (.pointer N)∧Nc W.heap.size W c) (n:Int) (i:Na) (a:Option Addr) (f cap:Nat) (w:Mz):Nb Y 7 #[.agg X,I Z n,i,.slice a f cap] w fun e c=>e=E (.bool true)∧Nc w.heap.size w c:=by
 have⟨o,c⟩:=Ex (w.alloc (O X 31));have g:aC w o:=by rw[c];exact aU
 have d:o.heap[w.heap.size]?=S (O X 31):=by rw[c];exact aG _ _ _ rfl
 have j:=aA b;have k:=aA fun W (l:aC o W)=>Lw (aE l d) 16 h;have l:=aA g;have q:=aB d;have m:=aA (pO o);clear g d b;go_in;go_upto_region 1 with fail;rw[←c];clear c;go_wp2_with fail;refine m.out.mono ?_;rintro e c ⟨rfl,b⟩;have r:=k.out c b;have d:=aA (aK l.out b);have p:w.heap.size<c.heap.size:=by have:=b.size;omega
 clear b;go_wp2_with fail;refine(j.out c).mono ?_;rintro e s ⟨rfl,b⟩;have g:=aA (aK d.out b);clear b;go_wp2_with fail;go_ret;exact⟨rfl,g.out⟩
theorem Lu {x:aY} (hx:x.small=true) (n:Int) (r:bN n) (eh:Option Addr) (lb cb:Nat) (f:Nat→Int) (hf:∀cm,bN (f cm)) (a:Option Addr) (j cap:Nat) (xs:Nat→Sp) (hs:∀cm,dJ (xs cm)) (w:Mz) (ds:OC eh lb f w) (ha:mG a j xs w) (c:lb≤maxLen) (h:j≤maxLen):Nb Y 7 #[.agg x.vals,I .i64 n,.slice eh lb cb,.slice a j cap] w fun e g=>e=E (.bool true)∧Nc w.heap.size w g:=by
 have⟨X,i⟩:=Ey x.vals;have dz:X.size=16:=by rw[←i];rfl
 have d:=aA fun W=>wY hx W;have B:=aA fun(W:Mz) (g:W.heap[w.heap.size]?=S (O x.vals 31))=>yZ (x:=x) g;have ba:=aA fun(W:Mz) (g:W.heap[w.heap.size]?=S (O x.vals 31))=>(tW g [I .i64 x.r,I .i64 x.s,I .i64 x.b,I .i64 x.d,I .i64 x.c] _ rfl:(Mc ⟨w.heap.size,0,N⟩ 0 5 #[]).run Y W=.ok #[I .i64 x.r,I .i64 x.s,I .i64 x.b,I .i64 x.d,I .i64 x.c] W);rw[i]at d B ba ⊢;have en:=aA i;clear i;have⟨eo,i⟩:=Ex (w.alloc (O X 31));have p:aC w eo:=by rw[i];exact aU
 have k:eo.heap[w.heap.size]?=S (O X 31):=by rw[i];exact aG _ _ _ rfl
 have q:=aA fun W (g:aC eo W)=>Lw (aE g k) 16 dz;have m:=aH p k;have hz:=aB k;have u:=aA (pO eo);have ep:(j:Int)≤9223372036854775807:=by unfold maxLen at h;omega
 have ei:(lb:Int)≤9223372036854775807:=by unfold maxLen at c;omega
 clear p k h c;go_in;go_upto_region 1 with fail;rw[←i];clear i;go_wp2_with fail;refine u.out.mono ?_;rintro e w1 ⟨rfl,c⟩;have p:=q.out w1 c;have K1:=aA (aK m.out.1 c);have er:w.heap.size<w1.heap.size:=by have:=c.size;omega
 have h:=aA (aE c m.out.2);clear c;go_wp2_with fail;refine(d.out w1).mono ?_;rintro e w2 ⟨ea,bb,rfl,hM,ok,c,i⟩;have HR:=aA (dW.new hx K1.out h.out hM ok c i);have H:=aY.small_ok hx;have aa:=aA fun W=>GO H W;have eb:=(aY.lines_is H).2;have HN:=aA (aY.lines_has H);obtain⟨ek,k⟩:=Ey x.lines;rw[k]at aa eb HN;have⟨LY,g⟩:=Ey x.layV;rw[g]at aa B;clear hM ok c i d p m q u h k g;unfold cQ.ar;by_cases el:j≤60
 ·have dd:¬(j:Int)>60:=by omega
  by_cases c1:n<0
  ·go_wp2_with fail;go_ret;exact⟨rfl,HR.out.m.k⟩
  ·have LC:=B.out w2 HR.out.c.1
   have zc:=aB HR.out.c.1;go_wp2_with fail;refine(aa.out w2).mono ?_;rintro e w3 ⟨rfl,c⟩;have k:=aA (HR.out.keeps c);clear c LC zc;by_cases c2:n≥(ek:Int)
   ·go_wp2_with fail;go_ret;exact⟨rfl,k.out.m.k⟩
   ·by_cases c3:lb=2
    ·subst c3
     have hn:x.has n:=(HN.out n).2 ⟨by omega,by omega⟩;have bd:=sU.new H k.out.m.ok.ct hn;have y:=k.out.m.ok;have U:(MSt.new x).ct.ld.c.has n:=by rw[vH hx];exact hn
     have J:=y.ct.rt.ix_at U;rw[vH hx]at J;have bm:(MSt.new x).ct.ld.rp.route n=(MSt.new x).ct.ix n:=y.ct.rt.ixr U;obtain⟨cm,hi⟩:∃cm:Nat,(MSt.new x).ct.ix n=cm:=⟨_,rfl⟩;rw[hi]at bd J bm;have bn:=aA fun W (g:aC w3 W)=>CT W (k.out.m.m.keeps g);have V:=aA fun W (g:aC w3 W)=>FW W (k.out.m.m.keeps g).ct;have L:=aA fun W (g:aC w3 W)=>EV y.ct.ld.rp n ((y.ct.ld.has _).2 U) W (k.out.m.m.keeps g).ct.led.rep;rw[bm]at L;obtain⟨t1,cn⟩:∃t,(MSt.new x).ct.ld.rp.t.home n=t:=⟨_,rfl⟩;obtain⟨t2,cp⟩:∃t,(MSt.new x).ct.ld.rp.t.rk n=t:=⟨_,rfl⟩;rw[cn,cp]at L;have br:=aA fun W=>EK J W;have HJ:=aA bd;have ab:=aA hn;unfold cQ.ar at bn;unfold dK.ar at V;unfold dH.ar at V L;have⟨p0,u⟩:=Ey ((cm:Int)/1048576);have⟨p1,bs⟩:=Ey ((cm:Int)/65536%16);have⟨p2,i⟩:=Ey ((cm:Int)/64%1024);have⟨p3,bv⟩:=Ey ((cm:Int)%64);have HP:=bT u bs i bv;have cu:(0:Int)≤cm∧(cm:Int)<8388608:=oI J ((eE (eM H.lay).1).1);have dg:Hid (∀b,bN b→dJ (jN cm b)):=aA fun b c=>Lr cu c;rw[u,bs,i,bv]at br;clear bd y U J bm hi hn cn cp u bs i bv cu;go_wp2_with fail;refine(bn.out _ Kr).mono ?_;rintro e w4 ⟨rfl,bw⟩;go_wp2_with fail;refine(V.out _ bw).mono ?_;rintro e w5 ⟨rfl,M⟩;have M:=aK bw M;go_wp2_with fail;refine(L.out _ M).mono ?_;rintro e w6 ⟨rfl,q⟩;have q:=aK M q;have LG:(Mc ⟨w.heap.size,0,N⟩ 0 5 #[]).run Y w6=.ok #[I .i64 x.r,I .i64 x.s,I .i64 x.b,I .i64 x.d,I .i64 x.c] w6:=ba.out w6 (k.out.keeps q).c.1;have zg:=aB (k.out.keeps q).c.1;clear bw M;go_wp2_with fail;refine(br.out _).mono ?_;rintro e w7 ⟨rfl,ad⟩;have ad:=aK q ad;have bx:=aA (k.out.keeps ad);have SP:=Mi (P:=Y) w7 41 #[I .i64 0,I .i64 0,I .i64 0,I .i64 0] #[I .i64 p0,I .i64 p1,I .i64 p2,I .i64 p3] (by kernel_rfl) rfl (by simp[Nq]);clear q ad LG zg bn V L br;go_upto_region 8 with fail;have⟨w8,ae⟩:=Ex (w7.alloc (O #[I .i64 p0,I .i64 p1,I .i64 p2,I .i64 p3] 41));rw[←ae];have bz:Hid (dW w X ea bb (MSt.new x) 4096 w8∧iE bb w8 w7.heap.size (O #[I .i64 p0,I .i64 p1,I .i64 p2,I .i64 p3] 41)):=aA ⟨by rw[ae];exact bx.out.keeps (Ka (K.refl w7)),by rw[ae];exact iE.new bx.out.m _⟩;have ec:w.heap.size<w7.heap.size:=aB bx.out.c.1;clear ae SP;go_wp2_with fail;have⟨ew,hL⟩:=Ex w7.heap.size;rw[←hL]at bz ec ⊢;clear hL;go_loopw [78] (fun c wr=>∃(z:Nat) (dl:Nat→Nat) (s:MSt),z≤2∧c=I .i64 z∧dW w X ea dl s (4096+5*z) wr∧sU x n cm z s∧iE dl wr ew (O #[I .i64 p0,I .i64 p1,I .i64 p2,I .i64 p3] 41)) fun c _=>2-(intOf c).toNat
     case atStart=>exact⟨0,bb,MSt.new x,Nz _,rfl,bz.out.1,HJ.out,bz.out.2⟩
     case round=>
      obtain⟨z,dl,s,hk,rfl,c,cc,A⟩:=hrel;have h:=Hd3 c cc A;by_cases an:z<2
      ·obtain⟨p,y,rfl,g,i⟩:=ds.resolve_left (by omega)
       have q:wr.cell? ⟨p,y+z,N⟩=S (I .i64 (f z)):=(c.m.k.cells.1 p _ g).trans (i z an);have L:p<wr.heap.size:=Nr g c.m.k.size;have d:=aA (c.do (by unfold bY;omega) (dg.out (f z) (hf z)));have u:=Lw A.1 4 rfl;have M:=aB A.1;have⟨fb,m⟩:=Ey (f z);rw[m]at q d;have v:=Mx (Lp p0 p1 p2 p3 fb wr);have V:(Instr.build 45 #[(0,I .i64 8),(4,.agg #[I .i64 1,I .i64 p0,I .i64 p1,I .i64 p2,I .i64 p3,I .i64 0,I .i64 fb,I .i64 0])]).run Y wr=.ok (.agg (jN cm fb).vals) wr:=by have:=Z9 8 (jN cm fb).f wr;rw[←HP.out.1,←HP.out.2.1,←HP.out.2.2.1,←HP.out.2.2.2];exact this
       replace V:=Mr V;have⟨cx,J⟩:=Ey (jN cm fb).vals;unfold cQ.ar at d;have cz:(z:Int)<2:=by omega
       rw[J]at d V;clear J m c cc A i;go_wp2_with fail;refine d.out.mono ?_;rintro e W2 ⟨C,c2,s2,rfl,_,Q,D,hq⟩;have F:=Hd3 (Q.up (n':=4096+5*(z+1)) (by omega)) (h.out.2.1.flip h.out.1.m.ok ab.out D) (h.out.2.2.stq hq);generalize C.vals=dn at*;clear Q D hq d v V u;go_wp2_with fail;go_roundw
       case rel=>exact⟨z+1,c2,s2,by omega,by go_num,F.out.1,F.out.2.1,F.out.2.2⟩
       case measure=>simp[intOf];omega
      ·have ed:z=2:=by omega
       subst ed;clear c cc A;have d:=aA (h.out.1.do (by unfold bY;omega) (DA r));have v:=Mr (D8 1 n wr);unfold cQ.ar at d;unfold kQ at d;obtain⟨V1,cv⟩:∃cx,(⟨1,n,ln0,0,dQ⟩:Sp).vals=cx:=⟨_,rfl⟩;rw[cv]at d v;clear cv;go_wp2_with fail;refine d.out.mono ?_;rintro e W2 ⟨em,c2,s2,rfl,hp,Q,D,hq⟩;have hp:=hp (by show(1:Int)≤3;decide);obtain⟨r1,r2,r3⟩:=sU.read h.out.2.1 h.out.1.m.ok ab.out (OD n) rfl rfl D;have cx:=(D.c h.out.1.m.ok.ct).trans h.out.2.1.c;have R:em.vals.size=66:=aN.size hp.ll;have cd:=aN.one em;have u:=aN.c0 em;have F:=eQ Q cx r1 r2 r3 hp;have⟨dn,hA⟩:=Ey em.vals;have⟨pe,cf⟩:=Ey em.e;rw[hA]at R cd u ⊢;rw[cf]at u;have ck:=aH hA cf;have SP:=Mi (P:=Y) W2 48 zeroCells48 dn (by rw[R];kernel_rfl) (by rw[R];rfl) cd;clear hA cf Q cx r1 r2 r3 hp D hq d v;go_upto_region 16 with fail;have⟨W3,ar⟩:=Ex (W2.alloc (O dn 48));rw[←ar];have k3:aC W2 W3:=by rw[ar];exact Ka (K.refl W2)
       have b3:W3.heap[W2.heap.size]?=S (O dn 48):=by rw[ar];exact aG _ _ _ rfl
       have q0:=Cw b3 0;rw[u]at q0;have z3:=aB b3;have C:=aA (F.out.1.keeps k3);have T:=aA fun W (g:aC W3 W)=>Lw (aE g b3) 66 R;clear ar k3 b3 SP;by_cases cl:pe=40
       ·have bs:gB (jM n s2.idl) s2.ct:=F.out.2.2.2.2.1 (by rw[ck.out.2];exact cl)
        have db:=aA bs;subst cl;clear bs;go_wp2_with fail;have ad:=Hd3 C.out F.out.2.1 db.out;clear z3 R cd;go_loopw [104] (fun c wr=>∃(z:Nat) (dl:Nat→Nat) (s:MSt),z≤j∧c=I .i64 z∧dW w X ea dl s (5000+10*z) wr∧s.ct.ld.c=x∧gB (jM n s.idl) s.ct) fun c _=>j-(intOf c).toNat
        case atStart=>exact⟨0,c2,s2,Nz _,rfl,ad.out.1.up (by omega),ad.out.2.1,ad.out.2.2⟩
        case round=>
         obtain⟨z,dl,s,hk,rfl,c,Q,hH⟩:=hrel;have h:=Hd3 c Q hH;by_cases an:z<j
         ·obtain⟨b,es,rfl,et,M⟩:=ha.load hs c.m.k an
          have i:=aA fun W (g:dW w X ea dl s (5000+10*z) W)=>g.do (by unfold bY;omega) (hs z);have A:=Sp.size (hs z).dl;have ae:=Sp.one (xs z);have U:=Sp.c0 (xs z);have p:=Sp.c1 (xs z);have v:=Sp.cm (hs z).dl;have br:=aA (hs z);unfold cQ.ar at i;obtain⟨ev,hS⟩:=Ey (xs z);rw[hS]at i M A ae U p v br;have⟨cx,J⟩:=Ey ev.vals;rw[J]at i M A ae U p v;have⟨m,g⟩:=Ey ev.k;have⟨R,y⟩:=Ey ev.ln;have⟨sm,D⟩:=Ey ev.ms;rw[g]at U;rw[y]at p;rw[D]at v;have HK:=Hd3 g y D;have SP:=Mi (P:=Y) wr 45 zeroCells45 cx (by rw[A];kernel_rfl) (by rw[A];rfl) ae;have cz:(z:Int)<j:=by omega
          clear c Q hH J hS g y D ad;go_upto_region 21 with fail;have⟨W1,q⟩:=Ex (wr.alloc (O cx 45));rw[←q];have V:aC wr W1:=by rw[q];exact Ka (K.refl wr)
          have L:W1.heap[wr.heap.size]?=S (O cx 45):=by rw[q];exact aG _ _ _ rfl
          have LV:=Lw L 75 A;have d:=aA (i.out W1 (h.out.1.keeps V));have P1:=aA (h.out.1.keeps V);have zV:=aB L;have⟨g0,g1,bs⟩:=pQ L 0 1 66;rw[U]at g0;rw[p]at g1;rw[v]at bs;clear q V L i SP M;go_cut [137] from 108 to 137 fun c g=>c=.bool (m==8||(m==2&&R==n)||(m==3&&R==n&&((sm:Int)==18446744073709551615)))∧g=W1
          case first=>
           by_cases i:m=8
           ·subst i;go_wp2_with fail;all_goals go_meet;exact⟨by simp,rfl⟩
           ·by_cases c:m=2
            ·subst c;by_cases q:R=n;all_goals go_wp2_with fail;all_goals go_meet;exact⟨by simp_all,rfl⟩
            ·by_cases g:m=3
             ·subst g;by_cases q:R=n;all_goals go_wp2_with fail;all_goals go_meet;exact⟨by simp_all,rfl⟩
             ·go_wp2_with fail;all_goals go_meet;exact⟨by rw[show(m==2)=false by simpa using c,show(m==3)=false by simpa using g];simp,rfl⟩
          case rest=>
           obtain⟨rfl,rfl⟩:=hcut;cases g:(m==8||(m==2&&R==n)||(m==3&&R==n&&((sm:Int)==18446744073709551615)))
           ·have ad:m≠8∧¬(m=2∧R=n)∧¬(m=3∧R=n∧sm=full64):=by
             refine⟨fun e=>?_,fun e=>?_,fun e=>?_⟩
             ·rw[e]at g;simp at g
             ·rw[e.1,e.2]at g;simp at g
             ·rw[e.1,e.2.1,e.2.2]at g;simp[full64]at g
            have ar:=aA ad;clear g ad;go_wp2_with fail;refine d.out.mono ?_;rintro e ed ⟨q0,c3,s3,rfl,_,M,D,_⟩;have bv:=D.lost (n:=n) h.out.1.m.ok br.out.spok'' (by rw[HK.out.1];exact ar.out.1) (by rw[HK.out.1,HK.out.2.1];exact ar.out.2.1) (by rw[HK.out.1,HK.out.2.1,HK.out.2.2];exact ar.out.2.2) h.out.2.2;have bw:=(D.c h.out.1.m.ok.ct).trans h.out.2.1;have P4:=Hd3 M bw bv;have J:=aA (M.do (by unfold bY;omega) (DA r));have V:=Mr (D8 1 n ed);unfold cQ.ar at J;unfold kQ at J;obtain⟨V2,cc⟩:∃cx,(⟨1,n,ln0,0,dQ⟩:Sp).vals=cx:=⟨_,rfl⟩;rw[cc]at J V;generalize q0.vals=A0 at*;clear cc M D bv bw d g0 g1 bs LV;go_wp2_with fail;refine J.out.mono ?_;rintro e W5 ⟨cv,c4,s4,rfl,i,cd,av,_⟩;have i:=i (by show(1:Int)≤3;decide);obtain⟨m1,m2,_,m3⟩:=Did.read (o:=jM n s3.idl) P4.out.1.m.ok av (OD n) rfl (show s3.ct.ld.c.has n by rw[P4.out.2.1];exact ab.out) P4.out.2.2 (NS P4.out.1.m.ok.gok);obtain⟨m4,m5⟩:=m3 (show jM n s3.idl n=N by unfold jM;rw[Fp rfl]);have cf:=(av.c P4.out.1.m.ok.ct).trans P4.out.2.1;rw[←m2]at m1;have y:=Hd3 cd cf m1;have q:cv.vals.size=66:=aN.size i.ll;have L:=aN.one cv;have bd:=aN.c0 cv;have bm:cv.vals=#[I .i64 cv.e,I .i64 cv.n]++aD .u8 ln0++#[]:=by unfold aN.vals;rw[m5];simp
            obtain⟨A5,cl⟩:∃dn,cv.vals=dn:=⟨_,rfl⟩;have⟨qe,cn⟩:=Ey cv.e;rw[cn]at m4 bd;rw[cl]at q L bd bm ⊢;have bn:=Mi (P:=Y) W5 48 zeroCells48 A5 (by rw[q];kernel_rfl) (by rw[q];rfl) L;have ee:=aA bm;clear cn cl bm cd cf m1 m2 m3 m5 av i J V;go_upto_region 24 with fail;have⟨c,Q⟩:=Ex (W5.alloc (O A5 48));rw[←Q];have k6:aC W5 c:=by rw[Q];exact Ka (K.refl W5)
            have b6:c.heap[W5.heap.size]?=S (O A5 48):=by rw[Q];exact aG _ _ _ rfl
            have q6:=Cw b6 0;rw[bd]at q6;have ef:(Mc ⟨W5.heap.size,2,N⟩ 0 64 #[]).run Y c=.ok (aD .u8 ln0) c:=by have b:=b6;rw[ee.out]at b;exact D6 b rfl rfl
            have cp:(Instr.build 38 #[]).run Y c=.ok (.agg (aD .u8 ln0)) c:=run_build c 38 _ _ (by kernel_rfl);simp[go_sem]at cp;have eg:(Mj 10000 38 (.agg (aD .u8 ln0)) (.agg (aD .u8 ln0))).run Y c=.ok true c:=by rw[YC rfl rfl kI kI c];simp
            obtain⟨Z0,cu⟩:∃g,aD .u8 ln0=g:=⟨_,rfl⟩;rw[cu]at ef cp eg;have z6:=aB b6;have P6:=aA (y.out.1.keeps k6);clear cu Q k6 b6 bn;rcases m4 with rfl|rfl
            all_goals
             go_wp2_with fail;go_roundw
             case rel=>exact⟨z+1,c4,s4,by omega,by go_num,P6.out.up (by omega),y.out.2.1,y.out.2.2⟩
             case measure=>simp[intOf];omega
           ·go_wp2_with fail
            go_roundw
            case rel=>exact⟨z+1,dl,s,by omega,by go_num,P1.out.up (by omega),h.out.2.1,h.out.2.2⟩
            case measure=>simp[intOf];omega
         ·have cx:z=j:=by omega
          subst cx;clear c Q hH;have⟨br,hD⟩:=Ey (Nm 64 (77:Int));have HF:Hid (∀W,Nb Y 23 #[.int .u8 77] W fun e g=>e=E (.agg (aD .u8 br))∧Nc W.heap.size W g):=aA (fun W=>by rw[←hD];exact QJ 77 W);have ae:br.length=64:=by rw[←hD];rfl
          have av:aX 64 br:=by rw[←hD];exact O9 (by decide) (by decide)
          have q:dJ (qM n br):=ZC r ae av;have y:(qM n br).okB=true:=by unfold Sp.okB;rw[decide_eq_true (show qM n br=(qM n br).bare from rfl)];rfl
          have HW:=aH q y;clear hD q y;go_wp2_with fail;refine(HF.out _).mono ?_;rintro e V1 ⟨rfl,p⟩;have d:=aA ((h.out.1.keeps p).do (by unfold bY;omega) HW.out.1);have v:=Mr (Z8 2 n ae V1);unfold cQ.ar at d;unfold qM at d;obtain⟨X1,bv⟩:∃cx,(⟨2,n,br,0,dQ⟩:Sp).vals=cx:=⟨_,rfl⟩;rw[bv]at d v;clear bv p;go_wp2_with fail;refine d.out.mono ?_;rintro e V2 ⟨p9,c9,s9,rfl,_,bw,d9,_⟩;have L:s.ct.ld.c.has n:=by rw[h.out.2.1];exact ab.out
          obtain⟨u1,u2,_,u3,_⟩:=d9.write (n:=0) h.out.1.m.ok HW.out.1.spok'' HW.out.2 rfl L;have cc:=(d9.c h.out.1.m.ok.ct).trans h.out.2.1;have ar:gB (fun l=>S (s9.idl l)) s9.ct:=by have c:=h.out.2.2.put h.out.1.m.ok.ct.rt L br false (fun e=>by cases e);rw[Fn (by decide),Gq]at c;rw[u2,u3];exact c
          have bd:s9.idl n=br:=by rw[u2];exact Fp rfl
          have⟨G,U⟩:=Ey s9.idl;rw[U]at ar bd;rw[u1];obtain⟨Az,g⟩:∃dn,(⟨0,0,ln0⟩:aN).vals=dn:=⟨_,rfl⟩;have M:Az.size=66:=by rw[←g];exact aN.size rfl
          have cu:Az.all (·.oneCell')=true:=by rw[←g];exact aN.one _
          have HZ:=aA g;rw[g];have cz:=Mi (P:=Y) V2 48 zeroCells48 Az (by rw[M];kernel_rfl) (by rw[M];rfl) cu;have PV:=eP bw cc U ar bd;clear g bw cc U ar bd d9 u1 u2 u3 L d v;go_upto_region 28 with fail;have⟨V3,i⟩:=Ex (V2.alloc (O Az 48));rw[←i];have D:Hid (dW w X ea c9 s9 (6000+10*z) V3∧iE c9 V3 V2.heap.size (O Az 48)):=aA ⟨by rw[i];exact(PV.out.1.keeps (Ka (K.refl V2))).up (by omega),by rw[i];exact iE.new PV.out.1.m _⟩;have LC:=B.out V3 D.out.1.c.1;have zc:=aB D.out.1.c.1;have⟨ee,hM⟩:=Ex V2.heap.size;rw[←hM]at D ⊢;clear i cz hM;go_wp2_with fail;refine(aa.out V3).mono ?_;rintro e V4 ⟨rfl,bm⟩;have cf:=aH (D.out.1.keeps bm) (D.out.2.keeps bm);clear bm LC zc;go_wp2_with fail;go_loopw [168] (fun c wr=>∃(V:Nat) (dl:Nat→Nat) (s:MSt),V≤ek∧c=I .i64 V∧dW w X ea dl s (7000+5*V) wr∧s.ct.ld.c=x∧s.idl=G∧gB (fun l=>S (G l)) s.ct∧iE dl wr ee (O Az 48)) fun c _=>ek-(intOf c).toNat
          case atStart=>exact⟨0,c9,s9,Nz _,rfl,cf.out.1.up (by omega),PV.out.2.1,PV.out.2.2.1,PV.out.2.2.2.1,cf.out.2⟩
          case round=>
           obtain⟨V,dl,s,hj,rfl,c,Q,U,hH,A⟩:=hrel;have J:=eP c Q U hH A;by_cases an:V<ek
           ·have cl:(V:Int)<ek:=by omega
            have ar:bN (V:Int):=by unfold bN;omega
            have d:=aA (c.do (by unfold bY;omega) (DA ar));have v:=Mr (D8 1 (V:Int) wr);have g:s.ct.ld.c.has (V:Int):=by rw[Q];exact(HN.out (V:Int)).2 ⟨by omega,by omega⟩
            have cd:=aA g;unfold cQ.ar at d;unfold kQ at d;obtain⟨X2,bd⟩:∃cx,(⟨1,(V:Int),ln0,0,dQ⟩:Sp).vals=cx:=⟨_,rfl⟩;rw[bd]at d v;clear bd c Q U hH A g;go_wp2_with fail;refine d.out.mono ?_;rintro e V5 ⟨cv,c5,s5,rfl,i,bm,d5,q5⟩;have i:=i (by show(1:Int)≤3;decide)
            obtain⟨m1,m2,m3,_⟩:=Did.read (o:=fun l=>S (G l)) J.out.1.m.ok d5 (OD (V:Int)) rfl cd.out J.out.2.2.2.1 (fun l c e=>by
             have e:=Option.some.inj e;rw[←e,←J.out.2.2.1]
             exact J.out.1.m.ok.gok l)
            have hq:cv=⟨0,0,G V⟩:=m3 (G V) rfl;have bs:=(d5.c J.out.1.m.ok.ct).trans J.out.2.1;have y:=eP bm bs (m2.trans J.out.2.2.1) m1 (J.out.2.2.2.2.stq q5);rw[hq]at i ⊢;have HEq:Hid (∀W,(Mj 10000 48 (.agg (⟨0,0,G V⟩:aN).vals) (.agg (⟨0,0,G V⟩:aN).vals)).run Y W=.ok true W):=aA (fun W=>by rw[yP i i W];simp);have p:=aA fun W=>Mt (GL i.ll W);have q:(⟨0,0,G V⟩:aN).vals.size=66:=aN.size i.ll;have L:=aN.one (⟨0,0,G V⟩:aN)
            have m:Hid (∀W,aC V5 W→Nb Y 22 #[ea.ar,I .i64 (V:Int)] W fun e g=>e=E (.agg (aD .u8 (G V)))∧Nc W.heap.size W g):=aA (fun W g=>by
             have:=NK y.out.1.m.ok (V:Int) ar W (y.out.1.m.m.keeps g);rw[y.out.2.2.1]at this
             exact this)
            simp only at p;obtain⟨Gj,bv⟩:∃g,aD .u8 (G V)=g:=⟨_,rfl⟩;rw[bv]at p m;obtain⟨Aq,bw⟩:∃dn,(⟨0,0,G V⟩:aN).vals=dn:=⟨_,rfl⟩;rw[bw]at HEq p q L ⊢;unfold cQ.ar at m;have bn:=Mi (P:=Y) V5 48 zeroCells48 Aq (by rw[q];kernel_rfl) (by rw[q];rfl) L;clear bv bw hq i bm bs m1 m2 m3 d5 q5 d v;go_upto_region 32 with fail;have⟨V6,R⟩:=Ex (V5.alloc (O Aq 48));rw[←R];have k6:aC V5 V6:=by rw[R];exact Ka (K.refl V5)
            have b6:V6.heap[V5.heap.size]?=S (O Aq 48):=by rw[R];exact aG _ _ _ rfl
            have T:=aA fun W (g:aC V6 W)=>Lw (aE g b6) 66 q;have K6:=aA k6;clear R k6 b6 bn;refine bS (by kernel_rfl) (by kernel_rfl) ?_
            repeat
             with_reducible refine Nh fun K d=>?_
             go_simp
             try first
              |(apply Ei
                intro g c;obtain⟨i,A⟩:=c.cells;have Q:=T.out _ c;have U:=HEq.out g;have v:=p.out g;go_simp
                first
                 |(go_at_call 22;with_reducible exact c.call (m.out _ (aK K6.out c)))
                 |rfl)
              |(with_reducible refine aQ ?_ ?_;first|decide|simp[Nd];done)
             refine d _ ?_;clear d K
            with_reducible refine Ni ?_
            intro V7 cc;have K7:=aA (aK K6.out cc);clear cc;go_wp2_with fail;go_roundw
            case rel=>exact⟨V+1,c5,s5,by omega,by go_num,(y.out.1.keeps K7.out).up (by omega),y.out.2.1,y.out.2.2.1,y.out.2.2.2.1,y.out.2.2.2.2.keeps K7.out⟩
            case measure=>simp[intOf];omega
           ·have ed:V=ek:=by omega
            subst ed;have LZ:=Lw A.1 66 M;have BZ:=Mt (Js wr);have bn:kP (⟨0,0,ln0⟩:aN):=⟨zF,zF,rfl,kI⟩;have EZ:(Mj 10000 48 (.agg (⟨0,0,ln0⟩:aN).vals) (.agg (⟨0,0,ln0⟩:aN).vals)).run Y wr=.ok true wr:=by rw[yP bn bn wr];simp
            rw[HZ.out]at BZ EZ
            have m:Hid (Nb Y 22 #[ea.ar,I .i64 n] wr fun e g=>e=E (.agg (aD .u8 br))∧Nc wr.heap.size wr g):=aA (by
             have:=NK c.m.ok n r wr c.m.m;rw[U,PV.out.2.2.2.2]at this
             exact this)
            have cv:Hid (∀W,(Mj 10000 38 (.agg (aD .u8 br)) (.agg (aD .u8 br))).run Y W=.ok true W):=aA (fun W=>by rw[YC ae ae av av W];simp);unfold cQ.ar at m;have zM:=aB A.1;clear c Q U hH A bn;go_wp2_with fail;refine m.out.mono ?_;rintro e V5 ⟨rfl,cn⟩;go_wp2_with fail;refine(HF.out _).mono ?_;rintro e V6 ⟨rfl,cp⟩;have E6:=cv.out V6;have K6:=aA (aK cn cp);clear cn cp;go_wp2_with fail;go_ret;exact⟨by first|rfl|simp,(J.out.1.keeps K6.out).m.k⟩
       ·have i:em=⟨0,0,s.idl n⟩:=F.out.2.2.2.1 (by rw[ck.out.2];exact cl)
        have cz:dn=(⟨0,0,s.idl n⟩:aN).vals:=by rw[←ck.out.1,i]
        have av:kP (⟨0,0,s.idl n⟩:aN):=by rw[←i];exact F.out.2.2.2.2.2
        have m:Hid (∀W,aC W3 W→Nb Y 22 #[ea.ar,I .i64 n] W fun e g=>e=E (.agg (aD .u8 (s.idl n)))∧Nc W.heap.size W g):=aA (fun W g=>by
         have:=NK C.out.m.ok n r W (C.out.m.m.keeps g);rw[F.out.2.2.1]at this
         exact this)
        have p:=aA fun W=>Mt (GL av.ll W);have HEq:Hid (∀W,(Mj 10000 48 (.agg (⟨0,0,s.idl n⟩:aN).vals) (.agg (⟨0,0,s.idl n⟩:aN).vals)).run Y W=.ok true W):=aA (fun W=>by rw[yP av av W];simp);rw[←cz]at p HEq;obtain⟨Dn,db⟩:∃br,aD .u8 (s.idl n)=br:=⟨_,rfl⟩;simp only at p;rw[db]at p m;unfold cQ.ar at m;clear db i av cz;go_upto_region 17 with fail;refine bS (by kernel_rfl) (by kernel_rfl) ?_
        repeat
         with_reducible refine Nh fun K d=>?_
         go_simp
         try first
          |(apply Ei
            intro g c;obtain⟨i,A⟩:=c.cells;have Q:=T.out _ c;have U:=HEq.out g;have v:=p.out g;go_simp
            first
             |(go_at_call 22;with_reducible exact c.call (m.out _ c))
             |rfl)
          |(with_reducible refine aQ ?_ ?_;first|decide|simp[Nd];done)
         refine d _ ?_;clear d K
        with_reducible refine Ni ?_
        intro W g;have K9:=aA (C.out.keeps g);clear g z3;go_wp2_with fail;go_ret;exact⟨rfl,K9.out.m.k⟩
    ·have d:((lb:Int)!=2)=true:=by simp;omega
     go_wp2_with fail;go_ret;exact⟨rfl,k.out.m.k⟩
 ·have dd:(j:Int)>60:=by omega
  go_wp2_with fail;go_ret;exact⟨rfl,HR.out.m.k⟩
end
section
open Go.ChangeShapes Go.WideShapes Go.ChangeAt Go.RowKit Go.Shelf
namespace law7
section
variable {H:Type} {enc:TypeId×Value→H} {w:World} {base:Nat} {spare:Nat→Bool} {held:Bool}
theorem Lv {r:Reach} {c:Nat} {v:Na} {d:DataW H} {p:List MemPlace} (e:Na.okWide Tryz.prog w r c 54 v) (j:DataW.Trod enc Tryz.prog w base spare held 54 v d p):∃(a:Option Addr) (b cap:Nat) (f:Nat→Int),v=.slice a b cap∧b≤maxLen∧(∀g,bN (f g))∧OC a b f w:=by obtain⟨a,b,cap,f,rfl,_,h,i⟩:=fj (fun k:{n:Int//bN n}=>Na.int .i64 k.1) ⟨0,zF⟩ underlying54 (by kernel_rfl) (fun n g l j=>fo underlying3 n g l j) e j;exact⟨a,b,cap,fun g=>(f g).1,rfl,h,fun g=>(f g).2,i⟩
end
theorem qN (r s b d c way i m p q t u h v lg:Int) (bk:Bool) (n:Int) (x:bN n) (j:Option Addr) (lb cb:Nat) (f:Nat→Int) (k:lb≤maxLen) (y:∀l,bN (f l)) (a:Option Addr) (g cap:Nat) (xs:Nat→Sp) (z:g≤maxLen) (A:∀l,dJ (xs l)) (W:Mz) (l:OC j lb f W) (B:mG a g xs W):Nb Tryz.prog 7 #[.agg (mZ r s b d c way i m p q t u h v lg bk),.int .i64 n,.slice j lb cb,.slice a g cap] W fun e o=>e=.returned (.bool true)∧Nc W.heap.size W o:=by
 cases D:oR r s b d c way i m p q t u h v lg with
 |false=>exact Lt rfl (fun w=>yW D w) n _ a g cap W
 |true=>obtain⟨F,C,o,_⟩:=yV (bk:=bk) D;rw[←C];exact Lu o n x j lb cb f y a g cap xs A W l B k z
theorem aL {a b:Bool} (c:a=true) (k:b=true):(a&&b)=true:=by rw[c,k];rfl
theorem j1:(wB.wf (OpenSpec.ofChange wZ))=true:=by kernel_rfl
theorem j2:(laidOutB Y)=true:=by kernel_rfl
theorem j3:(mapsRowed Y)=true:=by kernel_rfl
theorem j4:(Tryz.f7.params.all (Y.readableRec ·))=true:=by kernel_rfl
theorem j5:(namedTie Y wB.named wZ.vars)=true:=by kernel_rfl
theorem j6:((wB.stops==[]))=true:=by kernel_rfl
theorem j7:((Y.stops==[]))=true:=by kernel_rfl
theorem j8:((wB.knobs==[]))=true:=by kernel_rfl
theorem j9:((Y.stopKnobs==[]))=true:=by kernel_rfl
theorem qO:((wB.inPlace==Y.inPlace 7))=true:=by kernel_rfl
theorem qP:((wB.unfollowed==Y.unfollowed 7))=true:=by kernel_rfl
theorem qQ:((wB.recurses==Y.recurses 7))=true:=by kernel_rfl
theorem qT:((wB.named==Y.varsNamed 7))=true:=by kernel_rfl
theorem qU:((wB.maps==(Tryz.f7.params.toList++wZ.plain.varTypes Y).any (Y.mapsRec ·)))=true:=by kernel_rfl
theorem qV:((wB.ifaces==(Tryz.f7.params.toList++wZ.plain.varTypes Y).any (Y.ifacesRec ·)))=true:=by kernel_rfl
theorem qW:((wB.mapsOut==Y.mapsAmong Tryz.f7.resultTypes.toList))=true:=by kernel_rfl
theorem qX:((wB.loops==(Tryz.f7.params.toList++wZ.plain.varTypes Y).any (Y.loopsFrom ·)))=true:=by kernel_rfl
theorem qY:((wB.wideKeys==(Tryz.f7.params.toList++wZ.plain.varTypes Y++Tryz.f7.resultTypes.toList).any (Y.wideKeysFrom ·)))=true:=by kernel_rfl
theorem qZ:(wZ.vars.all (Y.varReadable ·))=true:=by kernel_rfl
theorem rF:(Tryz.f7.resultTypes.all fun t=>Y.readableRec t&&decide (t<Y.types.size))=true:=by kernel_rfl
theorem rH:((wB.ifacesOut==Tryz.f7.resultTypes.toList.any (Y.ifacesRec ·)))=true:=by kernel_rfl
theorem rI:((wB.loopsOut==Tryz.f7.resultTypes.toList.any (Y.loopsFrom ·)))=true:=by kernel_rfl
theorem rJ:((wB.plainKeys==Y.plainKeys))=true:=by kernel_rfl
theorem rK:(wB.shortTexts.isNone)=true:=by kernel_rfl
theorem rM:(Y.stopsHeard)=true:=by kernel_rfl
theorem rN:(Y.mayEnter)=true:=by kernel_rfl
theorem rO:((wB.lifted==Y.liftsFinal))=true:=by kernel_rfl
theorem rP:((Y.make==S wB.make))=true:=by kernel_rfl
theorem rQ:((wB.kinds==(if wB.domain.isEmpty then[]else Tryz.f7.params.toList.map fun t=>match Y.underlying t with|some (.int k)=>S k|_=>N)))=true:=by kernel_rfl
theorem rR:((wB.pinned==wB.pinnedBy))=true:=by kernel_rfl
theorem rS:((wB.veiled==(Tryz.f7.params.toList++wZ.plain.varTypes Y++Tryz.f7.resultTypes.toList).any (Y.veiledRec ·)))=true:=by kernel_rfl
theorem rT:(wB.veiledFits Y Tryz.f7.params.toList (Tryz.f7.params.toList++wZ.plain.varTypes Y++Tryz.f7.resultTypes.toList))=true:=by kernel_rfl
theorem facts:joinedFacts Tryz.prog 7 Tryz.f7 wZ wB=true:=(aL (aL (aL (aL (aL (aL (aL (aL (aL (aL (aL (aL (aL (aL (aL (aL (aL (aL (aL (aL (aL (aL (aL (aL (aL (aL (aL (aL (aL (aL (aL j1 j2) j3) j4) j5) j6) j7) j8) j9) qO) qP) qQ) qT) qU) qV) qW) qX) qY) qZ) rF) rH) rI) rJ) rK) rM) rN) rO) rP) rQ) rR) rS) rT)
theorem t1:Y.funcNamed wB.func=S 7:=by kernel_rfl
theorem t3:Tryz.f7.isInstance Tryz.prog wB.origin wB.targs:=(of_decide_eq_true (by kernel_rfl))
theorem t4:Tryz.f7.isWrapper Tryz.prog wB.wrapper wB.mainSum:=(by unfold Func.isWrapper;first|(rw[Fp (by decide+kernel)];kernel_rfl)|(rw[Fn (by decide+kernel)];exact⟨rfl,rfl⟩))
theorem rU (A:Os) (g:A.Started) (H:Type) (enc:TypeId×Na→H):ReturnsInHanded {} Tryz.checked A 7 .any (wZ.pre6 enc Tryz.prog Tryz.f7 wB.domain false) (wZ.post enc Tryz.prog Tryz.f7 false true false false):=by
 refine returnsInHanded_of_change (C:=Tryz.checked) own g (by kernel_rfl) func7 (ChangeSpec.witness6 (enc:=enc) (C:=Tryz.checked) false ⟨#[],#[.agg #[.int .i64 0,.int .i64 0,.int .i64 0,.int .i64 0,.int .i64 0,.int .i64 0,.int .i64 0,.int .i64 0,.int .i64 0,.int .i64 0,.int .i64 0,.int .i64 0,.int .i64 0,.int .i64 0,.int .i64 0,.bool false],.int .i64 0,.slice N 0 0,.slice N 0 0],[]⟩ 8 (by kernel_rfl) (by kernel_rfl) (by kernel_rfl) (by kernel_rfl)) ?_;intro W base c ds gs k d h X _;have a:∀(i:Nat) t j,Tryz.f7.params[i]?=S t→c[i]?=S j→Na.okWide Tryz.prog W .any base t j:=d;have l:=h;obtain⟨bn,bx,i,hV,rfl,aa,ad⟩:=h;have B:DataW.TrodAll enc Tryz.prog W 0 (fun _=>true) true Tryz.f7.params.toList c.toList ds bn:=i;rw[Tryz.params7]at B a;obtain⟨D,ae,d0,an,p0,q0,F,rfl,rfl,G,r0⟩:=trodAll_cons B;obtain⟨J,ar,d1,av,p1,q1,rfl,rfl,rfl,K,r1⟩:=trodAll_cons r0;obtain⟨L,ba,d2,bb,p2,q2,rfl,rfl,rfl,M,r2⟩:=trodAll_cons r1;obtain⟨P,bd,d3,bm,p3,q3,rfl,rfl,rfl,Q,r3⟩:=trodAll_cons r2;obtain⟨rfl,rfl,rfl⟩:=trodAll_nil r3;obtain rfl:c=#[D,J,L,P]:=by cases c;simp_all
 obtain⟨rfl,rfl⟩:=trodVars_none hV;have R:=G;have o:∀j∈p0,j.block<W.heap.size:=by obtain⟨m,h⟩:=R;exact DataW.trod_lt m _ _ _ h
 have T:=K;have p:∀j∈p1,j.block<W.heap.size:=by obtain⟨m,h⟩:=T;exact DataW.trod_lt m _ _ _ h
 have U:=M;have q:∀j∈p2,j.block<W.heap.size:=by obtain⟨m,h⟩:=U;exact DataW.trod_lt m _ _ _ h
 have V:=Q;have r:∀j∈p3,j.block<W.heap.size:=by obtain⟨m,h⟩:=V;exact DataW.trod_lt m _ _ _ h
 obtain⟨br,s,b,bs,bv,u,v,m,rl,re,pl,pe,j,hv,lg,bk,rfl⟩:=yX (a 0 31 D rfl rfl) G;obtain⟨n,rfl,hn⟩:=fp (a 1 3 J rfl rfl) K;obtain⟨ab,lb,cb,f,rfl,w,hf,x⟩:=Lv (a 2 54 L rfl rfl) M;obtain⟨bw,y,z,xs,rfl,hl,hs,ha⟩:=yY (a 3 32 P rfl rfl) Q;clear i d;refine(qN br s b bs bv u v m rl re pl pe j hv lg bk n hn ab lb cb f w hf bw y z xs hl hs W x ha).mono fun e W' ⟨d,bel⟩=>?_;subst d;exact⟨_,rfl,_,_,_,[],_,[],l,trodAll_mk1 (shut_bool underlying4 _),(trodAll_cons_mk (Nc.trod mL (by kernel_rfl) (of_decide_eq_true (by kernel_rfl)) R bel o) (trodAll_cons_mk (Nc.trod mL (by kernel_rfl) (of_decide_eq_true (by kernel_rfl)) T bel p) (trodAll_cons_mk (Nc.trod mL (by kernel_rfl) (of_decide_eq_true (by kernel_rfl)) U bel q) (trodAll_cons_mk (Nc.trod mL (by kernel_rfl) (of_decide_eq_true (by kernel_rfl)) V bel r) trodAll_mk0)))),rfl,bel.frame _,fun d=>by cases d⟩
theorem rX:wB.holds Tryz.pinned (OpenSpec.ofChange wZ):=OpenClaim.holds_of_wide 7 Tryz.f7 rfl rfl rfl rfl rfl rfl rfl ⟨rfl,rfl,rfl,rfl,rfl⟩ rfl rfl rfl rfl rfl t1 func7 facts t3 t4 fun b a H enc _=>rU b a H enc
theorem proved:Rows.WholeHeldSaid:=rX
end law7
end
end Go.Proofs.YtlbgenenpheheaaGreat
