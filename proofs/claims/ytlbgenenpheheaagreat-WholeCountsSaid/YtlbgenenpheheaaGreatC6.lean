/- WholeCounts of the program cuirasstop holds for all arguments, as the given statement says; no further condition -/
import Derived.Test.YtlbgenenpheheaaGreatB7
import Derived.Test.YtlbgenenpheheaaGreatRows
set_option linter.unusedVariables false
set_option linter.unusedSimpArgs false
set_option maxHeartbeats 100000000
set_option maxRecDepth 100000
namespace Go.Proofs.YtlbgenenpheheaaGreat
open Go.Value renaming int→I
open Go.IntKind renaming i64→Z
open Go.Obj renaming cells→O
open Go.Ending renaming returned→E
open _root_.Go.Proofs.YtlbgenenpheheaaGreat.Rows renaming wholeCountsRow→wB,wholeCountsSpec→wZ
open _root_.Go.Proofs.Tryz renaming prog→Y
open _root_.Go.Proofs.Tryz
open Go renaming World→Mz,Value→Na,Calls→Nb
open Go.RowKit renaming Below→Nc
open Go.Value renaming oneCell'→Nq
open _root_.List renaming length_set→Ok
open _root_.Nat renaming zero_le→Nz
open _root_.Option renaming some→S,none→N
variable {W:World} {X:Array Value} {g n:Nat} {q:dK} {s:CtSt} {x:aW}
section
open Go.RowKit Go.Shelf lin
attribute [local go_sem] Oper.semAt_some
theorem FW {col:Nat→Nat} (w:Mz) (h:dB q col s n w):Nb Y 16 #[q.ar] w fun e d=>e=E q.l.p.ar∧Nc w.heap.size w d:=by obtain⟨j,b,_,_⟩:=h.row;have a:=h.led.row;have i:=aB b;have g:=aB a;unfold CtSt.row at b;unfold bH.row at a;have f:=Cw b 0;simp at f;have c:=Cw a 16;simp at c;unfold dK.ar dH.ar at*;clear h b a;go_in;go_wp2;go_ret;exact⟨rfl,(by repeat first|exact Bl|assumption|refine Ka ?_|refine Ks ?_ (by first|exact Nl|simp<;>omega|omega)|refine Kd ?_|refine Kc ?_ (by assumption))⟩
end
section
open Go.RowKit Go.Shelf lin
def Y4 (x y:aW):Prop:=y.k=x.k∧y.f=x.f∧y.g=x.g
theorem Y5 {y:aW} (ok:cV x) (b:eF x y):y=x∨(x.k=0∧y.k≠0∧y.n=0):=by
 rcases b with rfl|⟨c,a,rfl⟩|⟨c,a,rfl⟩
 ·exact .inl rfl
 ·exact .inr ⟨a.1,by show(1:Int)≠0;decide,rfl⟩
 ·exact .inr ⟨a.1,by show(2:Int)≠0;decide,rfl⟩
theorem Gr {y:aW} (ok:cV x) (d:x.k≠0) (n:tO x y):(Y4 x y∧y.n=x.n+1)∨(¬Y4 x y∧y.n=0∧x.n+1=x.t.cnt x.k):=by
 rcases n with⟨m,rfl⟩|⟨j,i⟩
 ·exact .inl ⟨⟨rfl,rfl,rfl⟩,rfl⟩
 ·right
  have fk:x.fin.k=0:=by unfold aW.fin;split<;>rfl
  have k:x.fin.n=0:=by unfold aW.fin;split<;>rfl
  have p:=cM ok.ok.geo;refine⟨?_,?_,j⟩
  ·rintro⟨b,c,q⟩
   rcases i with rfl|⟨o,e,rfl⟩|⟨o,e,rfl⟩
   ·exact d (by rw[←b,fk])
   ·have b:(1:Int)=x.k:=b
    have c:o=x.f:=c;have a:=e.2.2.2.1;have f:x.fin.t=x.t.retire x.f x.g:=by unfold aW.fin;rw[Fp b.symm]
    rcases ok.job with g|g|g
    ·exact d g.1
    ·have h:bel x.f x.t.dead.length=true:=by rw[ok.ok.dead];exact g.2.2.2.1
     rw[f,JT h,c]at a;simp at a
    ·omega
   ·have b:(2:Int)=x.k:=b
    have c:o=x.f:=c;have a:=e.2.2.2.1;have f:x.fin.t=x.t.putSpare x.f.toNat x.g:=by unfold aW.fin;rw[Fn (by omega)]
    rcases ok.job with g|g|g
    ·exact d g.1
    ·omega
    ·obtain⟨l,r⟩:=eB g.2.2.2.1;have h:=ok.ok.spares;have s:=ok.rg b.symm;rw[f,c]at a;unfold aR.spareB aR.putSpare at a;simp only[Ok]at a;rw[xN (by omega),Fp rfl,jO l (by omega)]at a;simp only[Bool.true_and,Bool.not_eq_false',decide_eq_true_eq]at a;omega
  ·rcases Y5 (ok.fin d) i with rfl|n
   ·exact k
   ·exact n.2.2
def D4 (j:aW) (jk jf jg:Int) (k:Int):Prop:=j.k=jk∧j.f=jf∧j.g=jg∧(jk≠0→j.n=k)
theorem Did.counts {s b:MSt} {x:Sp} {a:aN} {c i j k l:Int} (ok:dZ s) (w:Did s x a b) (d:D4 s.ct.ld.rp c i j k) (f:l=if x.okB=true∧x.k=5∧c≠0 then k+1 else k):((b.ct.ld.rp.k=c∧b.ct.ld.rp.f=i∧b.ct.ld.rp.g=j)∧(c≠0→b.ct.ld.rp.n=l))∨
                                                                                                                                                             (¬(b.ct.ld.rp.k=c∧b.ct.ld.rp.f=i∧b.ct.ld.rp.g=j)∧b.ct.ld.rp.n=0∧(c≠0→l=s.ct.ld.rp.t.cnt c)):=by
 obtain⟨rfl,rfl,rfl,m⟩:=d;have g:=ok.ct.ld.rp;rcases w.job ok with⟨q,r,n,t⟩|⟨u,v⟩
 ·rw[Fp ⟨q,r,n⟩]at f
  have m:=m n;rcases Gr g n t with⟨d,h⟩|⟨d,h,p⟩
  ·exact .inl ⟨d,fun _=>by omega⟩
  ·exact .inr ⟨d,h,fun _=>by omega⟩
 ·rw[Fn u]at f
  rcases Y5 g v with e|⟨d,h,p⟩
  ·rw[e];exact .inl ⟨⟨rfl,rfl,rfl⟩,fun o=>by rw[f,m o]⟩
  ·exact .inr ⟨fun y=>h (by rw[y.1,d]),p,fun o=>absurd d o⟩
def aY.layV (x:aY):Array Na:=#[I Z x.r,I Z x.s,I Z x.b,I Z x.d,I Z x.c,I Z x.way,I Z x.res]
theorem yZ {x:aY} (a:W.heap[g]?=S (O x.vals 31)):(Mc ⟨g,0,N⟩ 0 7 #[]).run Y W=.ok x.layV W:=tW a [_,_,_,_,_,_,_] _ rfl
end
section
open Go.RowKit Go.Shelf lin
attribute [local go_sem] Oper.semAt_some cK Mh
attribute [local simp] Mf Mg Ml
theorem D4.new {x:aY} (a:x.small=true):D4 (MSt.new x).ct.ld.rp 0 0 0 0:=by have b:=wV (aY.small_ok a);have e:(MSt.new x).ct.ld=bH.new x:=b.ld;rw[e];exact⟨rfl,rfl,rfl,fun b=>absurd rfl b⟩
theorem Lf (ok:cO s) (k:Int):s.ld.rp.t.cnt k=lB k s.ld.c.r s.ld.c.s s.ld.c.b s.ld.c.d s.ld.c.c:=by obtain⟨a,b,c,d,e,_⟩:=ok.ld.geo;rw[←a,←b,←c,←d,←e];rfl
theorem Lg (h:X.size=16) (b:∀W,Nb Y 10 #[.agg X] W fun e c=>e=E (.pointer N)∧Nc W.heap.size W c) (a:Option Addr) (f cap:Nat) (w:Mz):Nb Y 6 #[.agg X,.slice a f cap] w fun e c=>e=E (.bool true)∧Nc w.heap.size w c:=by
 have⟨m,c⟩:=Ex (w.alloc (O X 31));have g:aC w m:=by rw[c];exact aU
 have d:m.heap[w.heap.size]?=S (O X 31):=by rw[c];exact aG _ _ _ rfl
 have i:=aA b;have j:=aA fun W (k:aC m W)=>Lw (aE k d) 16 h;have k:=aA g;have o:=aB d;have l:=aA (pO m);clear g d b;go_in;go_upto_region 1 with fail;rw[←c];clear c;go_wp2_with fail;refine l.out.mono ?_;rintro e c ⟨rfl,b⟩;have p:=j.out c b;have d:=aA (aK k.out b);have n:w.heap.size<c.heap.size:=by have:=b.size;omega
 clear b;go_wp2_with fail;refine(i.out c).mono ?_;rintro e q ⟨rfl,b⟩;have g:=aA (aK d.out b);clear b;go_wp2_with fail;go_ret;exact⟨rfl,g.out⟩
theorem Lh {x:aY} (hx:x.small=true) (a:Option Addr) (f cap:Nat) (xs:Nat→Sp) (hs:∀c,dJ (xs c)) (w:Mz) (ha:mG a f xs w) (c:f≤maxLen):Nb Y 6 #[.agg x.vals,.slice a f cap] w fun e d=>e=E (.bool true)∧Nc w.heap.size w d:=by
 have⟨X,g⟩:=Ey x.vals;have cd:X.size=16:=by rw[←g];rfl
 have d:=aA fun W=>wY hx W;rw[g]at d ⊢;have cf:=aA g;clear g;have⟨ef,g⟩:=Ex (w.alloc (O X 31));have j:aC w ef:=by rw[g];exact aU
 have i:ef.heap[w.heap.size]?=S (O X 31):=by rw[g];exact aG _ _ _ rfl
 have k:=aA fun W (h:aC ef W)=>Lw (aE h i) 16 cd;have h:=aH j i;have hz:=aB i;have l:=aA (pO ef);have eg:(f:Int)≤9223372036854775807:=by unfold maxLen at c;omega
 clear j i c;go_in;go_upto_region 1 with fail;rw[←g];clear g;go_wp2_with fail;refine l.out.mono ?_;rintro e w1 ⟨rfl,c⟩;have j:=k.out w1 c;have K1:=aA (aK h.out.1 c);have eh:w.heap.size<w1.heap.size:=by have:=c.size;omega
 have g:=aA (aE c h.out.2);clear c;go_wp2_with fail;refine(d.out w1).mono ?_;rintro e w2 ⟨ex,ck,rfl,i,ok,c,p⟩;have HR:=aA (dW.new hx K1.out g.out i ok c p);clear i ok c p d j h k l g;unfold cQ.ar;by_cases eb:f≤120
 ·have cc:¬(f:Int)>120:=by omega
  have ei:=aY.small_ok hx;have g:=aA fun W (h:aC w2 W)=>CT W (HR.out.m.m.keeps h);have d:=aA fun W (h:aC w2 W)=>FW W (HR.out.m.m.keeps h).ct;unfold cQ.ar at g;unfold dK.ar at d;unfold dH.ar at d;go_wp2_with fail;refine(g.out _ Kr).mono ?_;rintro e w3 ⟨rfl,l⟩;go_wp2_with fail;refine(d.out _ l).mono ?_;rintro e w4 ⟨rfl,h⟩;have ab:=aA (HR.out.keeps (aK l h));clear l h g d;go_wp2_with fail;have bd:=iE.new ab.out.m (O #[I Z 0,I Z 0,I Z 0,I Z 0] 63);have cl:=ab.out.keeps (K.alloc (K.refl w4) (O #[I Z 0,I Z 0,I Z 0,I Z 0] 63));have cm:w.heap.size<w4.heap.size:=aB ab.out.c.1;have⟨ea,r⟩:=Ex w4.heap.size;rw[←r]at bd cm ⊢;clear r;go_loopw [8,29] (fun g d wr=>∃(aa:Nat) (ed:Nat→Nat) (s:MSt) (T c q z jn:Int),aa≤f∧d=I Z aa∧g=I Z T∧dW w X ex ed s (4096+5*aa) wr∧s.ct.ld.c=x∧iE ed wr ea (O #[I Z c,I Z q,I Z z,I Z jn] 63)∧D4 s.ct.ld.rp c q z T∧0≤T∧T≤aa) fun _ d _=>f-(intOf d).toNat
  case atStart=>exact⟨0,ck,MSt.new x,0,0,0,0,0,Nz _,rfl,rfl,cl,vH hx,bd,D4.new hx,Int.le_refl _,Int.le_refl _⟩
  case round=>
   obtain⟨aa,ed,s,T,c,q,z,jn,hk,rfl,rfl,hR,hc,r,hI,ek,ec⟩:=hrel;have A:=bT hR hc r hI;by_cases cn:aa<f
   ·obtain⟨b,el,rfl,em,LX⟩:=ha.load hs hR.m.k cn
    have D:=aA fun W (h:dW w X ex ed s (4096+5*aa) W)=>h.do (by unfold bY;omega) (hs aa);have o:=Sp.size (hs aa).dl;have ad:=Sp.one (xs aa);have F:=aA fun W=>NY (hs aa) W;have H:=Sp.c0 (xs aa);unfold cQ.ar at D;obtain⟨ez,hS⟩:=Ey (xs aa);rw[hS]at D LX o ad F H;have⟨ff,hV⟩:=Ey ez.vals;rw[hV]at D LX o ad F H;have SP:=Mi (P:=Y) wr 45 zeroCells45 ff (by rw[o];kernel_rfl) (by rw[o];rfl) ad;have en:(aa:Int)<f:=by omega
    have eo:=aB hR.c.1;have ep:=aB r.1;clear hR hV hS hc HR r hI;go_upto_region 12 with fail;have⟨W1,J⟩:=Ex (wr.alloc (O ff 45));rw[←J];have k1:aC wr W1:=by rw[J];exact Ka (K.refl wr)
    have b1:iE ed W1 wr.heap.size (O ff 45):=by rw[J];exact iE.new A.out.1.m _
    have LV:=Lw b1.1 75 o;have HD:=aA (D.out W1 (A.out.1.keeps k1));have HB:=aH b1 (A.out.2.2.1.keeps k1);have zV:=aB b1.1;clear J k1 b1 D SP LX;go_wp2_with fail;refine HD.out.mono ?_;rintro e W2 ⟨ee,c2,s2,rfl,_,L,hd,hq⟩;have d:=hd.counts A.out.1.m.ok A.out.2.2.2 rfl;have bm:=(hd.c A.out.1.m.ok.ct).trans A.out.2.1;have M:=HB.out.1.stq hq;have ae:=HB.out.2.stq hq;have an:=aA fun W (h:aC W2 W)=>LH W (L.m.m.keeps h).ct.led.rep;have ar:=Lf A.out.1.m.ok.ct c;rw[A.out.2.1]at ar;rw[ar]at d;have⟨ob,bn⟩:=Ey ez.okB;have⟨xk,br⟩:=Ey ez.k;rw[bn]at d F;rw[br]at d H;have P2:=eP L bm M ae d;generalize ee.vals=fg at*;unfold dH.ar at an;have zc:=aB L.c.1;have zb:=aB M.1;have zj:=aB ae.1;have cp:=Lw M.1 75 o;clear L bm M ae d hd hq HD HB LV ar bn br;go_wp2_with fail;refine(an.out W2 Kr).mono ?_;rintro e U ⟨rfl,l⟩;have er:wr.heap.size<U.heap.size:=by have:=l.size;omega
    have es:ea<U.heap.size:=by have:=l.size;omega
    have⟨rp,av⟩:=Ey s2.ct.ld.rp;have B:=eP (P2.out.1.keeps l) P2.out.2.1 (P2.out.2.2.1.keeps l) (P2.out.2.2.2.1.keeps l) P2.out.2.2.2.2;rw[av]at B ⊢;obtain⟨g,j,m,t,u⟩:∃g j m t,rp.k=g∧rp.f=j∧rp.g=m∧rp.n=t:=⟨_,_,_,_,rfl,rfl,rfl,rfl⟩;rw[u.1,u.2.1,u.2.2.1,u.2.2.2]at B ⊢;have SQ:=Mi (P:=Y) U 63 #[I Z 0,I Z 0,I Z 0,I Z 0] #[I Z g,I Z j,I Z m,I Z t] (by kernel_rfl) rfl (by simp[Nq]);have G:=aH av u;clear l cp av u P2 an;go_upto_region 14 with fail;have⟨W4,Q⟩:=Ex (U.alloc (O #[I Z g,I Z j,I Z m,I Z t] 63));rw[←Q];have V:aC U W4:=by rw[Q];exact Ka (K.refl U)
    have b4:iE c2 W4 U.heap.size (O #[I Z g,I Z j,I Z m,I Z t] 63):=by rw[Q];exact iE.new B.out.1.m _
    have C:=eQ (B.out.1.keeps V) B.out.2.1 (B.out.2.2.1.keeps V) (B.out.2.2.2.1.keeps V) b4 B.out.2.2.2.2;have bs:=Lw (B.out.2.2.1.keeps V).1 75 o;have bv:=F.out W4;have cu:=aB b4.1;have cv:ea<W4.heap.size:=by have:=V.size;omega
    have cx:wr.heap.size<W4.heap.size:=by have:=V.size;omega
    clear Q V b4 B SQ F;go_cut [49] from 38 to 49 fun h d=>h=.bool (ob&&(xk==5)&&!(c==0))∧aC W4 d
    case first=>
     go_wp2_with fail;refine bv.mono ?_;rintro e r ⟨rfl,h⟩;have d:=aA h;have k:=Cw (C.out.2.2.1.keeps h).1 0;have l:=Cw (C.out.2.2.2.1.keeps h).1 0;rw[H]at k;simp at l;have n:=aB (C.out.2.2.1.keeps h).1;have u:=aB (C.out.2.2.2.1.keeps h).1;clear h bs;cases ob
     ·go_wp2_with fail;go_meet;exact⟨rfl,d.out⟩
     ·by_cases i:xk=5
      ·subst i
       by_cases p:c=0
       ·subst p;go_wp2_with fail;go_meet;exact⟨rfl,d.out⟩
       ·have D:(c==0)=false:=by simpa using p
        go_wp2_with fail;go_meet;exact⟨by show Na.bool (c !=0)=Na.bool (true&&(5==5)&&!(c==0));simp[bne],d.out⟩
      ·have p:(xk==5)=false:=by simpa using i
       go_wp2_with fail;go_meet;exact⟨by simp[i],d.out⟩
    case rest=>
     obtain⟨rfl,h⟩:=hcut;have i:=bT (C.out.1.keeps h) C.out.2.1 (C.out.2.2.2.1.keeps h) (C.out.2.2.2.2.1.keeps h);have d:=C.out.2.2.2.2.2;obtain⟨n,v⟩:∃n:Int,(if ob=true∧xk=5∧c≠0 then T+1 else T)=n:=⟨_,rfl⟩;rw[v]at d;have y:0≤n∧n≤aa+1:=by rw[←v];split<;>omega
     have bw:=aA d;have bx:=aA v;have et:w.heap.size<wc.heap.size:=aB i.out.1.c.1;have ev:=aB i.out.2.2.1.1;have ew:=aB i.out.2.2.2.1;have⟨cz,db,dd⟩:=fM i.out.2.2.1.1;simp at cz db dd;have⟨dg,dl,dn,ds⟩:=eD i.out.2.2.2.1;simp at dg dl dn ds;clear h v d bs bv C cu cv cx;go_upto_if 49 with fail;go_cut [8] from 49 to 51 fun h d=>h=I Z n∧d=wc
     case first=>
      cases d:(ob&&(xk==5)&&!(c==0))
      ·go_wp2_with fail;go_meet;exact⟨by rw[←bx.out,Fn (by rintro⟨h,k,V⟩;rw[h,k]at d;simp at d;exact V d)],rfl⟩
      ·go_wp2_with fail;go_meet;exact⟨by rw[←bx.out,Fp (by simp at d;exact⟨d.1.1,d.1.2,d.2⟩)],rfl⟩
     case rest=>
      obtain⟨rfl,rfl⟩:=hcut;go_upto_region 16 with fail;go_cut [12] from 52 to 70 fun h d=>h=.bool (g==c&&(j==q&&m==z))∧d=wc
      case first=>
       by_cases h:g=c
       ·by_cases l:j=q
        ·go_wp2_with fail;all_goals go_meet;exact⟨by simp_all,rfl⟩
        ·have d:(g==c)=true:=by simpa using h
         have k:(j==q)=false:=by simpa using l
         clear h l;go_wp2_with fail;go_meet;exact⟨by rw[d,k];rfl,rfl⟩
       ·go_wp2_with fail;all_goals go_meet;exact⟨by simp_all,rfl⟩
      case rest=>
       obtain⟨rfl,rfl⟩:=hcut;cases R:(g==c&&(j==q&&m==z))
       ·have M:¬(g=c∧j=q∧m=z):=by
         rintro⟨rfl,rfl,rfl⟩;simp at R
        have k:t=0∧(c≠0→n=lB c x.r x.s x.b x.d x.c):=by
         rcases bw.out with⟨h,_⟩|⟨_,l,d⟩
         ·exact absurd (by have⟨_,r,u,v,B⟩:=G.out;rw[←r,←u,←v];exact⟨by rw[r];exact h.1,by rw[u];exact h.2.1,by rw[v];exact h.2.2⟩) M
         ·exact⟨l,d⟩
        have F:=aA k;have LJ:=Lw i.out.2.2.1.1 4 rfl;have LB:=Lw i.out.2.2.2.1 4 rfl;have LC:=yZ (x:=x) (by rw[cf.out];exact i.out.1.c.1);have Q:=aA (JP c q z jn x.r x.s x.b x.d x.c x.way x.res wc);unfold aY.layV at LC;have⟨ct,h⟩:=Ey (lB c x.r x.s x.b x.d x.c);rw[h]at Q F;clear R M k h;have l:=F.out.1
        have C:Hid (∀W,aC wc W→∃c3,dW w X ex c3 s2 (4096+5*(aa+1)) (W.setRow ea #[I Z g,I Z j,I Z m,I Z t])∧iE c3 (W.setRow ea #[I Z g,I Z j,I Z m,I Z t]) ea (O #[I Z g,I Z j,I Z m,I Z t] 63)):=aA (fun W h=>by
         have r:=i.out.2.2.1.keeps h
         refine⟨c2,((i.out.1.keeps h).up (by omega)).chg (kO W ea _) r.2 (by omega),Hw r.1 _,r.2⟩)
        have J:=aA fun W (h:aC wc W)=>(i.out.2.2.1.keeps h).1;have L:=aA fun W (h:aC wc W)=>(i.out.2.2.2.keeps h).1;subst l;by_cases p:c=0
        ·have D:(c==0)=true:=by simpa using p
         subst p;have SJ:=jV (P:=Y) wc ea _ #[I Z g,I Z j,I Z m,I Z 0] 63 (J.out wc Kr) rfl (by simp[Nq]);go_wp2_with fail;go_roundw
         case rel=>obtain⟨c3,h,l⟩:=C.out wc Kr;have⟨d,r,u,v,B⟩:=G.out;exact⟨aa+1,c3,s2,0,g,j,m,0,by omega,by go_num,rfl,h,i.out.2.1,l,⟨by rw[d];exact r,by rw[d];exact u,by rw[d];exact v,fun _=>by rw[d];exact B⟩,Int.le_refl _,by omega⟩
         case measure=>simp[intOf];omega
        ·have r:=F.out.2 p
         subst r;go_wp2_with fail;refine Q.out.mono ?_;rintro e D ⟨rfl,d⟩;have SJ:=Sw (J.out D d) #[I Z g,I Z j,I Z m,I Z 0] rfl (by simp[Nq]);have an:=Lw (L.out D d) 4 rfl;have ar:=aB (L.out D d);have av:=aB (J.out D d);have V:=Cw (L.out D d) 3;simp at V;have ae:=aA d;clear d LJ LB LC;go_wp2_with fail;go_roundw
         case rel=>obtain⟨c3,h,l⟩:=C.out D ae.out;have⟨d,r,u,v,B⟩:=G.out;exact⟨aa+1,c3,s2,0,g,j,m,0,by omega,by go_num,rfl,h,i.out.2.1,l,⟨by rw[d];exact r,by rw[d];exact u,by rw[d];exact v,fun _=>by rw[d];exact B⟩,Int.le_refl _,by omega⟩
         case measure=>simp[intOf];omega
       ·have ba:g=c∧j=q∧m=z:=by simpa using R
        have k:c≠0→t=n:=by
         rcases bw.out with⟨_,h⟩|⟨l,_⟩
         ·exact h
         ·exact absurd ba l
        have bb:=aH ba k;have bz:=aA (i.out.1.up (n':=4096+5*(aa+1)) (by omega));clear R ba;by_cases p:g=0
        ·subst p
         clear k;go_wp2_with fail;go_roundw
         case rel=>have⟨d,r,u,v,B⟩:=G.out;obtain⟨⟨k,h,l⟩,C⟩:=bb.out;exact⟨aa+1,c2,s2,n,c,q,z,jn,by omega,by go_num,rfl,bz.out,i.out.2.1,i.out.2.2.1,⟨by rw[d,r];exact k,by rw[d,u];exact h,by rw[d,v];exact l,fun D=>by rw[d,B];exact C D⟩,y.1,by have:=y.2;omega⟩
         case measure=>simp[intOf];omega
        ·have dz:=k (by rw[←bb.out.1.1];exact p)
         clear k;subst dz;go_wp2_with fail;go_roundw
         case rel=>have⟨d,r,u,v,B⟩:=G.out;obtain⟨⟨k,h,l⟩,C⟩:=bb.out;exact⟨aa+1,c2,s2,t,c,q,z,jn,by omega,by go_num,rfl,bz.out,i.out.2.1,i.out.2.2.1,⟨by rw[d,r];exact k,by rw[d,u];exact h,by rw[d,v];exact l,fun D=>by rw[d,B]⟩,y.1,by have:=y.2;omega⟩
         case measure=>simp[intOf];omega
   ·have i:aa=f:=by omega
    subst i;clear hR r hI;go_wp2_with fail;go_ret;exact⟨rfl,A.out.1.m.k⟩
 ·have cc:(f:Int)>120:=by omega
  go_wp2_with fail;go_ret;exact⟨rfl,HR.out.m.k⟩
end
section
open Go.ChangeShapes Go.WideShapes Go.ChangeAt Go.RowKit Go.Shelf
namespace law6
theorem qN (r s b d c way h m j k l n g o lg:Int) (bk:Bool) (a:Option Addr) (f cap:Nat) (xs:Nat→Sp) (p:f≤maxLen) (q:∀i,dJ (xs i)) (W:Mz) (t:mG a f xs W):Nb Tryz.prog 6 #[.agg (mZ r s b d c way h m j k l n g o lg bk),.slice a f cap] W fun e i=>e=.returned (.bool true)∧Nc W.heap.size W i:=by
 cases v:oR r s b d c way h m j k l n g o lg with
 |false=>exact Lg rfl (fun w=>yW v w) a f cap W
 |true=>obtain⟨x,u,i,_⟩:=yV (bk:=bk) v;rw[←u];exact Lh i a f cap xs q W t p
theorem aL {a b:Bool} (c:a=true) (k:b=true):(a&&b)=true:=by rw[c,k];rfl
theorem j1:(wB.wf (OpenSpec.ofChange wZ))=true:=by kernel_rfl
theorem j2:(laidOutB Y)=true:=by kernel_rfl
theorem j3:(mapsRowed Y)=true:=by kernel_rfl
theorem j4:(Tryz.f6.params.all (Y.readableRec ·))=true:=by kernel_rfl
theorem j5:(namedTie Y wB.named wZ.vars)=true:=by kernel_rfl
theorem j6:((wB.stops==[]))=true:=by kernel_rfl
theorem j7:((Y.stops==[]))=true:=by kernel_rfl
theorem j8:((wB.knobs==[]))=true:=by kernel_rfl
theorem j9:((Y.stopKnobs==[]))=true:=by kernel_rfl
theorem qO:((wB.inPlace==Y.inPlace 6))=true:=by kernel_rfl
theorem qP:((wB.unfollowed==Y.unfollowed 6))=true:=by kernel_rfl
theorem qQ:((wB.recurses==Y.recurses 6))=true:=by kernel_rfl
theorem qT:((wB.named==Y.varsNamed 6))=true:=by kernel_rfl
theorem qU:((wB.maps==(Tryz.f6.params.toList++wZ.plain.varTypes Y).any (Y.mapsRec ·)))=true:=by kernel_rfl
theorem qV:((wB.ifaces==(Tryz.f6.params.toList++wZ.plain.varTypes Y).any (Y.ifacesRec ·)))=true:=by kernel_rfl
theorem qW:((wB.mapsOut==Y.mapsAmong Tryz.f6.resultTypes.toList))=true:=by kernel_rfl
theorem qX:((wB.loops==(Tryz.f6.params.toList++wZ.plain.varTypes Y).any (Y.loopsFrom ·)))=true:=by kernel_rfl
theorem qY:((wB.wideKeys==(Tryz.f6.params.toList++wZ.plain.varTypes Y++Tryz.f6.resultTypes.toList).any (Y.wideKeysFrom ·)))=true:=by kernel_rfl
theorem qZ:(wZ.vars.all (Y.varReadable ·))=true:=by kernel_rfl
theorem rF:(Tryz.f6.resultTypes.all fun t=>Y.readableRec t&&decide (t<Y.types.size))=true:=by kernel_rfl
theorem rH:((wB.ifacesOut==Tryz.f6.resultTypes.toList.any (Y.ifacesRec ·)))=true:=by kernel_rfl
theorem rI:((wB.loopsOut==Tryz.f6.resultTypes.toList.any (Y.loopsFrom ·)))=true:=by kernel_rfl
theorem rJ:((wB.plainKeys==Y.plainKeys))=true:=by kernel_rfl
theorem rK:(wB.shortTexts.isNone)=true:=by kernel_rfl
theorem rM:(Y.stopsHeard)=true:=by kernel_rfl
theorem rN:(Y.mayEnter)=true:=by kernel_rfl
theorem rO:((wB.lifted==Y.liftsFinal))=true:=by kernel_rfl
theorem rP:((Y.make==S wB.make))=true:=by kernel_rfl
theorem rQ:((wB.kinds==(if wB.domain.isEmpty then[]else Tryz.f6.params.toList.map fun t=>match Y.underlying t with|some (.int k)=>S k|_=>N)))=true:=by kernel_rfl
theorem rR:((wB.pinned==wB.pinnedBy))=true:=by kernel_rfl
theorem rS:((wB.veiled==(Tryz.f6.params.toList++wZ.plain.varTypes Y++Tryz.f6.resultTypes.toList).any (Y.veiledRec ·)))=true:=by kernel_rfl
theorem rT:(wB.veiledFits Y Tryz.f6.params.toList (Tryz.f6.params.toList++wZ.plain.varTypes Y++Tryz.f6.resultTypes.toList))=true:=by kernel_rfl
theorem facts:joinedFacts Tryz.prog 6 Tryz.f6 wZ wB=true:=(aL (aL (aL (aL (aL (aL (aL (aL (aL (aL (aL (aL (aL (aL (aL (aL (aL (aL (aL (aL (aL (aL (aL (aL (aL (aL (aL (aL (aL (aL (aL j1 j2) j3) j4) j5) j6) j7) j8) j9) qO) qP) qQ) qT) qU) qV) qW) qX) qY) qZ) rF) rH) rI) rJ) rK) rM) rN) rO) rP) rQ) rR) rS) rT)
theorem t1:Y.funcNamed wB.func=S 6:=by kernel_rfl
theorem t3:Tryz.f6.isInstance Tryz.prog wB.origin wB.targs:=(of_decide_eq_true (by kernel_rfl))
theorem t4:Tryz.f6.isWrapper Tryz.prog wB.wrapper wB.mainSum:=(by unfold Func.isWrapper;first|(rw[Fp (by decide+kernel)];kernel_rfl)|(rw[Fn (by decide+kernel)];exact⟨rfl,rfl⟩))
theorem rU (u:Os) (f:u.Started) (H:Type) (enc:TypeId×Na→H):ReturnsInHanded {} Tryz.checked u 6 .any (wZ.pre6 enc Tryz.prog Tryz.f6 wB.domain false) (wZ.post enc Tryz.prog Tryz.f6 false true false false):=by
 refine returnsInHanded_of_change (C:=Tryz.checked) own f (by kernel_rfl) func6 (ChangeSpec.witness6 (enc:=enc) (C:=Tryz.checked) false ⟨#[],#[.agg #[.int .i64 0,.int .i64 0,.int .i64 0,.int .i64 0,.int .i64 0,.int .i64 0,.int .i64 0,.int .i64 0,.int .i64 0,.int .i64 0,.int .i64 0,.int .i64 0,.int .i64 0,.int .i64 0,.int .i64 0,.bool false],.slice N 0 0],[]⟩ 8 (by kernel_rfl) (by kernel_rfl) (by kernel_rfl) (by kernel_rfl)) ?_;intro W base a G gs j d h F _;have c:∀(g:Nat) t i,Tryz.f6.params[g]?=S t→a[g]?=S i→Na.okWide Tryz.prog W .any base t i:=d;have k:=h;obtain⟨av,bn,g,J,rfl,aa,ab⟩:=h;have v:DataW.TrodAll enc Tryz.prog W 0 (fun _=>true) true Tryz.f6.params.toList a.toList G av:=g;rw[Tryz.params6]at v c;obtain⟨w,ad,d0,ae,K,q0,x,rfl,rfl,y,L⟩:=trodAll_cons v;obtain⟨z,an,d1,ar,M,q1,rfl,rfl,rfl,A,P⟩:=trodAll_cons L;obtain⟨rfl,rfl,rfl⟩:=trodAll_nil P;obtain rfl:a=#[w,z]:=by cases a;simp_all
 obtain⟨rfl,rfl⟩:=trodVars_none J;have B:=y;have l:∀h∈K,h.block<W.heap.size:=by obtain⟨m,i⟩:=B;exact DataW.trod_lt m _ _ _ i
 have D:=A;have n:∀h∈M,h.block<W.heap.size:=by obtain⟨m,i⟩:=D;exact DataW.trod_lt m _ _ _ i
 obtain⟨ba,s,b,bb,bd,o,p,m,Q,R,T,U,h,V,X,bk,rfl⟩:=yX (c 0 31 w rfl rfl) y;obtain⟨bm,q,r,xs,rfl,hl,hs,ha⟩:=yY (c 1 32 z rfl rfl) A;clear g d;refine(qN ba s b bb bd o p m Q R T U h V X bk bm q r xs hl hs W ha).mono fun e W' ⟨d,bel⟩=>?_;subst d;exact⟨_,rfl,_,_,_,[],_,[],k,trodAll_mk1 (shut_bool underlying4 _),(trodAll_cons_mk (Nc.trod mL (by kernel_rfl) (of_decide_eq_true (by kernel_rfl)) B bel l) (trodAll_cons_mk (Nc.trod mL (by kernel_rfl) (of_decide_eq_true (by kernel_rfl)) D bel n) trodAll_mk0)),rfl,bel.frame _,fun d=>by cases d⟩
theorem rX:wB.holds Tryz.pinned (OpenSpec.ofChange wZ):=OpenClaim.holds_of_wide 6 Tryz.f6 rfl rfl rfl rfl rfl rfl rfl ⟨rfl,rfl,rfl,rfl,rfl⟩ rfl rfl rfl rfl rfl t1 func6 facts t3 t4 fun b a H enc _=>rU b a H enc
theorem proved:Rows.WholeCountsSaid:=rX
end law6
end
end Go.Proofs.YtlbgenenpheheaaGreat
