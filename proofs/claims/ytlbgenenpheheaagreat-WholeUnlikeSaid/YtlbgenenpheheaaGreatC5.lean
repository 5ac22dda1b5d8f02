/- WholeUnlike of the program cuirasstop holds for all arguments, as the given statement says; no further condition -/
import Derived.Test.YtlbgenenpheheaaGreatB7
import Derived.Test.YtlbgenenpheheaaGreatRows
set_option linter.unusedVariables false
set_option linter.unusedSimpArgs false
set_option maxHeartbeats 100000000
set_option maxRecDepth 100000
namespace Go.Proofs.YtlbgenenpheheaaGreat
open Go.Value renaming int→I
open Go.IntKind renaming i64→Z
open Go.Obj renaming cells→O
open Go.Ending renaming returned→E
open _root_.Go.Proofs.YtlbgenenpheheaaGreat.Rows renaming wholeUnlikeRow→wB,wholeUnlikeSpec→vI
open _root_.Go.Proofs.Tryz renaming prog→Y
open _root_.Go.Proofs.Tryz
open Go renaming World→Mz,Value→Na,Calls→Nb
open Go.RowKit renaming Below→Nc
open Go.Value renaming slice→Np,oneCell'→Nq
open _root_.List renaming getD→Nf,range→Nn,getElem?_eq_getElem→Nu
open _root_.Nat renaming zero_le→Nz
open _root_.Option renaming some→S,none→N
variable {W:World} {X:Array Value} {g j k n:Nat} {q:dK} {s:CtSt} {v:Value}
section
open Go.RowKit Go.Shelf lin
attribute [local go_sem] Oper.semAt_some
theorem FW {col:Nat→Nat} (w:Mz) (h:dB q col s n w):Nb Y 16 #[q.ar] w fun e d=>e=E q.l.p.ar∧Nc w.heap.size w d:=by obtain⟨j,b,_,_⟩:=h.row;have a:=h.led.row;have i:=aB b;have g:=aB a;unfold CtSt.row at b;unfold bH.row at a;have f:=Cw b 0;simp at f;have c:=Cw a 16;simp at c;unfold dK.ar dH.ar at*;clear h b a;go_in;go_wp2;go_ret;exact⟨rfl,(by repeat first|exact Bl|assumption|refine Ka ?_|refine Ks ?_ (by first|exact Nl|simp<;>omega|omega)|refine Kd ?_|refine Kc ?_ (by assumption))⟩
end
section
open Go.RowKit Go.Shelf lin
attribute [local go_sem] Oper.semAt_some cK
theorem Km {L:List Int} {x:Int} (c:k<L.length) (e:(L.take k).contains x=false) (a:(x==L.getD k 0)=false):(L.take (k+1)).contains x=false:=by
 rw[Nf,Nu c]at a;simp only[Option.getD_some,beq_eq_false_iff_ne]at a;simp only[List.contains_eq_mem,decide_eq_false_iff_not]at e ⊢;intro d;rw[List.take_add_one,Nu c]at d;rcases List.mem_append.1 d with b|b
 ·exact e b
 ·exact a (List.mem_singleton.1 b)
theorem Kn {L:List Int} {x:Int} (b:k<L.length) (a:(x==L.getD k 0)=true):L.contains x=true:=by rw[Nf,Nu b]at a;simp only[Option.getD_some,beq_iff_eq]at a;simp only[List.contains_eq_mem,decide_eq_true_eq];rw[a];exact List.getElem_mem b
theorem Ko {base:Nat} {L:List Int} (x:Int) (w:Mz) (h:eV w base v L):Nb Y 18 #[v,I Z x] w fun e a=>e=E (.bool (L.contains x))∧Nc w.heap.size w a:=by
 have b:∀g,g<L.length→∃r a,v=.slice (S ⟨r,0,N⟩) L.length a∧r<w.heap.size∧w.cell? ⟨r,g,N⟩=S (I Z (L.getD g 0)):=fun g f=>by
  rcases h.cases with⟨rfl,rfl⟩|⟨r,a,rfl,_,i,c,d,b⟩
  ·exact absurd f (Nat.not_lt_zero _)
  ·exact⟨r,a,rfl,i,b g f⟩
 have f:L.length≤maxLen:=by
  rcases h.cases with⟨rfl,rfl⟩|⟨r,a,rfl,_,i,c,d,b⟩
  ·exact Nz _
  ·omega
 obtain⟨D,a,rfl⟩:=h.slice;have t:=aA b;have⟨n,c⟩:=Ey L.length;rw[c]at f ⊢;have g:=aA c;have y:(n:Int)≤9223372036854775807:=by unfold maxLen at f;omega
 clear b c h;go_in;go_wp2_with fail;go_loopw [6,9] (fun c b W=>∃l:Nat,l≤n∧b=I Z l∧(L.take l).contains x=false∧w=W) fun _ b _=>n-(intOf b).toNat
 case atStart=>exact⟨0,Nz _,rfl,by simp,rfl⟩
 case round=>
  obtain⟨l,B,rfl,d,rfl⟩:=hrel;by_cases b:l<n
  ·obtain⟨r,s,u,i,C⟩:=t.out l (by rw[g.out];exact b)
   injection u with m o p;subst m;have⟨A,j⟩:=Ey (L.getD l 0);rw[j]at C;have z:(l:Int)<n:=by omega
   have q:=aA j;have k:=aA d;clear j d o p;by_cases h:x=A
   ·have c:(x==A)=true:=by simpa using h
    clear h;go_wp2_with fail;go_ret;exact⟨by rw[Kn (by rw[g.out];exact b) (by rw[q.out];exact c)];rfl,Bl⟩
   ·have c:(x==A)=false:=by simpa using h
    clear h;go_wp2_with fail;go_round
    case rel=>exact⟨l+1,by omega,by go_num,Km (by rw[g.out];exact b) k.out (by rw[q.out];exact c),trivial⟩
    case measure=>simp[intOf];omega
  ·have c:l=n:=by omega
   subst c;rw[←g.out,List.take_length]at d;have k:=aA d;clear d;go_wp2_with fail;go_ret;exact⟨by rw[k.out];rfl,Bl⟩
end
section
open Go.RowKit Go.Shelf lin
def aY.layV (x:aY):Array Na:=#[I Z x.r,I Z x.s,I Z x.b,I Z x.d,I Z x.c,I Z x.way,I Z x.res]
theorem aY.lines_is {x:aY} (c:lE x):((x.lines:Nat):Int)=(cU x.r x.s x.b x.d x.c-x.res)*x.c∧x.lines≤4096:=by
 obtain⟨a,e,f,g⟩:=eM c.lay;have b:=nL (eE a).1;have h:=cM (eE a).1;unfold aY.lines;generalize cU x.r x.s x.b x.d x.c=d at*;have i:1≤x.c:=by omega
 have j:=Int.mul_le_mul_of_nonneg_right (show d-x.res≤d by omega) (show 0≤x.c by omega);have k:d*x.c≤4096:=by rw[b.1];exact b.2.2.2
 have l:=Int.mul_nonneg (show 0≤d-x.res by omega) (show 0≤x.c by omega);omega
theorem aY.lines_has {x:aY} (a:lE x) (l:Int):x.has l↔0≤l∧l<(x.lines:Nat):=by unfold aY.has;rw[←(aY.lines_is a).1];exact⟨fun b=>eB b,fun b=>jO b.1 b.2⟩
theorem GO {x:aY} (a:lE x) (w:Mz):Nb Y 14 #[.agg x.layV] w fun e b=>e=E (I Z (x.lines:Nat))∧Nc w.heap.size w b:=by rw[(aY.lines_is a).1];exact EF a.lay rfl w
theorem yZ {x:aY} (a:W.heap[g]?=S (O x.vals 31)):(Mc ⟨g,0,N⟩ 0 7 #[]).run Y W=.ok x.layV W:=tW a [_,_,_,_,_,_,_] _ rfl
end
section
open Go.RowKit Go.Shelf lin
attribute [local go_sem] Oper.semAt_some cK Mh
attribute [local simp] Mf Mg Ml
def wZ (rp:aW) (j:Nat):List Int:=(Nn j).map fun(i:Nat)=>rp.route (i:Int)
theorem ZI (rp:aW) (j:Nat):(wZ rp j).length=j:=by simp[wZ]
theorem Lc {rp:aW} (ok:cV rp) (c:∀i:Nat,i≤j→rp.has (i:Int)):(wZ rp j).contains (rp.route (j:Int))=false:=by simp only[List.contains_eq_mem,decide_eq_false_iff_not];intro b;obtain⟨i,a,e⟩:=List.mem_map.1 b;have a:=List.mem_range.1 a;have:=ok.inj (c i (by omega)) (c j Nl) e;omega
theorem Ld (h:X.size=16) (b:∀W,Nb Y 10 #[.agg X] W fun e c=>e=E (.pointer N)∧Nc W.heap.size W c) (a:Option Addr) (f cap:Nat) (w:Mz):Nb Y 5 #[.agg X,.slice a f cap] w fun e c=>e=E (.bool true)∧Nc w.heap.size w c:=by
 have⟨m,c⟩:=Ex (w.alloc (O X 31));have g:aC w m:=by rw[c];exact aU
 have d:m.heap[w.heap.size]?=S (O X 31):=by rw[c];exact aG _ _ _ rfl
 have i:=aA b;have j:=aA fun W (k:aC m W)=>Lw (aE k d) 16 h;have k:=aA g;have o:=aB d;have l:=aA (pO m);clear g d b;go_in;go_upto_region 1 with fail;rw[←c];clear c;go_wp2_with fail;refine l.out.mono ?_;rintro e c ⟨rfl,b⟩;have p:=j.out c b;have d:=aA (aK k.out b);have n:w.heap.size<c.heap.size:=by have:=b.size;omega
 clear b;go_wp2_with fail;refine(i.out c).mono ?_;rintro e q ⟨rfl,b⟩;have g:=aA (aK d.out b);clear b;go_wp2_with fail;go_ret;exact⟨rfl,g.out⟩
theorem Le {x:aY} (D:x.small=true) (a:Option Addr) (c cap:Nat) (xs:Nat→Sp) (hs:∀h,dJ (xs h)) (w:Mz) (ha:mG a c xs w) (g:c≤maxLen):Nb Y 5 #[.agg x.vals,.slice a c cap] w fun e d=>e=E (.bool true)∧Nc w.heap.size w d:=by
 have⟨X,d⟩:=Ey x.vals;have aa:X.size=16:=by rw[←d];rfl
 have f:=aA fun W=>wY D W;rw[d]at f ⊢;have ab:=aA d;clear d;have⟨bv,h⟩:=Ex (w.alloc (O X 31));have l:aC w bv:=by rw[h];exact aU
 have i:bv.heap[w.heap.size]?=S (O X 31):=by rw[h];exact aG _ _ _ rfl
 have m:=aA fun W (d:aC bv W)=>Lw (aE d i) 16 aa;have k:=aH l i;have hz:=aB i;have n:=aA (pO bv);have bw:(c:Int)≤9223372036854775807:=by unfold maxLen at g;omega
 clear l i g;go_in;go_upto_region 1 with fail;rw[←h];clear h;go_wp2_with fail;refine n.out.mono ?_;rintro e w1 ⟨rfl,d⟩;have l:=m.out w1 d;have K1:=aA (aK k.out.1 d);have F:w.heap.size<w1.heap.size:=by have:=d.size;omega
 have g:=aA (aE d k.out.2);clear d;go_wp2_with fail;refine(f.out w1).mono ?_;rintro e w2 ⟨cl,ad,rfl,h,ok,d,i⟩;have L:=aA (dW.new D K1.out g.out h ok d i);clear h ok d i f l k m n g;unfold cQ.ar;by_cases br:c≤60
 ·have T:¬(c:Int)>60:=by omega
  go_wp2_with fail;obtain⟨i0,ae,an,F,ar⟩:=info_parts AY;have n:=aY.small_ok D;have q:=aA fun W=>GO n W;have HN:=aH (aY.lines_is n).2 (aY.lines_has n);have av:=(aY.lines_is n).2;obtain⟨bn,f⟩:=Ey x.lines;rw[f]at q HN av;clear f;go_loopw [27] (fun d wr=>∃(U:Nat) (cf:Nat→Nat) (s:MSt),U≤c∧d=I Z U∧dW w X cl cf s (4096+5*U) wr∧s.ct.ld.c=x) fun d _=>c-(intOf d).toNat
  case atStart=>exact⟨0,ad,MSt.new x,Nz _,rfl,L.out,vH D⟩
  case round=>
   obtain⟨U,cf,s,hk,rfl,y,V⟩:=hrel;have HC:=aA V;have PR:=aA y;by_cases ba:U<c
   ·obtain⟨b,bx,rfl,bz,M⟩:=ha.load hs y.m.k ba
    have h:=aA fun W (d:dW w X cl cf s (4096+5*U) W)=>d.do (by unfold bY;omega) (hs U);have l:=Sp.size (hs U).dl;have r:=Sp.one (xs U);unfold cQ.ar at h;obtain⟨cm,hS⟩:=Ey (xs U);rw[hS]at h M l r;have⟨ck,hV⟩:=Ey cm.vals;rw[hV]at h M l r;have SP:=Mi (P:=Y) wr 45 zeroCells45 ck (by rw[l];kernel_rfl) (by rw[l];rfl) r;have cc:(U:Int)<c:=by omega
    clear y hV hS V L;go_upto_region 9 with fail;have⟨W1,d⟩:=Ex (wr.alloc (O ck 45));rw[←d];have k1:aC wr W1:=by rw[d];exact Ka (K.refl wr)
    have Q:W1.heap[wr.heap.size]?=S (O ck 45):=by rw[d];exact aG _ _ _ rfl
    have LV:=Lw Q 75 l;have HD:=aA (h.out W1 (PR.out.keeps k1));have zV:=aB Q;clear d k1 Q h SP M;go_wp2_with fail;refine HD.out.mono ?_;rintro e W2 ⟨bs,c2,s2,rfl,_,o,hd,_⟩;have LC:=yZ (x:=x) (by rw[ab.out];exact o.c.1);have zc:=aB o.c.1;have G:=aA ((hd.c PR.out.m.ok.ct).trans HC.out);have bb:=aA o;generalize bs.vals=cp at*;have⟨LY,z⟩:=Ey x.layV;rw[z]at LC q;clear o hd z HD LV;go_wp2_with fail;refine(q.out W2).mono ?_;rintro e i ⟨rfl,A⟩;have f:=aA (bb.out.keeps A);clear A LC;go_wp2_with fail;have⟨g,k⟩:=Ey s2.ct.ld.rp;have H:cV g:=by rw[←k];exact f.out.m.ok.ct.ld.rp
    have m:∀h:Nat,h<bn→g.has (h:Int):=fun h o=>by rw[←k,f.out.m.ok.ct.ld.has,G.out,HN.out.2];omega
    have J:=aA fun W (d:aC i W)=>CT W (f.out.m.m.keeps d);have t:=aA fun W (d:aC i W)=>FW W (f.out.m.m.keeps d).ct;have u:=aA fun W (d:aC i W) (j:Nat) (hj:j<bn)=>EV f.out.m.ok.ct.ld.rp (j:Int) (by rw[k];exact m j hj) W (f.out.m.m.keeps d).ct.led.rep;rw[k]at u;have HO:=aH H m;unfold cQ.ar at J;unfold dK.ar at t;unfold dH.ar at t u;clear k H m;go_loopw [8,37] (fun h d W=>∃(j:Nat) (B:Option Addr) (C:Nat),j≤bn∧d=I Z j∧h=.slice B j C∧eV W i.heap.size (.slice B j C) (wZ g j)∧aC i W) fun _ d _=>bn-(intOf d).toNat
    case atStart=>exact⟨0,N,0,Nz _,rfl,rfl,eV.nil _ _,K.refl i⟩
    case round=>
     obtain⟨j,B,C,hj,rfl,rfl,v,p⟩:=hrel;have HS:=aH v p;by_cases bd:j<bn
     ·have cd:(j:Int)<bn:=by omega
      have H:=J.out _ p;have bm:=aA fun W (d:aC i W)=>u.out W d j bd;have m:=Lc HO.out.1 (j:=j) fun h o=>HO.out.2 h (by omega);have hL:=ZI g j;have L:wZ g (j+1)=wZ g j++[g.route (j:Int)]:=MK _ j;have M:=aA fun W (d:eV W i.heap.size (.slice B j C) (wZ g j))=>Ko (g.route (j:Int)) W d;rw[m]at M;generalize g.route (j:Int)=cn at*;generalize g.t.home (j:Int)=z1 at*;generalize g.t.rk (j:Int)=z2 at*;have Q:=aH L hL;clear m L v p hL;go_wp2_with fail;refine H.mono ?_;rintro e W4 ⟨rfl,o⟩;have k4:=aK HS.out.2 o;clear H;go_wp2_with fail;refine(t.out W4 k4).mono ?_;rintro e W5 ⟨rfl,y⟩;have k5:=aK k4 y;go_wp2_with fail;refine(bm.out W5 k5).mono ?_;rintro e W6 ⟨rfl,z⟩;have k6:=aK k5 z;have K6:=aH k6 (HS.out.1.keeps (aK o (aK y z)));clear k4 k5 k6 o y z;go_wp2_with fail;refine(M.out W6 K6.out.2).mono ?_;rintro e W7 ⟨rfl,A⟩;have h:=K6.out.2.keeps A;unfold eV at h;rw[Q.out.2]at h;have R:=aH (aK K6.out.1 A) h;clear A h;go_wp2_with(at_builtin;refine wpList_append_own_at _ rfl _ _ 54 rfl i.heap.size 3 i0 _ 1 8 underlying54 ae an F ar rfl (by decide) _ _ _ rfl (Mz.ownsRow.alloc R.out.2 _) ⟨W7.heap.size,0,N⟩ 1 1 [I Z cn] rfl rfl (cell_one_new _ _ _) (by simp[Nq]) (by unfold maxLen;omega) (by omega) (by have:=R.out.1.size;simp;omega) ?_;intro v' w6 d k _ V;obtain⟨a6,c6,rfl⟩:=own_slice d;have H6:=aH d k;clear d k V);go_roundw
      case rel=>have m:∀h,(Np B j C).ownBlock=S h→i.heap.size≤h:=fun h o=>(Mz.ownsRow.lt R.out.2 h o).1;refine⟨j+1,a6,c6,by omega,by go_num,rfl,?_,sI (Ka R.out.1) H6.out.2 m⟩;unfold eV;rw[ZI,Q.out.1,List.map_append];exact H6.out.1
      case measure=>simp[intOf];omega
     ·have R:j=bn:=by omega
      subst R;clear v p;go_wp2_with fail;go_roundw
      case rel=>exact⟨U+1,c2,s2,by omega,by go_num,(f.out.keeps HS.out.2).up (by omega),G.out⟩
      case measure=>simp[intOf];omega
   ·have d:U=c:=by omega
    subst d;clear y;go_wp2_with fail;go_ret;exact⟨rfl,PR.out.m.k⟩
 ·have T:(c:Int)>60:=by omega
  go_wp2_with fail;go_ret;exact⟨rfl,L.out.m.k⟩
end
section
open Go.ChangeShapes Go.WideShapes Go.ChangeAt Go.RowKit Go.Shelf
namespace law5
theorem qN (r s b d c way h m j k l n g o lg:Int) (bk:Bool) (a:Option Addr) (f cap:Nat) (xs:Nat→Sp) (p:f≤maxLen) (q:∀i,dJ (xs i)) (W:Mz) (t:mG a f xs W):Nb Tryz.prog 5 #[.agg (mZ r s b d c way h m j k l n g o lg bk),.slice a f cap] W fun e i=>e=.returned (.bool true)∧Nc W.heap.size W i:=by
 cases v:oR r s b d c way h m j k l n g o lg with
 |false=>exact Ld rfl (fun w=>yW v w) a f cap W
 |true=>obtain⟨x,u,i,_⟩:=yV (bk:=bk) v;rw[←u];exact Le i a f cap xs q W t p
theorem aL {a b:Bool} (c:a=true) (k:b=true):(a&&b)=true:=by rw[c,k];rfl
theorem j1:(wB.wf (OpenSpec.ofChange vI))=true:=by kernel_rfl
theorem j2:(laidOutB Y)=true:=by kernel_rfl
theorem j3:(mapsRowed Y)=true:=by kernel_rfl
theorem j4:(Tryz.f5.params.all (Y.readableRec ·))=true:=by kernel_rfl
theorem j5:(namedTie Y wB.named vI.vars)=true:=by kernel_rfl
theorem j6:((wB.stops==[]))=true:=by kernel_rfl
theorem j7:((Y.stops==[]))=true:=by kernel_rfl
theorem j8:((wB.knobs==[]))=true:=by kernel_rfl
theorem j9:((Y.stopKnobs==[]))=true:=by kernel_rfl
theorem qO:((wB.inPlace==Y.inPlace 5))=true:=by kernel_rfl
theorem qP:((wB.unfollowed==Y.unfollowed 5))=true:=by kernel_rfl
theorem qQ:((wB.recurses==Y.recurses 5))=true:=by kernel_rfl
theorem qT:((wB.named==Y.varsNamed 5))=true:=by kernel_rfl
theorem qU:((wB.maps==(Tryz.f5.params.toList++vI.plain.varTypes Y).any (Y.mapsRec ·)))=true:=by kernel_rfl
theorem qV:((wB.ifaces==(Tryz.f5.params.toList++vI.plain.varTypes Y).any (Y.ifacesRec ·)))=true:=by kernel_rfl
theorem qW:((wB.mapsOut==Y.mapsAmong Tryz.f5.resultTypes.toList))=true:=by kernel_rfl
theorem qX:((wB.loops==(Tryz.f5.params.toList++vI.plain.varTypes Y).any (Y.loopsFrom ·)))=true:=by kernel_rfl
theorem qY:((wB.wideKeys==(Tryz.f5.params.toList++vI.plain.varTypes Y++Tryz.f5.resultTypes.toList).any (Y.wideKeysFrom ·)))=true:=by kernel_rfl
theorem qZ:(vI.vars.all (Y.varReadable ·))=true:=by kernel_rfl
theorem rF:(Tryz.f5.resultTypes.all fun t=>Y.readableRec t&&decide (t<Y.types.size))=true:=by kernel_rfl
theorem rH:((wB.ifacesOut==Tryz.f5.resultTypes.toList.any (Y.ifacesRec ·)))=true:=by kernel_rfl
theorem rI:((wB.loopsOut==Tryz.f5.resultTypes.toList.any (Y.loopsFrom ·)))=true:=by kernel_rfl
theorem rJ:((wB.plainKeys==Y.plainKeys))=true:=by kernel_rfl
theorem rK:(wB.shortTexts.isNone)=true:=by kernel_rfl
theorem rM:(Y.stopsHeard)=true:=by kernel_rfl
theorem rN:(Y.mayEnter)=true:=by kernel_rfl
theorem rO:((wB.lifted==Y.liftsFinal))=true:=by kernel_rfl
theorem rP:((Y.make==S wB.make))=true:=by kernel_rfl
theorem rQ:((wB.kinds==(if wB.domain.isEmpty then[]else Tryz.f5.params.toList.map fun t=>match Y.underlying t with|some (.int k)=>S k|_=>N)))=true:=by kernel_rfl
theorem rR:((wB.pinned==wB.pinnedBy))=true:=by kernel_rfl
theorem rS:((wB.veiled==(Tryz.f5.params.toList++vI.plain.varTypes Y++Tryz.f5.resultTypes.toList).any (Y.veiledRec ·)))=true:=by kernel_rfl
theorem rT:(wB.veiledFits Y Tryz.f5.params.toList (Tryz.f5.params.toList++vI.plain.varTypes Y++Tryz.f5.resultTypes.toList))=true:=by kernel_rfl
theorem facts:joinedFacts Tryz.prog 5 Tryz.f5 vI wB=true:=(aL (aL (aL (aL (aL (aL (aL (aL (aL (aL (aL (aL (aL (aL (aL (aL (aL (aL (aL (aL (aL (aL (aL (aL (aL (aL (aL (aL (aL (aL (aL j1 j2) j3) j4) j5) j6) j7) j8) j9) qO) qP) qQ) qT) qU) qV) qW) qX) qY) qZ) rF) rH) rI) rJ) rK) rM) rN) rO) rP) rQ) rR) rS) rT)
theorem t1:Y.funcNamed wB.func=S 5:=by kernel_rfl
theorem t3:Tryz.f5.isInstance Tryz.prog wB.origin wB.targs:=(of_decide_eq_true (by kernel_rfl))
theorem t4:Tryz.f5.isWrapper Tryz.prog wB.wrapper wB.mainSum:=(by unfold Func.isWrapper;first|(rw[Fp (by decide+kernel)];kernel_rfl)|(rw[Fn (by decide+kernel)];exact⟨rfl,rfl⟩))
theorem rU (u:Os) (f:u.Started) (H:Type) (enc:TypeId×Na→H):ReturnsInHanded {} Tryz.checked u 5 .any (vI.pre6 enc Tryz.prog Tryz.f5 wB.domain false) (vI.post enc Tryz.prog Tryz.f5 false true false false):=by
 refine returnsInHanded_of_change (C:=Tryz.checked) own f (by kernel_rfl) func5 (ChangeSpec.witness6 (enc:=enc) (C:=Tryz.checked) false ⟨#[],#[.agg #[.int .i64 0,.int .i64 0,.int .i64 0,.int .i64 0,.int .i64 0,.int .i64 0,.int .i64 0,.int .i64 0,.int .i64 0,.int .i64 0,.int .i64 0,.int .i64 0,.int .i64 0,.int .i64 0,.int .i64 0,.bool false],.slice N 0 0],[]⟩ 8 (by kernel_rfl) (by kernel_rfl) (by kernel_rfl) (by kernel_rfl)) ?_;intro W base a G gs j d h F _;have c:∀(g:Nat) t i,Tryz.f5.params[g]?=S t→a[g]?=S i→Na.okWide Tryz.prog W .any base t i:=d;have k:=h;obtain⟨av,bn,g,J,rfl,aa,ab⟩:=h;have v:DataW.TrodAll enc Tryz.prog W 0 (fun _=>true) true Tryz.f5.params.toList a.toList G av:=g;rw[Tryz.params5]at v c;obtain⟨w,ad,d0,ae,K,q0,x,rfl,rfl,y,L⟩:=trodAll_cons v;obtain⟨z,an,d1,ar,M,q1,rfl,rfl,rfl,A,P⟩:=trodAll_cons L;obtain⟨rfl,rfl,rfl⟩:=trodAll_nil P;obtain rfl:a=#[w,z]:=by cases a;simp_all
 obtain⟨rfl,rfl⟩:=trodVars_none J;have B:=y;have l:∀h∈K,h.block<W.heap.size:=by obtain⟨m,i⟩:=B;exact DataW.trod_lt m _ _ _ i
 have D:=A;have n:∀h∈M,h.block<W.heap.size:=by obtain⟨m,i⟩:=D;exact DataW.trod_lt m _ _ _ i
 obtain⟨ba,s,b,bb,bd,o,p,m,Q,R,T,U,h,V,X,bk,rfl⟩:=yX (c 0 31 w rfl rfl) y;obtain⟨bm,q,r,xs,rfl,hl,hs,ha⟩:=yY (c 1 32 z rfl rfl) A;clear g d;refine(qN ba s b bb bd o p m Q R T U h V X bk bm q r xs hl hs W ha).mono fun e W' ⟨d,bel⟩=>?_;subst d;exact⟨_,rfl,_,_,_,[],_,[],k,trodAll_mk1 (shut_bool underlying4 _),(trodAll_cons_mk (Nc.trod mL (by kernel_rfl) (of_decide_eq_true (by kernel_rfl)) B bel l) (trodAll_cons_mk (Nc.trod mL (by kernel_rfl) (of_decide_eq_true (by kernel_rfl)) D bel n) trodAll_mk0)),rfl,bel.frame _,fun d=>by cases d⟩
theorem rX:wB.holds Tryz.pinned (OpenSpec.ofChange vI):=OpenClaim.holds_of_wide 5 Tryz.f5 rfl rfl rfl rfl rfl rfl rfl ⟨rfl,rfl,rfl,rfl,rfl⟩ rfl rfl rfl rfl rfl t1 func5 facts t3 t4 fun b a H enc _=>rU b a H enc
theorem proved:Rows.WholeUnlikeSaid:=rX
end law5
end
end Go.Proofs.YtlbgenenpheheaaGreat
