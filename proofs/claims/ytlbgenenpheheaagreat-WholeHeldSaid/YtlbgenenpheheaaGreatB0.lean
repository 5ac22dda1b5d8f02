/- What the six laws Whole.. of the program cuirasstop lean on, part 1: contracts of its functions and laws of what they compute; for all arguments that each theorem names -/
import Derived.Below
import Derived.BigQuiet
import Derived.BigRegion
import Derived.ChangeKeysEq
import Derived.ChangeOld
import Derived.ControlIn
import Derived.Deep.AppendLies
import Derived.Deep.DeepCutAuto
import Derived.Deep.OwnRows
import Derived.Deep.QuietTactic
import Derived.Deep.RegionHeld3
import Derived.Deep.Slices
import Derived.Deep.WholeRow
import Derived.Laws.CopyOwn
import Derived.Laws.IdiomStrings
import Derived.Laws.Rows
import Derived.Lib.Hide
import Derived.LoopIn
import Derived.LoopNIn
import Derived.Maps.AppendAt
import Derived.OpenShut
import Derived.OrdersHeld
import Derived.OrdersIn
import Derived.OwnWalkIn
import Derived.ProofKit
import Derived.RangeFuncBound
import Derived.RangeFuncCalls
import Derived.RangeFuncLeaves
import Derived.RangeFuncNested
import Derived.Shelf.Abstract
import Derived.Shelf.RegionOpen
import Derived.TacticsIn
import Derived.TacticsInMore
import Derived.Test.YtlbgenenpheheaaGreatProg
import Derived.WalkKit
import Derived.WalkLawsBesides
import Derived.WalkSpells
set_option linter.unusedVariables false
set_option linter.unusedSimpArgs false
set_option maxHeartbeats 100000000
set_option maxRecDepth 100000
namespace Go.Proofs.YtlbgenenpheheaaGreat
open Go.Value renaming int→I
open Go.IntKind renaming i64→Z
open Go.Obj renaming cells→O
open Go.Ending renaming returned→E
open Tryz renaming prog→Y
open Tryz
open _root_.Array renaming replicate→No,getElem?_eq_some_iff→Nz
open _root_.Bool renaming and_eq_true→Nq
open Go renaming World→Mr,Value→Ms,Calls→Mt,undef→Mv,bodyPost_ret→My,wpQuiet_step→Mz,wpQuiet_nil→Na,callsIn_wide→Nk,storeCells→Nm,run_storeCells_new→Nt,results_none→Nw,results_cell_row→Oa,below_setRow→Ob
open Go.IntKind renaming u8→Nb
open Go.RowKit renaming Below→Mu
open Go.Value renaming oneCell'→Ni,ownBlock→Ny
open Go.World renaming putObj_heap_other→Ok
open _root_.List renaming getD→Mx,replicate→Nd,range→Nf,getElem?_eq_getElem→Nn,length_map→Np,length_append→Nr,size_toArray→Nv,length_cons→Oc,length_set→Od,getElem?_eq_some_iff→Oe,getElem?_map→Of,getElem?_toArray→Oi
open _root_.Nat renaming le_trans→Ng,lt_of_lt_of_le→Nj,zero_le→Ns,le_succ→Nu,mod_eq_of_lt→Og
open _root_.Option renaming some→S,none→N
variable {B g i j k n:Nat} {P:Program} {W W' w w' w1 w2:World} {a b d e l r way:Int} {cw:Nat→Prop} {o:Obj} {v:Value}
section
open Go.RowKit
theorem Ha (w:World) (o:Obj) (i:Nat) (a:i<w.heap.size):(w.alloc o).heap[i]?=w.heap[i]?:=by show(w.heap.push o)[i]?=_;rw[Array.getElem?_push,if_neg (by omega)]
def Mc (a:Addr) (i n:Nat) (c:Array Value):Sem (Array Value):=loadCellsFrom a i n c
def Me (a:Addr) (l:List Value) (i:Nat):Sem Unit:=storeCells a l i
def Mj (d:Nat) (t:TypeId) (x y:Value):Sem Bool:=Op.equalIn d t x y
def Mk (t:TypeId) (p:Array (Nat×Value)):Sem Value:=Instr.build t p
def Mn (t:TypeId) (n:Nat) (p:Array (Nat×Value)):Sem Value:=Instr.buildSlice t n p
theorem Mf (a:Addr) (i n:Nat) (c:Array Value):loadCellsFrom a i n c=Mc a i n c:=rfl
theorem Mg (a:Addr) (l:List Value) (i:Nat):storeCells a l i=Me a l i:=rfl
theorem Ml (d:Nat) (t:TypeId) (x y:Array Value):Op.equalIn d t (.agg x) (.agg y)=Mj d t (.agg x) (.agg y):=rfl
theorem Mm (t:TypeId) (p:Array (Nat×Value)):Instr.build t p=Mk t p:=rfl
theorem Mq (t:TypeId) (n:Nat) (p:Array (Nat×Value)):Instr.buildSlice t n p=Mn t n p:=rfl
theorem iH {w:World} {o:Obj} {i:Nat} (a:i=w.heap.size):(w.alloc o).heap[i]?=some o:=by subst a;show(w.heap.push o)[w.heap.size]?=_;simp
theorem gQ {w:World} {o:Obj} {a:Obj} {i:Nat} (b:i=w.heap.size):((w.alloc o).alloc a).heap[i]?=some o:=by subst b;rw[Ha _ _ _ (by simp<;>omega)];show(w.heap.push o)[w.heap.size]?=_;simp
theorem nE {w:World} {o:Obj} {a:Obj} {b:Obj} {i:Nat} (c:i=w.heap.size):(((w.alloc o).alloc a).alloc b).heap[i]?=some o:=by subst c;rw[Ha _ _ _ (by simp<;>omega)];rw[Ha _ _ _ (by simp<;>omega)];show(w.heap.push o)[w.heap.size]?=_;simp
theorem zH {w:World} {o:Obj} {a:Obj} {b:Obj} {c:Obj} {i:Nat} (d:i=w.heap.size):((((w.alloc o).alloc a).alloc b).alloc c).heap[i]?=some o:=by subst d;rw[Ha _ _ _ (by simp<;>omega)];rw[Ha _ _ _ (by simp<;>omega)];rw[Ha _ _ _ (by simp<;>omega)];show(w.heap.push o)[w.heap.size]?=_;simp
theorem ZN {w:World} {o:Obj} {a:Obj} {b:Obj} {c:Obj} {d:Obj} {i:Nat} (e:i=w.heap.size):(((((w.alloc o).alloc a).alloc b).alloc c).alloc d).heap[i]?=some o:=by subst e;rw[Ha _ _ _ (by simp<;>omega)];rw[Ha _ _ _ (by simp<;>omega)];rw[Ha _ _ _ (by simp<;>omega)];rw[Ha _ _ _ (by simp<;>omega)];show(w.heap.push o)[w.heap.size]?=_;simp
theorem Ai {a b:Prop} (x:a) (y:b):a∧b:=⟨x,y⟩
theorem Ei.{u} {c:Sort u} {A B:c→Prop} {v:c} (a:A v) (b:B v):∃v,A v∧B v:=⟨v,a,b⟩
theorem aA {P:Prop} (a:P):Hid P:=a
theorem aH {A B:Prop} (a:A) (b:B):Hid (A∧B):=⟨a,b⟩
theorem Hd3 {A B C:Prop} (a:A) (b:B) (c:C):Hid (A∧B∧C):=⟨a,b,c⟩
theorem bT {A B C D:Prop} (a:A) (b:B) (c:C) (d:D):Hid (A∧B∧C∧D):=⟨a,b,c,d⟩
theorem eP {A B C D E:Prop} (a:A) (b:B) (c:C) (d:D) (e:E):Hid (A∧B∧C∧D∧E):=⟨a,b,c,d,e⟩
theorem eQ {A B C D E F:Prop} (a:A) (b:B) (c:C) (d:D) (e:E) (f:F):Hid (A∧B∧C∧D∧E∧F):=⟨a,b,c,d,e,f⟩
theorem nF {A B C D E F G:Prop} (a:A) (b:B) (c:C) (d:D) (e:E) (f:F) (g:G):Hid (A∧B∧C∧D∧E∧F∧G):=⟨a,b,c,d,e,f,g⟩
theorem pP {A B C D E F G H:Prop} (a:A) (b:B) (c:C) (d:D) (e:E) (f:F) (g:G) (h:H):Hid (A∧B∧C∧D∧E∧F∧G∧H):=⟨a,b,c,d,e,f,g,h⟩
theorem mI {A B C D E F G H I:Prop} (a:A) (b:B) (c:C) (d:D) (e:E) (f:F) (g:G) (h:H) (i:I):Hid (A∧B∧C∧D∧E∧F∧G∧H∧I):=⟨a,b,c,d,e,f,g,h,i⟩
theorem zI {A B C D E F G H I h:Prop} (a:A) (b:B) (c:C) (d:D) (e:E) (f:F) (g:G) (k:H) (i:I) (j:h):Hid (A∧B∧C∧D∧E∧F∧G∧H∧I∧h):=⟨a,b,c,d,e,f,g,k,i,j⟩
theorem Cw {W:World} {b:Nat} {xs:Array Value} {T:TypeId} {p:Nat×Nat} (a:W.heap[b]?=some (O xs T p)) (i:Nat):W.cell? ⟨b,i,none⟩=xs[i]?:=cell_of_row W b i xs T p a
theorem Fw {W:World} {b:Nat} {xs:Array Value} {T:TypeId} (a:W.heap[b]?=some (O xs T (0,0))) (j:Nat):W.frozen? ⟨b,j,none⟩=false:=frozen_of_row W b j xs T a
theorem Hw {W:World} {b:Nat} {xs:Array Value} {T:TypeId} {p:Nat×Nat} (c:W.heap[b]?=some (O xs T p)) (a:Array Value):(W.setRow b a).heap[b]?=some (O a T p):=setRow_heap W b xs a T p c
theorem bQ {W:World} {b:Nat} {xs:Array Value} {T:TypeId} {p:Nat×Nat} (a:W.heap[b]?=some (O xs T p)):W.cell? ⟨b,0,none⟩=xs[0]?∧W.cell? ⟨b,1,none⟩=xs[1]?:=⟨Cw a 0,Cw a 1⟩
theorem iO {W:World} {b:Nat} {xs:Array Value} {T:TypeId} {p:Nat×Nat} (d:W.heap[b]?=some (O xs T p)) (a c:Nat):W.cell? ⟨b,a,none⟩=xs[a]?∧W.cell? ⟨b,c,none⟩=xs[c]?:=⟨Cw d a,Cw d c⟩
theorem fM {W:World} {b:Nat} {xs:Array Value} {T:TypeId} {p:Nat×Nat} (a:W.heap[b]?=some (O xs T p)):W.cell? ⟨b,0,none⟩=xs[0]?∧W.cell? ⟨b,1,none⟩=xs[1]?∧W.cell? ⟨b,2,none⟩=xs[2]?:=⟨Cw a 0,Cw a 1,Cw a 2⟩
theorem pQ {W:World} {b:Nat} {xs:Array Value} {T:TypeId} {p:Nat×Nat} (e:W.heap[b]?=some (O xs T p)) (a c d:Nat):W.cell? ⟨b,a,none⟩=xs[a]?∧W.cell? ⟨b,c,none⟩=xs[c]?∧W.cell? ⟨b,d,none⟩=xs[d]?:=⟨Cw e a,Cw e c,Cw e d⟩
theorem eD {W:World} {b:Nat} {xs:Array Value} {T:TypeId} {p:Nat×Nat} (a:W.heap[b]?=some (O xs T p)):W.cell? ⟨b,0,none⟩=xs[0]?∧W.cell? ⟨b,1,none⟩=xs[1]?∧W.cell? ⟨b,2,none⟩=xs[2]?∧W.cell? ⟨b,3,none⟩=xs[3]?:=⟨Cw a 0,Cw a 1,Cw a 2,Cw a 3⟩
theorem ZO {W:World} {b:Nat} {xs:Array Value} {T:TypeId} {p:Nat×Nat} (f:W.heap[b]?=some (O xs T p)) (a c d e:Nat):W.cell? ⟨b,a,none⟩=xs[a]?∧W.cell? ⟨b,c,none⟩=xs[c]?∧W.cell? ⟨b,d,none⟩=xs[d]?∧W.cell? ⟨b,e,none⟩=xs[e]?:=⟨Cw f a,Cw f c,Cw f d,Cw f e⟩
theorem gZ {W:World} {b:Nat} {xs:Array Value} {T:TypeId} {p:Nat×Nat} (a:W.heap[b]?=some (O xs T p)):W.cell? ⟨b,0,none⟩=xs[0]?∧W.cell? ⟨b,1,none⟩=xs[1]?∧W.cell? ⟨b,2,none⟩=xs[2]?∧W.cell? ⟨b,3,none⟩=xs[3]?∧W.cell? ⟨b,4,none⟩=xs[4]?:=⟨Cw a 0,Cw a 1,Cw a 2,Cw a 3,Cw a 4⟩
theorem ZP {W:World} {b:Nat} {xs:Array Value} {T:TypeId} {p:Nat×Nat} (g:W.heap[b]?=some (O xs T p)) (a c d e f:Nat):W.cell? ⟨b,a,none⟩=xs[a]?∧W.cell? ⟨b,c,none⟩=xs[c]?∧W.cell? ⟨b,d,none⟩=xs[d]?∧W.cell? ⟨b,e,none⟩=xs[e]?∧W.cell? ⟨b,f,none⟩=xs[f]?:=⟨Cw g a,Cw g c,Cw g d,Cw g e,Cw g f⟩
theorem oC {W:World} {b:Nat} {xs:Array Value} {T:TypeId} {p:Nat×Nat} (a:W.heap[b]?=some (O xs T p)):W.cell? ⟨b,0,none⟩=xs[0]?∧W.cell? ⟨b,1,none⟩=xs[1]?∧W.cell? ⟨b,2,none⟩=xs[2]?∧W.cell? ⟨b,3,none⟩=xs[3]?∧W.cell? ⟨b,4,none⟩=xs[4]?∧W.cell? ⟨b,5,none⟩=xs[5]?:=⟨Cw a 0,Cw a 1,Cw a 2,Cw a 3,Cw a 4,Cw a 5⟩
theorem OE {W:World} {b:Nat} {xs:Array Value} {T:TypeId} {p:Nat×Nat} (h:W.heap[b]?=some (O xs T p)) (a c d e f g:Nat):W.cell? ⟨b,a,none⟩=xs[a]?∧W.cell? ⟨b,c,none⟩=xs[c]?∧W.cell? ⟨b,d,none⟩=xs[d]?∧W.cell? ⟨b,e,none⟩=xs[e]?∧W.cell? ⟨b,f,none⟩=xs[f]?∧W.cell? ⟨b,g,none⟩=xs[g]?:=⟨Cw h a,Cw h c,Cw h d,Cw h e,Cw h f,Cw h g⟩
theorem x7 {W:World} {b:Nat} {xs:Array Value} {T:TypeId} {p:Nat×Nat} (a:W.heap[b]?=some (O xs T p)):W.cell? ⟨b,0,none⟩=xs[0]?∧W.cell? ⟨b,1,none⟩=xs[1]?∧W.cell? ⟨b,2,none⟩=xs[2]?∧W.cell? ⟨b,3,none⟩=xs[3]?∧W.cell? ⟨b,4,none⟩=xs[4]?∧W.cell? ⟨b,5,none⟩=xs[5]?∧W.cell? ⟨b,6,none⟩=xs[6]?:=⟨Cw a 0,Cw a 1,Cw a 2,Cw a 3,Cw a 4,Cw a 5,Cw a 6⟩
theorem OF {W:World} {b:Nat} {xs:Array Value} {T:TypeId} {p:Nat×Nat} (a:W.heap[b]?=some (O xs T p)):W.cell? ⟨b,0,none⟩=xs[0]?∧W.cell? ⟨b,1,none⟩=xs[1]?∧W.cell? ⟨b,2,none⟩=xs[2]?∧W.cell? ⟨b,3,none⟩=xs[3]?∧W.cell? ⟨b,4,none⟩=xs[4]?∧W.cell? ⟨b,5,none⟩=xs[5]?∧W.cell? ⟨b,6,none⟩=xs[6]?∧W.cell? ⟨b,7,none⟩=xs[7]?:=⟨Cw a 0,Cw a 1,Cw a 2,Cw a 3,Cw a 4,Cw a 5,Cw a 6,Cw a 7⟩
theorem OG {W:World} {b:Nat} {xs:Array Value} {T:TypeId} {p:Nat×Nat} (h:W.heap[b]?=some (O xs T p)) (a c d e f g i6 i7:Nat):W.cell? ⟨b,a,none⟩=xs[a]?∧W.cell? ⟨b,c,none⟩=xs[c]?∧W.cell? ⟨b,d,none⟩=xs[d]?∧W.cell? ⟨b,e,none⟩=xs[e]?∧W.cell? ⟨b,f,none⟩=xs[f]?∧W.cell? ⟨b,g,none⟩=xs[g]?∧W.cell? ⟨b,i6,none⟩=xs[i6]?∧W.cell? ⟨b,i7,none⟩=xs[i7]?:=⟨Cw h a,Cw h c,Cw h d,Cw h e,Cw h f,Cw h g,Cw h i6,Cw h i7⟩
theorem oS {W:World} {b:Nat} {xs:Array Value} {T:TypeId} {p:Nat×Nat} (a:W.heap[b]?=some (O xs T p)):W.cell? ⟨b,0,none⟩=xs[0]?∧W.cell? ⟨b,1,none⟩=xs[1]?∧W.cell? ⟨b,2,none⟩=xs[2]?∧W.cell? ⟨b,3,none⟩=xs[3]?∧W.cell? ⟨b,4,none⟩=xs[4]?∧W.cell? ⟨b,5,none⟩=xs[5]?∧W.cell? ⟨b,6,none⟩=xs[6]?∧W.cell? ⟨b,7,none⟩=xs[7]?∧W.cell? ⟨b,8,none⟩=xs[8]?:=⟨Cw a 0,Cw a 1,Cw a 2,Cw a 3,Cw a 4,Cw a 5,Cw a 6,Cw a 7,Cw a 8⟩
theorem OH {W:World} {b:Nat} {xs:Array Value} {T:TypeId} {p:Nat×Nat} (h:W.heap[b]?=some (O xs T p)) (a c d e f g i6 i7 i8:Nat):W.cell? ⟨b,a,none⟩=xs[a]?∧W.cell? ⟨b,c,none⟩=xs[c]?∧W.cell? ⟨b,d,none⟩=xs[d]?∧W.cell? ⟨b,e,none⟩=xs[e]?∧W.cell? ⟨b,f,none⟩=xs[f]?∧W.cell? ⟨b,g,none⟩=xs[g]?∧W.cell? ⟨b,i6,none⟩=xs[i6]?∧W.cell? ⟨b,i7,none⟩=xs[i7]?∧W.cell? ⟨b,i8,none⟩=xs[i8]?:=⟨Cw h a,Cw h c,Cw h d,Cw h e,Cw h f,Cw h g,Cw h i6,Cw h i7,Cw h i8⟩
theorem Nl {n:Nat}:n≤n:=Nat.le_refl n
theorem Bl {B:Nat} {w:World}:Below B w w:=Below.refl B w
theorem Ho {w:World} {a:Addr} {k:Nat} {v:Value} (b:k≠a.block):(w.setCell a v).heap[k]?=w.heap[k]?:=heap_setCell_other w a k v b
theorem So {w:World} {g k:Nat} {cs:Array Value} (a:k≠g):(w.setRow g cs).heap[k]?=w.heap[k]?:=setRow_other w g k cs a
theorem Hs {w:World} {g:Nat} (i:Nat) {cs:Array Value} {t:TypeId} (v:Value) (a:w.heap[g]?=some (O cs t (0,0))):(w.setCell ⟨g,i,none⟩ v).heap[g]?=some (O (cs.setIfInBounds i v) t (0,0)):=heap_setCell_same w g i cs t v a
theorem Fn.{u} {c:Prop} {_:Decidable c} {a:Sort u} {t e:a} (b:¬c):ite c t e=e:=if_neg b
theorem Fp.{u} {c:Prop} {_:Decidable c} {a:Sort u} {t e:a} (b:c):ite c t e=t:=if_pos b
theorem Ex.{u} {b:Sort u} (a:b):∃c,c=a:=⟨a,rfl⟩
theorem Ey.{u} {b:Sort u} (a:b):∃c,a=c:=⟨a,rfl⟩
theorem GP (a b:Nat) (c:a<9223372036854775808) (e:b<9223372036854775808):bits .and .i64 (a:Int) (b:Int)=((a&&& b:Nat):Int):=by have d:a&&& b<9223372036854775808:=Nat.lt_of_le_of_lt Nat.and_le_left c;show IntKind.i64.wrap (((BitVec.ofInt 64 (a:Int)&&& BitVec.ofInt 64 (b:Int)).toNat:Nat):Int)=_;rw[BitVec.ofInt_natCast,BitVec.ofInt_natCast];simp only[BitVec.toNat_and,BitVec.toNat_ofNat];rw[Og (by omega),Og (by omega),IntKind.wrap_i64];omega
theorem DC (a b:Nat) (c:a<9223372036854775808) (d:b<9223372036854775808):bits .or .i64 (a:Int) (b:Int)=((a|||b:Nat):Int):=by have e:a|||b<9223372036854775808:=Nat.or_lt_two_pow (n:=63) c d;show IntKind.i64.wrap (((BitVec.ofInt 64 (a:Int)|||BitVec.ofInt 64 (b:Int)).toNat:Nat):Int)=_;rw[BitVec.ofInt_natCast,BitVec.ofInt_natCast];simp only[BitVec.toNat_or,BitVec.toNat_ofNat];rw[Og (by omega),Og (by omega),IntKind.wrap_i64];omega
theorem GQ (a b:Nat) (c:a<9223372036854775808) (d:b<9223372036854775808):bits .xor .i64 (a:Int) (b:Int)=((a^^^b:Nat):Int):=by have e:a^^^b<9223372036854775808:=Nat.xor_lt_two_pow (n:=63) c d;show IntKind.i64.wrap (((BitVec.ofInt 64 (a:Int)^^^BitVec.ofInt 64 (b:Int)).toNat:Nat):Int)=_;rw[BitVec.ofInt_natCast,BitVec.ofInt_natCast];simp only[BitVec.toNat_xor,BitVec.toNat_ofNat];rw[Og (by omega),Og (by omega),IntKind.wrap_i64];omega
theorem sX (x:Int) (k:Nat) (c:k≤32):bits .and .i64 x ((2^k-1:Nat):Int)=x%((2^k:Nat):Int):=by
 show IntKind.i64.wrap (((BitVec.ofInt 64 x&&& BitVec.ofInt 64 ((2^k-1:Nat):Int)).toNat:Nat):Int)=_;have f:2^k≤2^32:=Nat.pow_le_pow_right (by decide) c;have g:1≤2^k:=Nat.one_le_two_pow;rw[BitVec.ofInt_natCast];simp only[BitVec.toNat_and,BitVec.toNat_ofNat,BitVec.toNat_ofInt];rw[Og (a:=2^k-1) (by omega),Nat.and_two_pow_sub_one_eq_mod];have d:((2^k:Nat):Int)∣((2^64:Nat):Int):=Int.natCast_dvd_natCast.2 (Nat.pow_dvd_pow 2 (by omega));have e:(((x%((2^64:Nat):Int)).toNat%2^k:Nat):Int)=x%((2^k:Nat):Int):=by rw[Int.natCast_emod,Int.toNat_of_nonneg (Int.emod_nonneg _ (by decide)),Int.emod_emod_of_dvd _ d]
 have h:=Int.emod_nonneg x (b:=((2^k:Nat):Int)) (by omega);have i:=Int.emod_lt_of_pos x (b:=((2^k:Nat):Int)) (by omega);rw[e,IntKind.wrap_i64];omega
theorem ZQ (x:Int):bits .and .i64 x 15=x%16:=sX x 4 (by decide)
theorem ZR (x:Int):bits .and .i64 x 63=x%64:=sX x 6 (by decide)
theorem ZT (x:Int):bits .and .i64 x 1023=x%1024:=sX x 10 (by decide)
theorem ZU (x:Int):bits .and .i64 x 8388607=x%8388608:=sX x 23 (by decide)
def pw (n m:Int):Bool:=decide (1≤n)&&decide (n≤m)&&(Nf 11).any fun k=>decide (n=2^k)
theorem ZV:∀n:Nat,n<1025→n≠0→(decide ((n&&& (n-1))=0))=(Nf 11).any (fun a=>decide (n=2^a)):=by decide+kernel
theorem ZW (n m:Int) (f:1≤n) (b:n≤m) (g:m≤1024):(bits .and .i64 n (n-1)==0)=pw n m:=by
 obtain⟨a,rfl⟩:=Int.eq_ofNat_of_zero_le (show 0≤n by omega);have e:((a:Int)-1)=((a-1:Nat):Int):=by omega
 rw[e,GP _ _ (by omega) (by omega)];have c:=ZV a (by omega) (by omega);unfold pw;rw[show decide (1≤(a:Int))=true from by simp;omega,show decide ((a:Int)≤m)=true from by simpa using b];rw[Bool.true_and,Bool.true_and];have d:(((a&&& (a-1):Nat):Int)==0)=decide ((a&&& (a-1))=0):=by rw[Bool.eq_iff_iff];simp
 rw[d,c];congr 1;funext j;rw[Bool.eq_iff_iff];simp only[decide_eq_true_eq];constructor
 ·rintro rfl;norm_cast
 ·intro h;exact_mod_cast h
theorem ZX (n m:Int) (a:n<1):pw n m=false:=by unfold pw;rw[show decide (1≤n)=false from by simp;omega];rfl
theorem ZY (n m:Int) (a:m<n):pw n m=false:=by unfold pw;rw[show decide (n≤m)=false from by simp;omega];simp
theorem oT {n m:Int} (a:pw n m=true):1≤n∧n≤m:=by unfold pw at a;simp only[Nq,decide_eq_true_eq]at a;exact a.1
theorem GR {n m:Int} (a:pw n m=true):∃b:Nat,b<11∧n=2^b:=by unfold pw at a;simp only[Nq,decide_eq_true_eq,List.any_eq_true,List.mem_range]at a;exact a.2
def dF (r s b d c:Int):Bool:=pw r 8&&(decide (0≤s)&&(decide (s≤8-r)&&(pw b 16&&(pw d 1024&&(pw c 64&&decide ((r+s)*b*d*c≤4096))))))
theorem pR {m n:Int} (c:1≤a) (d:a≤m) (e:1≤b) (f:b≤n):1≤a*b∧a*b≤m*n:=by
 constructor
 ·have:=Int.mul_le_mul c e (by decide) (by omega);simpa using this
 ·exact Int.mul_le_mul d f (by omega) (by omega)
theorem OI {s c:Int} (k:pw r 8=true) (p:0≤s) (q:s≤8-r) (l:pw b 16=true) (m:pw d 1024=true) (n:pw c 64=true):1≤r∧r≤8∧1≤b∧b≤16∧1≤d∧d≤1024∧1≤c∧c≤64∧(1≤(r+s)*b∧(r+s)*b≤8*16)∧(1≤(r+s)*b*d∧(r+s)*b*d≤8*16*1024)∧(1≤(r+s)*b*d*c∧(r+s)*b*d*c≤8*16*1024*64):=by have j:=oT k;have e:=oT l;have f:=oT m;have g:=oT n;have h:=pR (a:=r+s) (by omega) (show r+s≤8 by omega) e.1 e.2;have i:=pR h.1 h.2 f.1 f.2;have o:=pR i.1 i.2 g.1 g.2;exact⟨j.1,j.2,e.1,e.2,f.1,f.2,g.1,g.2,h,i,o⟩
theorem OJ {s c:Int} (a:pw r 8=true) (e:0≤s) (f:s≤8-r) (g:pw b 16=true) (h:pw d 1024=true) (i:pw c 64=true):decide (wrap64 (wrap64 (wrap64 (wrap64 (r+s)*b)*d)*c)≤4096)=dF r s b d c:=by obtain⟨j,k,l,m,n,o,p,q,t,u,v⟩:=OI a e f g h i;rw[IntWalk.wrap64_in (r+s) ⟨by omega,by omega⟩,IntWalk.wrap64_in ((r+s)*b) ⟨by omega,by omega⟩,IntWalk.wrap64_in ((r+s)*b*d) ⟨by omega,by omega⟩,IntWalk.wrap64_in ((r+s)*b*d*c) ⟨by omega,by omega⟩];unfold dF;rw[a,g,h,i,decide_eq_true e,decide_eq_true f];rfl
theorem w8 (a:pw r 8=true):wrap64 (8-r)=8-r:=by have:=oT a;exact IntWalk.wrap64_in _ ⟨by omega,by omega⟩
theorem oU {s c:Int} (k:pw r 8=true→0≤s→s≤8-r→pw b 16=true→pw d 1024=true→pw c 64=true→False):dF r s b d c=false:=by rw[←Bool.not_eq_true];intro a;unfold dF at a;simp only[Nq,decide_eq_true_eq]at a;obtain⟨e,f,g,h,i,j,_⟩:=a;exact k e f g h i j
theorem uB {s c:Int} (a:dF r s b d c=true):pw r 8=true∧0≤s∧s≤8-r∧pw b 16=true∧pw d 1024=true∧pw c 64=true∧(r+s)*b*d*c≤4096:=by unfold dF at a;simp only[Nq,decide_eq_true_eq]at a;exact a
def bel (a b:Int):Bool:=decide (0≤a)&&decide (a<b)
theorem eB (c:bel a b=true):0≤a∧a<b:=by unfold bel at c;simp only[Nq,decide_eq_true_eq]at c;exact c
theorem jO (d:0≤a) (c:a<b):bel a b=true:=by unfold bel;simp only[Nq,decide_eq_true_eq];exact⟨d,c⟩
def eY (r s b d c pr pb pd pc:Int):Bool:=dF r s b d c&&(bel pr (r+s)&&(bel pb b&&(bel pd d&&bel pc c)))
theorem oV {s c pr pb pd pc:Int} (i:eY r s b d c pr pb pd pc=true):dF r s b d c=true∧0≤pr∧pr<r+s∧0≤pb∧pb<b∧0≤pd∧pd<d∧0≤pc∧pc<c:=by unfold eY at i;simp only[Nq]at i;obtain⟨a,e,f,g,h⟩:=i;have:=eB e;have:=eB f;have:=eB g;have:=eB h;exact⟨a,by omega⟩
theorem zJ {s c pr pb pd pc:Int} (a:dF r s b d c=true) (e:0≤pr) (f:pr<r+s) (g:0≤pb) (h:pb<b) (i:0≤pd) (j:pd<d) (k:0≤pc) (l:pc<c):eY r s b d c pr pb pd pc=true:=by unfold eY;rw[a,jO e f,jO g h,jO i j,jO k l];rfl
theorem zK {s c pr pb pd pc:Int} (a:dF r s b d c=true):eY r s b d c pr pb pd pc=(bel pr (r+s)&&(bel pb b&&(bel pd d&&bel pc c))):=by unfold eY;rw[a];rfl
theorem OL {s c pr pb pd pc:Int} (a:¬dF r s b d c=true):eY r s b d c pr pb pd pc=false:=by unfold eY;rw[Bool.not_eq_true]at a;rw[a];rfl
theorem cM {s c:Int} (j:dF r s b d c=true):1≤r∧0≤s∧r+s≤8∧1≤b∧b≤16∧1≤d∧d≤1024∧1≤c∧c≤64:=by obtain⟨a,h,i,e,f,g,_⟩:=uB j;have:=oT a;have:=oT e;have:=oT f;have:=oT g;omega
theorem OM {s c pr pb pd pc:Int} (e:eY r s b d c pr pb pd pc=true):0≤pr∧pr<8∧0≤pb∧pb<16∧0≤pd∧pd<1024∧0≤pc∧pc<64:=by have a:=oV e;have:=cM a.1;omega
theorem ON {s c:Int} (a:dF r s b d c=true):wrap64 (r+s)=r+s:=by have:=cM a;exact IntWalk.wrap64_in _ ⟨by omega,by omega⟩
def dD (pr pb pd pc:Int):Int:=1048576*pr+65536*pb+64*pd+pc
theorem DD (a b k:Nat) (c:b<2^k):a*2^k|||b=a*2^k+b:=by rw[←Nat.shiftLeft_eq,←Nat.shiftLeft_add_eq_or_of_lt c]
theorem ZZ {pr pb pd pc:Int} (d:0≤pr) (n:pr<8) (e:0≤pb) (o:pb<16) (f:0≤pd) (p:pd<1024) (g:0≤pc) (q:pc<64):bits .or .i64 (bits .or .i64 (bits .or .i64 (pr*1048576) (pb*65536)) (pd*64)) pc=dD pr pb pd pc:=by
 obtain⟨a,rfl⟩:=Int.eq_ofNat_of_zero_le d;obtain⟨b,rfl⟩:=Int.eq_ofNat_of_zero_le e;obtain⟨c,rfl⟩:=Int.eq_ofNat_of_zero_le f;obtain⟨m,rfl⟩:=Int.eq_ofNat_of_zero_le g;have h:a*1048576|||b*65536=a*1048576+b*65536:=DD a (b*65536) 20 (by omega);have i:(a*1048576+b*65536)|||c*64=a*1048576+b*65536+c*64:=by have:=DD (a*16+b) (c*64) 16 (by omega);rw[show(a*16+b)*2^16=a*1048576+b*65536 from by omega]at this;exact this
 have j:(a*1048576+b*65536+c*64)|||m=a*1048576+b*65536+c*64+m:=by have:=DD (a*16384+b*1024+c) m 6 (by omega);rw[show(a*16384+b*1024+c)*2^6=a*1048576+b*65536+c*64 from by omega]at this;exact this
 have k:(a:Int)*1048576=((a*1048576:Nat):Int):=by omega
 have l:(b:Int)*65536=((b*65536:Nat):Int):=by omega
 have c3:(c:Int)*64=((c*64:Nat):Int):=by omega
 rw[k,l,c3,DC _ _ (by omega) (by omega),h,DC _ _ (by omega) (by omega),i,DC _ _ (by omega) (by omega),j];unfold dD;omega
def xB (n q:Int):Prop:=∃k:Nat,q=2^k∧∀j:Nat,j<k→n≠2^j
theorem af (n:Int):xB n 1:=⟨0,rfl,fun a b=>by omega⟩
theorem ag {n q:Int} (d:xB n q) (a:n≠q):xB n (q*2):=by
 obtain⟨c,rfl,b⟩:=d;refine⟨c+1,by rw[Int.pow_succ],fun d f=>?_⟩;by_cases e:d=c
 ·subst e;exact a
 ·exact b d (by omega)
theorem ah {n m q:Int} (b:xB n q) (d:n=q) (e:1≤q) (f:q≤m) (g:m≤1024):pw n m=true:=by
 obtain⟨c,a,_⟩:=b;unfold pw;rw[decide_eq_true (by omega),decide_eq_true (by omega),Bool.true_and,Bool.true_and,List.any_eq_true];refine⟨c,?_,by rw[decide_eq_true_eq];omega⟩;rw[List.mem_range];refine Nat.lt_of_not_le fun b=>?_;have h:(2:Nat)^11≤2^c:=Nat.pow_le_pow_right (by decide) b;have i:q=((2^c:Nat):Int):=by rw[a];norm_cast
 omega
theorem ai {n m q:Int} (a:xB n q) (g:m<q):pw n m=false:=by
 obtain⟨h,c,d⟩:=a;rw[←Bool.not_eq_true];intro a;obtain⟨f,_,b⟩:=GR a;have:=oT a;refine d f (Nat.lt_of_not_le fun e=>?_) b;have i:(2:Nat)^h≤2^f:=Nat.pow_le_pow_right (by decide) e;have j:q=((2^h:Nat):Int):=by rw[c];norm_cast
 have k:n=((2^f:Nat):Int):=by rw[b];norm_cast
 omega
theorem sY {pr pb pd pc:Int} (a:0≤pr) (b:0≤pb) (c:pb<16) (d:0≤pd) (e:pd<1024) (f:0≤pc) (g:pc<64):dD pr pb pd pc/1048576=pr∧dD pr pb pd pc/65536%16=pb∧dD pr pb pd pc/64%1024=pd∧dD pr pb pd pc%64=pc:=by unfold dD;omega
theorem eR {a b:Bool} (c:a=b):Ending.returned (.bool a)=E (.bool b):=by rw[c]
theorem aj (a b:Int) (w:Mr):Mt Y 81 #[I Z a,I Z b] w fun e c=>e=E (.bool (bel a b))∧w=c:=by
 by_cases c:0≤a
 ·go_in;go_wp2;go_ret;exact⟨eR (by simp[bel,c]),rfl⟩
 ·go_in;go_wp2;go_ret;exact⟨eR (by unfold bel;rw[show decide (0≤a)=false from by simp;omega];rfl),rfl⟩
theorem ak (n m:Int) (c:m≤1024) (w:Mr):Mt Y 117 #[I Z n,I Z m] w fun e a=>e=E (.bool (pw n m))∧w=a:=by
 by_cases a:1≤n
 ·by_cases b:n≤m
  ·go_in;go_wp2;go_ret;exact⟨eR (ZW n m a b c),rfl⟩
  ·go_in;go_wp2;go_ret;exact⟨eR (ZY n m (by omega)).symm,rfl⟩
 ·go_in;go_wp2;go_ret;exact⟨eR (ZX n m (by omega)).symm,rfl⟩
theorem iI (c:Mu W.heap.size W w1):(∀b a,b<W.heap.size→w1.cell? ⟨b,a,N⟩=W.cell? ⟨b,a,N⟩)∧(∀b a,b<W.heap.size→w1.frozen? ⟨b,a,N⟩=W.frozen? ⟨b,a,N⟩):=⟨fun b a d=>c.cell (p:=⟨b,a,N⟩) d,fun b a d=>c.frozen (p:=⟨b,a,N⟩) d⟩
theorem mJ (a:Mu (w.alloc o).heap.size (w.alloc o) w1):Mu w.heap.size w w1:=(Bl.alloc Nl _).trans (a.mono (by simp))
theorem vJ {p:Obj} (a:Mu ((w.alloc o).alloc p).heap.size ((w.alloc o).alloc p) w1):Mu w.heap.size w w1:=((Bl.alloc Nl _).alloc (by simp) _).trans (a.mono (by simp;omega))
theorem al {p q:Obj} (a:Mu (((w.alloc o).alloc p).alloc q).heap.size (((w.alloc o).alloc p).alloc q) w1):Mu w.heap.size w w1:=(((Bl.alloc Nl _).alloc (by simp) _).alloc (by simp;omega) _).trans (a.mono (by simp;omega))
theorem GS (a:Mu (w.alloc o).heap.size (w.alloc o) w1):w.heap.size<w1.heap.size:=by have:=a.size;simp at this;omega
theorem xC {p:Obj} (a:Mu ((w.alloc o).alloc p).heap.size ((w.alloc o).alloc p) w1):w.heap.size<w1.heap.size∧w.heap.size+1<w1.heap.size:=by have:=a.size;simp at this;omega
theorem GT {p q:Obj} (a:Mu (((w.alloc o).alloc p).alloc q).heap.size (((w.alloc o).alloc p).alloc q) w1):w.heap.size<w1.heap.size∧w.heap.size+1<w1.heap.size∧w.heap.size+1+1<w1.heap.size:=by have:=a.size;simp at this;omega
theorem vK (b:Mu w.heap.size w w1) (a:Mu w1.heap.size w1 w2):Mu w.heap.size w w2:=b.trans (a.mono b.size)
theorem GU (r s b d c:Int) (w:Mr):Mt Y 80 #[.agg #[I Z r,I Z s,I Z b,I Z d,I Z c]] w fun e l=>e=E (.bool (dF r s b d c))∧Mu w.heap.size w l:=by
 go_in;go_wp2_with(go_at_call 117;refine(ak _ _ (by omega) _).mono ?_;rintro e l ⟨rfl,rfl⟩);all_goals go_ret
 ·rename_i a f g h i j;exact⟨eR (OJ a f (by rw[←w8 a];exact g) h i j),Bl.alloc Nl _⟩
 ·rename_i a f g h i j;exact⟨eR (oU fun _ _ _ _ _ k=>j k).symm,Bl.alloc Nl _⟩
 ·rename_i a f g h i;exact⟨eR (oU fun _ _ _ _ k _=>i k).symm,Bl.alloc Nl _⟩
 ·rename_i a f g h;exact⟨eR (oU fun _ _ _ k _ _=>h k).symm,Bl.alloc Nl _⟩
 ·rename_i a f g;exact⟨eR (oU fun k _ m _ _ _=>by rw[w8 k]at g;omega).symm,Bl.alloc Nl _⟩
 ·rename_i a f;exact⟨eR (oU fun _ k _ _ _ _=>by omega).symm,Bl.alloc Nl _⟩
 ·rename_i a;exact⟨eR (oU fun k _ _ _ _ _=>a k).symm,Bl.alloc Nl _⟩
theorem sZ (r s b d c pr pb pd pc:Int) (w:Mr):Mt Y 49 #[.agg #[I Z r,I Z s,I Z b,I Z d,I Z c],.agg #[I Z pr,I Z pb,I Z pd,I Z pc]] w fun e j=>e=E (.bool (eY r s b d c pr pb pd pc))∧Mu w.heap.size w j:=by
 go_in
 go_wp2_with(first
  |(go_at_call 80;refine(GU _ _ _ _ _ _).mono ?_;rintro e k ⟨rfl,g⟩;obtain⟨l,m⟩:=iI g)
  |(go_at_call 81;refine(aj _ _ _).mono ?_;rintro e n ⟨rfl,rfl⟩))
 all_goals go_ret
 ·rename_i a f h i;refine⟨eR ?_,((Bl.alloc Nl _).alloc (by simp) _).trans (g.mono (by simp;omega))⟩;rw[ON a]at f;rw[zK a,f,h,i];rfl
 ·rename_i a f h i;refine⟨eR ?_,((Bl.alloc Nl _).alloc (by simp) _).trans (g.mono (by simp;omega))⟩;rw[Bool.not_eq_true]at i;rw[zK a,i];simp
 ·rename_i a f h;refine⟨eR ?_,((Bl.alloc Nl _).alloc (by simp) _).trans (g.mono (by simp;omega))⟩;rw[Bool.not_eq_true]at h;rw[zK a,h];simp
 ·rename_i a f;refine⟨eR ?_,((Bl.alloc Nl _).alloc (by simp) _).trans (g.mono (by simp;omega))⟩;rw[Bool.not_eq_true,ON a]at f;rw[zK a,f];simp
 ·rename_i a;exact⟨eR (OL a).symm,((Bl.alloc Nl _).alloc (by simp) _).trans (g.mono (by simp;omega))⟩
theorem rZ {k:IntKind} (c:a=b):Ending.returned (.int k a)=E (.int k b):=by rw[c]
theorem OO (pr pb pd pc:Int) (a:0≤pr) (b:pr<8) (c:0≤pb) (d:pb<16) (f:0≤pd) (g:pd<1024) (h:0≤pc) (i:pc<64) (w:Mr):Mt Y 178 #[.agg #[I Z pr,I Z pb,I Z pd,I Z pc]] w fun e j=>e=E (I Z (dD pr pb pd pc))∧Mu w.heap.size w j:=by go_in;go_wp2;go_ret;exact⟨rZ (ZZ a b c d f g h i),Bl.alloc Nl _⟩
theorem GV (i:Int) (w:Mr):Mt Y 48 #[I Z i] w fun e a=>e=E (.agg #[I Z (i/1048576),I Z (i/65536%16),I Z (i/64%1024),I Z (i%64)])∧Mu w.heap.size w a:=by go_in;go_wp2;rw[ZQ,ZT,ZR];exact My (v:=.agg #[I Z (i/1048576),I Z (i/65536%16),I Z (i/64%1024),I Z (i%64)]) (by simp[results,results48,go_sem]) rfl ⟨rfl,Bl.alloc Nl _⟩
theorem GW (r s b d c pr pb pd pc:Int) (w:Mr):Mt Y 133 #[.agg #[I Z r,I Z s,I Z b,I Z d,I Z c],.agg #[I Z pr,I Z pb,I Z pd,I Z pc]] w fun e a=>e=E (.tuple (bif eY r s b d c pr pb pd pc then#[I Z (dD pr pb pd pc),I Z 0]else#[I Z 0,I Z 12]))∧Mu w.heap.size w a:=by
 cases f:eY r s b d c pr pb pd pc
 ·have a:=sZ r s b d c pr pb pd pc;rw[f]at a;have h:=aA a;clear a f;go_in;go_wp2_with(go_at_call 49;refine(h.out _).mono ?_;rintro e i ⟨rfl,g⟩;obtain⟨j,k⟩:=iI g);go_ret2;exact⟨rfl,((Bl.alloc Nl _).alloc (by simp) _).trans (g.mono (by simp;omega))⟩
 ·have a:=sZ r s b d c pr pb pd pc
  rw[f]at a;have h:=aA a;obtain⟨l,m,n,o,p,q,t,u⟩:=OM f;clear a f;go_in
  go_wp2_with(first
   |(go_at_call 49;refine(h.out _).mono ?_;rintro e i ⟨rfl,g⟩;obtain⟨j,k⟩:=iI g)
   |(go_at_call 178;refine(OO _ _ _ _ l m n o p q t u _).mono ?_;rintro e f ⟨rfl,a⟩))
  go_ret2;exact⟨rfl,vK (vJ g) a⟩
structure aF (cw:Nat→Prop) (w w':Mr):Prop where
 os:w'.os=w.os
 tape:w'.tape=w.tape
 output:w'.output=w.output
 size:w.heap.size≤w'.heap.size
 block:∀k,k<w.heap.size→¬cw k→w'.heap[k]?=w.heap[k]?
theorem aF.refl (cw:Nat→Prop) (w:Mr):aF cw w w:=⟨rfl,rfl,rfl,Nl,fun _ _ _=>rfl⟩
theorem Cl {cw:Nat→Prop} {w:Mr}:aF cw w w:=aF.refl cw w
theorem aF.trans {cw:Nat→Prop} {a b c:Mr} (f:aF cw a b) (k:aF cw b c):aF cw a c:=⟨k.os.trans f.os,k.tape.trans f.tape,k.output.trans f.output,Ng f.size k.size,fun g d e=>(k.block g (Nj d f.size) e).trans (f.block g d e)⟩
theorem aF.next {cw cw':Nat→Prop} {a b c:Mr} (h:aF cw a b) (k:aF cw' b c) (i:∀g,cw' g→cw g∨a.heap.size≤g):aF cw a c:=
 ⟨k.os.trans h.os,k.tape.trans h.tape,k.output.trans h.output,Ng h.size k.size,fun g d e=>(k.block g (Nj d h.size) (fun j=>by
  rcases i g j with f|f
  ·exact e f
  ·omega)).trans (h.block g d e)⟩
theorem aF.mono {cw cw':Nat→Prop} {a b:Mr} (e:aF cw a b) (f:∀d,d<a.heap.size→cw d→cw' d):aF cw' a b:=⟨e.os,e.tape,e.output,e.size,fun d c g=>e.block d c fun h=>g (f d c h)⟩
theorem aF.alloc {cw:Nat→Prop} {a w:Mr} (c:aF cw a w) (o:Obj):aF cw a (w.alloc o):=c.trans ⟨rfl,rfl,rfl,by simp,fun d b _=>Mu.heap_alloc _ _ _ b⟩
theorem aF.setCell {cw:Nat→Prop} {a w:Mr} (d:aF cw a w) {p:Addr} (b:cw p.block∨a.heap.size≤p.block) (u:Ms):aF cw a (w.setCell p u):=d.next (cw':=fun c=>c=p.block) ⟨rfl,rfl,rfl,by simp[Mr.setCell],fun f _ c=>Mu.heap_setCell _ _ _ _ c⟩ fun c e=>by rw[e];exact b
theorem aF.putObj {cw:Nat→Prop} {a w:Mr} (d:aF cw a w) {l:Nat} (b:cw l∨a.heap.size≤l) (o:Obj):aF cw a (w.putObj l o):=d.next (cw':=fun c=>c=l) ⟨rfl,rfl,rfl,by simp,fun _ _ c=>Ok c⟩ fun c e=>by rw[e];exact b
theorem aF.drew {cw:Nat→Prop} {a w:Mr} (b:aF cw a w):aF cw a w.drew:=⟨b.os,b.tape,b.output,b.size,b.block⟩
theorem aF.drewN {cw:Nat→Prop} {a w:Mr} (b:aF cw a w) (n:Nat):aF cw a (w.drewN n):=⟨b.os,b.tape,b.output,b.size,b.block⟩
theorem aF.of_below {a w:Mr} (b:Mu a.heap.size a w) (cw:Nat→Prop):aF cw a w:=⟨b.os,b.tape,b.output,b.size,fun d c _=>b.block d c⟩
theorem aF.below {B:Nat} {cw:Nat→Prop} {a w:Mr} (b:aF cw a w) (e:B≤a.heap.size) (c:∀d,cw d→B≤d):Mu B a w:=⟨b.os,b.tape,b.output,b.size,fun f g=>b.block f (by omega) fun d=>by have:=c f d;omega⟩
theorem aF.cell {cw:Nat→Prop} {a w:Mr} (d:aF cw a w) {p:Addr} (b:p.block<a.heap.size) (c:¬cw p.block):w.cell? p=a.cell? p:=Mr.cell?_of_block (w:=a) (d.block p.block b c)
theorem aF.frozen {cw:Nat→Prop} {a w:Mr} (d:aF cw a w) {p:Addr} (b:p.block<a.heap.size) (c:¬cw p.block):w.frozen? p=a.frozen? p:=Mr.frozen?_of_block (w:=a) (d.block p.block b c)
variable {P:Program}
theorem am {n m l:Nat} {f:FuncId} {tmps:Array Ms} {a b:Code} {w:Mr} {R:Ending→Mr→Prop} (d:RoundIn Fence.wide n P l f tmps a b w R):RoundIn Fence.wide m P l f tmps a b w R:=⟨d.1,fun e c _=>d.2 e c (room_wide _)⟩
theorem DE {n m l:Nat} {args:Array Ms} {W:Mr} {R:Ending→Mr→Prop} (g:YieldAt Fence.wide n P l args W R):YieldAt Fence.wide m P l args W R:=by obtain⟨d,b,a,c,e,f⟩:=g;exact⟨d,b,a,c,e,am f⟩
def xD (P:Program) (g:Nat) (lb:Array Ms) (xs:List (Array Ms)) (mine:Nat→Prop) (W:Mr):Prop:=
 ∀(l:Nat) (cw:Nat→Prop) (J:Nat→Mr→Prop) (Jx:Mr→Prop),cw l→(∀b,cw b→b<W.heap.size∧¬mine b)→
  (∀k A B,J k A→aF (fun b=>mine b∨W.heap.size≤b) A B→J k B)→(∀A B,Jx A→aF (fun b=>mine b∨W.heap.size≤b) A B→Jx B)→
  (∀k x A m,xs[k]?=S x→J k A→W.heap.size≤A.heap.size→YieldAt Fence.wide m P l x A fun e A'=>aF cw A A'∧((e=E (.bool true)∧J (k+1) A')∨(e=E (.bool false)∧Jx A')))→
  J 0 W→
  Mt P g (#[.func (.yield l) #[] #[]]++lb) W fun e W'=>(∃v,e=E v)∧(J xs.length W'∨Jx W')
def sA (cw:Nat→Prop) (I:Nat→Mr→Prop) (Ix:Code→Mr→Prop) (k:Nat) (W:Mr):Exit→Act→Mr→Prop
 |.normal,_,W'=>aF cw W W'∧I k W'
 |.ret,_,W'=>aF cw W W'∧Ix .ret W'
 |.exit id,_,W'=>aF cw W W'∧Ix (.exit id) W'
 |.goto t,_,W'=>aF cw W W'∧Ix (.goto t) W'
 |.panic _,_,_=>False
 |.outgrown,_,_=>False
theorem ao {assign body:Code} {ps:Array Tmp} {a:Act} {x:Array Ms} {m l B k fn D:Nat} {cw:Nat→Prop} {I:Nat→Mr→Prop} {C:Code→Mr→Prop} {F:Nat→Act→Mr→Prop} {h:Nat→Prop}
 {f:LoopState→Option Code→Loop} (i:f=fun c d=>{state:=c,pending:=d,fn,tmps:=a.tmps,params:=ps,assign,body,defers:=D})
 (R:x.size=ps.size) (G:B≤l) (H:∀b,cw b→b<B∧¬h b)
 (hI:∀k d c,I k d→aF (fun b=>h b∨B≤b) d c→I k c) (z:∀g d c,C g d→aF (fun b=>h b∨B≤b) d c→C g c) (T:∀k g d c,F k g d→aF (fun b=>h b∨B≤b) d c→F k g c)
 {W:Mr} (hi:I k W) (Q:W.heap[l]?=S (.loop (f .ready N)))
 (s:assign.wpIn (Fence.wide.inRound l) m P (Exit.then (fun j c=>aF cw W c∧I k c∧F k j c) fun _ _ _=>False) {tmps:=(ps.zip x).foldl (fun t (c,d)=>t.setIfInBounds c d) a.tmps,defers:=[]} W)
 (A:∀j c,(∃d,c.heap[l]?=S (.loop d)∧d.defers=D)→W.heap.size≤c.heap.size→I k c→F k j c→body.wpIn (Fence.wide.inRound l) m P (sA cw I C (k+1) c) j c):
 YieldAt Fence.wide m P l x W fun e W'=>aF (fun b=>cw b∨b=l) W W'∧((e=E (.bool true)∧I (k+1) W'∧W'.heap[l]?=S (.loop (f .ready N)))∨(e=E (.bool false)∧∃g,C g W'∧W'.heap[l]?=S (.loop (f .done (S g))))):=by
 have J:l<W.heap.size:=(Nz.1 Q).1;have c:=run_yield (P:=P) (args:=x) Q (by rw[i];exact R);rw[i]at c;refine⟨fn,_,assign,body,c,roundIn_of_wpIn trivial (wpIn_mono s ?_)⟩;clear c;rintro e j c d;cases e with
 |normal=>
  obtain⟨u,U,V⟩:=d;have X:c.heap[l]?=S (.loop (f .ready N)):=(u.block l J fun g=>by have:=H l g;omega).trans Q;have y:l<c.heap.size:=Nj J u.size;refine⟨_,run_beginRound X (by rw[i]),?_⟩;have K:(c.putObj l (.loop {f .ready N with state:=.busy})).heap[l]?=S (.loop {f .ready N with state:=.busy}):=Mr.putObj_heap_same y;have L:aF (fun b=>h b∨B≤b) c (c.putObj l (.loop {f .ready N with state:=.busy})):=Cl.putObj (.inl (.inr G)) _;have M:aF (fun b=>cw b∨b=l) W (c.putObj l (.loop {f .ready N with state:=.busy})):=(u.mono fun _ _ g=>.inl g).putObj (.inl (.inr rfl)) _;refine wpIn_mono (A j _ ⟨_,K,by rw[i]⟩ (by simpa using u.size) (hI _ _ _ U L) (T _ _ _ _ V L)) ?_
  have v:∀(d:Option Code) (n:Mr),aF cw (c.putObj l (.loop {f .ready N with state:=.busy})) n→
   (Instr.endRound l d).run P n=.ok (.bool d.isNone) (n.putObj l (.loop (f (if d.isNone then .ready else .done) d)))∧
   (n.putObj l (.loop (f (if d.isNone then .ready else .done) d))).heap[l]?=S (.loop (f (if d.isNone then .ready else .done) d))∧
   aF (fun b=>h b∨B≤b) n (n.putObj l (.loop (f (if d.isNone then .ready else .done) d)))∧
   aF (fun b=>cw b∨b=l) W (n.putObj l (.loop (f (if d.isNone then .ready else .done) d))):=fun d n g=>by
   have o:=(g.block l (by simpa using y) fun g=>by have:=H l g;omega).trans K;have:=run_endRound (P:=P) d o;rw[i]at this ⊢;exact⟨this,Mr.putObj_heap_same (Nz.1 o).1,Cl.putObj (.inl (.inr G)) _,by rw[i]at M g;exact(M.trans (g.mono fun _ _ g=>.inl g)).putObj (.inl (.inr rfl)) _⟩
  rintro e a3 n d;cases e with
  |normal=>obtain⟨g,o⟩:=d;obtain⟨w,p,q,r⟩:=v N n g;exact⟨_,_,w,r,.inl ⟨rfl,hI _ _ _ o q,p⟩⟩
  |ret=>obtain⟨g,o⟩:=d;obtain⟨w,p,q,r⟩:=v (S .ret) n g;exact⟨_,_,w,r,.inr ⟨rfl,.ret,z _ _ _ o q,p⟩⟩
  |exit id=>obtain⟨g,o⟩:=d;obtain⟨w,p,q,r⟩:=v (S (.exit id)) n g;exact⟨_,_,w,r,.inr ⟨rfl,.exit id,z _ _ _ o q,p⟩⟩
  |goto t=>obtain⟨g,o⟩:=d;obtain⟨w,p,q,r⟩:=v (S (.goto t)) n g;exact⟨_,_,w,r,.inr ⟨rfl,.goto t,z _ _ _ o q,p⟩⟩
  |panic ch=>exact d.elim
  |outgrown=>exact d.elim
 |ret=>exact d.elim
 |exit id=>exact d.elim
 |goto t=>exact d.elim
 |panic ch=>exact d.elim
 |outgrown=>exact d.elim
theorem ap {g:Operand} {ps:Array Tmp} {assign body:Code} {Q:Exit→Act→Mr→Prop} {a:Act} {w:Mr} (n m:Nat)
 {gf:Nat} {lb:Array Ms} (hg:a.eval g=.func (.func gf) #[] lb) (eg:∀args w,(callFunc gf args).run P w=.ok (.enter gf args) w)
 (xs:List (Array Ms)) (c:Nat→Prop) (p:∀b,c b→b<w.heap.size) (R:∀h,Mu w.heap.size w h→xD P gf lb xs c h) (X:∀(k:Nat) V,xs[k]?=S V→V.size=ps.size)
 (cw:Nat→Prop) (x:∀b,cw b→b<w.heap.size∧¬c b)
 (I:Nat→Mr→Prop) (A:Code→Mr→Prop) (H:Nat→Act→Mr→Prop)
 (J:∀k T i,I k T→aF (fun b=>c b∨w.heap.size≤b) T i→I k i) (y:∀G T i,A G T→aF (fun b=>c b∨w.heap.size≤b) T i→A G i) (aa:∀k d T i,H k d T→aF (fun b=>c b∨w.heap.size≤b) T i→H k d i) (h0:I 0 w)
 (v:∀l k V W,xs[k]?=S V→w.heap.size≤l→w.heap.size<W.heap.size→I k W→assign.wpIn (Fence.wide.inRound l) m P (Exit.then (fun d i=>aF cw W i∧I k i∧H k d i) fun _ _ _=>False) {tmps:=(ps.zip V).foldl (fun t (f,d)=>t.setIfInBounds f d) a.tmps,defers:=[]} W)
 (C:∀l k V d W,xs[k]?=S V→w.heap.size≤l→w.heap.size<W.heap.size→(∃f,W.heap[l]?=S (.loop f)∧f.defers=w.heap.size)→I k W→H k d W→body.wpIn (Fence.wide.inRound l) m P (sA cw I A (k+1) W) d W)
 (D:∀d W,w.heap.size≤d→I xs.length W→W.heap[d]?=S (.deferred (S []))→Q .normal {a with defers:={target:=.collected d,args:=#[]}::a.defers} W)
 (F:∀d G W,w.heap.size≤d→A G W→W.heap[d]?=S (.deferred (S []))→G.wpIn Fence.wide n P Q {a with defers:={target:=.collected d,args:=#[]}::a.defers} W):
 (Code.rangeFunc g ps assign body).wpIn Fence.wide n P Q a w:=by
 refine wpIn_rangeFunc ?_;intro fn _;obtain⟨j,f⟩:∃j:LoopState→Option Code→Loop,j=fun d h=>{state:=d,pending:=h,fn,tmps:=a.tmps,params:=ps,assign,body,defers:=w.heap.size}:=⟨_,rfl⟩;have⟨h,s⟩:=Ey ((w.alloc (.deferred (S []))).alloc (.loop (j .ready N)));have ab:h.heap[w.heap.size+1]?=S (.loop (j .ready N)):=by rw[←s];have:=Mr.alloc_heap_new (w.alloc (.deferred (S []))) (.loop (j .ready N));rwa [Mr.size_alloc]at this
 have ad:h.heap[w.heap.size]?=S (.deferred (S [])):=by rw[←s];exact(Mu.heap_alloc _ _ _ (by simp)).trans (Mr.alloc_heap_new w _)
 have an:h.heap.size=w.heap.size+1+1:=by rw[←s];simp
 have K:Mu w.heap.size w h:=by rw[←s];exact((Mu.refl _ w).alloc Nl _).alloc (by simp) _
 have ae:I 0 h:=J _ _ _ h0 (aF.of_below K _);refine⟨w.heap.size+1,[{target:=.collected w.heap.size,args:=#[]}],h,{target:=.fn (.func gf) lb,args:=#[.func (.yield (w.heap.size+1)) #[] #[]]},h,gf,#[.func (.yield (w.heap.size+1)) #[] #[]]++lb,h,?_,?_,?_,?_,fun u=>by simp[Fence.wide]at u,?_⟩
 ·rw[←s,f];exact run_enterLoop_outer _ _ _ _ _
 ·simp only[resolve,hg];simp[go_sem]
 ·intro d _;trivial
 ·simp[invoke,go_sem,eg]
 ·refine Nk.2 ((R h K (w.heap.size+1) (fun b=>cw b∨b=w.heap.size+1)
   (fun k W=>I k W∧W.heap[w.heap.size+1]?=S (.loop (j .ready N))∧W.heap[w.heap.size]?=S (.deferred (S []))∧w.heap.size<W.heap.size)
   (fun W=>∃G,A G W∧W.heap[w.heap.size+1]?=S (.loop (j .done (S G)))∧W.heap[w.heap.size]?=S (.deferred (S [])))
   (.inr rfl) ?_ ?_ ?_ ?_ ⟨ae,ab,ad,by omega⟩).mono ?_)
  ·rintro b (u|rfl)
   ·have:=x b u;exact⟨by omega,this.2⟩
   ·exact⟨by omega,fun u=>by have:=p _ u;omega⟩
  ·rintro k T B ⟨r,q,o,L⟩ d
   have i:∀z,z≤w.heap.size+1→w.heap.size≤z→¬(c z∨h.heap.size≤z):=fun z M h2 u=>by
    rcases u with u|u
    ·have:=p _ u;omega
    ·omega
   exact⟨J _ _ _ r (d.mono fun z _ u=>u.imp id fun u=>by omega),(d.block _ (Nz.1 q).1 (i _ Nl (by omega))).trans q,(d.block _ (Nz.1 o).1 (i _ (by omega) Nl)).trans o,Nj L d.size⟩
  ·rintro T B ⟨G,r,q,o⟩ d
   have i:∀z,z≤w.heap.size+1→w.heap.size≤z→¬(c z∨h.heap.size≤z):=fun z M h2 u=>by
    rcases u with u|u
    ·have:=p _ u;omega
    ·omega
   exact⟨G,y _ _ _ r (d.mono fun z _ u=>u.imp id fun u=>by omega),(d.block _ (Nz.1 q).1 (i _ Nl (by omega))).trans q,(d.block _ (Nz.1 o).1 (i _ (by omega) Nl)).trans o⟩
  ·rintro k V W m' U ⟨r,q,o,L⟩ _
   refine YieldAt.mono (DE (n:=m) (ao (k:=k) f (X _ _ U) (by omega) x J y aa r q (v _ k V W U (by omega) L r) fun d i M h2 u z=>C _ k V d i U (by omega) (by omega) M u z)) ?_;rintro e i ⟨d,T⟩
   have M:i.heap[w.heap.size]?=S (.deferred (S [])):=(d.block _ (Nz.1 o).1 (fun u=>by
    rcases u with u|u
    ·have:=x _ u;omega
    ·omega)).trans o
   refine⟨d,?_⟩;rcases T with⟨rfl,u,z⟩|⟨rfl,G,u,z⟩
   ·exact .inl ⟨rfl,u,z,M,Nj L d.size⟩
   ·exact .inr ⟨rfl,G,u,z,M⟩
  ·rintro e i ⟨⟨d,rfl⟩,(⟨r,q,o,_⟩|⟨G,r,q,o⟩)⟩
   ·refine⟨N,_,by have:=run_endLoop (P:=P) q (by rw[f];simp);rw[f]at this;exact this,D _ _ Nl (J _ _ _ r (Cl.putObj (.inl (.inr (by omega))) _)) ((Ok (by omega)).trans o)⟩
   ·refine⟨S G,_,by have:=run_endLoop (P:=P) q (by rw[f];simp);rw[f]at this;exact this,F _ G _ Nl (y _ _ _ r (Cl.putObj (.inl (.inr (by omega))) _)) ((Ok (by omega)).trans o)⟩
def aC (w w':Mr):Prop:=Mu w.heap.size w w'
theorem aC.next (b:aC w w1) (a:Mu w1.heap.size w1 w2):aC w w2:=Mu.trans b (a.mono b.size)
theorem aC.cells (c:aC W w1):(∀b a,b<W.heap.size→w1.cell? ⟨b,a,N⟩=W.cell? ⟨b,a,N⟩)∧(∀b a,b<W.heap.size→w1.frozen? ⟨b,a,N⟩=W.frozen? ⟨b,a,N⟩):=⟨fun b a d=>Mu.cell (p:=⟨b,a,N⟩) c d,fun b a d=>Mu.frozen (p:=⟨b,a,N⟩) c d⟩
theorem aC.call {f:FuncId} {args:Array Ms} (b:aC w w') (g:Mt P f args w' fun e a=>e=E v∧Mu w'.heap.size w' a):Mt P f args w' fun e a=>e=E v∧aC w a:=g.mono fun _ _ ⟨c,d⟩=>⟨c,b.next d⟩
theorem aC.same {f:FuncId} {args:Array Ms} (b:aC w w') (g:Mt P f args w' fun e a=>e=E v∧w'=a):Mt P f args w' fun e a=>e=E v∧aC w a:=g.mono fun _ _ ⟨c,d⟩=>⟨c,d▸b⟩
theorem bS {id:Nat} {Q:Exit→Act→Mr→Prop} {a:Act} {l:List Oper} (c:P.follows .mixedOrders=true) (d:Region.lexB .any l.toArray=true)
 (f:wpQuiet P l.toArray (aC w) (fun e=>∀b,aC w b→Q .normal e b) l a):(Code.region id l.toArray true).wp P Q a w:=
 wp_region_quiet (C:=aC w) c d (show Mu w.heap.size w _ from(Mu.refl _ w).drew) (by simpa using f)
theorem aV (w:Mr) (o:Obj) (i:Nat) (a:i<w.heap.size):(w.alloc o).heap[i]?=w.heap[i]?:=by show(w.heap.push o)[i]?=_;rw[Array.getElem?_push,Fn (by omega)]
theorem aG (w:Mr) (o:Obj) (n:Nat) (a:n=w.heap.size):(w.alloc o).heap[n]?=S o:=by subst a;show(w.heap.push o)[w.heap.size]?=_;simp
theorem aE (b:aC w w') (a:w.heap[g]?=S o):w'.heap[g]?=S o:=(RowKit.Below.block b g (Nz.1 a).1).trans a
theorem aB (a:w.heap[g]?=S o):g<w.heap.size:=(Nz.1 a).1
theorem aJ (b:aF cw w w') (a:w.heap[g]?=S o) (c:¬cw g):w'.heap[g]?=S o:=(b.block g (aB a) c).trans a
def eV (W:Mr) (base:Nat) (v:Ms) (L:List Int):Prop:=W.ownsRow base 3 1 v L.length (L.map (I Z))
theorem eV.nil (W:Mr) (base:Nat):eV W base (.slice N 0 0) []:=Mr.ownsRow_nil _ _ _ _
theorem eV.cases {base:Nat} {L:List Int} (k:eV W base v L):(v=.slice N 0 0∧L=[])∨∃b a,v=.slice (S ⟨b,0,N⟩) L.length a∧base≤b∧b<W.heap.size∧L.length≤a∧a≤maxLen∧∀c,c<L.length→W.cell? ⟨b,c,N⟩=S (I Z (L.getD c 0)):=by
 obtain⟨l,⟨rfl,d⟩|⟨b,a,j,rfl,e,f,g,h,m,n⟩⟩:=id k
 ·exact .inl ⟨rfl,List.eq_nil_of_length_eq_zero d⟩
 ·refine .inr ⟨b,a,rfl,e,(Nz.1 f).1,g,h,fun c i=>?_⟩;rw[k.cellAt c (by omega)];simp[Mx,i]
theorem eV.mono {base a:Nat} {L:List Int} (i:eV W base v L) (g:a≤base):eV W a v L:=by
 obtain⟨e,⟨rfl,f⟩|⟨j,c,d,rfl,h,b⟩⟩:=i
 ·exact⟨e,.inl ⟨rfl,f⟩⟩
 ·exact⟨e,.inr ⟨j,c,d,rfl,by omega,b⟩⟩
theorem eV.chg {base:Nat} {L:List Int} (k:eV W base v L) (f:aF cw W W') (g:∀h,cw h→h<base):eV W' base v L:=by
 obtain⟨d,⟨rfl,i⟩|⟨h,b,c,rfl,j,e,a⟩⟩:=k
 ·exact⟨d,.inl ⟨rfl,i⟩⟩
 ·exact⟨d,.inr ⟨h,b,c,rfl,j,(f.block h (Nz.1 e).1 (fun k=>by have:=g _ k;omega)).trans e,a⟩⟩
theorem eV.keeps {base:Nat} {L:List Int} (b:eV W base v L) (a:aC W W'):eV W' base v L:=b.chg (aF.of_below a fun _=>False) fun _ b=>b.elim
theorem eV.slice {base:Nat} {L:List Int} (b:eV W base v L):∃c a,v=.slice c L.length a:=by
 rcases b.cases with⟨rfl,rfl⟩|⟨d,a,rfl,_⟩
 ·exact⟨_,_,rfl⟩
 ·exact⟨_,_,rfl⟩
theorem eV.own {base:Nat} {L:List Int} (c:eV W base v L):∀a,v.ownBlock=S a→base≤a∧a<W.heap.size:=fun a b=>Mr.ownsRow.lt c a b
theorem eV.push {base:Nat} {L:List Int} {x:Int} (a:W.ownsRow base 3 1 v (L.length+1) (L.map (I Z)++[I Z x])):eV W base v (L++[x]):=by unfold eV;rw[Nr,List.map_append];exact a
theorem eS {a:Option Nat} (b:W.grownBy W' a) (d:W.heap[g]?=S o) (c:S g≠a):W'.heap[g]?=S o:=(b.block g (aB d) c).trans d
theorem K.refl (w:Mr):aC w w:=Mu.refl _ _
theorem K.alloc (a:aC w w1) (o:Obj):aC w (w1.alloc o):=Mu.alloc a a.size o
theorem K.set (b:aC w w1) {p:Addr} (a:w.heap.size≤p.block) (v:Ms):aC w (w1.setCell p v):=Mu.setCell b a v
theorem K.drew (a:aC w w1):aC w w1.drew:=Mu.drew a
theorem K.call (b:aC w w1) (a:Mu w1.heap.size w1 w2):aC w w2:=vK b a
structure nH (K:Nat→Prop) (col:Nat→Nat) (w:Mr) (col':Nat→Nat) (w':Mr):Prop where
 old:∀b,b<w.heap.size→col' b=col b
 new:∀b,w.heap.size≤b→K (col' b)
 chg:aF (fun b=>K (col b)) w w'
theorem nH.refl {K:Nat→Prop} {col:Nat→Nat} (a:∀b,w.heap.size≤b→K (col b)):nH K col w col w:=⟨fun _ _=>rfl,a,aF.refl _ _⟩
theorem nH.size {K:Nat→Prop} {col a:Nat→Nat} (b:nH K col w a w'):w.heap.size≤w'.heap.size:=b.chg.size
theorem nH.trans {K:Nat→Prop} {d c1 c2:Nat→Nat} {w0:Mr} (e:nH K d w0 c1 w1) (g:nH K c1 w1 c2 w2):nH K d w0 c2 w2:=by
 refine⟨fun b a=>(g.old b (Nj a e.size)).trans (e.old b a),fun b a=>?_,?_⟩
 ·by_cases c:b<w1.heap.size
  ·rw[g.old b c];exact e.new b a
  ·exact g.new b (by omega)
 ·refine e.chg.next g.chg fun b a=>?_
  by_cases c:b<w0.heap.size
  ·left;rw[←e.old b c];exact a
  ·right;omega
theorem nH.mono {K K':Nat→Prop} {c d:Nat→Nat} (f:nH K c w d w') (e:∀a,K a→K' a):nH K' c w d w':=⟨f.old,fun b a=>e _ (f.new b a),f.chg.mono fun b _ a=>e _ a⟩
def zO (col:Nat→Nat) (n k:Nat):Nat→Nat:=fun b=>if b<n then col b else k
theorem aq {col:Nat→Nat} {b:Nat} (a:b<n):zO col n k b=col b:=by unfold zO;rw[if_pos a]
theorem au {col:Nat→Nat} {b:Nat} (a:n≤b):zO col n k b=k:=by unfold zO;rw[if_neg (by omega)]
theorem nH.keeps {K:Nat→Prop} {col:Nat→Nat} (d:aC w w') (k:Nat) (c:K k):nH K col w (zO col w.heap.size k) w':=⟨fun b a=>aq a,fun b a=>by rw[au a];exact c,aF.of_below d _⟩
def mK (J:Nat→Prop) (Q:(Nat→Nat)→Mr→Prop):Prop:=∀(c c':Nat→Nat) (W W':Mr),Q c W→(∀b,b<W.heap.size→J (c b)→W'.heap[b]?=W.heap[b]?∧c' b=c b)→Q c' W'
theorem mK.op {i K:Nat→Prop} {Q:(Nat→Nat)→Mr→Prop} (f:mK i Q) {c a:Nat→Nat} (j:Q c w) (d:nH K c w a w') (g:∀e,i e→¬K e):Q a w':=f c a w w' j fun b e h=>⟨d.chg.block b e (g _ h),d.old b e⟩
theorem mK.and {f:Nat→Prop} {Q R:(Nat→Nat)→Mr→Prop} (c:mK f Q) (d:mK f R):mK f (fun e W=>Q e W∧R e W):=fun e a W W' g b=>⟨c e a W W' g.1 b,d e a W W' g.2 b⟩
theorem mK.mono {i c:Nat→Prop} {Q:(Nat→Nat)→Mr→Prop} (d:mK i Q) (j:∀a,i a→c a):mK c Q:=fun k e W W' f g=>d k e W W' f fun b a h=>g b a (j _ h)
theorem mK.ex {b:Sort _} {g:Nat→Prop} {Q:b→(Nat→Nat)→Mr→Prop} (c:∀a,mK g (Q a)):mK g (fun f W=>∃a,Q a f W):=fun f d W W' ⟨a,h⟩ e=>⟨a,c a f d W W' h e⟩
theorem mK.pure {a:Nat→Prop} (p:Prop):mK a (fun _ _=>p):=fun _ _ _ _ b _=>b
def DF (k b:Nat) (cs:Array Ms) (t:Nat) (c:Nat→Nat) (W:Mr):Prop:=c b=k∧W.heap[b]?=S (O cs t (0,0))
theorem DF.loc (k b:Nat) (cs:Array Ms) (t:Nat):mK (fun a=>a=k) (DF k b cs t):=fun g f W W' e a=>by obtain⟨c,d⟩:=a b (aB e.2) e.1;exact⟨d.trans e.1,c.trans e.2⟩
theorem DF.lt {b:Nat} {cs:Array Ms} {t:Nat} {c:Nat→Nat} (a:DF k b cs t c W):b<W.heap.size:=aB a.2
theorem Kr:aC w w:=K.refl w
theorem Ka (a:aC w w1):aC w (w1.alloc o):=K.alloc a o
theorem Kc (b:aC w w1) (a:Mu w1.heap.size w1 w2):aC w w2:=K.call b a
theorem Kd (a:aC w w1):aC w w1.drew:=K.drew a
theorem Ks {p:Addr} (b:aC w w1) (a:w.heap.size≤p.block):aC w (w1.setCell p v):=K.set b a v
theorem aU {a:Obj}:aC w (w.alloc a):=K.alloc (K.refl w) _
theorem gH {a:Obj} {b:Obj}:aC w ((w.alloc a).alloc b):=K.alloc (K.alloc (K.refl w) _) _
theorem kS {a:Obj} {b:Obj} {c:Obj}:aC w (((w.alloc a).alloc b).alloc c):=K.alloc (K.alloc (K.alloc (K.refl w) _) _) _
theorem zQ {a:Obj} {b:Obj} {c:Obj} {d:Obj}:aC w ((((w.alloc a).alloc b).alloc c).alloc d):=K.alloc (K.alloc (K.alloc (K.alloc (K.refl w) _) _) _) _
theorem aw {a:Obj} {b:Obj} {c:Obj} {d:Obj} {e:Obj}:aC w (((((w.alloc a).alloc b).alloc c).alloc d).alloc e):=K.alloc (K.alloc (K.alloc (K.alloc (K.alloc (K.refl w) _) _) _) _) _
structure bP (t sz:Nat) (v:Ms) (L:List (List Ms)) (W:Mr):Prop where
 own:W.ownsRow 0 t sz v L.length L.flatten
 each:∀x∈L,x.length=sz
theorem bP.nil (t a:Nat) (W:Mr):bP t a (.slice N 0 0) [] W:=⟨Mr.ownsRow_nil _ _ _ _,by simp⟩
theorem GX {a:Nat}:∀(L:List (List Ms)),(∀d∈L,d.length=a)→∀(j i:Nat),j<L.length→i<a→L.flatten[a*j+i]?=(L.getD j [])[i]?
 |[],_,j,i,k,_=>by simp at k
 |d::L,b,0,i,_,c=>by have:=b d (by simp);simp[List.getElem?_append_left (show i<d.length by omega)]
 |d::L,b,j+1,i,f,c=>by
  have g:=b d (by simp);have e:a*(j+1)+i=d.length+(a*j+i):=by rw[Nat.mul_add,g];omega
  rw[List.flatten_cons,e,List.getElem?_append_right (by omega),Nat.add_sub_cancel_left,GX L (fun l h=>b l (by simp[h])) j i (by simp at f;omega) c];rfl
theorem bP.cases {t a:Nat} {L:List (List Ms)} (f:bP t a v L W):(v=.slice N 0 0∧L=[])∨∃j b,v=.slice (S ⟨j,0,N⟩) L.length b∧j<W.heap.size∧L.length≤b∧b≤maxLen∧
 ∀c g r,c<L.length→g<a→(L.getD c [])[g]?=S r→W.cell? ⟨j,a*c+g,N⟩=S r:=by
 obtain⟨⟨s,⟨rfl,k⟩|⟨j,b,d,rfl,u,h,l,m,w,n⟩⟩,o⟩:=f
 ·exact .inl ⟨rfl,List.eq_nil_of_length_eq_zero k⟩
 ·refine .inr ⟨j,b,rfl,(Nz.1 h).1,l,m,fun c g r i p q=>?_⟩
  rw[Cw h _];have f:a*c+g<L.length*a:=by have:a*(c+1)≤a*L.length:=Nat.mul_le_mul_left _ i;rw[Nat.mul_add,Nat.mul_comm a L.length]at this;omega
  have e:L.flatten[a*c+g]?=d[a*c+g]?:=by rw[←n,List.getElem?_take_of_lt f];simp
  rw[←e,GX L o c g i p,q]
theorem bP.slice {t b:Nat} {L:List (List Ms)} (c:bP t b v L W):∃d a,v=.slice d L.length a:=by
 rcases c.cases with⟨rfl,rfl⟩|⟨e,a,rfl,_⟩
 ·exact⟨_,_,rfl⟩
 ·exact⟨_,_,rfl⟩
theorem bP.lt {t a:Nat} {L:List (List Ms)} (d:bP t a v L W):∀c,v.ownBlock=S c→c<W.heap.size:=fun c b=>(Mr.ownsRow.lt d.own c b).2
theorem bP.same {t d:Nat} {L:List (List Ms)} (l:bP t d v L W) (h:∀g,v.ownBlock=S g→W'.heap[g]?=W.heap[g]?):bP t d v L W':=by
 obtain⟨⟨e,⟨rfl,i⟩|⟨g,b,c,rfl,j,k,a⟩⟩,f⟩:=l
 ·exact⟨⟨e,.inl ⟨rfl,i⟩⟩,f⟩
 ·exact⟨⟨e,.inr ⟨g,b,c,rfl,j,(h g rfl).trans k,a⟩⟩,f⟩
theorem bP.chg {t a:Nat} {L:List (List Ms)} (f:bP t a v L W) (d:aF cw W W') (e:∀c,v.ownBlock=S c→¬cw c):bP t a v L W':=f.same fun c b=>d.block c (f.lt c b) (e c b)
theorem bP.keeps {t a:Nat} {L:List (List Ms)} (c:bP t a v L W) (b:aC W W'):bP t a v L W':=c.chg (aF.of_below b fun _=>False) fun _ _ c=>c
theorem bP.push {t b:Nat} {v':Ms} {L:List (List Ms)} {x:List Ms} (e:bP t b v L W) (c:x.length=b) (d:W'.ownsRow 0 t b v' (L.length+1) (L.flatten++x)):bP t b v' (L++[x]) W':=by
 refine⟨by rw[Nr,List.flatten_append];simpa using d,fun f a=>?_⟩;rcases List.mem_append.1 a with a|a
 ·exact e.each f a
 ·simp at a;subst a;exact c
theorem lL (w:Mr) (b off:Nat) (cs:List Ms) (e:∀a c,cs[a]?=S c→w.cell? ⟨b,off+a,N⟩=S c):(Mc ⟨b,off,N⟩ 0 cs.length #[]).run P w=.ok cs.toArray w:=by
 unfold Mc
 have:=run_loadCells_list (P:=P) w ⟨b,off,N⟩ cs (fun d f c=>by
  have a:(⟨b,off,N⟩:Addr).add d=⟨b,off+d,N⟩:=by unfold Addr.add;split<;>simp_all
  rw[a,e d f c])
 simpa[loadCells]using this
section
variable {P:Program} {ops:Array Oper} {C:World→Prop} {Q:Exit→Act→World→Prop} {md:Region.Mode} {n m s:Nat}
def lU (md:Region.Mode) (ops:Array Oper):Nat→Nat→Nat→Bool
 |0,_,_=>false
 |fuel+1,j,i=>match ops[j]? with
  |none=>false
  |some o=>o.after.any fun e=>Region.binds md e&&(e.on==i||lU md ops fuel e.on i)
def iP (md:Region.Mode) (ops:Array Oper) (listed:Array Bool):Prop:=∀j o,ops[j]?=S o→listed.getD j false=true→∀e∈o.after,Region.binds md e=true→listed.getD e.on false=true
theorem vL {a:Array Bool} (d:iP md ops a) {i:Nat}:∀(fuel j:Nat) (o:Oper),ops[j]?=S o→(∀e∈o.after,Region.binds md e=true→a.getD e.on false=true)→lU md ops fuel j i=true→a.getD i false=true
 |0,_,_,_,_,c=>by simp[lU]at c
 |fuel+1,j,o,m,g,c=>by
  unfold lU at c;rw[m]at c;simp only[Array.any_eq_true']at c;obtain⟨e,h,b⟩:=c;simp only[Nq,Bool.or_eq_true,beq_iff_eq]at b;obtain⟨k,rfl|c⟩:=b
  ·exact g e h k
  ·cases b:ops[e.on]? with
   |none=>
    cases fuel with
    |zero=>simp[lU]at c
    |succ f=>unfold lU at c;rw[b]at c;cases c
   |some l=>exact vL d fuel e.on l b (d e.on l b (g e h k)) c
theorem oE {a:Array Bool} (k:iP md ops a) {i:Nat} (l:i∈Region.ready md ops a):iP md ops (a.setIfInBounds i true):=by
 intro n p d g e h j;obtain⟨m,o,f,c⟩:=mem_ready.1 l;by_cases b:n=i
 ·subst b;rw[f]at d;cases d;exact getD_set_true (c e h j)
 ·rw[getD_set_ne false (Ne.symm b)]at g;exact getD_set_true (k n p d g e h j)
theorem ax {o:Oper} {a:Act} {K:Act→Prop} {K':Act→Mr→Prop} {j:Exit→Act→Mr→Prop} {w:Mr} (g:C w) (k:∀a d,C d→K a→K' a d) (b:o.quiet P a C K):o.wpIn Fence.wide n P a w K' j:=by
 obtain⟨t,l,h⟩:=b;have b:=l w g;unfold Oper.quietAt at b;unfold Oper.wpIn;refine⟨fun _ _=>trivial,?_⟩;rw[show Fence.wide.round=N from rfl,Oper.semAt_none];generalize(execOp a.eval o).run P w=s at*;cases s with
 |ok r d=>
  cases r<;>simp only[Oper.quietUpon]at b<;>simp only[Oper.uponIn];case value u=>obtain⟨c,i⟩:=b;rw[c,i];exact k _ _ g h
  case skip=>obtain⟨c,i⟩:=b;rw[c,←i];exact k _ _ g h
  case enter f i=>obtain⟨c,m⟩:=b;rw[c];exact⟨fun k=>by simp[Fence.wide]at k,(Nk.2 m).mono fun e q ⟨p,b⟩=>by subst p;exact k _ _ b h⟩
 |halt r d=>simp only[Oper.quietUpon]at b
theorem ay {i:Nat} {a:Act} {K:Act→Prop} {K':Act→Mr→Prop} {g:Exit→Act→Mr→Prop} {w:Mr} (c:C w) (h:∀a f,C f→K a→K' a f) (b:qOp P ops C i K a):wpOpIn Fence.wide n P ops g i K' a w:=by
 unfold qOp at b;unfold wpOpIn;split
 ·rename_i d;simp only[d]at b;exact h _ _ c b
 ·rename_i j d
  simp only[d]at b;split
  ·rename_i e;simp only[e,if_true]at b;exact ax c h b
  ·rename_i e;simp only[e]at b;exact⟨fun _ _=>trivial,h _ _ c b⟩
def zU (P:Program) (md:Region.Mode) (ops:Array Oper) (C:Mr→Prop) (Q:Exit→Act→Mr→Prop) (n m s:Nat):Nat→Array Bool→Act→Prop
 |0,listed,a=>(∀j,j<m→listed.getD j false=true)∧∀w,C w→wpAnyIn Fence.wide n P md ops Q s listed a w
 |fuel+1,listed,a=>Region.ready md ops listed≠[]∧∀i∈Region.ready md ops listed,i<m∧qOp P ops C i (zU P md ops C Q n m s fuel (listed.setIfInBounds i true)) a
theorem OP:∀(fuel:Nat) (b:Array Bool) (a:Act) (w:Mr),C w→zU P md ops C Q n m s fuel b a→wpAnyIn Fence.wide n P md ops Q (s+fuel) b a w
 |0,_,_,w,c,j=>j.2 w c
 |fuel+1,b,a,w,c,j=>⟨fun e=>absurd e j.1,fun k f=>ay c (fun g h d i=>OP fuel _ g h d i) (j.2 k f).2⟩
theorem lV {a:Array Bool} {i:Nat} (e:i∈Region.ready md ops a) (b:a.getD i false=true):False:=by
 have d:=(mem_ready.1 e).1;rcases Nat.lt_or_ge i a.size with c|c
 ·simp[c]at d b;rw[d]at b;cases b
 ·simp[Array.getElem?_eq_none c]at b
theorem az {i:Nat} {u:Oper} {v:Ms} (T:i<m) (F:ops[i]?=S u) (w:∀j,m≤j→j<ops.size→lU md ops ops.size j i=true) (x:∀(j:Nat) (o:Oper) t b,ops[j]?=S o→o.op≠.select t b):∀(fuel:Nat) (c:Array Bool) (a:Act),iP md ops c→
                                                                                                                                                                     (∀j l,ops[j]?=S l→j≠i→c.getD j true=false→(∀e∈l.after,Region.binds md e=true→e.on≠i)→u.apart ops l=true)→
                                                                                                                                                                     i∈Region.ready md ops c→YieldsIn P ops C u v a→
                                                                                                                                                                     zU P md ops C Q n m s fuel (c.setIfInBounds i true) (a.put u.dst v)→zU P md ops C Q n m s (fuel+1) c a:=by
 intro fuel
 induction fuel with
 |zero=>
  intro c a h g p A H;refine⟨fun U=>(by rw[U]at p;cases p),fun j y=>?_⟩;obtain⟨q,l,d,k⟩:=mem_ready.1 y;have r:j<m:=by refine Nat.lt_of_not_le fun t=>lV p (vL h _ j l d k (w j t (Nz.1 d).1))
  refine⟨r,?_⟩;by_cases f:j=i
  ·subst f;exact A.qOp F H
  ·have:=H.1 j r;rw[getD_set_ne false (Ne.symm f)]at this;exact(lV y this).elim
 |succ fuel K=>
  intro c a h g p A H;refine⟨fun U=>(by rw[U]at p;cases p),fun j y=>?_⟩;obtain⟨q,l,d,k⟩:=mem_ready.1 y;have r:j<m:=by refine Nat.lt_of_not_le fun t=>lV p (vL h _ j l d k (w j t (Nz.1 d).1))
  refine⟨r,?_⟩;by_cases f:j=i
  ·subst f;exact A.qOp F H
  ·have L:=(H.2 j (ready_mono y f)).2
   have D:∀e∈l.after,Region.binds md e=true→e.on≠i:=fun e z B t=>lV p (t▸k e z B);have M:=qOp_put d (g j l d f q D) (fun t b=>x i u t b F) (fun t b=>x j l t b d) A L
   have t:∀J ok,ops[J]?=S ok→J≠i→(c.setIfInBounds j true).getD J true=false→
    (∀e∈ok.after,Region.binds md e=true→e.on≠i)→u.apart ops ok=true:=fun J ok R B z G=>by
    refine g J ok R B ?_ G;by_cases B:j=J
    ·subst B;exact q
    ·rw[getD_set_ne true B]at z;exact z
   refine qOp_mono (fun B z=>K (c.setIfInBounds j true) B (oE h y) t (ready_mono p (Ne.symm f)) z.1 ?_) M;rw[Array.setIfInBounds_comm _ _ f];exact z.2
def A3 (md:Region.Mode) (ops:Array Oper) (m:Nat):Nat→Nat→Array Bool→Bool
 |0,_,listed=>(Nf m).all fun j=>listed.getD j false
 |c+1,k,listed=>(Region.ready md ops listed).contains k&&Region.free md ops listed k&&((Nf ops.size).all fun j=>decide (j<m)||lU md ops ops.size j k)&&A3 md ops m c (k+1) (listed.setIfInBounds k true)
def A7 (md:Region.Mode) (ops:Array Oper):Nat→Nat→Array Bool→Bool
 |0,_,listed=>(Region.ready md ops listed).isEmpty
 |s+1,k,listed=>Region.ready md ops listed==[k]&&A7 md ops s (k+1) (listed.setIfInBounds k true)
def AB (size:Nat):Nat→Array Bool
 |0=>No size false
 |k+1=>(AB size k).setIfInBounds k true
def OQ (md:Region.Mode) (ops:Array Oper) (m:Nat):Bool:=decide (m≤ops.size)&&Region.noSelect ops&&A3 md ops m m 0 (No ops.size false)&&A7 md ops (ops.size-m) m (AB ops.size m)
theorem OR:∀(l:List Oper) (k:Nat) (b:Array Bool) (a:Act) (w:Mr),(∀m,m<l.length→l[m]?=ops[k+m]?)→A7 md ops l.length k b=true→wpListIn Fence.wide n P ops Q l a w→wpAnyIn Fence.wide n P md ops Q l.length b a w
 |[],k,b,a,w,_,c,f=>⟨by simpa[A7]using c,f⟩
 |t::l,k,b,a,w,g,c,f=>by
  have o:ops[k]?=S t:=by simpa using(g 0 (by simp)).symm
  simp only[Oc,A7,Nq,beq_iff_eq]at c;refine⟨fun h=>(by rw[c.1]at h;cases h),fun s i=>?_⟩;rw[c.1]at i;have e:s=k:=by simpa using i
  subst e;have j:=fun p q=>OR l (s+1) (b.setIfInBounds s true) p q (fun m r=>by have:=g (m+1) (by simpa using r);simpa[Nat.add_assoc,Nat.add_comm 1 m]using this) c.2;unfold wpListIn at f;unfold wpOpIn;rw[o];dsimp only;split
  ·rename_i d;rw[Fp d]at f;exact Oper.wpIn_mono j f
  ·rename_i d;rw[Fn d]at f;exact⟨f.1,j _ _ f.2⟩
theorem OS (r:Region.noSelect ops=true):∀(l:List Oper) (k:Nat) (b:Array Bool) (a:Act),iP md ops b→b=AB ops.size k→(∀c,c<l.length→l[c]?=ops[k+c]?)→k+l.length=m→
 A3 md ops m l.length k b=true→wpQuiet P ops C (fun h=>∀c,C c→wpAnyIn Fence.wide n P md ops Q s (AB ops.size m) h c) l a→zU P md ops C Q n m s l.length b a
 |[],k,b,a,_,i,_,j,c,z=>by
  simp only[List.length_nil,A3,List.all_eq_true,List.mem_range]at c;have:k=m:=by simpa using j
  subst this;exact⟨c,fun w d=>by rw[i];exact z w d⟩
 |A::l,k,b,a,t,o,u,j,c,z=>by
  have e:ops[k]?=S A:=by simpa using(u 0 (by simp)).symm
  simp only[Oc,A3,Nq]at c;obtain⟨⟨⟨v,i⟩,d⟩,p⟩:=c;simp only[Oc]at j;have f:k∈Region.ready md ops b:=by simpa using v
  have g:∀c,m≤c→c<ops.size→lU md ops ops.size c k=true:=fun c x q=>by
   rw[List.all_eq_true]at d;have:=d c (List.mem_range.2 q);simp only[Bool.or_eq_true,decide_eq_true_eq]at this;rcases this with h|h
   ·omega
   ·exact h
  have q:qOp P ops C k (wpQuiet P ops C (fun h=>∀c,C c→wpAnyIn Fence.wide n P md ops Q s (AB ops.size m) h c) l) a:=by unfold qOp;simp only[e];exact z
  obtain⟨B,h,x⟩:=yieldsIn_of_qOp e q;exact az (by omega) e g (Region.noSelect_spec r) l.length b a t (Region.free_spec e i) f h (OS r l (k+1) _ _ (oE t f) (by rw[o];rfl) (fun c y=>by have:=u (c+1) (by simpa using y);simpa[Nat.add_assoc,Nat.add_comm 1 c]using this) (by omega) p x)
theorem GY {d e:Act→Prop} (g:∀a,d a→e a):∀(l:List Oper) (a:Act),wpQuiet P ops C d l a→wpQuiet P ops C e l a
 |[],a,b=>g a b
 |h::l,a,b=>by
  unfold wpQuiet at b ⊢;split
  ·rename_i c;rw[Fp c]at b;exact Oper.quiet_mono (fun f=>GY g l f) b
  ·rename_i c;rw[Fn c]at b;exact GY g l _ b
theorem vM {id:Nat} {a:Act} {w:Mr} {l:List Oper} (m:Nat) (h:P.follows .mixedOrders=true) (b:OQ .any l.toArray m=true)
 (r:wpQuiet P l.toArray (aC w) (fun g=>∀d,aC w d→wpListIn Fence.wide n P l.toArray Q (l.drop m) g d) (l.take m) a):(Code.region id l.toArray true).wpIn Fence.wide n P Q a w:=by
 simp only[OQ,Nq,decide_eq_true_eq,Nv]at b;obtain⟨⟨⟨p,i⟩,j⟩,k⟩:=b;refine wpIn_region_any h ?_;have e:l.toArray.size=(l.drop m).length+(l.take m).length:=by rw[Nv,List.length_drop,List.length_take];omega
 rw[e];refine OP (C:=aC w) (m:=m) _ _ _ _ (show Mu w.heap.size w _ from(Mu.refl _ w).drew) ?_;have c:(l.take m).length=m:=by rw[List.length_take];omega
 refine OS i (l.take m) 0 _ a ?_ (by rw[←e];rfl) (fun q b=>by rw[c]at b;rw[Nat.zero_add,Oi,List.getElem?_take_of_lt b]) (by rw[c];omega) (by rw[←e,c];simpa using j) ?_
 ·intro q f _ b
  rw[←e]at b;rcases Nat.lt_or_ge q l.toArray.size with d|d
  ·rw[Array.getD_eq_getD_getElem?,Array.getElem?_replicate]at b;split at b<;>simp at b
  ·rw[Array.getD_eq_getD_getElem?,Array.getElem?_replicate]at b;split at b<;>simp at b
 ·refine GY (fun g o d f=>?_) _ _ r;refine OR (l.drop m) m _ _ _ (fun q b=>by rw[List.getElem?_drop,Oi]) ?_ (o d f);rw[List.length_drop];simpa using k
end
section
variable {P:Program} {ops:Array Oper} {Q:Exit→Act→World→Prop} {md:Region.Mode} {C:World→Prop} {need:Nat→Bool} {T:List Nat} {s:Nat}
def d8:List Oper→Nat→Option Oper
 |[],_=>N
 |o::_,0=>S o
 |_::l,k+1=>d8 l k
theorem lW:∀(l:List Oper) (k:Nat),d8 l k=l[k]?
 |[],k=>by simp[d8]
 |a::l,0=>by simp[d8]
 |a::l,k+1=>by simp[d8,lW l k]
def aM (l:List Oper):List Nat→List Oper
 |[]=>[]
 |k::ks=>match d8 l k with|some o=>o::aM l ks|none=>aM l ks
def bF (listed:Array Bool):List Nat→Array Bool
 |[]=>listed
 |k::ks=>bF (listed.setIfInBounds k true) ks
def GZ (w:Mr) (v:Ms):Result Next→Prop
 |.ok (.value u) w'=>w'=w∧u=v
 |_=>False
def gI (P:Program) (o:Oper) (a:Act) (C:Mr→Prop) (next:Act→Prop):Prop:=∃v,(∀w,C w→GZ w v ((execOp a.eval o).run P w))∧next (a.put o.dst v)
def jD (P:Program) (ops:Array Oper) (C:Mr→Prop) (K:Act→Prop):List Oper→Act→Prop
 |[],a=>K a
 |o::rest,a=>if Region.wanted o (yielded ops a.tmps)then gI P o a C (jD P ops C K rest)else jD P ops C K rest (a.put o.dst Mv)
theorem eZ {K:Act→Prop} {a:Act} (b:K a):jD P ops C K [] a:=b
theorem i9 {K:Act→Prop} {a:Act} {o:Oper} {b:List Oper}
 (d:∀c:Act→Prop,(∀a,jD P ops C K b a→c a)→if Region.wanted o (yielded ops a.tmps)then gI P o a C c else c (a.put o.dst Mv)):jD P ops C K (o::b) a:=
 d _ fun _ d=>d
theorem I1 {o:Oper} {a:Act} {K:Act→Prop} (g:if Region.wanted o (yielded ops a.tmps)then gI P o a C K else K (a.put o.dst Mv)):∃h,YieldsIf P ops C o h a∧K (a.put o.dst h):=by
 by_cases b:Region.wanted o (yielded ops a.tmps)=true
 ·rw[Fp b]at g
  obtain⟨h,d,e⟩:=g;refine⟨h,.inl ⟨b,fun w c=>?_⟩,e⟩;have:=d w c;generalize(execOp a.eval o).run P w=i at*;cases i with
  |ok n f=>cases n<;>simp only[GZ]at this;obtain⟨rfl,rfl⟩:=this;rfl
  |halt j f=>simp only[GZ]at this
 ·rw[Fn b]at g;exact⟨Mv,.inr ⟨by simpa using b,rfl⟩,g⟩
def kX (P:Program) (md:Region.Mode) (ops:Array Oper) (Q:Exit→Act→Mr→Prop) (need:Nat→Bool) (C:Mr→Prop):Nat→Array Bool→Act→Mr→Prop
 |0,listed,a,w=>Region.ready md ops listed=[]∧Q .normal a w
 |fuel+1,listed,a,w=>(Region.ready md ops listed=[]→Q .normal a w)∧
  ∀i∈Region.ready md ops listed,wpOp P ops Q i (fun a' w'=>(need i=true→C w')∧kX P md ops Q need C fuel (listed.setIfInBounds i true) a' w') a w
theorem t5:∀(fuel:Nat) (b:Array Bool) (a:Act) (w:Mr),kX P md ops Q need C fuel b a w→wpAny P md ops Q fuel b a w
 |0,_,_,_,g=>g
 |fuel+1,_,_,_,g=>⟨g.1,fun h c=>wpOp_mono (fun d e f=>t5 fuel _ d e f.2) (g.2 h c)⟩
theorem I2 {c:Nat→Bool}:∀(fuel:Nat) (b:Array Bool) (a:Act) (w:Mr),kX P md ops Q need C fuel b a w→kX P md ops Q c (fun _=>True) fuel b a w
 |0,_,_,_,h=>h
 |fuel+1,_,_,_,h=>⟨h.1,fun i d=>wpOp_mono (fun e f g=>⟨fun _=>trivial,I2 fuel _ e f g.2⟩) (h.2 i d)⟩
theorem bc {i:Nat} {l:Oper} {v:Ms} (B:ops[i]?=S l) (n:∀(j:Nat) (o:Oper) m b,ops[j]?=S o→o.op≠.select m b)
 (J:∀c a w,Q (.panic c) (a.put l.dst v) w→Q (.panic c) a w) (s:∀j,j<ops.size→need j=false→lU md ops ops.size j i=true):
 ∀(fuel:Nat) (c:Array Bool) (a:Act) (w:Mr),iP md ops c→
  (∀j g,ops[j]?=S g→j≠i→c.getD j true=false→(∀e∈g.after,Region.binds md e=true→e.on≠i)→l.apart ops g=true)→
  i∈Region.ready md ops c→YieldsIf P ops C l v a→C w→
  kX P md ops Q need C fuel (c.setIfInBounds i true) (a.put l.dst v) w→kX P md ops Q need C (fuel+1) c a w:=by
 intro fuel
 induction fuel with
 |zero=>
  intro c a w _ _ h x t H;refine⟨fun T=>(by rw[T]at h;cases h),fun j u=>?_⟩;by_cases d:j=i
  ·subst d;exact x.wpOp B t ⟨fun _=>t,H⟩
  ·have:=ready_mono u d;rw[H.1]at this;cases this
 |succ fuel K=>
  intro c a w p k h x t H;refine⟨fun T=>(by rw[T]at h;cases h),fun j u=>?_⟩;by_cases d:j=i
  ·subst d;exact x.wpOp B t ⟨fun _=>t,H⟩
  ·have L:=H.2 j (ready_mono u d)
   obtain⟨q,g,f,r⟩:=mem_ready.1 u;have A:∀e∈g.after,Region.binds md e=true→e.on≠i:=fun e y z m=>lV h (m▸r e y z)
   have D:need j=true:=by
    cases m:need j with
    |true=>rfl
    |false=>exact(lV h (vL p _ j g f r (s j (Nz.1 f).1 m))).elim
   have M:=wpOp_putIf f (k j g f d q A) (fun m b=>n i l m b B) (fun m b=>n j g m b f) J x L
   have m:∀G ok,ops[G]?=S ok→G≠i→(c.setIfInBounds j true).getD G true=false→
    (∀e∈ok.after,Region.binds md e=true→e.on≠i)→l.apart ops ok=true:=fun G ok R z y F=>by
    refine k G ok R z ?_ F;by_cases z:j=G
    ·subst z;exact q
    ·rw[getD_set_ne true z]at y;exact y
   refine wpOp_mono (fun z F y=>⟨y.2.1,K (c.setIfInBounds j true) z F (oE p u) m (ready_mono h (Ne.symm d)) y.1 (y.2.1 D) ?_⟩) M;rw[Array.setIfInBounds_comm _ _ d];exact y.2.2
def sB (md:Region.Mode) (ops:Array Oper) (need:Nat→Bool):List Nat→Array Bool→Bool
 |[],_=>true
 |k::ks,listed=>(ops[k]?).isSome&&(Region.ready md ops listed).contains k&&Region.free md ops listed k&&((Nf ops.size).all fun j=>need j||lU md ops ops.size j k)&&sB md ops need ks (listed.setIfInBounds k true)
theorem AC:∀(b:List Nat) (a:Array Bool),iP md ops a→sB md ops need b a=true→iP md ops (bF a b)
 |[],_,d,_=>d
 |e::b,a,d,c=>by simp only[sB,Nq]at c;exact AC b _ (oE d (by simpa using c.1.1.1.2)) c.2
theorem xE {l:List Oper} (j:Region.noSelect l.toArray=true) (k:∀i a b y w,Q (.panic i) (a.put b y) w→Q (.panic i) a w) {K:Act→Prop}:∀(c:List Nat) (b:Array Bool) (a:Act) (w:Mr),iP md l.toArray b→sB md l.toArray need c b=true→jD P l.toArray C K (aM l c) a→C w→
                                                                                                                                     (∀d,K d→kX P md l.toArray Q need C s (bF b c) d w)→kX P md l.toArray Q need C (s+c.length) b a w
 |[],b,a,w,_,_,x,_,f=>f a x
 |z::c,b,a,w,m,d,x,n,f=>by
  simp only[sB,Nq]at d;obtain⟨⟨⟨⟨p,q⟩,r⟩,o⟩,g⟩:=d;obtain⟨A,d⟩:=Option.isSome_iff_exists.1 p;have t:aM l (z::c)=A::aM l c:=by simp only[aM,lW];rw[Oi]at d;rw[d]
  rw[t]at x;obtain⟨y,u,h⟩:=I1 (K:=jD P l.toArray C K (aM l c)) x;have e:z∈Region.ready md l.toArray b:=by simpa using q
  refine bc d (Region.noSelect_spec j) (fun i a w=>k i a _ _ w) (fun B v i=>?_) (s+c.length) b a w m (Region.free_spec d r) e u n ?_
  ·rw[List.all_eq_true]at o;have:=o B (List.mem_range.2 v);rw[i]at this;simpa using this
  ·exact xE j k c _ _ w (oE m e) g h n f
def AE (P:Program) (md:Region.Mode) (ops:Array Oper) (C:Mr→Prop) (Q:Exit→Act→Mr→Prop) (need:Nat→Bool) (T:List Nat) (s:Nat):Nat→Array Bool→Act→Prop
 |0,listed,a=>(∀j,j<ops.size→T.contains j=false→listed.getD j false=true)∧∀w,C w→kX P md ops Q need C s listed a w
 |fuel+1,listed,a=>Region.ready md ops listed≠[]∧∀i∈Region.ready md ops listed,T.contains i=false∧qOp P ops C i (AE P md ops C Q need T s fuel (listed.setIfInBounds i true)) a
theorem I3:∀(fuel:Nat) (b:Array Bool) (a:Act) (w:Mr),C w→AE P md ops C Q need T s fuel b a→kX P md ops Q need C (s+fuel) b a w
 |0,_,_,w,d,j=>j.2 w d
 |fuel+1,b,a,w,d,j=>⟨fun e=>absurd e j.1,fun k f=>wpOp_of_qOp d (fun g h c i=>⟨fun _=>c,I3 fuel _ g h c i⟩) (j.2 k f).2⟩
theorem be {i:Nat} {r:Oper} {v:Ms} (hiT:T.contains i=false) (D:ops[i]?=S r) (A:∀j,T.contains j=true→j<ops.size→lU md ops ops.size j i=true) (t:∀(j:Nat) (o:Oper) q b,ops[j]?=S o→o.op≠.select q b):∀(fuel:Nat) (c:Array Bool) (a:Act),iP md ops c→
                                                                                                                                                                                                    (∀j h,ops[j]?=S h→j≠i→c.getD j true=false→(∀e∈h.after,Region.binds md e=true→e.on≠i)→r.apart ops h=true)→
                                                                                                                                                                                                    i∈Region.ready md ops c→YieldsIn P ops C r v a→
                                                                                                                                                                                                    AE P md ops C Q need T s fuel (c.setIfInBounds i true) (a.put r.dst v)→AE P md ops C Q need T s (fuel+1) c a:=by
 have x:∀(c:Array Bool),iP md ops c→i∈Region.ready md ops c→∀j h,ops[j]?=S h→(∀e∈h.after,Region.binds md e=true→c.getD e.on false=true)→T.contains j=false:=by
  intro c f l j h d g;cases k:T.contains j with
  |false=>rfl
  |true=>exact(lV l (vL f _ j h d g (A j k (Nz.1 d).1))).elim
 intro fuel
 induction fuel with
 |zero=>
  intro c a f m l y H;refine⟨fun R=>(by rw[R]at l;cases l),fun j u=>?_⟩;obtain⟨n,h,d,g⟩:=mem_ready.1 u;have p:=x c f l j h d g;refine⟨p,?_⟩;by_cases k:j=i
  ·subst k;exact y.qOp D H
  ·have:=H.1 j (Nz.1 d).1 p;rw[getD_set_ne false (Ne.symm k)]at this;exact(lV u this).elim
 |succ fuel J=>
  intro c a f m l y H;refine⟨fun R=>(by rw[R]at l;cases l),fun j u=>?_⟩;obtain⟨n,h,d,g⟩:=mem_ready.1 u;have p:=x c f l j h d g;refine⟨p,?_⟩;by_cases k:j=i
  ·subst k;exact y.qOp D H
  ·have K:=(H.2 j (ready_mono u k)).2
   have B:∀e∈h.after,Region.binds md e=true→e.on≠i:=fun e w z q=>lV l (q▸g e w z);have L:=qOp_put d (m j h d k n B) (fun q b=>t i r q b D) (fun q b=>t j h q b d) y K
   have q:∀G ok,ops[G]?=S ok→G≠i→(c.setIfInBounds j true).getD G true=false→
    (∀e∈ok.after,Region.binds md e=true→e.on≠i)→r.apart ops ok=true:=fun G ok M z w F=>by
    refine m G ok M z ?_ F;by_cases z:j=G
    ·subst z;exact n
    ·rw[getD_set_ne true z]at w;exact w
   refine qOp_mono (fun z w=>J (c.setIfInBounds j true) z (oE f u) q (ready_mono l (Ne.symm k)) w.1 ?_) L;rw[Array.setIfInBounds_comm _ _ k];exact w.2
def uC (md:Region.Mode) (ops:Array Oper) (T:List Nat):List Nat→Array Bool→Bool
 |[],listed=>(Nf ops.size).all fun j=>T.contains j||listed.getD j false
 |k::ks,listed=>(ops[k]?).isSome&&(Region.ready md ops listed).contains k&&Region.free md ops listed k&&!T.contains k&&(T.all fun j=>lU md ops ops.size j k)&&uC md ops T ks (listed.setIfInBounds k true)
theorem I4 {l:List Oper} (o:Region.noSelect l.toArray=true) {K:Act→Prop}:∀(c:List Nat) (b:Array Bool) (a:Act),iP md l.toArray b→
 uC md l.toArray T c b=true→wpQuiet P l.toArray C K (aM l c) a→(∀d,K d→∀w,C w→kX P md l.toArray Q need C s (bF b c) d w)→AE P md l.toArray C Q need T s c.length b a
 |[],b,a,g,d,x,h=>by
  simp only[uC,List.all_eq_true,List.mem_range,Bool.or_eq_true]at d;refine⟨fun y f i=>?_,h a x⟩;rcases d y f with e|e
  ·rw[i]at e;cases e
  ·exact e
 |z::c,b,a,g,d,x,h=>by
  simp only[uC,Nq]at d;obtain⟨⟨⟨⟨⟨q,r⟩,t⟩,j⟩,p⟩,k⟩:=d;obtain⟨A,d⟩:=Option.isSome_iff_exists.1 q;have u:aM l (z::c)=A::aM l c:=by simp only[aM,lW];rw[Oi]at d;rw[d]
  rw[u]at x;have f:z∈Region.ready md l.toArray b:=by simpa using r
  have m:qOp P l.toArray C z (wpQuiet P l.toArray C K (aM l c)) a:=by unfold qOp;simp only[d];exact x
  obtain⟨B,v,n⟩:=yieldsIn_of_qOp d m;refine be (by simpa using j) d (fun y i _=>?_) (Region.noSelect_spec o) c.length b a g (Region.free_spec d t) f v (I4 o c _ _ (oE g f) k n h);rw[List.all_eq_true]at p;exact p y (by simpa using i)
theorem OT:∀(b:List Nat) (a:Array Bool),iP md ops a→uC md ops T b a=true→iP md ops (bF a b)
 |[],_,d,_=>d
 |e::b,a,d,c=>by simp only[uC,Nq]at c;exact OT b _ (oE d (by simpa using c.1.1.1.1.2)) c.2
def iA (P:Program) (ops:Array Oper) (Q:Exit→Act→Mr→Prop) (C:Mr→Prop) (K:Act→Mr→Prop):List Oper→Act→Mr→Prop
 |[],a,w=>K a w
 |o::rest,a,w=>if Region.wanted o (yielded ops a.tmps)then o.wp P a w (fun a' w'=>C w'∧iA P ops Q C K rest a' w') Q else iA P ops Q C K rest (a.put o.dst Mv) w
def oF (md:Region.Mode) (ops:Array Oper):List Nat→Array Bool→Bool
 |[],listed=>(Region.ready md ops listed).isEmpty
 |k::ks,listed=>(ops[k]?).isSome&&Region.ready md ops listed==[k]&&oF md ops ks (listed.setIfInBounds k true)
def nJ (md:Region.Mode) (ops:Array Oper):List Nat→Array Bool→Bool
 |[],_=>true
 |k::ks,listed=>(ops[k]?).isSome&&Region.ready md ops listed==[k]&&nJ md ops ks (listed.setIfInBounds k true)
theorem vN {l:List Oper}:∀(c:List Nat) (b:Array Bool) (a:Act) (w:Mr),(∀y∈c,need y=false)→oF md l.toArray c b=true→
 wpList P l.toArray Q (aM l c) a w→kX P md l.toArray Q need C c.length b a w
 |[],b,a,w,_,e,o=>⟨by simpa[oF]using e,o⟩
 |y::c,b,a,w,p,e,o=>by
  simp only[oF,Nq,beq_iff_eq]at e;obtain⟨⟨u,q⟩,m⟩:=e;obtain⟨A,i⟩:=Option.isSome_iff_exists.1 u;have v:aM l (y::c)=A::aM l c:=by simp only[aM,lW];rw[Oi]at i;rw[i]
  rw[v]at o;refine⟨fun r=>(by rw[q]at r;cases r),fun z s=>?_⟩;rw[q]at s;have n:z=y:=by simpa using s
  subst n;have t:=fun f g (j:wpList P l.toArray Q (aM l c) f g)=>vN c (b.setIfInBounds z true) f g (fun B x=>p B (by simp[x])) m j;have h:=p z (by simp);unfold wpList at o;unfold wpOp;rw[i];dsimp only;split
  ·rename_i k;rw[Fp k]at o;exact o.imp (Oper.wp_mono fun f g j=>⟨fun d=>(by rw[h]at d;cases d),t f g j⟩) id
  ·rename_i k;rw[Fn k]at o;exact⟨fun d=>(by rw[h]at d;cases d),t _ _ o⟩
theorem OU {l:List Oper} (d:List Nat):∀(c:List Nat) (b:Array Bool) (a:Act) (w:Mr),C w→(∀z∈d,need z=false)→nJ md l.toArray c b=true→oF md l.toArray d (bF b c)=true→
 iA P l.toArray Q C (wpList P l.toArray Q (aM l d)) (aM l c) a w→kX P md l.toArray Q need C (d.length+c.length) b a w
 |[],b,a,w,g,j,_,h,q=>vN d b a w j h q
 |z::c,b,a,w,r,j,h,m,q=>by
  simp only[nJ,Nq,beq_iff_eq]at h;obtain⟨⟨x,s⟩,n⟩:=h;obtain⟨B,k⟩:=Option.isSome_iff_exists.1 x;have y:aM l (z::c)=B::aM l c:=by simp only[aM,lW];rw[Oi]at k;rw[k]
  rw[y]at q;refine⟨fun t=>(by rw[s]at t;cases t),fun A u=>?_⟩;rw[s]at u;have o:A=z:=by simpa using u
  subst o;have v:=fun i e (p:C e) (f:iA P l.toArray Q C (wpList P l.toArray Q (aM l d)) (aM l c) i e)=>OU d c (b.setIfInBounds A true) i e p j n m f;unfold iA at q;unfold wpOp;rw[k];dsimp only;split
  ·rename_i g;rw[Fp g]at q;exact .inl (Oper.wp_mono (fun i e f=>⟨fun _=>f.1,v i e f.1 f.2⟩) q)
  ·rename_i g;rw[Fn g]at q;exact⟨fun _=>r,v _ _ r q⟩
def I5 (l:List Oper) (L R M H T:List Nat):Bool:=
 Region.noSelect l.toArray&&decide (L.length+R.length+M.length+H.length+T.length=l.length)&&
 sB .any l.toArray (fun _=>true) L (No l.length false)&&
 sB .any l.toArray (fun j=>!T.contains j) R (bF (No l.length false) L)&&
 uC .any l.toArray (H++T) M (bF (bF (No l.length false) L) R)&&
 nJ .any l.toArray H (bF (bF (bF (No l.length false) L) R) M)&&
 oF .any l.toArray T (bF (bF (bF (bF (No l.length false) L) R) M) H)
theorem bf {id:Nat} {a:Act} {w:Mr} {l:List Oper} (L R q H T:List Nat) (r:P.follows .mixedOrders=true) (b:I5 l L R q H T=true)
 (i:∀c a d e w,Q (.panic c) (a.put d e) w→Q (.panic c) a w)
 (G:jD P l.toArray (fun _=>True) (jD P l.toArray (aC w) (wpQuiet P l.toArray (aC w) (fun d=>∀c,aC w c→iA P l.toArray Q (aC w) (wpList P l.toArray Q (aM l T)) (aM l H) d c) (aM l q)) (aM l R)) (aM l L) a):
 (Code.region id l.toArray true).wp P Q a w:=by
 simp only[I5,Nq,decide_eq_true_eq]at b;obtain⟨⟨⟨⟨⟨⟨f,o⟩,j⟩,k⟩,s⟩,t⟩,u⟩:=b;have g:l.toArray.size=l.length:=Nv ..;have b:iP .any l.toArray (No l.length false):=by intro e d _ c;rw[Array.getD_eq_getD_getElem?,Array.getElem?_replicate]at c;split at c<;>simp at c
 have c:=AC _ _ b j;have h:=AC _ _ c k;refine wp_region_any r ?_;rw[g];refine t5 (need:=fun _=>true) (C:=fun _=>True) _ _ _ _ ?_;have v:l.length=(T.length+H.length+q.length+R.length)+L.length:=by omega
 have F:(No l.length false:Array Bool)=No l.length false:=rfl;generalize p:(No l.length false:Array Bool)=rep at*;rw[v];have d:aC w {w with drawn:=w.drawn+1}:=(Mu.refl _ w).drew;refine xE f i L rep a _ b j G trivial fun x y=>I2 (need:=fun e=>!T.contains e) (C:=aC w) _ _ _ _ ?_;refine xE f i R _ x _ c k y d fun m z=>?_;refine I3 (T:=H++T) q.length _ m _ d ?_;refine I4 f q _ m h s z fun A B n e=>?_;refine OU T H _ A n e (fun J D=>?_) t u (B n e);simpa using D
def kJ (Q:Exit→Act→Mr→Prop):Exit→Act→Mr→Prop
 |.panic _,_,_=>False
 |e,a,w=>Q e a w
theorem vO {id:Nat} {a:Act} {w:Mr} {l:List Oper} (L R h H T:List Nat) (d:P.follows .mixedOrders=true) (f:I5 l L R h H T=true)
 (b:jD P l.toArray (fun _=>True) (jD P l.toArray (aC w) (wpQuiet P l.toArray (aC w) (fun g=>∀c,aC w c→iA P l.toArray (kJ Q) (aC w) (wpList P l.toArray (kJ Q) (aM l T)) (aM l H) g c) (aM l h)) (aM l R)) (aM l L) a):
 (Code.region id l.toArray true).wp P Q a w:=by
 refine Code.wp_mono (Q:=kJ Q) (fun e a w b=>?_) (bf L R h H T d f (fun c a g i w b=>b.elim) b);unfold kJ at b;split at b
 ·exact b.elim
 ·exact b
theorem cK (a:Act) (w:Mr):kJ Q .normal a w=Q .normal a w:=rfl
theorem kZ {K:Act→Mr→Prop} {a:Act} {w:Mr} {o:Oper} {b:List Oper}
 (e:∀c:Act→Mr→Prop,(∀a w,C w→iA P ops Q C K b a w→c a w)→if Region.wanted o (yielded ops a.tmps)then o.wp P a w c Q else iA P ops Q C K b (a.put o.dst Mv) w):iA P ops Q C K (o::b) a w:=
 e _ fun a w c d=>⟨c,d⟩
theorem lX {K:Act→Mr→Prop} {a:Act} {w:Mr} (b:K a w):iA P ops Q C K [] a w:=b
end
section
variable {P:Program} {ops:Array Oper} {Q:Exit→Act→World→Prop} {md:Region.Mode} {C:World→Prop} {need:Nat→Bool}
theorem OW {a:Array Bool} {i:Nat} (c:i∈Region.ready md ops a) (d:a.getD i true=true):False:=by obtain⟨b,_⟩:=mem_ready.1 c;first|(rw[b]at d;cases d)|(simp_all)
theorem I6 {K K':Act→Mr→Prop} (b:∀a w,K a w→K' a w):∀(l:List Oper) (a:Act) (w:Mr),iA P ops Q C K l a w→iA P ops Q C K' l a w
 |[],_,_,e=>b _ _ e
 |h::l,a,w,e=>by
  unfold iA at e ⊢;split
  ·rename_i c;rw[Fp c]at e;exact Oper.wp_mono (fun f g d=>⟨d.1,I6 b l f g d.2⟩) e
  ·rename_i c;rw[Fn c]at e;exact I6 b l _ _ e
theorem OX:∀(fuel:Nat) (b:Array Bool) (a:Act) (w:Mr),(∀g,need g=true→b.getD g true=true)→wpAny P md ops Q fuel b a w→kX P md ops Q need C fuel b a w
 |0,_,_,_,_,l=>l
 |fuel+1,b,a,w,d,l=>⟨l.1,fun g e=>wpOp_mono (fun h i j=>⟨fun k=>(by
  exact(OW e (d g k)).elim),OX fuel _ h i (fun m f=>(by
   by_cases c:g=m
   ·subst c;exact(OW e (d g f)).elim
   ·rw[getD_set_ne true c];exact d m f)) j⟩) (l.2 g e)⟩
theorem OY {l:List Oper} (f:List Nat):∀(c:List Nat) (b:Array Bool) (a:Act) (w:Mr),(∀z∈c,need z=false)→nJ md l.toArray c b=true→
 (∀d e,C w→iA P l.toArray Q (fun _=>True) (fun d e=>kX P md l.toArray Q need C f.length (bF b c) d e) [] d e→kX P md l.toArray Q need C f.length (bF b c) d e)→
 iA P l.toArray Q (fun _=>True) (fun d e=>kX P md l.toArray Q need C f.length (bF b c) d e) (aM l c) a w→kX P md l.toArray Q need C (f.length+c.length) b a w
 |[],b,a,w,i,_,_,n=>n
 |z::c,b,a,w,i,q,_,n=>by
  simp only[nJ,Nq,beq_iff_eq]at q;obtain⟨⟨v,r⟩,o⟩:=q;obtain⟨B,j⟩:=Option.isSome_iff_exists.1 v;have x:aM l (z::c)=B::aM l c:=by simp only[aM,lW];rw[Oi]at j;rw[j]
  rw[x]at n;refine⟨fun s=>(by rw[r]at s;cases s),fun A t=>?_⟩;rw[r]at t;have p:A=z:=by simpa using t
  subst p;have u:=fun d e k=>OY f c (b.setIfInBounds A true) d e (fun D y=>i D (by simp[y])) o (fun _ _ _ n=>n) k;have h:=i A (by simp);unfold iA at n;unfold wpOp;rw[j];dsimp only;split
  ·rename_i m;rw[Fp m]at n;exact .inl (Oper.wp_mono (fun d e k=>⟨fun g=>(by rw[h]at g;cases g),u d e k.2⟩) n)
  ·rename_i m;rw[Fn m]at n;exact⟨fun g=>(by rw[h]at g;cases g),u _ _ n⟩
def OZ (l:List Oper) (L R M H U:List Nat):Bool:=
 Region.noSelect l.toArray&&decide (L.length+R.length+M.length+H.length+U.length=l.length)&&
 sB .any l.toArray (fun _=>true) L (No l.length false)&&
 sB .any l.toArray (fun j=>!(H++U).contains j) R (bF (No l.length false) L)&&
 uC .any l.toArray (H++U) M (bF (bF (No l.length false) L) R)&&
 nJ .any l.toArray H (bF (bF (bF (No l.length false) L) R) M)&&
 sB .any l.toArray (fun _=>true) U (bF (bF (bF (bF (No l.length false) L) R) M) H)&&
 (Region.ready .any l.toArray (bF (bF (bF (bF (bF (No l.length false) L) R) M) H) U)).isEmpty&&
 ((Nf l.length).all fun j=>(H++U).contains j||(bF (bF (bF (bF (No l.length false) L) R) M) H).getD j true)
theorem P0:∀(b:List Nat) (a:Array Bool),(bF a b).size=a.size
 |[],_=>rfl
 |c::b,a=>(P0 b _).trans (by simp)
theorem PA {l:List Oper}:∀(b:List Nat) (a:Array Bool),iP md l.toArray a→nJ md l.toArray b a=true→iP md l.toArray (bF a b)
 |[],_,d,_=>d
 |e::b,a,d,c=>by simp only[nJ,Nq,beq_iff_eq]at c;exact PA b _ (oE d (by rw[c.1.2];simp)) c.2
theorem bg {id:Nat} {a:Act} {w:Mr} {l:List Oper} (L R D H t:List Nat) (K:P.follows .mixedOrders=true) (f:OZ l L R D H t=true)
 (b:jD P l.toArray (fun _=>True) (jD P l.toArray (aC w) (wpQuiet P l.toArray (aC w) (fun h=>∀d,aC w d→iA P l.toArray (kJ Q) (fun _=>True) (fun c g=>jD P l.toArray (fun W=>W=g) (fun k=>Q .normal k g) (aM l t) c) (aM l H) h d) (aM l D)) (aM l R)) (aM l L) a):
 (Code.region id l.toArray true).wp P Q a w:=by
 refine Code.wp_mono (Q:=kJ Q) (fun e a w b=>?_) ?_
 ·unfold kJ at b
  split at b
  ·exact b.elim
  ·exact b
 have m:∀c a d g w,kJ Q (.panic c) (a.put d g) w→kJ Q (.panic c) a w:=fun c a d g w b=>b.elim;simp only[OZ,Nq,decide_eq_true_eq]at f;obtain⟨⟨⟨⟨⟨⟨⟨⟨d,F⟩,u⟩,v⟩,x⟩,y⟩,M⟩,U⟩,z⟩:=f;have n:l.toArray.size=l.length:=Nv ..;have f:iP .any l.toArray (No l.length false):=by intro j g _ c;rw[Array.getD_eq_getD_getElem?,Array.getElem?_replicate]at c;split at c<;>simp at c
 have g:=AC _ _ f u;have h:=AC _ _ g v;have o:=OT _ _ h x;have p:=PA _ _ o y;refine wp_region_any K ?_;rw[n];refine t5 (need:=fun _=>true) (C:=fun _=>True) _ _ _ _ ?_;have V:l.length=(t.length+H.length+D.length+R.length)+L.length:=by omega
 have G:(bF (bF (bF (bF (No l.length false) L) R) D) H).size=l.length:=by simp only[P0];simp
 generalize J:(No l.length false:Array Bool)=rep at*;rw[V];have i:aC w {w with drawn:=w.drawn+1}:=(Mu.refl _ w).drew;refine xE d m L rep a _ f u b trivial fun X h1=>I2 (need:=fun j=>!(H++t).contains j) (C:=aC w) _ _ _ _ ?_;refine xE d m R _ X _ g v h1 i fun c h2=>?_;refine I3 (T:=H++t) D.length _ c _ i ?_;refine I4 d D _ c h x h2 fun k h3 A q=>?_;refine OY t H _ k A (fun r j=>by simp[j]) y (fun _ _ _ b=>b) (I6 (fun a4 B h4=>?_) _ _ _ (h3 A q));refine OX _ _ _ _ (fun aa hi=>?_) (t5 (need:=fun _=>true) (C:=fun W=>W=B) _ _ _ _ ?_)
 ·rw[List.all_eq_true]at z
  by_cases r:aa<l.length
  ·have:=z aa (List.mem_range.2 r)
   simp only[Bool.or_eq_true]at this;rcases this with b|b
   ·have j:(!(H++t).contains aa)=true:=hi;rw[b]at j;cases j
   ·exact b
  ·rw[Array.getD_eq_getD_getElem?,Array.getElem?_eq_none (by omega)];rfl
 ·have:=xE (s:=0) d m t _ a4 B p M h4 rfl (fun r j=>⟨by simpa using U,j⟩)
  rwa [Nat.zero_add]at this
end
def aD (k:IntKind) (xs:List Int):Array Ms:=(xs.map (I k)).toArray
section
variable {P:Program}
theorem ce {e:TypeId} {k:IntKind} (b:P.underlying e=S (.int k)) (xs:List Int) (i:Nat) (c:i<xs.length) (w:Mr):(part e (aD k xs) (i*1)).run P w=.ok (.int k xs[i]) w:=by
 have a:(aD k xs)[i*1]?=S (.int k xs[i]):=by simp[aD,c]
 rw[Nat.mul_one]at a ⊢;simp[part,isAgg,run_underlying b,a]
end
def kK (r s b d c:Int):Int:=bif dF r s b d c then b*d*c else 0
def cU (r s b d c:Int):Int:=bif dF r s b d c then r*b*d else 0
def vS (way:Int):Bool:=decide (0≤way)&&decide (way<4)
def iL (r s b d c way:Int):Bool:=dF r s b d c&&vS way
theorem eE {s c:Int} (a:iL r s b d c way=true):dF r s b d c=true∧0≤way∧way<4:=by unfold iL vS at a;simp only[Nq,decide_eq_true_eq]at a;exact⟨a.1,a.2.1,a.2.2⟩
theorem IH {s c:Int} (f:dF r s b d c=true) (a:0≤way) (e:way<4):iL r s b d c way=true:=by unfold iL vS;rw[f,decide_eq_true a,decide_eq_true e];rfl
theorem de {s c:Int} (a:¬dF r s b d c=true):iL r s b d c way=false:=by unfold iL;rw[Bool.not_eq_true]at a;rw[a];rfl
theorem nL {s c:Int} (o:dF r s b d c=true):cU r s b d c=r*b*d∧1≤r*b*d∧r*b*d≤131072∧r*b*d*c≤4096:=by
 obtain⟨g,h,p,i,j,k,l,m,n⟩:=cM o;have f:=pR g (show r≤8 by omega) i j;have a:=pR f.1 f.2 k l;have q:=pR a.1 a.2 m n;refine⟨by unfold cU;rw[o];rfl,a.1,a.2,?_⟩;have t:=(uB o).2.2.2.2.2.2;have e:(r+s)*b*d*c=r*b*d*c+s*b*d*c:=by rw[Int.add_mul,Int.add_mul,Int.add_mul]
 have u:0≤s*b*d*c:=Int.mul_nonneg (Int.mul_nonneg (Int.mul_nonneg h (by omega)) (by omega)) (by omega);omega
def xb (bank row b:Int):Int:=bits .xor .i64 bank (bits .and .i64 row (b-1))
theorem PU {a c:Int} (i:0≤a) (j:a<b) (h:pw b 16=true) (k:0≤c) (o:c<1024):0≤xb a c b∧xb a c b<b:=by
 obtain⟨e,p,rfl⟩:=GR h;have f:=oT h;obtain⟨q,rfl⟩:=Int.eq_ofNat_of_zero_le i;obtain⟨r,rfl⟩:=Int.eq_ofNat_of_zero_le k;have d:(2:Int)^e=((2^e:Nat):Int):=by rw[Int.natCast_pow];rfl
 have g:q<2^e:=by rw[d]at j;omega
 have m:2^e≤16:=by have:=f.2;rw[d]at this;omega
 have n:1≤2^e:=Nat.one_le_two_pow;unfold xb;rw[d,show((2^e:Nat):Int)-1=((2^e-1:Nat):Int) from by omega,GP _ _ (by omega) (by omega),Nat.and_two_pow_sub_one_eq_mod];have l:r%2^e<2^e:=Nat.mod_lt _ (by omega);rw[GQ _ _ (by omega) (by omega)];have:=Nat.xor_lt_two_pow g l;omega
def jY (way r b d page:Int):Int:=if way=0 then page/d/b%r else if way=1 then page/b/d%r else page%r
def uG (way r b d page:Int):Int:=if way=0 then page/d%b else if way=1 then page%b else page/r%b
def jP (way r b d page:Int):Int:=if way=0 then page%d else if way=1 then page/b%d else page/r/b%d
def jZ (way r b d page:Int):Int:=if way=3 then xb (uG way r b d page) (jP way r b d page) b else uG way r b d page
theorem vT {s c:Int} (m:dF r s b d c=true) (way a:Int) (n:0≤a):0≤jY way r b d a∧jY way r b d a<r∧0≤jZ way r b d a∧jZ way r b d a<b∧0≤jP way r b d a∧jP way r b d a<d∧0≤uG way r b d a∧uG way r b d a<b:=by
 obtain⟨g,o,p,h,q,i,t,u,v⟩:=cM m;have e:∀j f:Int,1≤f→0≤j%f∧j%f<f:=fun j f k=>⟨Int.emod_nonneg _ (by omega),Int.emod_lt_of_pos _ (by omega)⟩;have k:0≤jY way r b d a∧jY way r b d a<r:=by unfold jY;split;exact e _ _ g;split;exact e _ _ g;exact e _ _ g
 have f:0≤uG way r b d a∧uG way r b d a<b:=by unfold uG;split;exact e _ _ h;split;exact e _ _ h;exact e _ _ h
 have j:0≤jP way r b d a∧jP way r b d a<d:=by unfold jP;split;exact e _ _ i;split;exact e _ _ i;exact e _ _ i
 have l:0≤jZ way r b d a∧jZ way r b d a<b:=by
  unfold jZ;split
  ·exact PU f.1 f.2 (uB m).2.2.2.1 j.1 (by omega)
  ·exact f
 exact⟨k.1,k.2,l.1,l.2,j.1,j.2,f.1,f.2⟩
theorem PW {s c:Int} (k:dF r s b d c=true) (way a:Int) (e:0≤a):eY r s b d c (jY way r b d a) (jZ way r b d a) (jP way r b d a) 0=true:=by obtain⟨f,l,g,h,i,j,_,_⟩:=vT k way a e;obtain⟨m,n,o,p,q,t,u,v,w⟩:=cM k;exact zJ k f (by omega) g h i j (Int.le_refl _) (by omega)
def nN (way r b d page:Int):Int:=16384*jY way r b d page+1024*jZ way r b d page+jP way r b d page
theorem PX (way r b d a:Int):dD (jY way r b d a) (jZ way r b d a) (jP way r b d a) 0/64=nN way r b d a:=by unfold dD nN;omega
theorem AK {s c:Int} (f:dF r s b d c=true) (w:Mr):Mt Y 80 #[.agg #[I Z r,I Z s,I Z b,I Z d,I Z c]] w fun e a=>e=E (.bool true)∧Mu w.heap.size w a:=by have:=GU r s b d c w;rw[f]at this;exact this
theorem II {s c:Int} (f:dF r s b d c=false) (w:Mr):Mt Y 80 #[.agg #[I Z r,I Z s,I Z b,I Z d,I Z c]] w fun e a=>e=E (.bool false)∧Mu w.heap.size w a:=by have:=GU r s b d c w;rw[f]at this;exact this
theorem df (r s b d c:Int) (w:Mr):Mt Y 47 #[.agg #[I Z r,I Z s,I Z b,I Z d,I Z c]] w fun e a=>e=E (I Z (kK r s b d c))∧Mu w.heap.size w a:=by
 unfold kK;cases a:dF r s b d c
 ·have g:=aA a;clear a;go_in;go_wp2_with(go_at_call 80;refine(II g.out _).mono ?_;rintro e i ⟨rfl,f⟩;obtain⟨j,k⟩:=iI f);go_ret;exact⟨rfl,mJ f⟩
 ·have g:=aA a;obtain⟨v,x,y,l,m,n,o,p,q⟩:=cM a;have h:=pR l m n o;have z:=pR h.1 h.2 p q;have t:=aA (IntWalk.wrap64_in (b*d) ⟨by omega,by omega⟩);have u:=aA (IntWalk.wrap64_in (b*d*c) ⟨by omega,by omega⟩);clear a;go_in;go_wp2_with(go_at_call 80;refine(AK g.out _).mono ?_;rintro e i ⟨rfl,f⟩;obtain⟨j,k⟩:=iI f);go_ret;exact⟨rZ (by first|rfl|(rw[t.out,u.out];rfl)),mJ f⟩
theorem DL (r s b d c:Int) (w:Mr):Mt Y 74 #[.agg #[I Z r,I Z s,I Z b,I Z d,I Z c]] w fun e a=>e=E (I Z (cU r s b d c))∧Mu w.heap.size w a:=by
 unfold cU;cases a:dF r s b d c
 ·have g:=aA a;clear a;go_in;go_wp2_with(go_at_call 80;refine(II g.out _).mono ?_;rintro e i ⟨rfl,f⟩;obtain⟨j,k⟩:=iI f);go_ret;exact⟨rfl,mJ f⟩
 ·have g:=aA a;obtain⟨l,u,v,m,n,o,p,x,y⟩:=cM a;have h:=pR l (show r≤8 by omega) m n;have z:=pR h.1 h.2 o p;have q:=aA (IntWalk.wrap64_in (r*b) ⟨by omega,by omega⟩);have t:=aA (IntWalk.wrap64_in (r*b*d) ⟨by omega,by omega⟩);clear a;go_in;go_wp2_with(go_at_call 80;refine(AK g.out _).mono ?_;rintro e i ⟨rfl,f⟩;obtain⟨j,k⟩:=iI f);go_ret;exact⟨rZ (by first|rfl|(rw[q.out,t.out];rfl)),mJ f⟩
def AL (i:Int):Ms:=.agg #[I Z (i/1048576),I Z (i/65536%16),I Z (i/64%1024),I Z (i%64)]
def eC (r s b d c i:Int):Bool:=decide (0≤i)&&eY r s b d c (i/1048576) (i/65536%16) (i/64%1024) (i%64)
theorem DN (r s b d c i:Int) (w:Mr):Mt Y 21 #[.agg #[I Z r,I Z s,I Z b,I Z d,I Z c],I Z i] w fun e a=>e=E (.tuple (bif eC r s b d c i then#[AL i,I Z 0]else#[.agg #[I Z 0,I Z 0,I Z 0,I Z 0],I Z 12]))∧Mu w.heap.size w a:=by
 unfold eC;by_cases n:0≤i
 ·rw[decide_eq_true n,Bool.true_and]
  cases f:eY r s b d c (i/1048576) (i/65536%16) (i/64%1024) (i%64)
  ·have a:=sZ r s b d c (i/1048576) (i/65536%16) (i/64%1024) (i%64)
   rw[f]at a;have l:=aA a;clear a f;go_in
   go_wp2_with(first
    |(go_at_call 48;refine(GV _ _).mono ?_;rintro e o ⟨rfl,a⟩;obtain⟨k,p⟩:=iI a;obtain⟨h,f⟩:=xC a)
    |(go_at_call 49;refine(l.out _).mono ?_;rintro e q ⟨rfl,g⟩;obtain⟨j,m⟩:=iI g))
   refine My (v:=.tuple #[.agg #[I Z 0,I Z 0,I Z 0,I Z 0],I Z 12]) (by simp[results,results21,go_sem,k,j,h,f]) rfl ⟨rfl,?_⟩;exact(((((vJ a).trans (mJ g |>.mono (Nat.le_of_lt h))).setCell (Nu _) _).setCell (Nu _) _).setCell (Nu _) _).setCell (Nu _) _
  ·have a:=sZ r s b d c (i/1048576) (i/65536%16) (i/64%1024) (i%64)
   rw[f]at a;have l:=aA a;clear a f;go_in
   go_wp2_with(first
    |(go_at_call 48;refine(GV _ _).mono ?_;rintro e o ⟨rfl,a⟩;obtain⟨k,p⟩:=iI a;obtain⟨h,f⟩:=xC a)
    |(go_at_call 49;refine(l.out _).mono ?_;rintro e q ⟨rfl,g⟩;obtain⟨j,m⟩:=iI g))
   refine My (v:=.tuple #[AL i,I Z 0]) (by simp[results,results21,go_sem,k,j,h,f,AL]) rfl ⟨rfl,?_⟩;exact(((((vJ a).trans (mJ g |>.mono (Nat.le_of_lt h))).setCell (Nu _) _).setCell (Nu _) _).setCell (Nu _) _).setCell (Nu _) _
 ·rw[decide_eq_false n,Bool.false_and];go_in;go_wp2_with(go_at_call 48;refine(GV _ _).mono ?_;rintro e o ⟨rfl,a⟩;obtain⟨k,p⟩:=iI a;obtain⟨h,f⟩:=xC a);refine My (v:=.tuple #[.agg #[I Z 0,I Z 0,I Z 0,I Z 0],I Z 12]) (by simp[results,results21,go_sem,k,f]) rfl ⟨rfl,?_⟩;exact(((((vJ a).setCell (Nu _) _).setCell (Nu _) _).setCell (Nu _) _).setCell (Nu _) _).alloc (by simp;omega) _
theorem dh (n m:Int) (i:0≤m) (g:m≤1024) (w:Mr):Mt Y 85 #[I Z n,I Z m] w fun e a=>e=E (.bool (pw n m))∧w=a:=by
 go_in;go_wp2
 go_loop [5] (fun a=>∃d:Int,a=I Z d∧1≤d∧d≤2048∧xB n d) fun a=>(2049-intOf a).toNat
 case atStart=>exact⟨1,rfl,by omega,by omega,af n⟩
 case round=>
  obtain⟨d,rfl,b,h,a⟩:=hrel;by_cases c:d≤m
  ·by_cases f:n=d
   ·subst f;go_wp2;go_ret;exact⟨eR (ah a rfl b c g).symm,rfl⟩
   ·go_wp2
    go_round
    case rel=>exact⟨d*2,rfl,by omega,by omega,ag a f⟩
    case measure=>simp[intOf];omega
  ·go_wp2;go_ret;exact⟨eR (ai a (by omega)).symm,rfl⟩
theorem di (r s b d c:Int) (w:Mr):Mt Y 53 #[.agg #[I Z r,I Z s,I Z b,I Z d,I Z c]] w fun e l=>e=E (.bool (dF r s b d c))∧Mu w.heap.size w l:=by
 go_in;go_wp2_with(go_at_call 85;refine(dh _ _ (by omega) (by omega) _).mono ?_;rintro e l ⟨rfl,rfl⟩);all_goals go_ret
 ·rename_i a f g h i j;exact⟨eR (oU fun k _ m _ _ _=>by rw[w8 k]at j;omega).symm,Bl.alloc Nl _⟩
 ·rename_i a f g h i j;exact⟨eR (OJ a i (by rw[←w8 a];exact j.2) f g h),Bl.alloc Nl _⟩
 ·rename_i a f g h i;exact⟨eR (oU fun _ k _ _ _ _=>by omega).symm,Bl.alloc Nl _⟩
 ·rename_i a f g h;exact⟨eR (oU fun _ _ _ _ _ k=>h k).symm,Bl.alloc Nl _⟩
 ·rename_i a f g;exact⟨eR (oU fun _ _ _ _ k _=>g k).symm,Bl.alloc Nl _⟩
 ·rename_i a f;exact⟨eR (oU fun _ _ _ k _ _=>f k).symm,Bl.alloc Nl _⟩
 ·rename_i a;exact⟨eR (oU fun k _ _ _ _ _=>a k).symm,Bl.alloc Nl _⟩
def oW (n a b:Int):Bool:=decide (a≤n)&&decide (n≤b)
theorem IJ {n:Int} (c:a≤n) (d:n≤b):oW n a b=true:=by unfold oW;rw[decide_eq_true c,decide_eq_true d];rfl
theorem PY {n:Int} (c:oW n a b=true):a≤n∧n≤b:=by unfold oW at c;simpa using c
theorem dj {n:Int} (c:¬a≤n):oW n a b=false:=by unfold oW;rw[decide_eq_false c];rfl
theorem dk {n:Int} (c:¬n≤b):oW n a b=false:=by unfold oW;rw[decide_eq_false c];simp
def lA (l e:Int):Bool:=oW l 1 65536&&oW e 1 65536
def tE (v n:Int):Int:=v+min n (65536-v)
def nO (v l n:Int):Bool:=decide (v<l)&&decide (l≤tE v n)
def pS (v a e:Int):Int:=if a+1<e then v else max 0 (v-1)
def pT (a e:Int):Int:=if a+1<e then a+1 else 0
def fN (m:Int):Bool:=decide (m=1)||decide (m=2)
def iQ (m:Int):Int:=if m=1 then 9 else if m=2 then 36 else 0
def jA (m:Int):Int:=if m=1 then 8 else if m=2 then 2 else 0
theorem PZ (n a b:Int) (w:Mr):Mt Y 166 #[I Z n,I Z a,I Z b] w fun e c=>e=E (.bool (oW n a b))∧w=c:=by
 by_cases c:a≤n
 ·by_cases d:n≤b
  ·go_in;go_wp2;go_ret;exact⟨eR (by rw[IJ c d]),rfl⟩
  ·go_in;go_wp2;go_ret;exact⟨eR (by rw[dk (by omega)]),rfl⟩
 ·go_in;go_wp2;go_ret;exact⟨eR (by rw[dj (by omega)]),rfl⟩
theorem IK (l e:Int) (w:Mr):Mt Y 122 #[.agg #[I Z l,I Z e]] w fun b a=>b=E (.bool (lA l e))∧Mu w.heap.size w a:=by
 go_in;go_wp2_with(go_at_call 166;refine(PZ _ _ _ _).mono ?_;rintro b a ⟨rfl,rfl⟩);all_goals go_ret
 all_goals refine⟨eR ?_,(by repeat first|exact Bl|assumption|refine Ka ?_|refine Ks ?_ (by first|exact Nl|simp<;>omega|omega)|refine Kd ?_|refine Kc ?_ (by assumption))⟩
 all_goals(unfold lA;simp_all)
theorem dm (b:lA l e=true) (w:Mr):Mt Y 122 #[.agg #[I Z l,I Z e]] w fun c a=>c=E (.bool true)∧Mu w.heap.size w a:=by have:=IK l e w;rwa [b]at this
theorem AM (a:lA l e=true):1≤l∧l≤65536∧1≤e∧e≤65536:=by unfold lA at a;rw[Nq]at a;have:=PY a.1;have:=PY a.2;omega
theorem Q0 {v:Int} (c:lA l e=true) (d:0≤v) (f:v≤65536) (g:0≤a) (m:a<e) (w:Mr):Mt Y 246 #[.agg #[I Z v,I Z a],.agg #[I Z l,I Z e]] w fun k b=>k=E (.bool true)∧Mu w.heap.size w b:=by
 have n:=AM c;have h:=aA c;have i:=aA (IJ d f);have j:=aA (IJ g (show a≤e-1 by omega));go_in
 go_wp2_with(first
  |(go_at_call 122;refine(dm h.out _).mono ?_;rintro k o ⟨rfl,b⟩;obtain⟨p,q⟩:=iI b;have r:=xC b)
  |(go_at_call 166;refine(PZ _ _ _ _).mono ?_;rintro k s ⟨rfl,rfl⟩;first|rw[i.out]|rw[j.out]))
 all_goals go_ret
 all_goals exact⟨rfl,vJ b⟩
theorem Q3 {v n:Int} (b:lA l e=true) (q:0≤v) (r:v≤65536) (t:0≤a) (u:a<e) (P:0≤n) (Q:n≤65536) (w:Mr):Mt Y 223 #[.agg #[I Z v,I Z a],.agg #[I Z l,I Z e],I Z n] w fun p c=>p=E (.tuple #[.agg #[I Z (tE v n),I Z a],.bool (nO v l n)])∧Mu w.heap.size w c:=by
 have R:=AM b;have x:=aA fun w=>Q0 b q r t u w;clear b;have⟨k,c⟩:=Ex (tE v n);unfold nO;rw[←c];have b:k=v+min n (65536-v):=c;have y:=aA b;clear c b;have m:(v<l∧l≤k)∨(v<l∧¬l≤k)∨¬v<l:=by omega
 rcases m with⟨b,g⟩|⟨b,g⟩|b
 all_goals first
  |rw[show(decide (v<l)&&decide (l≤k))=true by rw[decide_eq_true b,decide_eq_true g];rfl]
  |rw[show(decide (v<l)&&decide (l≤k))=false by rw[decide_eq_true b,decide_eq_false g];rfl]
  |(rw[show(decide (v<l)&&decide (l≤k))=false by rw[decide_eq_false b];rfl];have L:decide (v<l)=false:=decide_eq_false b;clear b)
 all_goals
  go_in;go_wp2_with(go_at_call 246;refine(x.out _).mono ?_;rintro p i ⟨rfl,c⟩;obtain⟨z,A⟩:=iI c;have B:=GT c)
  all_goals
   have f:k=v+(if 65536-v<n then 65536-v else n):=by have:=y.out;split<;>omega
   first
    |rw[Fp h]at f
    |rw[Fn (by omega)]at f
   rw[←f];clear f;have p:i.heap[w.heap.size]?=S (O #[I Z v,I Z a] 275):=aE c (nE (by first|rfl|simp<;>omega|omega));have C:i.heap[w.heap.size+1]?=S (O #[I Z l,I Z e] 27):=aE c (gQ (by first|rfl|simp<;>omega|omega));have s:i.heap[w.heap.size+1+1]?=S (O #[I Z 0,I Z 0] 275):=aE c (iH (by first|rfl|simp<;>omega|omega));have o:aC w i:=Kc kS c;obtain⟨j,d⟩:∃W,W=i.setCell ⟨w.heap.size,0,N⟩ (I Z k):=⟨_,rfl⟩;rw[←d];replace p:j.heap[w.heap.size]?=S (O #[I Z k,I Z a] 275):=by rw[d];exact Hs 0 _ p
   replace C:j.heap[w.heap.size+1]?=S (O #[I Z l,I Z e] 27):=by rw[d,Ho (show w.heap.size+1≠w.heap.size by omega)];exact C
   replace s:j.heap[w.heap.size+1+1]?=S (O #[I Z 0,I Z 0] 275):=by rw[d,Ho (show w.heap.size+1+1≠w.heap.size by omega)];exact s
   have M:aC w j:=by rw[d];exact Ks o (by show w.heap.size≤w.heap.size;omega)
   clear d;have⟨D,F⟩:=bQ p;have T:=fun d=>Fw p d;have U:=aB p;simp at D F;have⟨G,H⟩:=bQ C;have V:=fun d=>Fw C d;have X:=aB C;simp at G H;have⟨J,K⟩:=bQ s;have sf:=fun d=>Fw s d;have sz:=aB s;simp at J K;clear z A B;go_region
  all_goals go_wp2
  all_goals first
   |exact My (v:=.tuple #[.agg #[I Z k,I Z a],.bool true]) (by simp[results,results223,go_sem, *]) rfl ⟨rfl,(by repeat first|exact Bl|assumption|refine Ka ?_|refine Ks ?_ (by first|exact Nl|simp<;>omega|omega)|refine Kd ?_|refine Kc ?_ (by assumption))⟩
   |exact My (v:=.tuple #[.agg #[I Z k,I Z a],.bool false]) (by simp[results,results223,go_sem, *]) rfl ⟨rfl,(by repeat first|exact Bl|assumption|refine Ka ?_|refine Ks ?_ (by first|exact Nl|simp<;>omega|omega)|refine Kd ?_|refine Kc ?_ (by assumption))⟩
theorem dp {v:Int} (b:lA l e=true) (C:0≤v) (D:v≤65536) (F:0≤a) (G:a<e) (w:Mr):Mt Y 230 #[.agg #[I Z v,I Z a],.agg #[I Z l,I Z e],I Z 1] w fun n c=>n=E (.agg #[I Z (pS v a e),I Z (pT a e)])∧Mu w.heap.size w c:=by
 have J:=AM b;have A:=aA fun w=>Q0 b C D F G w;clear b;unfold pS pT;by_cases o:a+1<e
 ·rw[Fp o,Fp o]
  have m:1<e-a:=by omega
  go_in;go_wp2_with fail;refine(A.out _).mono ?_;rintro n d ⟨rfl,b⟩;have n:d.heap[w.heap.size]?=S (O #[I Z v,I Z a] 275):=aE b (nE (by first|rfl|simp<;>omega|omega));have q:d.heap[w.heap.size+1]?=S (O #[I Z l,I Z e] 27):=aE b (gQ (by first|rfl|simp<;>omega|omega));have s:d.heap[w.heap.size+1+1]?=S (O #[I Z 0,I Z 0] 275):=aE b (iH (by first|rfl|simp<;>omega|omega));have p:aC w d:=Kc kS b;have⟨f,g⟩:=bQ n;have r:=fun c=>Fw n c;have t:=aB n;simp at f g;have⟨h,i⟩:=bQ q;have u:=fun c=>Fw q c;have x:=aB q;simp at h i;have⟨j,k⟩:=bQ s;have y:=fun c=>Fw s c;have z:=aB s;simp at j k;go_wp2;all_goals exact My (v:=.agg #[I Z v,I Z (a+1)]) (by simp[results,results230,go_sem, *]) rfl ⟨rfl,(by repeat first|exact Bl|assumption|refine Ka ?_|refine Ks ?_ (by first|exact Nl|simp<;>omega|omega)|refine Kd ?_|refine Kc ?_ (by assumption))⟩
 ·rw[Fn o,Fn o]
  obtain rfl:e=a+1:=by omega
  have K:a+1-a=1:=by omega
  by_cases H:1≤v
  ·rw[show max 0 (v-1)=v-1 by omega]
   go_in;go_wp2_with fail;refine(A.out _).mono ?_;rintro n d ⟨rfl,b⟩;have n:d.heap[w.heap.size]?=S (O #[I Z v,I Z a] 275):=aE b (nE (by first|rfl|simp<;>omega|omega));have q:d.heap[w.heap.size+1]?=S (O #[I Z l,I Z (a+1)] 27):=aE b (gQ (by first|rfl|simp<;>omega|omega));have s:d.heap[w.heap.size+1+1]?=S (O #[I Z 0,I Z 0] 275):=aE b (iH (by first|rfl|simp<;>omega|omega));have p:aC w d:=Kc kS b;have⟨f,g⟩:=bQ n;have r:=fun c=>Fw n c;have t:=aB n;simp at f g;have⟨h,i⟩:=bQ q;have u:=fun c=>Fw q c;have x:=aB q;simp at h i;have⟨j,k⟩:=bQ s;have y:=fun c=>Fw s c;have z:=aB s;simp at j k;go_wp2;clear f g r t h i u x j k y z;obtain⟨m,c⟩:∃W,W=d.setCell ⟨w.heap.size,1,N⟩ (I Z 0):=⟨_,rfl⟩;rw[←c];replace n:m.heap[w.heap.size]?=S (O #[I Z v,I Z 0] 275):=by rw[c];exact Hs 1 _ n
   replace q:m.heap[w.heap.size+1]?=S (O #[I Z l,I Z (a+1)] 27):=by rw[c,Ho (show w.heap.size+1≠w.heap.size by omega)];exact q
   replace s:m.heap[w.heap.size+1+1]?=S (O #[I Z 0,I Z 0] 275):=by rw[c,Ho (show w.heap.size+1+1≠w.heap.size by omega)];exact s
   have B:aC w m:=by rw[c];exact Ks p (by show w.heap.size≤w.heap.size;omega)
   clear c;have⟨f,g⟩:=bQ n;have r:=fun c=>Fw n c;have t:=aB n;simp at f g;have⟨h,i⟩:=bQ q;have u:=fun c=>Fw q c;have x:=aB q;simp at h i;have⟨j,k⟩:=bQ s;have y:=fun c=>Fw s c;have z:=aB s;simp at j k;go_region
   all_goals go_wp2
   all_goals exact My (v:=.agg #[I Z (v-1),I Z 0]) (by simp[results,results230,go_sem, *]<;>omega) rfl ⟨rfl,(by repeat first|exact Bl|assumption|refine Ka ?_|refine Ks ?_ (by first|exact Nl|simp<;>omega|omega)|refine Kd ?_|refine Kc ?_ (by assumption))⟩
  ·obtain rfl:v=0:=by omega
   rw[show max 0 ((0:Int)-1)=0 by omega];go_in;go_wp2_with fail;refine(A.out _).mono ?_;rintro n d ⟨rfl,b⟩;have n:d.heap[w.heap.size]?=S (O #[I Z 0,I Z a] 275):=aE b (nE (by first|rfl|simp<;>omega|omega));have q:d.heap[w.heap.size+1]?=S (O #[I Z l,I Z (a+1)] 27):=aE b (gQ (by first|rfl|simp<;>omega|omega));have s:d.heap[w.heap.size+1+1]?=S (O #[I Z 0,I Z 0] 275):=aE b (iH (by first|rfl|simp<;>omega|omega));have p:aC w d:=Kc kS b;have⟨f,g⟩:=bQ n;have r:=fun c=>Fw n c;have t:=aB n;simp at f g;have⟨h,i⟩:=bQ q;have u:=fun c=>Fw q c;have x:=aB q;simp at h i;have⟨j,k⟩:=bQ s;have y:=fun c=>Fw s c;have z:=aB s;simp at j k;go_wp2;clear f g r t h i u x j k y z;obtain⟨m,c⟩:∃W,W=d.setCell ⟨w.heap.size,1,N⟩ (I Z 0):=⟨_,rfl⟩;rw[←c];replace n:m.heap[w.heap.size]?=S (O #[I Z 0,I Z 0] 275):=by rw[c];exact Hs 1 _ n
   replace q:m.heap[w.heap.size+1]?=S (O #[I Z l,I Z (a+1)] 27):=by rw[c,Ho (show w.heap.size+1≠w.heap.size by omega)];exact q
   replace s:m.heap[w.heap.size+1+1]?=S (O #[I Z 0,I Z 0] 275):=by rw[c,Ho (show w.heap.size+1+1≠w.heap.size by omega)];exact s
   have B:aC w m:=by rw[c];exact Ks p (by show w.heap.size≤w.heap.size;omega)
   clear c;have⟨f,g⟩:=bQ n;have r:=fun c=>Fw n c;have t:=aB n;simp at f g;have⟨h,i⟩:=bQ q;have u:=fun c=>Fw q c;have x:=aB q;simp at h i;have⟨j,k⟩:=bQ s;have y:=fun c=>Fw s c;have z:=aB s;simp at j k;go_region
   all_goals go_wp2
   all_goals exact My (v:=.agg #[I Z (0),I Z 0]) (by simp[results,results230,go_sem, *]<;>omega) rfl ⟨rfl,(by repeat first|exact Bl|assumption|refine Ka ?_|refine Ks ?_ (by first|exact Nl|simp<;>omega|omega)|refine Kd ?_|refine Kc ?_ (by assumption))⟩
theorem Q4 {v l:Int} (b:0≤v) (c:v≤65536) (d:0≤a) (f:a<e):0≤pS v a e∧pS v a e≤65536∧0≤pT a e∧pT a e<e:=by unfold pS pT;split<;>omega
theorem Q5 {v n:Int} (a:0≤v) (b:v≤65536) (c:0≤n):0≤tE v n∧tE v n≤65536:=by unfold tE;omega
theorem Q6 {v:Int} (b:lA l e=true) (c:0≤v) (d:v≤65536) (f:0≤a) (g:a<e) (w:Mr):Mt Y 197 #[.agg #[I Z v,I Z a],.agg #[I Z l,I Z e]] w fun h i=>h=E (.agg #[I Z (pS v a e),I Z (pT a e)])∧Mu w.heap.size w i:=by have i:=aA fun w=>dp b c d f g w;clear b c d f g;generalize pS v a e=d at*;generalize pT a e=f at*;go_in;go_wp2_with fail;refine(i.out _).mono ?_;rintro h c ⟨rfl,b⟩;have h:c.heap[w.heap.size]?=S (O #[I Z v,I Z a] 275):=aE b (nE (by first|rfl|simp<;>omega|omega));have r:c.heap[w.heap.size+1]?=S (O #[I Z l,I Z e] 27):=aE b (gQ (by first|rfl|simp<;>omega|omega));have s:c.heap[w.heap.size+1+1]?=S (O #[I Z 0,I Z 0] 275):=aE b (iH (by first|rfl|simp<;>omega|omega));have q:aC w c:=Kc kS b;have⟨g,j⟩:=bQ h;have t:=fun k=>Fw h k;have u:=aB h;simp at g j;have⟨m,n⟩:=bQ r;have x:=fun k=>Fw r k;have y:=aB r;simp at m n;have⟨o,p⟩:=bQ s;have z:=fun k=>Fw s k;have k:=aB s;simp at o p;go_wp2;exact My (v:=.agg #[I Z d,I Z f]) (by simp[results,results197,go_sem, *]) rfl ⟨rfl,(by repeat first|exact Bl|assumption|refine Ka ?_|refine Ks ?_ (by first|exact Nl|simp<;>omega|omega)|refine Kd ?_|refine Kc ?_ (by assumption))⟩
theorem DO (m:Int) (w:Mr):Mt Y 83 #[I Z m] w fun c a=>c=E (.bool (fN m))∧w=a:=by
 by_cases b:m=1
 ·subst b;go_in;go_wp2;go_ret;exact⟨rfl,rfl⟩
 ·go_in;go_wp2;go_ret;exact⟨eR (by rw[Bool.eq_iff_iff];simp[fN]),rfl⟩
theorem IL (m:Int) (w:Mr):Mt Y 190 #[I Z m] w fun b a=>b=E (I Z (iQ m))∧w=a:=by
 go_in;go_wp2;all_goals go_ret
 all_goals refine⟨rZ ?_,rfl⟩
 all_goals(unfold iQ;simp_all)
theorem Q7 (m:Int) (w:Mr):Mt Y 180 #[I Z m] w fun d a=>d=E (I Z (jA m))∧w=a:=by
 by_cases b:m=1
 ·subst b;go_in;go_wp2_with(first|(go_at_call 83;refine(DO _ _).mono ?_;rintro d a ⟨rfl,rfl⟩;simp only[show fN 1=true from rfl])|(go_at_call 190;refine(IL _ _).mono ?_;rintro d a ⟨rfl,rfl⟩;simp only[show iQ 1=9 from rfl]));go_ret;exact⟨rfl,rfl⟩
 ·by_cases c:m=2
  ·subst c;go_in;go_wp2_with(first|(go_at_call 83;refine(DO _ _).mono ?_;rintro d a ⟨rfl,rfl⟩;simp only[show fN 2=true from rfl])|(go_at_call 190;refine(IL _ _).mono ?_;rintro d a ⟨rfl,rfl⟩;simp only[show iQ 2=36 from rfl]));go_ret;exact⟨rfl,rfl⟩
  ·have e:fN m=false:=by unfold fN;rw[decide_eq_false b,decide_eq_false c];rfl
   have f:jA m=0:=by unfold jA;rw[Fn b,Fn c]
   rw[f];go_in;go_wp2_with(go_at_call 83;refine(DO _ _).mono ?_;rintro d a ⟨rfl,rfl⟩;simp only[e]);go_ret;exact⟨rfl,rfl⟩
def vU (k r b d c ch bt vl:Int):Ms:=
 if k=1 then .agg #[I Z k,I Z r,I Z b,I Z d,I Z c,I Z 0,I Z bt,I Z 0]
 else if k=2 then .agg #[I Z k,I Z r,I Z b,I Z d,I Z c,I Z 0,I Z bt,I Z vl]
 else if k=3 then .agg #[I Z k,I Z r,I Z b,I Z d,I Z 0,I Z ch,I Z 0,I Z vl]
 else if k=4 then .agg #[I Z k,I Z r,I Z b,I Z 0,I Z c,I Z ch,I Z 0,I Z vl]
 else if k=5 then .agg #[I Z k,I Z r,I Z 0,I Z 0,I Z 0,I Z ch,I Z 0,I Z vl]
 else if k=7 then .agg #[I Z k,I Z 0,I Z 0,I Z 0,I Z 0,I Z 0,I Z 0,I Z 0]
 else .agg #[I Z k,I Z r,I Z b,I Z d,I Z c,I Z 0,I Z 0,I Z 0]
def oX (k:Int):Bool:=decide (2≤k)&&decide (k≤5)
def AN (k r b d c pr pb pd pc:Int):Bool:=
 if k=1∨k=2 then decide (pr=r)&&(decide (pb=b)&&(decide (pd=d)&&decide (pc=c)))
 else if k=3 then decide (pr=r)&&(decide (pb=b)&&decide (pd=d))
 else if k=4 then decide (pr=r)&&(decide (pb=b)&&decide (pc=c))
 else if k=5 then decide (pr=r)else false
theorem dq (a b:Int) (w:Mr):Mt Y 204 #[I Z a,I Z b] w fun e c=>e=E (.bool (bel a b))∧w=c:=by
 by_cases d:0≤a
 ·go_in;go_wp2;go_ret;exact⟨eR (by simp[bel,d]),rfl⟩
 ·go_in;go_wp2;go_ret;exact⟨eR (by unfold bel;rw[show decide (0≤a)=false from by simp;omega];rfl),rfl⟩
theorem du (k r b d c ch bt vl:Int) (w:Mr):Mt Y 118 #[.agg #[I Z k,I Z r,I Z b,I Z d,I Z c,I Z ch,I Z bt,I Z vl]] w fun e a=>e=E (.bool (oX k))∧Mu w.heap.size w a:=by
 by_cases f:2≤k
 ·go_in;go_wp2;go_ret;exact⟨eR (by unfold oX;simp[f]),(by repeat first|exact Bl|assumption|refine Ka ?_|refine Ks ?_ (by first|exact Nl|simp<;>omega|omega)|refine Kd ?_|refine Kc ?_ (by assumption))⟩
 ·go_in;go_wp2;go_ret;exact⟨eR (by unfold oX;simp;omega),(by repeat first|exact Bl|assumption|refine Ka ?_|refine Ks ?_ (by first|exact Nl|simp<;>omega|omega)|refine Kd ?_|refine Kc ?_ (by assumption))⟩
theorem dw (k r b d c ch bt vl pr pb pd pc:Int) (w:Mr):Mt Y 119 #[.agg #[I Z k,I Z r,I Z b,I Z d,I Z c,I Z ch,I Z bt,I Z vl],.agg #[I Z pr,I Z pb,I Z pd,I Z pc]] w fun e a=>e=E (.bool (AN k r b d c pr pb pd pc))∧Mu w.heap.size w a:=by
 go_in;go_wp2;all_goals go_ret
 all_goals refine⟨eR ?_,(by repeat first|exact Bl|assumption|refine Ka ?_|refine Ks ?_ (by first|exact Nl|simp<;>omega|omega)|refine Kd ?_|refine Kc ?_ (by assumption))⟩
 all_goals(rw[Bool.eq_iff_iff];simp_all [AN])
theorem dx (k r b d c ch bt vl:Int) (w:Mr):Mt Y 203 #[.agg #[I Z k,I Z r,I Z b,I Z d,I Z c,I Z ch,I Z bt,I Z vl]] w fun e l=>e=E (vU k r b d c ch bt vl)∧Mu w.heap.size w l:=by
 unfold vU;by_cases a:k=1
 ·subst a;simp only[Fp,Int.reduceEq,if_false,if_true];go_in;go_wp2;all_goals exact My (v:=.agg #[I Z 1,I Z r,I Z b,I Z d,I Z c,I Z 0,I Z bt,I Z 0]) (by simp[results,results203,go_sem, *]) rfl ⟨rfl,(by repeat first|exact Bl|assumption|refine Ka ?_|refine Ks ?_ (by first|exact Nl|simp<;>omega|omega)|refine Kd ?_|refine Kc ?_ (by assumption))⟩
 ·rw[Fn a]
  by_cases f:k=2
  ·subst f
   simp only[Fp,Int.reduceEq,if_false,if_true];go_in;go_wp2;go_region
   all_goals go_wp2
   all_goals exact My (v:=.agg #[I Z 2,I Z r,I Z b,I Z d,I Z c,I Z 0,I Z bt,I Z vl]) (by simp[results,results203,go_sem, *]) rfl ⟨rfl,(by repeat first|exact Bl|assumption|refine Ka ?_|refine Ks ?_ (by first|exact Nl|simp<;>omega|omega)|refine Kd ?_|refine Kc ?_ (by assumption))⟩
  ·rw[Fn f]
   by_cases g:k=3
   ·subst g
    simp only[Fp,Int.reduceEq,if_false,if_true];go_in;go_wp2;go_region
    all_goals go_wp2
    all_goals exact My (v:=.agg #[I Z 3,I Z r,I Z b,I Z d,I Z 0,I Z ch,I Z 0,I Z vl]) (by simp[results,results203,go_sem, *]) rfl ⟨rfl,(by repeat first|exact Bl|assumption|refine Ka ?_|refine Ks ?_ (by first|exact Nl|simp<;>omega|omega)|refine Kd ?_|refine Kc ?_ (by assumption))⟩
   ·rw[Fn g]
    by_cases h:k=4
    ·subst h
     simp only[Fp,Int.reduceEq,if_false,if_true];go_in;go_wp2;go_region
     all_goals go_wp2
     all_goals exact My (v:=.agg #[I Z 4,I Z r,I Z b,I Z 0,I Z c,I Z ch,I Z 0,I Z vl]) (by simp[results,results203,go_sem, *]) rfl ⟨rfl,(by repeat first|exact Bl|assumption|refine Ka ?_|refine Ks ?_ (by first|exact Nl|simp<;>omega|omega)|refine Kd ?_|refine Kc ?_ (by assumption))⟩
    ·rw[Fn h]
     by_cases i:k=5
     ·subst i
      simp only[Fp,Int.reduceEq,if_false,if_true];go_in;go_wp2;go_region
      all_goals go_wp2
      all_goals exact My (v:=.agg #[I Z 5,I Z r,I Z 0,I Z 0,I Z 0,I Z ch,I Z 0,I Z vl]) (by simp[results,results203,go_sem, *]) rfl ⟨rfl,(by repeat first|exact Bl|assumption|refine Ka ?_|refine Ks ?_ (by first|exact Nl|simp<;>omega|omega)|refine Kd ?_|refine Kc ?_ (by assumption))⟩
     ·rw[Fn i]
      by_cases j:k=7
      ·subst j;simp only[Fp,Int.reduceEq,if_false,if_true];go_in;go_wp2;all_goals exact My (v:=.agg #[I Z 7,I Z 0,I Z 0,I Z 0,I Z 0,I Z 0,I Z 0,I Z 0]) (by simp[results,results203,go_sem, *]) rfl ⟨rfl,(by repeat first|exact Bl|assumption|refine Ka ?_|refine Ks ?_ (by first|exact Nl|simp<;>omega|omega)|refine Kd ?_|refine Kc ?_ (by assumption))⟩
      ·rw[Fn j];go_in;go_wp2;all_goals exact My (v:=.agg #[I Z k,I Z r,I Z b,I Z d,I Z c,I Z 0,I Z 0,I Z 0]) (by simp[results,results203,go_sem, *]) rfl ⟨rfl,(by repeat first|exact Bl|assumption|refine Ka ?_|refine Ks ?_ (by first|exact Nl|simp<;>omega|omega)|refine Kd ?_|refine Kc ?_ (by assumption))⟩
def bR (k r:Int):Int:=if k=7 then 0 else r
def bB (k b:Int):Int:=if k=5∨k=7 then 0 else b
def bD (k d:Int):Int:=if k=4∨k=5∨k=7 then 0 else d
def bC (k c:Int):Int:=if k=3∨k=5∨k=7 then 0 else c
def IM (k ch:Int):Int:=if k=3∨k=4∨k=5 then ch else 0
def IN (k bt:Int):Int:=if k=1∨k=2 then bt else 0
def IP (k vl:Int):Int:=if k=2∨k=3∨k=4∨k=5 then vl else 0
theorem Q8 (k r b d c ch bt vl:Int):vU k r b d c ch bt vl=.agg #[I Z k,I Z (bR k r),I Z (bB k b),I Z (bD k d),I Z (bC k c),I Z (IM k ch),I Z (IN k bt),I Z (IP k vl)]:=by
 unfold vU bR bB bD bC IM IN IP;by_cases a:k=1
 ·simp[a]
 by_cases e:k=2
 ·simp[e]
 by_cases f:k=3
 ·simp[f]
 by_cases g:k=4
 ·simp[g]
 by_cases h:k=5
 ·simp[h]
 by_cases i:k=7
 ·simp[i]
 ·simp[a,e,f,g,h,i]
def AO (k r b d c ch bt vl:Int):Bool:=decide (r=bR k r∧b=bB k b∧d=bD k d∧c=bC k c∧ch=IM k ch∧bt=IN k bt∧vl=IP k vl)
theorem dy {k c ch bt vl:Int} (l:AO k r b d c ch bt vl=true):vU k r b d c ch bt vl=.agg #[I Z k,I Z r,I Z b,I Z d,I Z c,I Z ch,I Z bt,I Z vl]:=by obtain⟨a,e,f,g,h,i,j⟩:=of_decide_eq_true l;rw[Q8,←a,←e,←f,←g,←h,←i,←j]
theorem ej {k c ch bt vl:Int} (l:AO k r b d c ch bt vl=false):∃g h i j a e f:Int,vU k r b d c ch bt vl=.agg #[I Z k,I Z g,I Z h,I Z i,I Z j,I Z a,I Z e,I Z f]∧¬(r=g∧b=h∧d=i∧c=j∧ch=a∧bt=e∧vl=f):=⟨_,_,_,_,_,_,_,Q8 _ _ _ _ _ _ _ _,of_decide_eq_false l⟩
theorem eu {h:Type} {a b c d e f g:Prop} [Decidable a] [Decidable b] [Decidable c] [Decidable d] [Decidable e] [Decidable f] [Decidable g] (i:¬(a∧b∧c∧d∧e∧f∧g)) (x y:h):(if a then if b then if c then if d then if e then if f then if g then x else y else y else y else y else y else y else y)=y:=by
 repeat' split
 all_goals first|rfl|(exfalso;exact i ⟨by assumption,by assumption,by assumption,by assumption,by assumption,by assumption,by assumption⟩)
def nP (k r b d c ch bt vl gr gs gb gd gc m:Int):Bool:=decide (1≤k)&&(decide (k≤7)&&(fN m&&(AO k r b d c ch bt vl&&(eY gr gs gb gd gc r b d c&&(bel bt 576&&(bel ch (iQ m)&&bel vl (if k=2 then 2 else 256)))))))
theorem IQ {x:Bool} (d:bel a b=x) (w:Mr):Mt Y 204 #[I Z a,I Z b] w fun e c=>e=E (.bool x)∧Mu w.heap.size w c:=by subst d;exact(dq a b w).mono fun e c ⟨d,f⟩=>⟨d,by subst f;exact Bl⟩
theorem DP {m:Int} {x:Bool} (b:fN m=x) (w:Mr):Mt Y 83 #[I Z m] w fun e a=>e=E (.bool x)∧Mu w.heap.size w a:=by subst b;exact(DO m w).mono fun e a ⟨b,c⟩=>⟨b,by subst c;exact Bl⟩
theorem DQ {m x:Int} (b:iQ m=x) (w:Mr):Mt Y 190 #[I Z m] w fun e a=>e=E (I Z x)∧Mu w.heap.size w a:=by subst b;exact(IL m w).mono fun e a ⟨b,c⟩=>⟨b,by subst c;exact Bl⟩
theorem ey {a f g h i c:Int} {x:Bool} (k:eY a f g h i r b d c=x) (w:Mr):Mt Y 49 #[.agg #[I Z a,I Z f,I Z g,I Z h,I Z i],.agg #[I Z r,I Z b,I Z d,I Z c]] w fun e j=>e=E (.bool x)∧Mu w.heap.size w j:=by subst k;exact sZ a f g h i r b d c w
theorem Q9 {k c ch bt vl:Int} (f:vU k r b d c ch bt vl=v) (w:Mr):Mt Y 203 #[.agg #[I Z k,I Z r,I Z b,I Z d,I Z c,I Z ch,I Z bt,I Z vl]] w fun e a=>e=E v∧Mu w.heap.size w a:=by subst f;exact dx k r b d c ch bt vl w
theorem fa:∀a b c d e f g h:Bool,a=false∧(a&&(b&&(c&&(d&&(e&&(f&&(g&&h)))))))=false∨a=true∧(b=false∧(a&&(b&&(c&&(d&&(e&&(f&&(g&&h)))))))=false∨b=true∧(c=false∧(a&&(b&&(c&&(d&&(e&&(f&&(g&&h)))))))=false∨c=true∧(d=false∧(a&&(b&&(c&&(d&&(e&&(f&&(g&&h)))))))=false∨d=true∧(e=false∧(a&&(b&&(c&&(d&&(e&&(f&&(g&&h)))))))=false∨e=true∧(f=false∧(a&&(b&&(c&&(d&&(e&&(f&&(g&&h)))))))=false∨f=true∧(g=false∧(a&&(b&&(c&&(d&&(e&&(f&&(g&&h)))))))=false∨g=true∧h=(a&&(b&&(c&&(d&&(e&&(f&&(g&&h))))))))))))):=by decide
theorem fe (k r b d c ch bt vl n o p q s m z:Int) (a:z=if k=2 then 2 else 256) (x:Bool) (w:Mr) (F:decide (1≤k)=false∧x=false∨decide (1≤k)=true∧(decide (k≤7)=false∧x=false∨decide (k≤7)=true∧(fN m=false∧x=false∨fN m=true∧(AO k r b d c ch bt vl=false∧x=false∨AO k r b d c ch bt vl=true∧(eY n o p q s r b d c=false∧x=false∨eY n o p q s r b d c=true∧(bel bt 576=false∧x=false∨bel bt 576=true∧(bel ch (iQ m)=false∧x=false∨bel ch (iQ m)=true∧bel vl z=x))))))):Mt Y 154 #[.agg #[I Z k,I Z r,I Z b,I Z d,I Z c,I Z ch,I Z bt,I Z vl],.agg #[I Z n,I Z o,I Z p,I Z q,I Z s],I Z m] w fun e A=>e=E (.bool x)∧Mu w.heap.size w A:=by
 rcases F with⟨g,rfl⟩|⟨g,⟨h,rfl⟩|⟨h,⟨t,rfl⟩|⟨t,⟨f,rfl⟩|⟨f,⟨u,rfl⟩|⟨u,⟨v,rfl⟩|⟨v,⟨i,rfl⟩|⟨i,B⟩⟩⟩⟩⟩⟩⟩;all_goals try cases x
 all_goals try replace g:=of_decide_eq_true g
 all_goals try replace h:=of_decide_eq_true h
 all_goals by_cases j:k=2
 all_goals first|(subst j;rw[Fp rfl]at a)|rw[Fn j]at a
 all_goals subst a
 all_goals first|exact absurd g (by decide)|exact absurd h (by decide)|skip
 all_goals try (have G:=aA fun w=>DP t w;clear t)
 all_goals first|(have C:=aA fun w=>Q9 (dy f) w;clear f)|(obtain⟨W,X,d',c',Q,R,T,l,y⟩:=ej f;have C:=aA fun w=>Q9 l w;clear l f)|skip
 all_goals try (have H:=aA fun w=>ey u w;clear u)
 all_goals try (have J:=aA fun w=>IQ v w;clear v)
 all_goals have⟨cn,a⟩:=Ex (iQ m)
 all_goals try rw[←a]at i
 all_goals have L:=aA fun w=>DQ a.symm w
 all_goals clear a
 all_goals try (have M:=aA fun w=>IQ i w;clear i)
 all_goals try (have P:=aA fun w=>IQ B w;clear B)
 all_goals go_in
 all_goals go_wp2
 all_goals refine bS (by kernel_rfl) (by kernel_rfl) ?_
 all_goals
  repeat
   with_reducible refine Mz fun K D=>?_
   go_simp
   try first
    |(apply Ei
      intro A a;obtain⟨U,V⟩:=a.cells;go_simp
      first
       |(go_at_call 83;with_reducible exact a.call (G.out _))
       |(go_at_call 203;with_reducible exact a.call (C.out _))
       |(rw[eu y];exact⟨rfl,rfl⟩)
       |(go_at_call 49;with_reducible exact a.call (H.out _))
       |(go_at_call 190;with_reducible exact a.call (L.out _))
       |(go_at_call 204;with_reducible exact a.call (J.out _))
       |(go_at_call 204;with_reducible exact a.call (M.out _))
       |(go_at_call 204;with_reducible exact a.call (P.out _))
       |rfl)
    |(with_reducible refine aQ ?_ ?_;decide)
   refine D _ ?_;clear D K
  with_reducible refine Na ?_
  intro D a;go_wp2;go_ret;exact⟨rfl,Kc gH a⟩
theorem fh (k r b d c ch bt vl a f g h i m:Int) (w:Mr):Mt Y 154 #[.agg #[I Z k,I Z r,I Z b,I Z d,I Z c,I Z ch,I Z bt,I Z vl],.agg #[I Z a,I Z f,I Z g,I Z h,I Z i],I Z m] w fun e j=>e=E (.bool (nP k r b d c ch bt vl a f g h i m))∧Mu w.heap.size w j:=by unfold nP;exact fe k r b d c ch bt vl a f g h i m _ rfl _ w (fa _ _ _ _ _ _ _ _)
end
namespace lin
open Go.RowKit
def l8 (x k:Nat):Bool:=decide (x/2^k%2=1)
def cnt (x:Nat):Nat→Nat
 |0=>0
 |k+1=>cnt x k+if l8 x k then 1 else 0
def dO (x:Nat):List Nat:=(Nf 64).filter (l8 x)
def nK (x:Nat):List (Array Ms):=(dO x).map fun i=>#[I Z (i:Nat)]
theorem I7 (x:Nat):∀a,((Nf a).filter (l8 x)).length=cnt x a:=by
 intro a
 induction a with
 |zero=>rfl
 |succ a b=>rw[List.range_succ,List.filter_append,Nr,b,cnt];congr 1;cases c:l8 x a<;>simp[c]
theorem bh (x k:Nat) (b:l8 x k=true):∀n,k<n→((Nf n).filter (l8 x))[cnt x k]?=S k:=by
 intro n
 induction n with
 |zero=>intro e;omega
 |succ n c=>
  intro e;rw[List.range_succ,List.filter_append];by_cases d:k=n
  ·subst d;rw[List.getElem?_append_right (by rw[I7];exact Nl),I7,Nat.sub_self];simp[b]
  ·have:=c (by omega);obtain⟨a,_⟩:=Oe.1 this;rw[List.getElem?_append_left a];exact this
theorem bi (x k:Nat) (a:k<64) (b:l8 x k=true):(nK x)[cnt x k]?=S #[I Z (k:Nat)]:=by unfold nK dO;rw[Of,bh x k b 64 a];rfl
theorem bj (x:Nat):(nK x).length=cnt x 64:=by unfold nK dO;rw[Np,I7]
theorem bl {x:Nat} (a:l8 x k=true):cnt x (k+1)=cnt x k+1:=by rw[cnt,a];rfl
theorem PB {x:Nat} (a:l8 x k=false):cnt x (k+1)=cnt x k:=by rw[cnt,a];rfl
theorem bo {x:Nat} (c:x/2^k=0):∀a,cnt x (k+a)=cnt x k:=by
 intro a
 induction a with
 |zero=>rfl
 |succ a b=>
  rw[←Nat.add_assoc,PB,b];unfold l8;have:x/2^(k+a)=0:=by rw[Nat.pow_add,←Nat.div_div_eq_div_mul,c,Nat.zero_div]
  rw[this];rfl
theorem bp (x k:Nat):x/2^k/2=x/2^(k+1):=by rw[Nat.div_div_eq_div_mul,Nat.pow_succ]
theorem bq {x:Nat} (a:x<2^64):x/2^64=0:=Nat.div_eq_of_lt a
theorem bu (a:Nat) (b:a<2^64):bits .and .u64 (a:Int) 1=((a%2:Nat):Int):=by show IntKind.u64.wrap (((BitVec.ofInt 64 (a:Int)&&& BitVec.ofInt 64 ((1:Nat):Int)).toNat:Nat):Int)=_;rw[BitVec.ofInt_natCast,BitVec.ofInt_natCast];simp only[BitVec.toNat_and,BitVec.toNat_ofNat];rw[Og b,show 1%2^64=2^1-1 from rfl,Nat.and_two_pow_sub_one_eq_mod,IntKind.wrap_u64];omega
attribute [irreducible] cnt nK dO
end lin
namespace lin
open Go.RowKit Go.Shelf
attribute [local go_sem] Oper.semAt_some
theorem PC (B x:Nat) (d:x<2^64) (W:Mr) (J:B<W.heap.size) (y:W.cell? ⟨B,0,N⟩=S (.int .u64 x)) (K:W.frozen? ⟨B,0,N⟩=false):xD Y 158 #[.pointer (S ⟨B,0,N⟩)] (nK x) (fun b=>b=B) W:=by
 intro l L R Jx hl a f c h g;have z:=aA d;have M:=aA h;have A:=aA f;have T:=aA c;have P:=aA a;clear d h f c a;refine(Nk (n:=9)).1 ?_;refine callsIn_of_wp func158 rfl trivial ?_ rfl;simp only[ntmps158,Nv,Oc,List.length_nil,Nat.reduceAdd,Nat.reduceSub,Array.replicate_succ,Array.replicate_zero,List.push_toArray,List.append_toArray,List.nil_append,List.cons_append];gi_wp2
 gi_loopw [3] (fun a wr=>∃d:Nat,d≤64∧a=I Z d∧wr.cell? ⟨B,0,N⟩=S (.int .u64 (x/2^d:Nat))∧wr.frozen? ⟨B,0,N⟩=false∧R (cnt x d) wr∧W.heap.size≤wr.heap.size) fun a _=>65-(intOf a).toNat
 case atStart=>exact⟨0,by omega,rfl,by rw[y];simp,K,by unfold cnt;exact g,Nl⟩
 case round=>
  obtain⟨d,hk,rfl,c,i,h,f⟩:=hrel;have a:x/2^d<2^64:=Nat.lt_of_le_of_lt (Nat.div_le_self _ _) z.out;have q:Hid (R (cnt x d) wr):=h;clear h;by_cases g:x/2^d=0
  ·have h:Hid (R (nK x).length wr):=by
    have e:=bo g (64-d);rw[show d+(64-d)=64 from by omega]at e;show R _ wr;rw[bj,e];exact q.out
   rw[g]at c;clear g a;gi_wp2
   go_end0
   exact⟨⟨_,rfl⟩,.inl h.out⟩
  ·have o:d<64:=by
    refine Nat.lt_of_not_le fun y=>g ?_;have:d=64:=by omega
    subst this;exact bq z.out
   have C:Hid (bits .and .u64 ((x/2^d:Nat):Int) 1=((x/2^d%2:Nat):Int)):=bu _ a;have D:=aA (bp x d);have U:=aA a;have F:Hid (l8 x d=decide (x/2^d%2=1)):=rfl;clear a;generalize a:x/2^d=V at*;have HV:=aA a;clear a;have X:((V:Int)==0)=false:=by simp;omega
   clear g;cases a:l8 x d
   ·have h:bits .and .u64 (V:Int) 1=0:=by rw[C.out];have:=F.out;rw[a]at this;have:=of_decide_eq_false this.symm;omega
    have g:=aA (PB a);clear a;gi_wp2
    all_goals
     refine⟨fun _ _=>trivial,?_⟩;gi_wp2
     go_roundw
     case rel=>exact⟨d+1,by omega,by go_num,by rw[←D.out];exact Mr.cell?_setCell_same' _ _ _ (by rw[c];rfl),by rw[Mr.frozen?_setCell];exact i,by rw[g.out];exact A.out _ _ _ q.out (Cl.setCell (.inl (.inl rfl)) _),by simpa[Mr.setCell]using f⟩
     case measure=>simp[intOf];omega
   ·have b1:bits .and .u64 (V:Int) 1=1:=by rw[C.out];have:=F.out;rw[a]at this;have:=of_decide_eq_true this.symm;omega
    have g:=aA (bl a);obtain⟨fn,G,t,H,hy,Q⟩:=M.out (cnt x d) _ wr 8 (bi x d o a) q.out f;clear a;gi_wp2
    refine Q.mono ?_;rintro e r ⟨a,⟨rfl,j⟩|⟨rfl,k⟩⟩
    ·have s:¬L B:=fun aa=>(P.out B aa).2 rfl
     have m:B<wr.heap.size:=Nj J f;have u:r.cell? ⟨B,0,N⟩=S (.int .u64 (V:Nat)):=(a.cell (p:=⟨B,0,N⟩) m s).trans c;have v:r.frozen? ⟨B,0,N⟩=false:=(a.frozen (p:=⟨B,0,N⟩) m s).trans i;have w:W.heap.size≤r.heap.size:=Ng f a.size;have h:=aA j;clear j s;gi_wp2
     go_roundw
     case rel=>exact⟨d+1,by omega,by go_num,by rw[←D.out];exact Mr.cell?_setCell_same' _ _ _ (by rw[u];rfl),by rw[Mr.frozen?_setCell];exact v,by rw[g.out];exact A.out _ _ _ h.out (Cl.setCell (.inl (.inl rfl)) _),by simpa[Mr.setCell]using w⟩
     case measure=>simp[intOf];omega
    ·have h:=aA k
     clear k;gi_wp2
     refine My (Nw rfl _ _ _) rfl ?_;exact⟨⟨_,rfl⟩,.inr h.out⟩
theorem PD (x:Int) (w:Mr):Mt Y 107 #[.int .u64 x] w fun e a=>e=E (.func (.func 158) #[] #[.pointer (S ⟨w.heap.size,0,N⟩)])∧a=w.alloc (O #[.int .u64 x] 39):=by go_in;go_wp2;go_ret;exact⟨rfl,rfl⟩
def fO (a b:List Int) (is:List Nat):List Int:=is.foldl (fun l i=>l.set i (b.getD i 0)) a
theorem uD (a b:List Int) (c:List Nat):(fO a b c).length=a.length:=by
 induction c generalizing a with
 |nil=>rfl
 |cons e c d=>show(fO (a.set e _) b c).length=_;rw[d,Od]
theorem cg (a b:List Int) (c:List Nat) (i:Nat):fO a b (c++[i])=(fO a b c).set i (b.getD i 0):=by unfold fO;rw[List.foldl_append];rfl
theorem AF (k:IntKind) (l:List Int) (i:Nat) (v:Int):(aD k l).setIfInBounds i (.int k v)=aD k (l.set i v):=by unfold aD;apply Array.ext';simp[List.map_set]
theorem gR:#[I Nb 0,I Nb 0,I Nb 0,I Nb 0,I Nb 0,I Nb 0,I Nb 0,I Nb 0,I Nb 0,I Nb 0,I Nb 0,I Nb 0,I Nb 0,I Nb 0,I Nb 0,I Nb 0,I Nb 0,I Nb 0,I Nb 0,I Nb 0,I Nb 0,I Nb 0,I Nb 0,I Nb 0,I Nb 0,I Nb 0,I Nb 0,I Nb 0,I Nb 0,I Nb 0,I Nb 0,I Nb 0,I Nb 0,I Nb 0,I Nb 0,I Nb 0,I Nb 0,I Nb 0,I Nb 0,I Nb 0,I Nb 0,I Nb 0,I Nb 0,I Nb 0,I Nb 0,I Nb 0,I Nb 0,I Nb 0,I Nb 0,I Nb 0,I Nb 0,I Nb 0,I Nb 0,I Nb 0,I Nb 0,I Nb 0,I Nb 0,I Nb 0,I Nb 0,I Nb 0,I Nb 0,I Nb 0,I Nb 0,I Nb 0]=aD .u8 (Nd 64 0):=rfl
theorem PE {L:List Nat} {k i:Nat} (a:L[k]?=S i):L.take (k+1)=L.take k++[i]:=by rw[List.take_add_one,a];rfl
theorem PF (x:Nat):(nK x).length=(dO x).length:=by unfold nK;rw[Np]
theorem aP (k:IntKind) (l:List Int):(aD k l).size=l.length:=by simp[aD]
theorem dG (k:IntKind) (l:List Int):(aD k l).all (·.oneCell')=true:=by simp[aD,Ni]
section
variable {P:Program}
theorem Mi (w:Mr) (t:TypeId) (c a:Array Ms) (b:(P.info? t).map (·.size)=S a.size) (d:c.size=a.size) (e:a.all (·.oneCell')=true):(Me ⟨w.heap.size,0,N⟩ a.toList 0).run P (w.alloc (O c t))=.ok () (w.alloc (O a t)):=Nt w t c a b d e
theorem Mo (g o:Nat) (t:TypeId) (a:List Ms) (i:Nat) (cur:Array Ms) (w:Mr) (d:w.heap[g]?=S (O cur t)) (b:o+i+a.length≤cur.size) (c:∀e∈a,e.oneCell'=true):(Me ⟨g,o,N⟩ a i).run P w=.ok () (w.setRow g (cur.toList.take (o+i)++a++cur.toList.drop (o+i+a.length)).toArray):=run_storeCells_at P g o t a i cur w d b c
theorem fJ (w:Mr) (g:Nat) (c:Array Ms) (t:TypeId) (fr:Nat×Nat) (b:w.heap[g]?=S (O c t fr)) (n:Nat) (a:c.size=n):(Mc ⟨g,0,N⟩ 0 n #[]).run P w=.ok c w:=by
 subst a;unfold Mc
 have:=run_loadCells_list (P:=P) w ⟨g,0,N⟩ c.toList (fun e f d=>by
  have a:(⟨g,0,N⟩:Addr).add e=⟨g,e,N⟩:=by unfold Addr.add;split<;>simp_all
  rw[a,Cw b e]
  simpa using d)
 simpa[loadCells]using this
theorem jV (w:Mr) (g:Nat) (c a:Array Ms) (t:TypeId) (d:w.heap[g]?=S (O c t)) (e:c.size=a.size) (b:a.all (·.oneCell')=true):(Me ⟨g,0,N⟩ a.toList 0).run P w=.ok () (w.setRow g a):=by have h:=Mo (P:=P) g 0 t a.toList 0 c w d (by simp;omega) (fun i f=>by rw[Array.all_eq_true']at b;exact b i (by simpa using f));rw[h];congr 2;apply Array.ext';simp[e]
theorem Lw {w:Mr} {g:Nat} {c:Array Ms} {t:TypeId} {fr:Nat×Nat} (a:w.heap[g]?=S (O c t fr)) (n:Nat) (b:c.size=n):(Mc ⟨g,0,N⟩ 0 n #[]).run Y w=.ok c w:=fJ w g c t fr a n b
theorem Sw {w:Mr} {g:Nat} {c:Array Ms} {t:TypeId} (b:w.heap[g]?=S (O c t)) (a:Array Ms) (d:c.size=a.size) (e:a.all (·.oneCell')=true):(Me ⟨g,0,N⟩ a.toList 0).run Y w=.ok () (w.setRow g a):=jV w g c a t b d e
end
def ci (w:Mr) (a b:List Int) (x:Nat) (e:Ending) (w':Mr):Prop:=e=E (.agg (aD .u8 (fO a b (dO x))))∧Mu w.heap.size w w'
theorem sC (w:Mr) (g i:Nat) (l:List Int) (t:TypeId) (a:w.heap[g]?=S (O (aD .u8 l) t)) (b:i<l.length):w.cell? ⟨g,i,N⟩=S (.int .u8 (l.getD i 0)):=by rw[Cw a i];simp[aD,b]
theorem PG (x k i:Nat) (b:(dO x)[k]?=S i):i<64:=by have a:=List.mem_of_getElem? b;unfold dO at a;simp at a;exact a.1
theorem DG (x k:Nat) (v:Array Ms) (b:(nK x)[k]?=S v):∃i,(dO x)[k]?=S i∧v=#[I Z (i:Nat)]:=by
 unfold nK at b;rw[Of]at b;cases a:(dO x)[k]? with
 |none=>rw[a]at b;cases b
 |some i=>rw[a]at b;exact⟨i,rfl,(Option.some.inj b).symm⟩
def AG (w:Mr) (a b:List Int) (x k:Nat) (W:Mr):Prop:=W.heap[w.heap.size]?=S (O (aD .u8 (fO a b ((dO x).take k))) 38)∧W.heap[w.heap.size+1]?=S (O (aD .u8 b) 38)∧W.heap[w.heap.size+1+1]?=S (O (aD .u8 (Nd 64 0)) 38)∧Mu w.heap.size w W
theorem AG.chg {w:Mr} {a b:List Int} {x k:Nat} {A B:Mr} {cw:Nat→Prop} (g:AG w a b x k A) (c:aF cw A B) (d:∀m,cw m→w.heap.size+1+1<m):AG w a b x k B:=by obtain⟨h,i,j,l⟩:=g;have f:=fun(m:Nat) (g:Obj) (e:A.heap[m]?=S g)=>(Nz.1 e).1;exact⟨(c.block _ (f _ _ h) fun g=>by have:=d _ g;omega).trans h,(c.block _ (f _ _ i) fun g=>by have:=d _ g;omega).trans i,(c.block _ (f _ _ j) fun g=>by have:=d _ g;omega).trans j,l.trans (c.below l.size fun m g=>by have:=d _ g;omega)⟩
attribute [local simp] Mf Mg
theorem Mh {P:Program} (a:Addr) (v:Ms) (i:Nat) (w:Mr):(Me a [v] i).run P w=(store (a.add i) v).run P w:=by simp only[Me,Nm,Sem.run_bind];cases(store (a.add i) v).run P w<;>rfl
attribute [local go_sem] Mh
theorem PH (a b:List Int) (c:a.length=64) (d:b.length=64) (x:Nat) (f:x<2^64) (w:Mr):Mt Y 68 #[.agg (aD .u8 a),.agg (aD .u8 b),.int .u64 x] w (ci w a b x):=by
 have j:=aA c;have A:=aA d;have C:=aA f;clear c d f;refine(Nk (n:=9)).1 ?_;refine callsIn_of_wp_marks func68 rfl trivial ?_;simp only[ntmps68,Nv,Oc,List.length_nil,Nat.reduceAdd,Nat.reduceSub,Array.replicate_succ,Array.replicate_zero,List.push_toArray,List.append_toArray,List.nil_append,List.cons_append];gi_wp2_with(refine⟨trivial,?_⟩;gi_at_call 107;refine((Nk (n:=8)).2 (PD x _)).mono ?_;rintro e K ⟨rfl,rfl⟩);rw[gR];have⟨w0,c⟩:=Ex ((((w.alloc (O (aD .u8 a) 38)).alloc (O (aD .u8 b) 38)).alloc (O (aD .u8 (Nd 64 0)) 38)).alloc (O #[.int .u64 x] 39));have k:w0.heap.size=w.heap.size+1+1+1+1:=by rw[c];simp
 have s:Mu w.heap.size w w0:=by rw[c];exact(((Bl.alloc Nl _).alloc (by simp) _).alloc (by simp;omega) _).alloc (by simp;omega) _
 have v:AG w a b x 0 w0:=by
  rw[c];refine⟨?_,?_,?_,by rw[←c];exact s⟩
  ·rw[Ha _ _ _ (by simp;omega),Ha _ _ _ (by simp;omega),Ha _ _ _ (by simp),heap_alloc_new];simp[fO]
  ·rw[Ha _ _ _ (by simp),Ha _ _ _ (by simp),heap_alloc2_new]
  ·rw[Ha _ _ _ (by simp)];have:=heap_alloc_new ((w.alloc (O (aD .u8 a) 38)).alloc (O (aD .u8 b) 38)) (O (aD .u8 (Nd 64 0)) 38);simpa only[Mr.size_alloc]using this
 have y:w0.cell? ⟨w.heap.size+1+1+1,0,N⟩=S (.int .u64 x):=by rw[c];simp[go_sem]
 have z:w0.frozen? ⟨w.heap.size+1+1+1,0,N⟩=false:=by rw[c];simp[go_sem]
 rw[←c];clear c
 refine ap 9 9 (gf:=158) (lb:=#[.pointer (S ⟨w.heap.size+1+1+1,0,N⟩)]) rfl (enters_of func158 (by kernel_rfl) rfl) (nK x) (fun b=>b=w.heap.size+1+1+1) (fun b e=>by rw[e,k];omega)
  (fun d c=>PC _ x C.out d (by have:=c.size;omega) ((c.cell (p:=⟨w.heap.size+1+1+1,0,N⟩) (by show w.heap.size+1+1+1<w0.heap.size;omega)).trans y) ((c.frozen (p:=⟨w.heap.size+1+1+1,0,N⟩) (by show w.heap.size+1+1+1<w0.heap.size;omega)).trans z))
  (fun t H m=>by obtain⟨o,_,rfl⟩:=DG x t H m;rfl)
  (fun b=>b=w.heap.size) (fun b e=>by rw[e,k];exact⟨by omega,by omega⟩)
  (fun t W=>AG w a b x t W) (fun _ _=>False)
  (fun t h _=>∃o,(dO x)[t]?=S o∧h={tmps:=#[.agg (aD .u8 a),.agg (aD .u8 b),.int .u64 x,.pointer (S ⟨w.heap.size,0,N⟩),.pointer (S ⟨w.heap.size+1,0,N⟩),Mv,.pointer (S ⟨w.heap.size+1+1,0,N⟩),I Z (o:Nat),.int .u64 x,.func (.func 158) #[] #[.pointer (S ⟨w.heap.size+1+1+1,0,N⟩)],I Z (o:Nat),Mv,Mv,Mv,Mv,Mv,Mv],defers:=[]})
  (fun t d B c u=>c.chg u fun o c=>by omega) (fun _ _ _ c _=>c) (fun _ _ _ _ c _=>c) v ?assign ?body ?done fun _ _ _ _ c _=>c.elim
 case assign=>
  intro l t H W m D F q;obtain⟨o,c,rfl⟩:=DG x t H m;gi_wp2
  exact⟨Cl,q,o,c,rfl⟩
 case body=>
  rintro l t H h W m D F G ⟨c,f,d,g⟩ ⟨o,q,rfl⟩;have i:=PG x t o q;have L:=sC W _ o _ 38 c (by rw[uD,j.out];exact i);have M:=sC W _ o _ 38 f (by rw[A.out];exact i);have P:=Fw c o;have J:=bT c f d g;clear c f d g G;gi_wp2
  have⟨c,f,d,g⟩:=J.out;have u:aF (fun b=>b=w.heap.size) W (W.setCell ⟨w.heap.size,o,N⟩ (.int .u8 (b[o]?.getD 0))):=by refine Cl.setCell ?_ _;exact .inl rfl
  refine⟨u,?_,(Ho (by show _≠w.heap.size;omega)).trans f,(Ho (by show _≠w.heap.size;omega)).trans d,g.setCell Nl _⟩;rw[PE q,cg,←AF];exact Hs _ _ c
 case done=>
  rintro D W _ ⟨c,f,d,g⟩ m;rw[PF,List.take_length]at c;have H:=Lw c 64 (by rw[aP,uD,j.out]);have L:=Sw d (aD .u8 (fO a b (dO x))) (by simp only[aP,uD,j.out,List.length_replicate]) (dG _ _);have i:=Hw d (aD .u8 (fO a b (dO x)));have F:=Lw i 64 (by rw[aP,uD,j.out]);have h:(W.setRow (w.heap.size+1+1) (aD .u8 (fO a b (dO x)))).heap[D]?=S (.deferred (S [])):=(So (by omega)).trans m;have J:=bT c f d g;clear c f d g;have o:(aD .u8 (fO a b (dO x))).size=64:=by rw[aP,uD,j.out]
  gi_wp2
  refine⟨by simp,.inl ⟨_,_,rfl,run_takeDeferred h,?_⟩⟩;have⟨c,f,d,g⟩:=J.out;have q:w.heap.size+1+1≠D:=by omega
  refine⟨_,Oa rfl _ _ (w.heap.size+1+1) 38 (aD .u8 (fO a b (dO x))) (0,0) (.array 64 5) rfl ((Ok q).trans i) (by kernel_rfl) rfl (by rw[o];exact(by kernel_rfl:(Y.info? 38).map (·.size)=S 64)),rfl,?_⟩;have u:Mu w.heap.size w (W.setRow (w.heap.size+1+1) (aD .u8 (fO a b (dO x)))):=Ob g (by omega) _;exact u.trans ⟨rfl,rfl,rfl,by simp,fun t G=>Ok (r:=D) (show t≠D by omega)⟩
end lin
section
open Go.RowKit
section
variable {P:Program} {ops:Array Oper} {Q:Exit→Act→World→Prop} {md:Region.Mode} {T:List Nat} {s:Nat} {w0:World}
theorem cH {a b c:Mr} (d:aC a b) (k:aC b c):aC a c:=d.next k
theorem lY (a:Mr):aC a a:=Bl
theorem K.alloc' {w a:Mr} (b:aC w a) (o:Obj):aC w (a.alloc o):=Mu.alloc b b.size o
def Oper.grow (P:Program) (o:Oper) (a:Act) (w0:Mr) (next:Act→Prop):Prop:=∃v,(∀w',aC w0 w'→o.quietAt P a (aC w') w' v)∧next (a.put o.dst v)
def jW (P:Program) (ops:Array Oper) (w0:Mr) (K:Act→Prop):List Oper→Act→Prop
 |[],a=>K a
 |o::rest,a=>if Region.wanted o (yielded ops a.tmps)then Oper.grow P o a w0 (jW P ops w0 K rest)else jW P ops w0 K rest (a.put o.dst Mv)
theorem dR {K:Act→Prop} {a:Act} (b:K a):jW P ops w0 K [] a:=b
theorem dS {K:Act→Prop} {a:Act} {o:Oper} {b:List Oper}
 (d:∀c:Act→Prop,(∀a,jW P ops w0 K b a→c a)→if Region.wanted o (yielded ops a.tmps)then Oper.grow P o a w0 c else c (a.put o.dst Mv)):jW P ops w0 K (o::b) a:=
 d _ fun _ d=>d
theorem l9 {P:Program} {f:FuncId} {args:Array Ms} {w':Mr} {v:Ms} (b:Mt P f args w' fun e a=>e=E v∧Mu w'.heap.size w' a):Mt P f args w' fun e a=>e=E v∧aC w' a:=b
def lN (P:Program) (ops:Array Oper) (w0:Mr) (o:Oper) (v:Ms) (a:Act):Prop:=(Region.wanted o (yielded ops a.tmps)=true∧∀w,aC w0 w→o.quietAt P a (aC w) w v)∨(Region.wanted o (yielded ops a.tmps)=false∧v=Mv)
theorem lN.of_same {o:Oper} {v:Ms} {a a':Act} (b:lN P ops w0 o v a) (c:execOp a'.eval o=execOp a.eval o)
 (d:Region.wanted o (yielded ops a'.tmps)=Region.wanted o (yielded ops a.tmps)):lN P ops w0 o v a':=by
 unfold lN Oper.quietAt at*;rw[c,d];exact b
theorem lN.wpOp {i:Nat} {o:Oper} {v:Ms} {a:Act} (h:ops[i]?=S o) (j:lN P ops w0 o v a) {K:Act→Mr→Prop} {W:Mr} (k:aC w0 W)
 (r:∀W',aC W W'→K (a.put o.dst v) W'):wpOp P ops Q i K a W:=by
 unfold Go.wpOp;simp only[h];rcases j with⟨d,l⟩|⟨d,rfl⟩
 ·simp only[d,if_true]
  refine .inl ?_;have b:=l W k;unfold Oper.quietAt at b;unfold Oper.wp;generalize(execOp a.eval o).run P W=t at*;cases t with
  |ok n m=>
   cases n<;>simp only[Oper.quietUpon]at b<;>simp only[Oper.upon];case value u=>obtain⟨c,g⟩:=b;rw[c,g];exact r _ (lY _)
   case skip=>obtain⟨c,g⟩:=b;rw[c,←g];exact r _ (lY _)
   case enter f g=>obtain⟨c,p⟩:=b;rw[c];exact p.mono fun e s ⟨q,b⟩=>by subst q;exact r _ b
  |halt c m=>simp only[Oper.quietUpon]at b
 ·simp only[d,Bool.false_eq_true,if_false];exact r _ (lY _)
theorem I8 {j:Nat} {d g:Oper} {v:Ms} (G:ops[j]?=S g) (z:d.apart ops g=true)
 (A:∀t b,d.op≠.select t b) (q:∀t b,g.op≠.select t b)
 (C:∀J a w,Q (.panic J) (a.put d.dst v) w→Q (.panic J) a w) {K:Act→Mr→Prop} {a:Act} {w:Mr}
 (h:lN P ops w0 d v a) (p:wpOp P ops Q j K (a.put d.dst v) w):
 wpOp P ops Q j (fun D u=>lN P ops w0 d v D∧K (D.put d.dst v) u) a w:=by
 obtain⟨x,k,F⟩:=Oper.apart_spec z;have c:∀(a:Act),lN P ops w0 d v a→∀r,lN P ops w0 d v (a.put g.dst r):=fun a h r=>h.of_same (execOp_put d A a g.dst r F) (wanted_put d a g.dst r F);have l:∀H,lN P ops w0 d v {a with defers:=H::a.defers}:=fun H=>h.of_same rfl rfl;unfold wpOp at*;simp only[G]at*;rw[wanted_put g a d.dst v x]at p;split
 ·rename_i y
  simp only[y,if_true]at p;rcases p with p|⟨i,m⟩;case inr=>exact .inr ⟨by unfold Oper.asks at*;rw[execOp_put g q a d.dst v x]at i;exact i,m⟩
  refine .inl ?_;unfold Oper.wp at*;rw[execOp_put g q a d.dst v x]at p;generalize(execOp a.eval g).run P w=L at*;cases L with
  |ok n u=>
   cases n<;>simp only[Oper.upon]at p ⊢;case value r=>exact⟨c a h r,by rw[←Act.put_comm a v r k];exact p⟩
   case skip=>exact⟨c a h _,by rw[←Act.put_comm a v Mv k];exact p⟩
   case defer H=>refine⟨c _ (l H) _,?_⟩;rw[←Act.put_comm _ v Mv k,←Act.put_defers];exact p
   case enter f s=>
    refine Mt.mono p fun e B o=>?_;cases e with
    |returned r=>exact⟨c a h r,by rw[←Act.put_comm a v r k];exact o⟩
    |panicked J=>exact C _ _ _ o
    |outgrown=>exact o
   case row row s=>exact Rows.mono p fun r B o=>⟨c a h r,by rw[←Act.put_comm a v r k];exact o⟩
  |halt M u=>cases M<;>simp only[Oper.upon]at p ⊢;case panic r=>exact C _ _ _ p
 ·rename_i y;simp only[y]at p;exact⟨c a h _,by rw[←Act.put_comm a v Mv k];exact p⟩
def t9 (P:Program) (md:Region.Mode) (ops:Array Oper) (Q:Exit→Act→Mr→Prop) (w0:Mr):Nat→Array Bool→Act→Mr→Prop
 |0,listed,a,w=>Region.ready md ops listed=[]∧∀W,aC w W→Q .normal a W
 |fuel+1,listed,a,w=>Region.ready md ops listed≠[]∧∀i∈Region.ready md ops listed,∀W,aC w W→wpOp P ops Q i (fun a' w'=>aC w0 w'∧t9 P md ops Q w0 fuel (listed.setIfInBounds i true) a' w') a W
theorem PI {fuel:Nat} {b:Array Bool} {a:Act} {w W:Mr} (f:t9 P md ops Q w0 fuel b a w) (d:aC w W):t9 P md ops Q w0 fuel b a W:=by
 cases fuel with
 |zero=>exact⟨f.1,fun W' c=>f.2 W' (cH d c)⟩
 |succ n=>exact⟨f.1,fun g e W' c=>f.2 g e W' (cH d c)⟩
theorem I9:∀(fuel:Nat) (b:Array Bool) (a:Act) (w:Mr),t9 P md ops Q w0 fuel b a w→wpAny P md ops Q fuel b a w
 |0,_,_,_,c=>⟨c.1,c.2 _ (lY _)⟩
 |fuel+1,_,_,_,c=>⟨fun d=>absurd d c.1,fun i e=>wpOp_mono (fun f g h=>I9 fuel _ f g h.2) (c.2 i e _ (lY _))⟩
theorem cj {i:Nat} {h:Oper} {v:Ms} (A:ops[i]?=S h) (n:∀(j:Nat) (o:Oper) m b,ops[j]?=S o→o.op≠.select m b)
 (D:∀c a w,Q (.panic c) (a.put h.dst v) w→Q (.panic c) a w):
 ∀(fuel:Nat) (c:Array Bool) (a:Act) (w:Mr),
  (∀j k,ops[j]?=S k→j≠i→c.getD j true=false→(∀e∈k.after,Region.binds md e=true→e.on≠i)→h.apart ops k=true)→
  i∈Region.ready md ops c→lN P ops w0 h v a→aC w0 w→
  t9 P md ops Q w0 fuel (c.setIfInBounds i true) (a.put h.dst v) w→t9 P md ops Q w0 (fuel+1) c a w:=by
 intro fuel
 induction fuel with
 |zero=>
  intro c a w f l t s H;refine⟨fun L=>(by rw[L]at l;cases l),fun j u=>?_⟩;by_cases d:j=i
  ·subst d;exact fun W g=>t.wpOp A (cH s g) fun W' d=>⟨cH (cH s g) d,PI (fuel:=0) H (cH g d)⟩
  ·have:=ready_mono u d;rw[H.1]at this;cases this
 |succ fuel F=>
  intro c a w f l t s H;refine⟨fun L=>(by rw[L]at l;cases l),fun j u W g=>?_⟩;obtain⟨p,k,r,y⟩:=mem_ready.1 u;by_cases d:j=i
  ·subst d;exact t.wpOp A (cH s g) fun W' d=>⟨cH (cH s g) d,PI (fuel:=fuel+1) H (cH g d)⟩
  ·have G:=H.2 j (ready_mono u d) W g
   have z:∀e∈k.after,Region.binds md e=true→e.on≠i:=fun e q x m=>lV l (m▸y e q x);have J:=I8 r (f j k r d p z) (fun m b=>n i h m b A) (fun m b=>n j k m b r) D t G
   have m:∀C ok,ops[C]?=S ok→C≠i→(c.setIfInBounds j true).getD C true=false→
    (∀e∈ok.after,Region.binds md e=true→e.on≠i)→h.apart ops ok=true:=fun C ok K x q B=>by
    refine f C ok K x ?_ B;by_cases x:j=C
    ·subst x;exact p
    ·rw[getD_set_ne true x]at q;exact q
   refine wpOp_mono (fun x B q=>⟨q.2.1,F (c.setIfInBounds j true) x B m (ready_mono l (Ne.symm d)) q.1 q.2.1 ?_⟩) J;rw[Array.setIfInBounds_comm _ _ d];exact q.2.2
def AH (md:Region.Mode) (ops:Array Oper):List Nat→Array Bool→Bool
 |[],_=>true
 |k::ks,listed=>(ops[k]?).isSome&&(Region.ready md ops listed).contains k&&Region.free md ops listed k&&AH md ops ks (listed.setIfInBounds k true)
theorem IA {l:List Oper} (k:Region.noSelect l.toArray=true) (m:∀j a b p w,Q (.panic j) (a.put b p) w→Q (.panic j) a w) {K:Act→Prop} {n:Nat}:∀(c:List Nat) (b:Array Bool) (a:Act) (w:Mr),
 AH md l.toArray c b=true→jW P l.toArray w0 K (aM l c) a→aC w0 w→(∀d,K d→t9 P md l.toArray Q w0 n (bF b c) d w)→t9 P md l.toArray Q w0 (n+c.length) b a w
 |[],b,a,w,d,o,f,g=>g a o
 |y::c,b,a,w,d,o,f,g=>by
  simp only[AH,Nq]at d;obtain⟨⟨⟨q,r⟩,s⟩,h⟩:=d;obtain⟨x,d⟩:=Option.isSome_iff_exists.1 q;have t:aM l (y::c)=x::aM l c:=by simp only[aM,lW];rw[Oi]at d;rw[d]
  rw[t]at o;have i:y∈Region.ready md l.toArray b:=by simpa using r
  have j:∃p,lN P l.toArray w0 x p a∧jW P l.toArray w0 K (aM l c) (a.put x.dst p):=by
   unfold jW at o;by_cases e:Region.wanted x (yielded l.toArray a.tmps)=true
   ·rw[Fp e]at o;obtain⟨p,u,v⟩:=o;exact⟨p,.inl ⟨e,u⟩,v⟩
   ·rw[Fn e]at o;exact⟨Mv,.inr ⟨by simpa using e,rfl⟩,o⟩
  obtain⟨p,u,e⟩:=j;exact cj d (Region.noSelect_spec k) (fun j a w=>m j a _ _ w) (n+c.length) b a w (Region.free_spec d s) i u f (IA k m c _ _ w h e f g)
theorem AI {i:Nat} {d t:Nat} {z:Array Ms} {ty pos aft} (b:ops[i]?=S {dst:=S d,op:=.alloc t,type:=ty,pos:=pos,after:=aft,guard:=N}) (c:∀W,(zeroValue t).run P W=.ok (.agg z) W)
 {K:Act→Mr→Prop} {a:Act} {W:Mr} (f:K (a.put (S d) (.pointer (S ⟨W.heap.size,0,N⟩))) (W.alloc (O z t))):wpOp P ops Q i K a W:=by
 unfold Go.wpOp;simp only[b];rw[Fp (show Region.wanted _ _=true from rfl)];refine .inl ?_;unfold Oper.wp;have e:(execOp a.eval {dst:=S d,op:=.alloc t,type:=ty,pos:=pos,after:=aft,guard:=N}).run P W=.ok (.value (.pointer (S ⟨W.heap.size,0,N⟩))) (W.alloc (O z t)):=by show(do let g ←Instr.alloc t true (.tuple #[]);pure (Next.value g):Sem Next).run P W=_;simp[go_sem,c]
 rw[e];exact f
theorem IB {i:Nat} {d u t A:Nat} {z c:Array Ms} {ty pos aft} (g:ops[i]?=S {dst:=N,op:=.store t (.tmp d) (.tmp u),type:=ty,pos:=pos,after:=aft,guard:=N})
 (b:∀W,(Instr.storeAt t (.pointer (S ⟨A,0,N⟩)) (.agg c)).run P W=(Me ⟨A,0,N⟩ c.toList 0).run P W) {K:Act→Mr→Prop} {a:Act} {W:Mr} (h:a.eval (.tmp d)=.pointer (S ⟨A,0,N⟩)) (j:a.eval (.tmp u)=.agg c)
 (k:W.heap[A]?=S (O z t)) (f:z.size=c.size) (l:c.all (·.oneCell')=true) (n:K a (W.setRow A c)):wpOp P ops Q i K a W:=by
 unfold Go.wpOp;simp only[g];rw[Fp (show Region.wanted _ _=true from rfl)];refine .inl ?_;unfold Oper.wp
 have e:(execOp a.eval {dst:=N,op:=.store t (.tmp d) (.tmp u),type:=ty,pos:=pos,after:=aft,guard:=N}).run P W=.ok .skip (W.setRow A c):=by
  show(do Instr.storeAt t (a.eval (.tmp d)) (a.eval (.tmp u));pure Next.skip:Sem Next).run P W=_;rw[h,j];have m:(Instr.storeAt t (.pointer (S ⟨A,0,N⟩)) (.agg c)).run P W=.ok () (W.setRow A c):=by rw[b,lin.jV W A z c t k f l]
  simp[Sem.run_bind,m]
 rw[e];exact n
theorem vP {a b:Mr} (f:aC a b) {A:Nat} (d:a.heap.size≤A) (c:Array Ms):aC a (b.setRow A c):=Mu.trans f ⟨rfl,rfl,rfl,by simp[Mr.setRow],fun g e=>setRow_other b A g c (by omega)⟩
theorem tB {W W':Mr} {z:Array Ms} {t:Nat} (a:aC (W.alloc (O z t)) W'):W'.heap[W.heap.size]?=S (O z t):=by rw[a.block W.heap.size (by show W.heap.size<(W.heap.push _).size;simp)];show(W.heap.push _)[W.heap.size]?=_;simp
theorem DH {W W':Mr} {o:Obj} (a:aC (W.alloc o) W'):W.heap.size<W'.heap.size:=by
 have b:=a.size;have e:(W.alloc o).heap.size=W.heap.size+1:=by show(W.heap.push _).size=_;simp
 omega
theorem vQ {W:Mr} {g:Nat} {o:Obj} (a:W.heap[g]?=S o):g<W.heap.size:=(Nz.1 a).1
def PJ (l:List Oper) (M:List Nat) (i p:Nat):Bool:=
 Region.noSelect l.toArray&&decide (M.length+2=l.length)&&AH .any l.toArray M (No l.length false)&&
 (Region.ready .any l.toArray (bF (No l.length false) M)==[i])&&(Region.ready .any l.toArray (bF (bF (No l.length false) M) [i])==[p])&&
 (Region.ready .any l.toArray (bF (bF (No l.length false) M) [i,p])==[])
theorem co {id:Nat} {a:Act} {w:Mr} {l:List Oper} (H:List Nat) (i p d u t:Nat) (z:Array Ms) {ty pos aft ty' pos' aft'} (g:P.follows .mixedOrders=true) (k:PJ l H i p=true)
 (M:l.toArray[i]?=S {dst:=S d,op:=.alloc t,type:=ty,pos:=pos,after:=aft,guard:=N}) (R:∀W,(zeroValue t).run P W=.ok (.agg z) W)
 (T:l.toArray[p]?=S {dst:=N,op:=.store t (.tmp d) (.tmp u),type:=ty',pos:=pos',after:=aft',guard:=N})
 (F:jW P l.toArray w (fun b=>∃h,b.eval (.tmp u)=.agg h∧z.size=h.size∧h.all (·.oneCell')=true∧u≠d∧d<b.tmps.size∧
  (∀A W,(Instr.storeAt t (.pointer (S ⟨A,0,N⟩)) (.agg h)).run P W=(Me ⟨A,0,N⟩ h.toList 0).run P W)∧
  ∀(A:Nat) (W:Mr),w.heap.size≤A→W.heap[A]?=S (O h t)→aC w W→Q .normal (b.put (S d) (.pointer (S ⟨A,0,N⟩))) W) (aM l H) a):
 (Code.region id l.toArray true).wp P Q a w:=by
 refine Code.wp_mono (Q:=kJ Q) (fun e a w F=>?_) ?_
 ·unfold kJ at F
  split at F
  ·exact F.elim
  ·exact F
 have U:∀h a d b w,kJ Q (.panic h) (a.put d b) w→kJ Q (.panic h) a w:=fun h a d b w F=>F.elim;simp only[PJ,Nq,decide_eq_true_eq]at k;obtain⟨⟨⟨⟨⟨V,J⟩,X⟩,j⟩,c⟩,f⟩:=k;have v:l.toArray.size=l.length:=Nv ..;refine wp_region_any g ?_;rw[v];have e1:l.length=2+H.length:=by omega
 generalize L:(No l.length false:Array Bool)=rep at*;have k:aC w {w with drawn:=w.drawn+1}:=(Mu.refl _ w).drew;rw[e1];refine I9 (w0:=w) _ _ _ _ ?_;refine IA V U H rep a _ X F k fun a2 b=>?_;obtain⟨h,hu,x,y,B,C,D,r⟩:=b;have j:Region.ready .any l.toArray (bF rep H)=[i]:=by simpa using j
 have c:Region.ready .any l.toArray ((bF rep H).setIfInBounds i true)=[p]:=by simpa[bF]using c
 have f:Region.ready .any l.toArray (((bF rep H).setIfInBounds i true).setIfInBounds p true)=[]:=by simpa[bF]using f
 refine⟨by rw[j];simp,fun aa G W hW=>?_⟩;rw[j]at G;obtain rfl:aa=i:=by simpa using G
 have b:=cH k hW;refine AI M R ⟨K.alloc' b _,⟨by rw[c];simp,fun m g W2 n=>?_⟩⟩;rw[c]at g;obtain rfl:m=p:=by simpa using g
 have o:=cH (K.alloc' b _) n;have s:=tB n;refine IB T (D _) (by simp[Act.eval,Act.put,C]) (by rw[Act.eval_put fun d' e=>by injection e with e;intro q;injection q with q;exact B (q.trans e.symm)];exact hu) s x y ⟨vP o b.size h,f,fun W3 q=>?_⟩;exact r _ W3 b.size ((q.block _ (by have:=vQ s;simpa[Mr.setRow]using this)).trans (Hw s h)) (cH (vP o b.size h) q)
def PK (l:List Oper) (M:List Nat) (i k p q:Nat):Bool:=
 Region.noSelect l.toArray&&decide (M.length+4=l.length)&&AH .any l.toArray M (No l.length false)&&
 (Region.ready .any l.toArray (bF (No l.length false) M)==[i,k])&&
 (Region.ready .any l.toArray (bF (bF (No l.length false) M) [i])==[k])&&
 (Region.ready .any l.toArray (bF (bF (No l.length false) M) [k])==[i])&&
 (Region.ready .any l.toArray (bF (bF (No l.length false) M) [i,k])==[p])&&
 (Region.ready .any l.toArray (bF (bF (No l.length false) M) [i,k,p])==[q])&&
 (Region.ready .any l.toArray (bF (bF (No l.length false) M) [i,k,p,q])==[])&&decide (i≠k)
theorem IC {id:Nat} {a:Act} {w:Mr} {l:List Oper} (ba:List Nat) (i k p q d u t f H t2:Nat) (z z2:Array Ms) {ty pos aft ty2 pos2 aft2 ty' pos' aft' ty2' pos2' aft2'} (j:P.follows .mixedOrders=true) (h:PK l ba i k p q=true) (hd:d≠f)
 (ho:l.toArray[i]?=S {dst:=S d,op:=.alloc t,type:=ty,pos:=pos,after:=aft,guard:=N}) (hz:∀W,(zeroValue t).run P W=.ok (.agg z) W)
 (R:l.toArray[k]?=S {dst:=S f,op:=.alloc t2,type:=ty2,pos:=pos2,after:=aft2,guard:=N}) (T:∀W,(zeroValue t2).run P W=.ok (.agg z2) W)
 (hp:l.toArray[p]?=S {dst:=N,op:=.store t (.tmp d) (.tmp u),type:=ty',pos:=pos',after:=aft',guard:=N})
 (hq:l.toArray[q]?=S {dst:=N,op:=.store t2 (.tmp f) (.tmp H),type:=ty2',pos:=pos2',after:=aft2',guard:=N})
 (av:jW P l.toArray w (fun b=>∃M g,b.eval (.tmp u)=.agg M∧b.eval (.tmp H)=.agg g∧z.size=M.size∧z2.size=g.size∧M.all (·.oneCell')=true∧g.all (·.oneCell')=true∧(u≠d∧u≠f∧H≠d∧H≠f)∧(d<b.tmps.size∧f<b.tmps.size)∧
  (∀A W,(Instr.storeAt t (.pointer (S ⟨A,0,N⟩)) (.agg M)).run P W=(Me ⟨A,0,N⟩ M.toList 0).run P W)∧(∀A W,(Instr.storeAt t2 (.pointer (S ⟨A,0,N⟩)) (.agg g)).run P W=(Me ⟨A,0,N⟩ g.toList 0).run P W)∧
  ∀(A B:Nat) (W:Mr),w.heap.size≤A→w.heap.size≤B→A≠B→W.heap[A]?=S (O M t)→W.heap[B]?=S (O g t2)→aC w W→Q .normal ((b.put (S d) (.pointer (S ⟨A,0,N⟩))).put (S f) (.pointer (S ⟨B,0,N⟩))) W) (aM l ba) a):
 (Code.region id l.toArray true).wp P Q a w:=by
 refine Code.wp_mono (Q:=kJ Q) (fun e a w av=>?_) ?_
 ·unfold kJ at av
  split at av
  ·exact av.elim
  ·exact av
 have hQ:∀M a d b w,kJ Q (.panic M) (a.put d b) w→kJ Q (.panic M) a w:=fun M a d b w av=>av.elim;simp only[PK,Nq,decide_eq_true_eq]at h;obtain⟨⟨⟨⟨⟨⟨⟨⟨⟨hs,bz⟩,hM⟩,U⟩,n⟩,o⟩,r⟩,s⟩,C⟩,bb⟩:=h;have bd:l.toArray.size=l.length:=Nv ..;refine wp_region_any j ?_;rw[bd];have e1:l.length=4+ba.length:=by omega
 generalize cc:(No l.length false:Array Bool)=rep at*;have V:aC w {w with drawn:=w.drawn+1}:=(Mu.refl _ w).drew;rw[e1];refine I9 (w0:=w) _ _ _ _ ?_;refine IA hs hQ ba rep a _ hM av V fun J X=>?_;obtain⟨M,g,hu,bm,bn,ad,br,bs,⟨n1,n2,n3,n4⟩,⟨bv,ae⟩,bw,an,ar⟩:=X;have U:Region.ready .any l.toArray (bF rep ba)=[i,k]:=by simpa using U
 have n:Region.ready .any l.toArray ((bF rep ba).setIfInBounds i true)=[k]:=by simpa[bF]using n
 have o:Region.ready .any l.toArray ((bF rep ba).setIfInBounds k true)=[i]:=by simpa[bF]using o
 have r:Region.ready .any l.toArray (((bF rep ba).setIfInBounds i true).setIfInBounds k true)=[p]:=by simpa[bF]using r
 have s:Region.ready .any l.toArray ((((bF rep ba).setIfInBounds i true).setIfInBounds k true).setIfInBounds p true)=[q]:=by simpa[bF]using s
 have C:Region.ready .any l.toArray (((((bF rep ba).setIfInBounds i true).setIfInBounds k true).setIfInBounds p true).setIfInBounds q true)=[]:=by simpa[bF]using C
 have v:∀(A B:Nat) (W:Mr),w.heap.size≤A→w.heap.size≤B→A≠B→W.heap[A]?=S (O z t)→W.heap[B]?=S (O z2 t2)→aC w W→
  t9 P .any l.toArray (kJ Q) w 2 (((bF rep ba).setIfInBounds i true).setIfInBounds k true) ((J.put (S d) (.pointer (S ⟨A,0,N⟩))).put (S f) (.pointer (S ⟨B,0,N⟩))) W:=by
  intro A B W hA h D h1 X hk;refine⟨by rw[r];simp,fun m j L b=>?_⟩;rw[r]at j;obtain rfl:m=p:=by simpa using j
  have c:=cH hk b;have a1:=(b.block A (vQ h1)).trans h1;have b1:=(b.block B (vQ X)).trans X;have ev:∀(x:Nat),x≠d→x≠f→((J.put (S d) (.pointer (S ⟨A,0,N⟩))).put (S f) (.pointer (S ⟨B,0,N⟩))).eval (.tmp x)=J.eval (.tmp x):=fun x G x2=>by rw[Act.eval_put fun F e=>by injection e with e;intro q;injection q with q;exact x2 (q.trans e.symm),Act.eval_put fun F e=>by injection e with e;intro q;injection q with q;exact G (q.trans e.symm)]
  have ed:((J.put (S d) (.pointer (S ⟨A,0,N⟩))).put (S f) (.pointer (S ⟨B,0,N⟩))).eval (.tmp d)=.pointer (S ⟨A,0,N⟩):=by rw[Act.eval_put fun F e=>by injection e with e;intro q;injection q with q;exact hd (q.trans e.symm)];simp[Act.eval,Act.put,bv]
  have bx:((J.put (S d) (.pointer (S ⟨A,0,N⟩))).put (S f) (.pointer (S ⟨B,0,N⟩))).eval (.tmp f)=.pointer (S ⟨B,0,N⟩):=by simp[Act.eval,Act.put,ae]
  refine IB hp (bw _) ed ((ev u n1 n2).trans hu) a1 bn br ⟨vP c hA M,⟨by rw[s];simp,fun m2 aa W3 F=>?_⟩⟩;rw[s]at aa;obtain rfl:m2=q:=by simpa using aa
  have ab:=cH (vP c hA M) F;have a3:=(F.block A (by have:=vQ a1;simpa[Mr.setRow]using this)).trans (Hw a1 M);have b3:=(F.block B (by have:=vQ b1;simpa[Mr.setRow]using this)).trans ((setRow_other L A B M (Ne.symm D)).trans b1);refine IB hq (an _) bx ((ev H n3 n4).trans bm) b3 ad bs ⟨vP ab h g,C,fun W4 G=>?_⟩;exact ar A B W4 hA h D ((G.block A (by have:=vQ a3;simpa[Mr.setRow]using this)).trans ((setRow_other W3 B A g D).trans a3)) ((G.block B (by have:=vQ b3;simpa[Mr.setRow]using this)).trans (Hw b3 g)) (cH (vP ab h g) G)
 refine⟨by rw[U];simp,fun aa G W X=>?_⟩;rw[U]at G;have h:=cH V X;rcases(show aa=i∨aa=k by simpa using G)with rfl|rfl
 ·refine AI ho hz ⟨K.alloc' h _,⟨by rw[n];simp,fun m j L b=>?_⟩⟩
  rw[n]at j;obtain rfl:m=k:=by simpa using j
  have D:=DH b;have c:=cH (K.alloc' h _) b;refine AI R T ⟨K.alloc' c _,v _ _ _ h.size c.size (by omega) ?_ (tB (lY _)) (K.alloc' c _)⟩;exact((K.alloc' (lY L) _).block _ D).trans (tB b)
 ·refine AI R T ⟨K.alloc' h _,⟨by rw[o];simp,fun m j L b=>?_⟩⟩
  rw[o]at j;obtain rfl:m=i:=by simpa using j
  have D:=DH b;have c:=cH (K.alloc' h _) b;rw[Array.setIfInBounds_comm _ _ (Ne.symm bb)];refine AI ho hz ⟨K.alloc' c _,?_⟩;rw[Act.put_comm _ (x:=S f) (y:=S d) _ _ fun e F av=>by injection F with F;injection av with av;exact hd (av.trans F.symm)];exact v _ _ _ c.size h.size (by omega) (tB (lY _)) (((K.alloc' (lY L) _).block _ D).trans (tB b)) (K.alloc' c _)
end
section
variable {P:Program} {ops:Array Oper} {Q:Exit→Act→World→Prop} {md:Region.Mode} {T:List Nat} {s:Nat} {w0:World}
def gJ (Q:Exit→Act→Mr→Prop):Exit→Act→Mr→Prop
 |.normal,a,w=>Q .normal a w
 |_,_,_=>False
theorem dT {a:Act} {w:Mr} (b:Q .normal a w):gJ Q .normal a w:=b
theorem uE:∀a b c d w,gJ Q (.panic a) (b.put c d) w→gJ Q (.panic a) b w:=fun _ _ _ _ _ e=>e.elim
theorem cq {l n:Nat} {o:Oper} {a:Act} {w:Mr} {K:Act→Mr→Prop} (h:∀i,o.op≠.defer i) (b:o.wp P a w K (gJ Q)):o.wpIn (Fence.wide.inRound l) n P a w K (gJ Q):=by
 unfold Oper.wp at b;unfold Oper.wpIn;refine⟨fun _ _=>trivial,?_⟩;rw[Oper.semAt_eq _ _ _ h];generalize(execOp a.eval o).run P w=k at*;cases k with
 |ok m d=>
  cases m<;>simp only[Oper.upon]at b<;>simp only[Oper.uponIn];case value=>exact b
  case skip=>exact b
  case defer=>exact b
  case enter f c=>exact⟨fun b=>(by cases b),CallsIn.inRound l (Nk.2 (b.mono fun e j g=>by
   cases e with
   |returned p=>exact g
   |panicked i=>exact g
   |outgrown=>exact g))⟩
  case row row c=>exact⟨fun b=>(by cases b),fun i g _=>let⟨j,d,k,s⟩:=b i g;⟨j,d,k,stepsIn_wide.2 s⟩⟩
 |halt m d=>cases m<;>simp only[Oper.upon]at b<;>simp only[Oper.uponIn]<;>exact b
def vR (ops:Array Oper):Bool:=ops.all fun o=>match o.op with|.defer _=>false|_=>true
theorem cr (d:vR ops=true) {j:Nat} {o:Oper} (b:ops[j]?=S o):∀c,o.op≠.defer c:=fun c a=>by have:=Array.all_eq_true_iff_forall_mem.1 d o (Array.mem_of_getElem? b);simp[a]at this
theorem DI {l n:Nat} (d:vR ops=true):∀(fuel:Nat) (b:Array Bool) (a:Act) (w:Mr),wpAny P md ops (gJ Q) fuel b a w→wpAnyIn (Fence.wide.inRound l) n P md ops (gJ Q) fuel b a w
 |0,_,_,_,j=>j
 |fuel+1,b,a,w,j=>⟨j.1,fun o g=>by
  have c:=j.2 o g;unfold wpOp at c;unfold wpOpIn;split
  ·rename_i e;simp only[e]at c;exact DI d fuel _ _ _ c
  ·rename_i p e
   simp only[e]at c;split
   ·rename_i f
    rw[Fp f]at c;rcases c with c|⟨_,⟨_,_,h⟩⟩
    ·exact cq (cr d e) (Oper.wp_mono (fun k m i=>DI d fuel _ _ _ i) c)
    ·exact h.elim
   ·rename_i f;rw[Fn f]at c;exact⟨fun _ _=>trivial,DI d fuel _ _ _ c⟩⟩
theorem ID {l n id:Nat} {a:Act} {w:Mr} (b:P.follows .mixedOrders=true) (c:vR ops=true)
 (d:wpAny P .any ops (gJ Q) ops.size (No ops.size false) a {w with drawn:=w.drawn+1}):(Code.region id ops true).wpIn (Fence.wide.inRound l) n P Q a w:=by
 refine Go.wpIn_mono (wpIn_region_any b (DI c _ _ _ _ d)) fun e a w d=>?_;cases e<;>first|exact d|exact d.elim
theorem eK {id:Nat} {a:Act} {w:Mr} (b:P.follows .mixedOrders=true)
 (c:wpAny P .any ops (gJ Q) ops.size (No ops.size false) a {w with drawn:=w.drawn+1}):(Code.region id ops true).wp P Q a w:=by
 refine Code.wp_mono (fun e a w c=>?_) (wp_region_any b c);cases e<;>first|exact c|exact c.elim
def tC (P:Program) (md:Region.Mode) (ops:Array Oper) (Q:Exit→Act→Mr→Prop) (w0:Mr) (T:List Nat) (s:Nat):Nat→Array Bool→Act→Mr→Prop
 |0,listed,a,w=>(∀j,j<ops.size→T.contains j=false→listed.getD j false=true)∧∀W,aC w W→wpAny P md ops Q s listed a W
 |fuel+1,listed,a,w=>Region.ready md ops listed≠[]∧∀i∈Region.ready md ops listed,T.contains i=false∧∀W,aC w W→wpOp P ops Q i (fun a' w'=>aC w0 w'∧tC P md ops Q w0 T s fuel (listed.setIfInBounds i true) a' w') a W
theorem IE {fuel:Nat} {b:Array Bool} {a:Act} {w W:Mr} (f:tC P md ops Q w0 T s fuel b a w) (d:aC w W):tC P md ops Q w0 T s fuel b a W:=by
 cases fuel with
 |zero=>exact⟨f.1,fun W' c=>f.2 W' (cH d c)⟩
 |succ n=>exact⟨f.1,fun g e=>⟨(f.2 g e).1,fun W' c=>(f.2 g e).2 W' (cH d c)⟩⟩
theorem PM:∀(fuel:Nat) (b:Array Bool) (a:Act) (w:Mr),tC P md ops Q w0 T s fuel b a w→wpAny P md ops Q (s+fuel) b a w
 |0,_,_,_,h=>h.2 _ (lY _)
 |fuel+1,_,_,_,h=>⟨fun c=>absurd c h.1,fun i d=>wpOp_mono (fun e f g=>PM fuel _ e f g.2) ((h.2 i d).2 _ (lY _))⟩
theorem cy {i:Nat} {r:Oper} {v:Ms} (hiT:T.contains i=false) (G:ops[i]?=S r) (D:∀j,T.contains j=true→j<ops.size→lU md ops ops.size j i=true) (u:∀(j:Nat) (o:Oper) t b,ops[j]?=S o→o.op≠.select t b)
 (L:∀c a w,Q (.panic c) (a.put r.dst v) w→Q (.panic c) a w):
 ∀(fuel:Nat) (c:Array Bool) (a:Act) (w:Mr),iP md ops c→
  (∀j h,ops[j]?=S h→j≠i→c.getD j true=false→(∀e∈h.after,Region.binds md e=true→e.on≠i)→r.apart ops h=true)→
  i∈Region.ready md ops c→lN P ops w0 r v a→aC w0 w→
  tC P md ops Q w0 T s fuel (c.setIfInBounds i true) (a.put r.dst v) w→tC P md ops Q w0 T s (fuel+1) c a w:=by
 have A:∀(c:Array Bool),iP md ops c→i∈Region.ready md ops c→∀j h,ops[j]?=S h→(∀e∈h.after,Region.binds md e=true→c.getD e.on false=true)→T.contains j=false:=by
  intro c f l j h d g;cases k:T.contains j with
  |false=>rfl
  |true=>exact(lV l (vL f _ j h d g (D j k (Nz.1 d).1))).elim
 intro fuel
 induction fuel with
 |zero=>
  intro c a w f m l B z H;refine⟨fun X=>(by rw[X]at l;cases l),fun j x=>?_⟩;obtain⟨n,h,d,g⟩:=mem_ready.1 x;have q:=A c f l j h d g;refine⟨q,?_⟩;by_cases k:j=i
  ·subst k;exact fun W p=>B.wpOp G (cH z p) fun W' k=>⟨cH (cH z p) k,IE (fuel:=0) H (cH p k)⟩
  ·have:=H.1 j (Nz.1 d).1 q;rw[getD_set_ne false (Ne.symm k)]at this;exact(lV x this).elim
 |succ fuel M=>
  intro c a w f m l B z H;refine⟨fun X=>(by rw[X]at l;cases l),fun j x=>?_⟩;obtain⟨n,h,d,g⟩:=mem_ready.1 x;have q:=A c f l j h d g;refine⟨q,fun W p=>?_⟩;by_cases k:j=i
  ·subst k;exact B.wpOp G (cH z p) fun W' k=>⟨cH (cH z p) k,IE (fuel:=fuel+1) H (cH p k)⟩
  ·have R:=(H.2 j (ready_mono x k)).2 W p
   have F:∀e∈h.after,Region.binds md e=true→e.on≠i:=fun e y C t=>lV l (t▸g e y C);have U:=I8 d (m j h d k n F) (fun t b=>u i r t b G) (fun t b=>u j h t b d) L B R
   have t:∀K ok,ops[K]?=S ok→K≠i→(c.setIfInBounds j true).getD K true=false→
    (∀e∈ok.after,Region.binds md e=true→e.on≠i)→r.apart ops ok=true:=fun K ok V C y J=>by
    refine m K ok V C ?_ J;by_cases C:j=K
    ·subst C;exact n
    ·rw[getD_set_ne true C]at y;exact y
   refine wpOp_mono (fun C J y=>⟨y.2.1,M (c.setIfInBounds j true) C J (oE f x) t (ready_mono l (Ne.symm k)) y.1 y.2.1 ?_⟩) U;rw[Array.setIfInBounds_comm _ _ k];exact y.2.2
def tD (md:Region.Mode) (ops:Array Oper) (T:List Nat):List Nat→Array Bool→Bool
 |[],_=>true
 |k::ks,listed=>(ops[k]?).isSome&&(Region.ready md ops listed).contains k&&Region.free md ops listed k&&!T.contains k&&(T.all fun j=>lU md ops ops.size j k)&&tD md ops T ks (listed.setIfInBounds k true)
theorem PN {l:List Oper} (o:Region.noSelect l.toArray=true) (p:∀A a b t w,Q (.panic A) (a.put b t) w→Q (.panic A) a w) {K:Act→Prop} {n:Nat}:∀(c:List Nat) (b:Array Bool) (a:Act) (w:Mr),iP md l.toArray b→
 tD md l.toArray T c b=true→jW P l.toArray w0 K (aM l c) a→aC w0 w→(∀d,K d→tC P md l.toArray Q w0 T s n (bF b c) d w)→tC P md l.toArray Q w0 T s (n+c.length) b a w
 |[],b,a,w,g,d,q,h,i=>i a q
 |C::c,b,a,w,g,d,q,h,i=>by
  simp only[tD,Nq]at d;obtain⟨⟨⟨⟨⟨u,v⟩,x⟩,j⟩,r⟩,k⟩:=d;obtain⟨B,d⟩:=Option.isSome_iff_exists.1 u;have y:aM l (C::c)=B::aM l c:=by simp only[aM,lW];rw[Oi]at d;rw[d]
  rw[y]at q;have e:C∈Region.ready md l.toArray b:=by simpa using v
  have m:∃t,lN P l.toArray w0 B t a∧jW P l.toArray w0 K (aM l c) (a.put B.dst t):=by
   unfold jW at q;by_cases f:Region.wanted B (yielded l.toArray a.tmps)=true
   ·rw[Fp f]at q;obtain⟨t,z,A⟩:=q;exact⟨t,.inl ⟨f,z⟩,A⟩
   ·rw[Fn f]at q;exact⟨Mv,.inr ⟨by simpa using f,rfl⟩,q⟩
  obtain⟨t,z,f⟩:=m;refine cy (by simpa using j) d (fun D m _=>?_) (Region.noSelect_spec o) (fun A a w=>p A a _ _ w) (n+c.length) b a w g (Region.free_spec d x) e z h (PN o p c _ _ w (oE g e) k f h i);rw[List.all_eq_true]at r;exact r D (by simpa using m)
def uF (P:Program) (ops:Array Oper) (Q:Exit→Act→Mr→Prop) (w0:Mr) (K:Act→Mr→Prop):List Oper→Act→Mr→Prop
 |[],a,w=>∀W,aC w W→K a W
 |o::rest,a,w=>∀W,aC w W→if Region.wanted o (yielded ops a.tmps)then o.wp P a W (fun a' w'=>aC w0 w'∧uF P ops Q w0 K rest a' w') Q else aC w0 W∧uF P ops Q w0 K rest (a.put o.dst Mv) W
theorem iJ {K:Act→Mr→Prop} {a:Act} {w:Mr} (b:∀W,aC w W→K a W):uF P ops Q w0 K [] a w:=b
theorem jX {K:Act→Mr→Prop} {a:Act} {w:Mr} {o:Oper} {b:List Oper}
 (f:∀W,aC w W→∀c:Act→Mr→Prop,(∀a w,aC w0 w→uF P ops Q w0 K b a w→c a w)→if Region.wanted o (yielded ops a.tmps)then o.wp P a W c Q else c (a.put o.dst Mv) W):uF P ops Q w0 K (o::b) a w:=
 fun W c=>f W c _ fun a w d e=>⟨d,e⟩
def AJ (md:Region.Mode) (ops:Array Oper) (T:List Nat):List Nat→Array Bool→Bool
 |[],listed=>(Nf ops.size).all fun j=>T.contains j||listed.getD j false
 |k::ks,listed=>(ops[k]?).isSome&&!T.contains k&&Region.ready md ops listed==[k]&&AJ md ops T ks (listed.setIfInBounds k true)
theorem IF {l:List Oper} {E:List Nat}:∀(d:List Nat) (b:Array Bool) (a:Act) (w:Mr),AJ md l.toArray E d b=true→oF md l.toArray E (bF b d)=true→
 uF P l.toArray Q w0 (wpList P l.toArray Q (aM l E)) (aM l d) a w→tC P md l.toArray Q w0 E E.length d.length b a w
 |[],b,a,w,e,f,v=>by
  refine⟨fun y q k=>?_,fun W h=>t5 (need:=fun _=>false) (C:=fun _=>True) _ _ _ _ (vN E _ _ _ (fun _ _=>rfl) f (v W h))⟩;simp only[AJ,List.all_eq_true,List.mem_range,Bool.or_eq_true]at e;rcases e y q with c|c
  ·rw[k]at c;cases c
  ·exact c
 |x::d,b,a,w,e,f,v=>by
  simp only[AJ,Nq,beq_iff_eq]at e;obtain⟨⟨⟨r,m⟩,n⟩,g⟩:=e;obtain⟨z,i⟩:=Option.isSome_iff_exists.1 r;have s:aM l (x::d)=z::aM l d:=by simp only[aM,lW];rw[Oi]at i;rw[i]
  rw[s]at v;refine⟨by rw[n];simp,fun A o=>?_⟩;rw[n]at o;obtain rfl:A=x:=by simpa using o
  refine⟨by simpa using m,fun W h=>?_⟩;have c:=v W h;unfold wpOp;rw[i];dsimp only;split
  ·rename_i j;rw[Fp j]at c;exact .inl (Oper.wp_mono (fun t u p=>⟨p.1,IF d _ t u g f p.2⟩) c)
  ·rename_i j;rw[Fn j]at c;exact⟨c.1,IF d _ _ _ g f c.2⟩
theorem DJ (l:List Oper):iP .any l.toArray (No l.length false):=by intro b c _ a;rw[Array.getD_eq_getD_getElem?,Array.getElem?_replicate]at a;split at a<;>simp at a
def PO (l:List Oper) (M N E:List Nat):Bool:=
 Region.noSelect l.toArray&&vR l.toArray&&decide (E.length+(N.length+M.length)=l.length)&&tD .any l.toArray E M (No l.length false)&&
 AJ .any l.toArray E N (bF (No l.length false) M)&&oF .any l.toArray E (bF (bF (No l.length false) M) N)
theorem iK {a:Act} {w:Mr} {l:List Oper} (n k E:List Nat) (b:PO l n k E=true)
 (p:jW P l.toArray w (fun c=>uF P l.toArray (gJ Q) w (wpList P l.toArray (gJ Q) (aM l E)) (aM l k) c w) (aM l n) a):
 wpAny P .any l.toArray (gJ Q) l.toArray.size (No l.toArray.size false) a {w with drawn:=w.drawn+1}:=by
 simp only[PO,Nq,decide_eq_true_eq]at b;obtain⟨⟨⟨⟨⟨f,m⟩,c⟩,g⟩,h⟩,i⟩:=b;have d:l.toArray.size=l.length:=Nv ..;have b:aC w {w with drawn:=w.drawn+1}:=(Mu.refl _ w).drew;have e:=DJ l;rw[d];generalize(No l.length false:Array Bool)=rep at*;rw[←c];refine PM (w0:=w) (T:=E) _ _ _ _ (PN f uE n rep a _ e g p b fun o j=>?_);exact IE (fuel:=k.length) (IF k _ _ w h i j) b
end
end
section
open Go.RowKit Go.Shelf lin
def d7 (t g:Nat) (L:List Ms) (W:Mr):Prop:=∃cur,W.heap[g]?=S (O cur t)∧∀(i:Nat) (u:Ms),L[i]?=S u→cur[i]?=S u
theorem d7.lt {t:Nat} {L:List Ms} (a:d7 t g L W):g<W.heap.size:=by obtain⟨_,a,_⟩:=a;exact aB a
theorem d7.cell {t:Nat} {L:List Ms} (e:d7 t g L W) {u:Ms} (a:L[i]?=S u):W.cell? ⟨g,i,N⟩=S u:=by obtain⟨d,b,c⟩:=e;rw[Cw b i];exact c i u a
theorem d7.frozen {t:Nat} {L:List Ms} (d:d7 t g L W) (i:Nat):W.frozen? ⟨g,i,N⟩=false:=by obtain⟨b,a,c⟩:=d;exact Fw a i
theorem d7.same {t:Nat} {L:List Ms} (e:d7 t g L W) (b:W'.heap[g]?=W.heap[g]?):d7 t g L W':=by obtain⟨a,c,d⟩:=e;exact⟨a,b.trans c,d⟩
theorem d7.keeps {t:Nat} {L:List Ms} (b:d7 t g L W) (a:aC W W'):d7 t g L W':=b.same (a.block g b.lt)
theorem d7.chg {t:Nat} {L:List Ms} (c:d7 t g L W) (a:aF cw W W') (b:¬cw g):d7 t g L W':=c.same (a.block g c.lt b)
theorem d7.set {t:Nat} {L:List Ms} (k:d7 t g L W) (i:Nat) (u:Ms):d7 t g (L.set i u) (W.setCell ⟨g,i,N⟩ u):=by
 obtain⟨h,c,b⟩:=k;refine⟨_,Hs i u c,fun l m a=>?_⟩;rw[Array.getElem?_setIfInBounds];rw[List.getElem?_set]at a;split
 ·rename_i e;subst e
  rw[Fp rfl]at a;split at a
  ·rename_i d;obtain⟨j,f⟩:∃j,L[i]?=S j:=⟨_,Nn d⟩;have:=(Nz.1 (b i j f)).1;rw[Fp this];exact a
  ·cases a
 ·rename_i e;rw[Fn e]at a;exact b l m a
theorem d7.ne {t b y:Nat} {L:List Ms} {cs:Array Ms} {f:Nat×Nat} (j:d7 t g L W) (c:W.heap[y]?=S (O cs b f)) (d:t≠b):g≠y:=fun e=>by obtain⟨h,a,i⟩:=j;subst e;rw[c]at a;simp at a;exact d a.2.1.symm
theorem d7.made (t:Nat) (L:List Ms) (W:Mr):d7 t W.heap.size L (W.alloc (O L.toArray t)):=⟨L.toArray,aG _ _ _ rfl,fun b c a=>by simpa using a⟩
theorem d7.at {t:Nat} {cs:Array Ms} (a:W.heap[g]?=S (O cs t)):d7 t g cs.toList W:=⟨cs,a,fun b c a=>by simpa using a⟩
theorem d7.own {base e size cap:Nat} {xs:List Ms} (j:W.ownsRow base e size (.slice (S ⟨g,0,N⟩) n cap) n xs):d7 e g xs W:=by
 obtain⟨k,⟨a,_⟩|⟨l,d,b,a,m,c,f⟩⟩:=id j
 ·simp at a
 ·simp at a
  obtain⟨rfl,rfl⟩:=a;refine⟨b,c,fun i o h=>?_⟩;have:=j.cells (g:=g) (by simp[Ny]) i o h;have a:(⟨g,0,N⟩:Addr).add i=⟨g,i,N⟩:=by unfold Addr.add;split<;>simp_all
  rw[a,Cw c i]at this;exact this
end
section
open Go.RowKit Go.Shelf
attribute [local go_sem] Oper.semAt_some cK
theorem DK {a:Nat}:∀(L:List (List Ms)),(∀c∈L,c.length=a)→L.flatten.length=L.length*a
 |[],_=>by simp
 |c::L,d=>by rw[List.flatten_cons,Nr,DK L fun e b=>d e (by simp[b]),d c (by simp),Oc,Nat.add_mul,Nat.one_mul,Nat.add_comm]
theorem IG {a:Nat}:∀(L:List (List Ms)) (i:Nat),(∀d∈L,d.length=a)→i<L.length→(L.eraseIdx i).flatten=L.flatten.take (i*a)++L.flatten.drop ((i+1)*a)
 |[],i,_,e=>by simp at e
 |d::L,0,e,_=>by have:=e d (by simp);simp[←this]
 |d::L,i+1,e,b=>by
  have c:=e d (by simp);have b:i<L.length:=by simpa using b
  have f:(i+1)*a=d.length+i*a:=by rw[c,Nat.add_mul,Nat.one_mul,Nat.add_comm]
  have g:(i+1+1)*a=d.length+(i+1)*a:=by rw[c,Nat.add_mul (i+1) 1,Nat.one_mul,Nat.add_comm]
  rw[List.eraseIdx_cons_succ,List.flatten_cons,IG L i (fun j h=>e j (by simp[h])) b,List.flatten_cons,g,f,List.take_length_add_append,List.drop_length_add_append,List.append_assoc]
theorem PP (w:Mr) (t e h:TypeId) (z:Ms) (i:P.underlying t=S (.slice e)) (j:∀w,(zeroValue e).run P w=.ok z w) (g o c f:Nat) (cur:Array Ms) (k:w.heap[g]?=S (O cur f)) (l:o+z.cells.size≤cur.size) (a:∀b∈z.cells.toList,b.oneCell'=true):(Builtin.clear_ #[t] h #[.slice (S ⟨g,o,N⟩) 1 c]).run P w=.ok (.tuple #[]) (w.setRow g (cur.toList.take o++z.cells.toList++cur.toList.drop (o+z.cells.size)).toArray):=by
 have d:(Builtin.zeroCells z.cells 1).toList=z.cells.toList:=by
  unfold Builtin.zeroCells;apply List.ext_getElem
  ·simp
  ·intro b a m;simp at a ⊢;have e:b%z.cells.size=b:=Og a;simp only[e];exact getElem!_pos z.cells b a
 have b:=run_storeCells_at P g o f z.cells.toList 0 cur w k (by simpa using l) a;simp only[Nat.add_zero]at b;simp[Builtin.clear_,run_underlying i,j,d,b]
theorem PQ {ops:Array Oper} {d:List Oper} {o:Oper} {a:Act} {Q:Exit→Act→Mr→Prop} (w:Mr)
 (p:o.guard=N) (s x:Operand) (t:TypeId) (q:o.op=Op.call {callee:=Callee.builtin Builtin.append,args:=#[s,x],argTypes:=#[t,t]})
 (e:TypeId) (i:TypeInfo) (size:Nat) (u:P.underlying t=S (.slice e)) (v:P.info? e=S i) (r:i.size=size)
 (g n cap:Nat) (cur:Array Ms) (y:w.heap[g]?=S (O cur e)) (z:a.eval s=.slice (S ⟨g,0,N⟩) n cap)
 (l:Addr) (m c:Nat) (b:List Ms) (A:a.eval x=.slice (S l) m c) (B:b.length=m*size) (f:∀j h,b[j]?=S h→w.cell? (l.add j)=S h) (C:∀h∈b,h.oneCell'=true)
 (h:n+m≤cap) (j:n*size+b.length≤cur.size) (k:Nat) (D:n+m=k)
 (G:wpList P ops Q d (a.put o.dst (.slice (S ⟨g,0,N⟩) k cap)) (w.setRow g (cur.toList.take (n*size)++b++cur.toList.drop (n*size+b.length)).toArray)):wpList P ops Q (o::d) a w:=
 wpList_plain p fun _ F=>by subst r;subst D;have r:=run_append_room (P:=P) w t o.type e i u v g n cap cur y l m c b B f C h j;unfold Oper.wp execOp;simp only[q,resolve,invoke,builtin,Sem.run_bind,Sem.run_pure,Result.andThen_ok,List.map_toArray,List.map_cons,List.map_nil,z,A,r];exact F _ _ G
theorem da (W:Mr):(zeroValue 369).run Y W=.ok (.agg #[I Z 0,I Z 0,I Z 0]) W:=by kernel_rfl
theorem PS:(Y.info? 369).map (fun a=>(a.zero,a.size,a.bytes))=S (S (.agg #[I Z 0,I Z 0,I Z 0]),3,24):=by kernel_rfl
theorem dc {L:List (List Ms)} (i j:Nat) (q:i+1=j) (c:i<L.length) (z:∀h∈L.flatten,h.oneCell'=true) (w:Mr) (g:bP 369 3 v L w):Mt Y 264 #[v,I Z (i:Nat),I Z (j:Nat)] w fun e d=>∃a,e=E a∧bP 369 3 a (L.eraseIdx i) d∧a.ownBlock=v.ownBlock∧aF (fun b=>v.ownBlock=S b) w d:=by
 obtain⟨i0,ae,av,an,ba⟩:=info_parts PS;obtain⟨f,d⟩:=g;obtain⟨T,⟨rfl,h2⟩|⟨Q,a,r,rfl,bb,D,bd,s,k,p⟩⟩:=f
 ·omega
 have h:=IG L i d c;have y:(L.eraseIdx i).length=L.length-1:=List.length_eraseIdx_of_lt c;have u:∀g∈L.eraseIdx i,g.length=3:=fun g f=>d g (List.mem_of_mem_eraseIdx f);rw[q]at h;generalize f:L.flatten=fl at*;generalize A:L.length=n at*;obtain⟨m,hm⟩:∃m,n=j+m:=⟨n-j,by omega⟩;obtain⟨X,hk⟩:∃X,n=X+1:=⟨n-1,by omega⟩;have U:=Hd3 h y u;clear h y u d f c
 obtain⟨bm,hA,d⟩:∃bm:Addr,(if a=j then S (⟨Q,0,N⟩:Addr)else S ⟨Q,j*3,N⟩)=S bm∧Hid (∀W:Mr,W.heap[Q]?=S (Obj.cells r 369)→∀t h,(fl.drop (j*3))[t]?=S h→W.cell? (bm.add t)=S h):=by
  by_cases f:a=j
  ·refine⟨⟨Q,0,N⟩,by simp[f],fun W V t h c=>?_⟩;rw[List.drop_eq_nil_of_le (by omega)]at c;simp at c
  ·refine⟨⟨Q,j*3,N⟩,by simp[f],fun W V t h c=>?_⟩
   rw[Addr.add_lit,Cw V _];rw[←p,List.getElem?_drop,List.getElem?_take]at c;split at c
   ·simpa using c
   ·cases c
 have⟨F,f⟩:=Ey (fl.drop (j*3));have g:F.length=m*3:=by rw[←f,List.length_drop,T];omega
 have x:∀h∈F,h.oneCell'=true:=fun h c=>z h (by rw[←f]at c;exact List.mem_of_mem_drop c);rw[f]at d;have⟨C,l⟩:=Ey (r.toList.take (i*3)++F++r.toList.drop (i*3+F.length)).toArray;have c:C.size=a*3:=by rw[←l];simp[g,k];omega
 have⟨G,o⟩:=Ey (C.toList.take (X*3)++(#[I Z 0,I Z 0,I Z 0]:Array Ms).toList++C.toList.drop (X*3+3)).toArray;have HY:=aA (Ai D (Ai f (Ai p (Ai U.out (Ai T (Ai x (Ai g (Ai l (Ai o (Ai c (Ai k (Ai hm (Ai hk (Ai q (Ai s d)))))))))))))));have bn:=aB D;have br:((i:Int)==(j:Int))=false:=by simp;omega
 have bs:i≤a:=by omega
 have bv:j≤a:=by omega
 have ar:i≤j:=by omega
 have bw:j≤n:=by omega
 have bx:¬n=i:=by omega
 clear U z f p D T x g l o c k hm hk q s d A;go_in;go_wp2_with fail;refine eK (by kernel_rfl) (iK [0,1,2,3,4,5] [] [6,7] (by kernel_rfl) ?_);simp only[aM,d8]
 repeat
  with_reducible refine dS fun K f=>?_
  go_simp
  try first
   |(apply Ei
     intro d c;obtain⟨g,h⟩:=c.cells;go_simp
     rfl)
   |(with_reducible refine aQ ?_ ?_;first|decide|simp[Mv];done)
  refine f _ ?_;clear f K
 with_reducible refine dR ?_
 refine iJ fun W V=>?_;have⟨D,f,p,U,T,x,g,l,o,c,k,hm,hk,q,s,d⟩:=HY.out;have A:=aE V D;refine PQ W (by rfl) (.tmp 22) (.tmp 25) 337 (by rfl) 369 i0 3 underlying337 ae an Q i a r A (by rfl) bm m (a-j) F ?_ g (d W A) x (by omega) (by rw[g,k];omega) X (by omega) ?_
 ·have:n-j=m:=by omega
  rw[←this];simp[Act.eval,Act.put,hA]
 rw[l];have⟨z,B⟩:=Ey (W.setRow Q C);have R:z.heap[Q]?=S (O C 369):=by rw[←B];exact Hw A C
 have H:aF (fun b=>b=Q) w z:=by rw[←B];exact(aF.of_below V _).trans ⟨rfl,rfl,rfl,by simp[Mr.setRow],fun b _ h=>setRow_other W Q b _ h⟩
 have bz:∀h,(Builtin.clear_ #[337] h #[.slice (S ⟨Q,X*3,N⟩) (n-X) (a-X)]).run Y z=.ok (.tuple #[]) (z.setRow Q G):=fun h=>by rw[←o,show n-X=1 by omega];exact PP (P:=Y) z 337 369 h (.agg #[I Z 0,I Z 0,I Z 0]) underlying337 da Q _ _ 369 C R (by rw[c];show X*3+3≤_;omega) (by decide)
 have aa:=Hw R G;have J:aF (fun b=>b=Q) w (z.setRow Q G):=H.trans ⟨rfl,rfl,rfl,by simp[Mr.setRow],fun b _ h=>setRow_other z Q b _ h⟩
 have M:bP 369 3 (.slice (S ⟨Q,0,N⟩) X a) (L.eraseIdx i) (z.setRow Q G):=by
  obtain⟨h,y,u⟩:=U;have ab:(L.eraseIdx i).length=X:=by omega
  have ad:G.size=a*3:=by rw[←o];simp[c];omega
  refine⟨⟨by rw[DK _ u],.inr ⟨Q,a,G,by rw[ab],Ns _,aa,by omega,s,ad,?_⟩⟩,u⟩;have e1:(r.toList.take (i*3)++F).length=X*3:=by simp[g,k];omega
  rw[ab,←o,List.append_assoc,List.take_append_of_le_length (by simp[c];omega),List.take_take,Nat.min_self,←l,h,f];rw[←e1,List.take_left,←p,List.take_take,Nat.min_eq_left (by omega)]
 have u:=aH M J;have y:=aB R;have ad:X≤n:=by omega
 have ab:¬a=X:=by omega
 have cc:X≤a:=by omega
 rw[B];clear D f p U T x g l o c k hm hk q s d M J H aa A B HY;go_wp2_with fail;refine dT ?_;go_wp2_with fail;go_ret;exact⟨_,rfl,u.out.1,rfl,u.out.2.mono (fun b _ h=>by subst h;rfl)⟩
end
namespace lin
open Go.RowKit Go.Shelf
theorem lO:(Y.info? 5).map (fun a=>(a.zero,a.size,a.bytes))=S (S (.int .u8 0),1,1):=by kernel_rfl
theorem fi {t e:TypeId} {k:IntKind} {a:TypeInfo} (b:P.underlying t=S (.array n e)) (c:P.underlying e=S (.int k)) (d:P.info? e=S a) (f:a.size=1) (xs:List Int) (j:xs.length=n) (i:Nat) (l:i<n) (w:Mr):(Instr.index t (.agg (aD k xs)) (.int .i64 (i:Nat))).run P w=.ok (.int k (xs.getD i 0)) w:=by
 have g:=ce (P:=P) c xs i (by omega) w;have:i<xs.length:=by omega
 have h:xs.getD i 0=xs[i]:=by simp[Mx,this]
 rw[h,←g];simp[Instr.index,asIntOf,run_underlying b,sizeOf,typeInfo,d,f,l]
theorem DR {e:TypeId} {size:Nat} {xs:List Ms} (a:w.ownsRow B e size v n xs):∀c,v.ownBlock=S c→B≤c:=by
 obtain⟨_,⟨rfl,_⟩|⟨g,d,f,rfl,b,_⟩⟩:=a
 ·intro c a;cases a
 ·intro c a;cases a;exact b
attribute [local simp] Mf Mg
attribute [local go_sem] Mh
end lin
namespace lin
open Go.RowKit Go.Shelf
def uH (k:Nat) (x:Int):List Int:=Nd k x++Nd (64-k) 0
theorem gj (k:Nat) (x:Int) (a:k≤64):(uH k x).length=64:=by unfold uH;simp;omega
theorem gl (k:Nat) (x:Int) (a:k<64):(uH k x).set k x=uH (k+1) x:=by unfold uH;rw[List.set_append_right _ _ (by simp),List.length_replicate,Nat.sub_self,show 64-k=(64-(k+1))+1 from by omega,List.replicate_succ,List.set_cons_zero,List.replicate_succ',List.append_assoc];rfl
theorem gm (x:Int):uH 64 x=Nd 64 x:=by unfold uH;simp
def gn (w:Mr) (x:Int) (e:Ending) (w':Mr):Prop:=e=E (.agg (aD .u8 (Nd 64 x)))∧Mu w.heap.size w w'
def QI (w:Mr) (x:Int) (k:Nat) (W:Mr):Prop:=W.heap[w.heap.size]?=S (O (aD .u8 (Nd 64 0)) 38)∧W.heap[w.heap.size+1]?=S (O (aD .u8 (uH k x)) 38)∧Mu w.heap.size w W
attribute [local simp] Mf Mg
attribute [local go_sem] Mh
theorem QJ (x:Int) (w:Mr):Mt Y 23 #[.int .u8 x] w (gn w x):=by
 go_in;go_wp2_with fail;rw[gR];have⟨w0,a⟩:=Ex ((w.alloc (O (aD .u8 (Nd 64 0)) 38)).alloc (O (aD .u8 (Nd 64 0)) 38));have h:QI w x 0 w0:=by rw[a];exact⟨heap_alloc2_old _ _ _,heap_alloc2_new _ _ _,(Bl.alloc Nl _).alloc (by simp) _⟩
 rw[←a];clear a;go_loopw [5] (fun a wr=>∃g:Nat,g≤64∧a=I Z g∧QI w x g wr) fun a _=>64-(intOf a).toNat
 case atStart=>exact⟨0,by omega,rfl,h⟩
 case round=>
  obtain⟨g,i,rfl,c,a,d⟩:=hrel;by_cases e:g<64
  ·have j:(g:Int)<64:=by omega
   have f:∃k,wr.cell? ⟨w.heap.size+1,g,N⟩=S k:=⟨_,sC wr _ g _ 38 a (by rw[gj _ _ i];exact e)⟩;obtain⟨k,f⟩:=f;have l:=Fw a g;have m:=Hd3 c a d;have b:=e;clear c a d;go_wp2_with fail;go_roundw
   case rel=>have⟨c,a,d⟩:=m.out;refine⟨g+1,by omega,by go_num,(Ho (by show w.heap.size≠w.heap.size+1;omega)).trans c,?_,d.setCell (by show w.heap.size≤w.heap.size+1;omega) _⟩;rw[←gl _ _ b,←AF];exact Hs _ _ a
   case measure=>simp[intOf];omega
  ·have:g=64:=by omega
   subst this;rw[gm]at a;have⟨lx,b⟩:=Ex (Nd 64 x);have f:lx.length=64:=by rw[b];simp
   rw[←b]at a;have j:=aA b;have n:=Lw a 64 (by rw[aP,f]);have o:=Sw c (aD .u8 lx) (by rw[aP,aP,f];simp) (dG _ _);have k:=Hw c (aD .u8 lx);have l:(aD .u8 lx).size=64:=by rw[aP,f]
   have m:=aA d;clear c a d b f;go_wp2_with fail;refine My (Oa (P:=Y) rfl _ _ w.heap.size 38 (aD .u8 lx) (0,0) (.array 64 5) rfl k (by kernel_rfl) rfl (by rw[l];kernel_rfl)) rfl ?_;exact⟨by rw[j.out],Ob m.out Nl _⟩
end lin
section
open Go.ChangeShapes Go.WideShapes Go.ChangeAt Go.RowKit Go.Deep
theorem own:ownKnob Y.godebug=N:=by kernel_rfl
theorem mL:laidOutB Y=true:=by kernel_rfl
def bN (n:Int):Prop:=-9223372036854775808≤n∧n≤9223372036854775807
theorem IR {n:Int} (a:(Lit.int .i64 n).wf=true):bN n:=by have:=bounds_i64 a;unfold bN;omega
theorem QA {w:Mr} {a:Addr} {v:Ms} (c:w.cell? a=S v):a.block<w.heap.size:=by
 unfold Mr.cell? at c;cases b:w.heap[a.block]? with
 |none=>simp[b]at c
 |some d=>exact(Nz.1 b).1
section
variable {H:Type} {enc:TypeId×Value→H} {P:Program} {w:World} {base:Nat} {spare:Nat→Bool} {held:Bool}
end
section
variable {H:Type} {enc:TypeId×Value→H} {P:Program} {w:World} {base:Nat} {spare:Nat→Bool} {held:Bool}
end
section
variable {H:Type} {enc:TypeId×Value→H} {w:World} {base:Nat} {spare:Nat→Bool} {held:Bool}
end
end
namespace lin
open Go.ChangeShapes Go.WideShapes Go.ChangeAt Go.RowKit Go.Deep
def aX (n:Nat) (l:List Int):Prop:=∀k,k<n→∃m:Nat,l.getD k 0=(m:Int)∧m<256
section
variable {H:Type} {enc:TypeId×Value→H} {P:Program} {w:World} {base:Nat} {spare:Nat→Bool} {held:Bool}
end
end lin
namespace lin
open Go.RowKit
theorem fq (x k:Nat):l8 x k=x.testBit k:=by rw[Nat.testBit_eq_decide_div_mod_eq];rfl
theorem QB (a b:List Int) (c:List Nat) (j:Nat) (g:j<a.length):(fO a b c).getD j 0=if j∈c then b.getD j 0 else a.getD j 0:=by
 induction c generalizing a with
 |nil=>simp[fO]
 |cons h c i=>
  have e:fO a b (h::c)=fO (a.set h (b.getD h 0)) b c:=rfl;rw[e,i _ (by rw[Od];exact g)];by_cases d:j∈c
  ·rw[Fp d,Fp (List.mem_cons_of_mem _ d)]
  ·rw[Fn d]
   by_cases f:j=h
   ·subst f;rw[Fp (List.mem_cons_self ..)];simp[Mx,g]
   ·rw[Fn (by simp[d,f])];have:¬h=j:=fun e=>f e.symm;simp[Mx,this]
theorem ft (x j:Nat):j∈dO x↔j<64∧x.testBit j=true:=by unfold dO;rw[List.mem_filter,List.mem_range,fq]
theorem IS {a b:List Int} (f:a.length=64) (g:b.length=64) (h:∀c,c<64→a.getD c 0=b.getD c 0):a=b:=by refine List.ext_getElem (by omega) fun c d e=>?_;have:=h c (by omega);simpa[Mx,d,e]using this
def DS (c:Nat):Nat:=if 48≤c∧c≤57 then c-48 else c-87
def QC (c:Nat):Bool:=(decide (48≤c)&&decide (c≤57))||(decide (97≤c)&&decide (c≤102))
def cb (bs:List UInt8) (k:Nat):Nat:=(bs.getD k 0).toNat
def fu (bs:List UInt8) (k i:Nat):Int:=if 2*i+1<k then((16*DS (cb bs (2*i))+DS (cb bs (2*i+1)):Nat):Int)else if 2*i<k then((DS (cb bs (2*i)):Nat):Int)else 0
def QD (bs:List UInt8) (k:Nat):List Int:=(Nf 64).map (fu bs k)
def IT (bs:List UInt8):Bool:=decide (bs.length=128)&&(Nf 128).all fun j=>QC (cb bs j)
def QE (bs:List UInt8):List Int:=if IT bs then QD bs 128 else Nd 64 0
def QF (bs:List UInt8):Int:=if IT bs then 0 else 10
attribute [irreducible] QD IT QE QF QC DS cb
def pU (f:Nat→Nat):Nat→Nat
 |0=>0
 |n+1=>pU f n+f n*256^n
def hiT (f:Nat→Nat):Nat→Nat
 |0=>0
 |r+1=>256*hiT f r+f (7-r)
theorem DT (f:Nat→Nat):∀n,(∀a,a<n→f a<256)→pU f n<256^n
 |0,_=>by simp[pU]
 |n+1,b=>by have c:=DT f n fun a d=>b a (by omega);have a:=b n (by omega);have d:f n*256^n≤255*256^n:=Nat.mul_le_mul_right _ (by omega);rw[pU,Nat.pow_succ];omega
theorem QG (f:Nat→Nat) (i:Nat):∀n,(∀a,a<n→f a<256)→i<n→pU f n/256^i%256=f i
 |0,_,d=>by omega
 |n+1,d,g=>by
  rw[pU];by_cases e:i=n
  ·subst e;have b:=DT f i fun a c=>d a (by omega);have a:=d i (by omega);rw[Nat.add_mul_div_right _ _ (Nat.pow_pos (by omega)),Nat.div_eq_of_lt b];omega
  ·have b:=QG f i n (fun a c=>d a (by omega)) (by omega)
   have:f n*256^n=(f n*256^(n-i-1)*256)*256^i:=by rw[Nat.mul_assoc,Nat.mul_assoc];congr 1;rw[←Nat.pow_succ',←Nat.pow_add];congr 1;omega
   rw[this,Nat.add_mul_div_right _ _ (Nat.pow_pos (by omega)),Nat.add_mul_mod_self_right];exact b
def wby (l:List Int) (k j:Nat):Nat:=(l.getD (8*k+j) 0).toNat
theorem AQ {l:List Int} (a:aX 64 l) (c:k<8) (d:j<8):wby l k j<256∧l.getD (8*k+j) 0=((wby l k j:Nat):Int):=by obtain⟨m,b,e⟩:=a (8*k+j) (by omega);unfold wby;rw[b];exact⟨by simpa using e,rfl⟩
def wordV (l:List Int) (k:Nat):Nat:=pU (wby l k) 8
theorem xF {l:List Int} (a:aX 64 l) (b:k<8):wordV l k<2^64:=DT (wby l k) 8 fun d c=>(AQ a b c).1
def eW (g:Nat→Int) (n j:Nat):List Int:=(Nf n).map fun t=>if t<j then g t else 0
theorem tF (g:Nat→Int) (n j:Nat):(eW g n j).length=n:=by simp[eW]
theorem DU (g:Nat→Int) (n:Nat):eW g n 0=Nd n 0:=by unfold eW;refine List.ext_getElem (by rw[Np,List.length_range,List.length_replicate]) fun c a b=>?_;rw[List.getElem_replicate];simp
theorem QH (g:Nat→Int) (n j:Nat) (f:j<n):(eW g n j).set j (g j)=eW g n (j+1):=by
 refine List.ext_getElem (by simp[eW]) fun d b c=>?_;rw[List.getElem_set];simp only[eW,List.getElem_map,List.getElem_range];split
 ·rename_i e;subst e;rw[Fp (by omega)]
 ·by_cases a:d<j
  ·rw[Fp a,Fp (by omega)]
  ·rw[Fn a,Fn (by omega)]
theorem IU (g:Nat→Int) (n j t:Nat) (a:t<n):(eW g n j).getD t 0=if t<j then g t else 0:=by simp[eW,Mx,a]
theorem IV (g:Nat→Int) (n:Nat):eW g n n=(Nf n).map g:=by unfold eW;refine List.map_congr_left fun t a=>?_;rw[Fp (List.mem_range.1 a)]
def kC (ws:List Int) (t:Nat):Int:=(((ws.getD (t/8) 0).toNat/256^(t%8)%256:Nat):Int)
theorem DV (l:List Int) (c:l.length=64) (a:aX 64 l):(Nf 64).map (kC ((Nf 8).map fun k=>((wordV l k:Nat):Int)))=l:=by
 refine IS (by simp) c fun b d=>?_;have e:((Nf 64).map (kC ((Nf 8).map fun k=>((wordV l k:Nat):Int)))).getD b 0=kC ((Nf 8).map fun k=>((wordV l k:Nat):Int)) b:=by simp[Mx,d]
 rw[e];unfold kC
 have f:((Nf 8).map fun k=>((wordV l k:Nat):Int)).getD (b/8) 0=((wordV l (b/8):Nat):Int):=by
  have:b/8<8:=by omega
  simp[Mx,this]
 rw[f,Int.toNat_natCast];unfold wordV;rw[QG _ (b%8) 8 (fun h g=>(AQ a (by omega) g).1) (by omega),←(AQ a (show b/8<8 by omega) (show b%8<8 by omega)).2];congr 1;omega
theorem fv (S b i:Nat) (h:i<8) (a:S<256^i) (j:b<256):bits .or .u64 (S:Int) ((b*256^i:Nat):Int)=((S+b*256^i:Nat):Int):=by
 have c:256^i=2^(8*i):=by rw[Nat.pow_mul]
 have g:S+b*256^i<2^64:=by
  have d:S+b*256^i<256^(i+1):=by have f:b*256^i≤255*256^i:=Nat.mul_le_mul_right _ (by omega);rw[Nat.pow_succ];omega
  have f:256^(i+1)≤256^8:=Nat.pow_le_pow_right (by omega) (by omega);exact Nj d f
 show IntKind.u64.wrap (((BitVec.ofInt 64 (S:Int)|||BitVec.ofInt 64 ((b*256^i:Nat):Int)).toNat:Nat):Int)=_;rw[BitVec.ofInt_natCast,BitVec.ofInt_natCast];simp only[BitVec.toNat_or,BitVec.toNat_ofNat];rw[Og (by omega),Og (by omega),IntKind.wrap_u64];have e:S|||b*256^i=S+b*256^i:=by rw[c]at a ⊢;rw[Nat.or_comm,Nat.mul_comm b,←Nat.two_pow_add_eq_or_of_lt a];omega
 rw[e];omega
attribute [irreducible] eW wordV wby
def iR:Nat→Nat→Nat
 |0,_=>0
 |f+1,n=>n%2+iR f (n/2)
theorem IW (f:Nat):iR f 0=0:=by
 induction f with
 |zero=>rfl
 |succ f a=>simp[iR,a]
def popc (n:Nat):Nat:=iR 64 n
theorem AS:popc 0=0:=IW 64
theorem IY (f:Nat):∀n,0<n→n<2^f→iR f (n&&& (n-1))+1=iR f n:=by
 induction f with
 |zero=>intro n h a;omega
 |succ f c=>
  intro n h a;have d:(n&&& (n-1))/2=n/2&&& (n-1)/2:=Nat.and_div_two
  have e:(n&&& (n-1))%2=0:=by
   have b:¬(n&&& (n-1))%2=1:=fun b=>by have:=Nat.and_mod_two_eq_one.1 b;omega
   omega
  simp only[iR];rw[d,e];by_cases g:n%2=1
  ·rw[show(n-1)/2=n/2 from by omega,Nat.and_self];omega
  ·have b:(n-1)/2=n/2-1:=by omega
   rw[b];have:=c (n/2) (by omega) (by rw[Nat.pow_succ]at a;omega);omega
theorem IZ (b:0<n) (a:n<18446744073709551616):popc (n&&& (n-1))+1=popc n:=IY 64 n b a
theorem DW (f:Nat):∀n,iR f n≤f:=by
 induction f with
 |zero=>intro n;exact Nl
 |succ f a=>intro n;have:=a (n/2);simp only[iR];omega
theorem J0 (n:Nat):popc n≤64:=DW 64 n
theorem fw (f:Nat):∀n,n<2^f→(iR f n=f↔n=2^f-1):=by
 induction f with
 |zero=>intro n i;have:n=0:=by omega
        subst this;simp[iR]
 |succ f a=>
  intro n i;have e:=DW f (n/2);have g:2^(f+1)=2*2^f:=by rw[Nat.pow_succ];omega
  have:=a (n/2) (by omega);have h:1≤2^f:=Nat.one_le_two_pow;simp only[iR];constructor
  ·intro b
   have c:iR f (n/2)=f:=by omega
   have d:=this.1 c;omega
  ·intro b;have d:=this.2 (by omega);omega
theorem fy (a:n<2^64):popc n=64↔n=18446744073709551615:=fw 64 n a
attribute [irreducible] popc iR
theorem ge (a b:Nat) (c:a<2^64) (d:b<2^64):bits .and .u64 (a:Int) (b:Int)=((a&&& b:Nat):Int):=by have e:a&&& b<2^64:=Nat.lt_of_le_of_lt Nat.and_le_left c;show IntKind.u64.wrap (((BitVec.ofInt 64 (a:Int)&&& BitVec.ofInt 64 (b:Int)).toNat:Nat):Int)=_;rw[BitVec.ofInt_natCast,BitVec.ofInt_natCast];simp only[BitVec.toNat_and,BitVec.toNat_ofNat];rw[Og c,Og d,IntKind.wrap_u64];omega
end lin
end Go.Proofs.YtlbgenenpheheaaGreat
