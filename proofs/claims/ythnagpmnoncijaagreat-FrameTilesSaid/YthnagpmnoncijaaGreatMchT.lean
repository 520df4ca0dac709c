/- A part of the proof. -/
import Derived.Test.YthnagpmnoncijaaGreatMchSa
import Derived.Test.YthnagpmnoncijaaGreatMchJa
set_option linter.unusedVariables false
namespace Go.Proofs.YthnagpmnoncijaaGreat.M
open Go Go.RowKit
inductive AT where
 | val (agg:Bool) (t:Ty)
 | dp (t:Ty)
 | dpf (f:Nat) (caps:AT)
 | own (e:Nat) (t:Ty)
 | fn (f:Nat) (caps:AT)
 | nil
 | cons (a b:AT)
@[reducible] def AT.T:AT -> Type
 | .val _ t=>t.T
 | .dp t=>t.T
 | .dpf _ c=>c.T
 | .own _ t=>List t.T
 | .fn _ c=>c.T
 | .nil=>Unit
 | .cons a b=>a.T × b.T
def AT.dss:(a:AT) -> a.T -> List (List D)
 | .val _ t,x=>[enc t x]
 | .dp _,_=>[[]]
 | .dpf _ _,_=>[[]]
 | .own _ _,_=>[[]]
 | .fn f c,x=>[[.clo f (c.dss x)]]
 | .nil,_=>[]
 | .cons a b,x=>a.dss x.1 ++ b.dss x.2
def shapeB:Bool -> Shape
 | true=>.agg
 | false=>.one
def AT.svs:(a:AT) -> a.T -> List SV
 | .val g t,x=>[⟨shapeB g,(enc t x).map D.toC⟩]
 | .dp t,x=>[one (.dp (enc t x))]
 | .dpf f c,x=>[one (.dp [.clo f (c.dss x)])]
 | .own e t,x=>[one (.own e t x)]
 | .fn f c,x=>[one (.dclo f (c.dss x))]
 | .nil,_=>[]
 | .cons a b,x=>a.svs x.1 ++ b.svs x.2
def AT.decD:(a:AT) -> List (List D) -> Option (a.T × List (List D))
 | .val _ t,ds :: r=>match decC t (ds.map D.toC) with
  | some (x,_)=>some (x,r)
  | none=>none
 | .fn f c,(.clo f' dss :: _) :: r=>match Nat.beq f' f with
  | true=>match c.decD dss with
   | some (x,[])=>some (x,r)
   | _=>none
  | false=>none
 | .nil,l=>some ((),l)
 | .cons a b,l=>match a.decD l with
  | some (x,r)=>match b.decD r with
   | some (y,r')=>some ((x,y),r')
   | none=>none
  | none=>none
 | _,_=>none
def AT.dec:(a:AT) -> List SV -> Option (a.T × List SV)
 | .val g t,v :: r=>match v.sh,g with
  | .agg,true=>match decC t v.cs with
   | some (x,[])=>some (x,r)
   | _=>none
  | .one,false=>match decC t v.cs with
   | some (x,[])=>some (x,r)
   | _=>none
  | _,_=>none
 | .dp t,v :: r=>match v with
  | ⟨.one,[.dp ds]⟩=>match decC t (ds.map D.toC) with
   | some (x,_)=>some (x,r)
   | none=>none
  | _=>none
 | .dpf f c,v :: r=>match v with
  | ⟨.one,[.dp (.clo f' dss :: _)]⟩=>match Nat.beq f' f with
   | true=>match c.decD dss with
    | some (x,[])=>some (x,r)
    | _=>none
   | false=>none
  | _=>none
 | .own _ _,_ :: _=>none
 | .fn f c,v :: r=>match v with
  | ⟨.one,[.clo f' []]⟩=>match Nat.beq f' f with
   | true=>match c.decD [] with
    | some (x,[])=>some (x,r)
    | _=>none
   | false=>none
  | ⟨.one,[.dclo f' dss]⟩=>match Nat.beq f' f with
   | true=>match c.decD dss with
    | some (x,[])=>some (x,r)
    | _=>none
   | false=>none
  | _=>none
 | .nil,l=>some ((),l)
 | .cons a b,l=>match a.dec l with
  | some (x,r)=>match b.dec r with
   | some (y,r')=>some ((x,y),r')
   | none=>none
  | none=>none
 | _,[]=>none
def AT.noOwn:AT -> Bool
 | .own _ _=>false
 | .cons a b=>a.noOwn && b.noOwn
 | _=>true
def AT.noDp:AT -> Bool
 | .dp _=>false
 | .dpf _ _=>false
 | .cons a b=>a.noDp && b.noDp
 | _=>true
def AT.bare (a:AT):Bool:=a.noOwn && a.noDp
def AT.decR:(a:AT) -> List SV -> Option (a.T × List SV)
 | .own _ t,v :: r=>match v.sh with
  | .one=>match decC (.list t) v.cs with
   | some (x,[])=>some (x,r)
   | _=>none
  | _=>none
 | .own _ _,[]=>none
 | .cons (.own _ t) b,v :: r=>match v.sh with
  | .one=>match decC (.list t) v.cs with
   | some (x,[])=>match b.dec r with
    | some (y,r')=>some ((x,y),r')
    | none=>none
   | _=>none
  | _=>none
 | a,l=>a.dec l
def Cell.isRow (e:Nat) (t:Ty):Cell -> Bool
 | .own e' t' _=>Nat.beq e' e && decide (t' = t)
 | .nilS=>true
 | _=>false
def ownHead:AT -> List ResultVar -> List SV -> Bool
 | .own e t,.tmp _ :: _,⟨.one,[c]⟩ :: _=>c.isRow e t
 | .own _ _,_,_=>false
 | .cons (.own e t) b,.tmp _ :: _,⟨.one,[c]⟩ :: _=>c.isRow e t && b.bare
 | a,_,_=>a.bare
inductive CT where
 | dat (t:Ty)
 | own (e:Nat) (t:Ty)
 | ptr (n off:Nat)
 | clo (f:Nat) (caps:List (Nat × Nat))
 | kint (k:IntKind) (n:Int)
 | kbool (b:Bool)
 | fn (f:Nat) (a:AT)
 | dp (t:Ty)
 | nils
 | yld (n:Nat)
 | imm (k:Nat)
 | arr
@[reducible] def CT.add:CT -> Type -> Type
 | .dat t,R=>t.T × R
 | .own _ t,R=>List t.T × R
 | .fn _ a,R=>a.T × R
 | .dp t,R=>t.T × R
 | .arr,R=>List Ty.bool.T × R
 | _,R=>R
def CT.emb {R:Type}:(c:CT) -> c.add R -> List Cell × R
 | .dat t,x=>((enc t x.1).map D.toC,x.2)
 | .own e t,x=>([.own e t x.1],x.2)
 | .ptr n off,x=>([.ptr n off],x)
 | .clo f caps,x=>([.clo f caps],x)
 | .kint k n,x=>([.c (.int k n)],x)
 | .kbool b,x=>([.c (.bool b)],x)
 | .fn f a,x=>([.dclo f (a.dss x.1)],x.2)
 | .dp t,x=>([.dp (enc t x.1)],x.2)
 | .nils,x=>([.nilS],x)
 | .yld n,x=>([.yld n],x)
 | .imm k,x=>([.imm k],x)
 | .arr,x=>([.arr x.1],x.2)
def eqCaps:List (Nat × Nat) -> List (Nat × Nat) -> Bool
 | [],[]=>true
 | (a,b) :: r,(c,d) :: r'=>Nat.beq a c && (Nat.beq b d && eqCaps r r')
 | _,_=>false
def Cell.isImm (n:Nat):Cell -> Bool
 | .imm m=>Nat.beq m n
 | _=>false
def CT.dec {R:Type}:(c:CT) -> List Cell -> Option ((R -> c.add R) × List Cell)
 | .dat t,cs=>match decC t cs with
  | some (x,r)=>some (fun y=>(x,y),r)
  | none=>none
 | .own e t,x :: r=>match x with
  | .nilS=>some (fun y=>([],y),r)
  | .own e' t' l=>if h:t' = t then (match Nat.beq e' e with
   | true=>some (fun y=>(h ▸ l,y),r)
   | false=>none) else none
  | _=>none
 | .ptr n off,.ptr n' off' :: r=>match Nat.beq n' n && Nat.beq off' off with
  | true=>some (fun y=>y,r)
  | false=>none
 | .clo f caps,.clo f' caps' :: r=>match Nat.beq f' f && eqCaps caps' caps with
  | true=>some (fun y=>y,r)
  | false=>none
 | .kint k n,x :: r=>match x.val? with
  | some (true,.int k' n')=>if k' = k /\ n' = n then some (fun y=>y,r) else none
  | _=>none
 | .kbool b,x :: r=>match x.val? with
  | some (true,.bool b')=>if b' = b then some (fun y=>y,r) else none
  | _=>none
 | .fn f a,.dclo f' dss :: r=>match Nat.beq f' f with
  | true=>match a.decD dss with
   | some (x,[])=>some (fun y=>(x,y),r)
   | _=>none
  | false=>none
 | .dp t,.dp ds :: r=>match decC t (ds.map D.toC) with
  | some (x,_)=>some (fun y=>(x,y),r)
  | none=>none
 | .nils,.nilS :: r=>some (fun y=>y,r)
 | .yld n,.yld m :: r=>match Nat.beq m n with
  | true=>some (fun y=>y,r)
  | false=>none
 | .arr,.arr l :: r=>some (fun y=>(l,y),r)
 | .imm n,x :: r=>match Nat.ble 2 n || x.isImm n with
  | true=>some (fun y=>y,r)
  | false=>none
 | _,_=>none
@[reducible] def ctsT:List CT -> Type -> Type
 | [],R=>R
 | c :: cs,R=>c.add (ctsT cs R)
def ctsEmb {R:Type}:(l:List CT) -> ctsT l R -> List Cell × R
 | [],x=>([],x)
 | c :: cs,x=>match c.emb x with
  | (l,y)=>match ctsEmb cs y with
   | (l',z)=>(l ++ l',z)
def ctsDec {R:Type}:(l:List CT) -> List Cell -> Option (R -> ctsT l R)
 | [],[]=>some fun y=>y
 | [],_=>none
 | c :: cs,l=>match c.dec (R:=ctsT cs R) l with
  | some (f,r)=>match ctsDec (R:=R) cs r with
   | some h=>some fun y=>f (h y)
   | none=>none
  | none=>none
structure NEnt where
 fn:Nat
 A:AT
 e:Nat
 C:List CT
 F:A.T -> Option (ctsT C Unit)
structure Ent where
 fn:Nat
 A:AT
 R:AT
 F:A.T -> Option R.T
def fnBody (f:Func):Code:=f.body.getD .skip
section
variable {ρ:Type}
def callE:List Ent -> Nat -> List SV -> (SV -> Option ρ) -> Option ρ
 | [],_,_,_=>none
 | e :: T,fn,args,K=>match Nat.beq e.fn fn with
  | true=>match e.A.dec args with
   | some (y,[])=>obind (e.F y) fun x=>match joinRes (e.R.svs x) with
    | some r=>K r
    | none=>none
   | _=>callE T fn args K
  | false=>callE T fn args K
def newE:List NEnt -> Nat -> List SV -> (Nat -> List Cell -> Option ρ) -> Option (Option ρ)
 | [],_,_,_=>none
 | q :: W,fn,args,K=>match Nat.beq q.fn fn with
  | true=>match q.A.dec args with
   | some (y,[])=>some (obind (q.F y) fun x=>K q.e (ctsEmb q.C x).1)
   | _=>newE W fn args K
  | false=>newE W fn args K
def share (v:SV) (K:SV -> Option ρ):Option ρ:=
 match v with
 | ⟨.one,[.v (.int k e)]⟩=>bnd e fun n=>K ⟨.one,[.v (.int k n)]⟩
 | ⟨.one,[.v (.bool e)]⟩=>bnd e fun n=>K ⟨.one,[.v (.bool n)]⟩
 | ⟨.one,[.v (.string e)]⟩=>bnd e fun n=>K ⟨.one,[.v (.string n)]⟩
 | ⟨.one,[.lst t l]⟩=>bnd l fun n=>K ⟨.one,[.lst t n]⟩
 | ⟨.one,[.own e t l]⟩=>bnd l fun n=>K ⟨.one,[.own e t n]⟩
 | v=>K v
def gd (c:Cnd) (x:Option ρ):Option ρ:=
 match c with
 | .ok=>x
 | .chk b=>bgd b x
 | .pr _=>none
def SV.boolV? (v:SV):Option Bool:=
 match v with
 | ⟨.one,[.v (.bool b)]⟩=>some b
 | _=>none
def fork (g:Bool) (v:SV) (K:SV -> Option ρ):Option ρ:=
 match g with
 | false=>K v
 | true=>match v.boolV? with
  | some b=>bite b (K ⟨.one,[.c (.bool true)]⟩) (K ⟨.one,[.c (.bool false)]⟩)
  | none=>K v
def reckons:Op -> Bool
 | .binOp ..=>true
 | .unOp ..=>true
 | .convert ..=>true
 | .slice ..=>true
 | .call ..=>true
 | _=>false
def elemOf (P:Program) (want:Bool) (s:St):Op -> Option ((t:Ty) × Option t.T)
 | .indexAddr t x ix=>match (evalO s ix).bind SV.int?,evalO s x,P.underlying t with
  | some (_,_,i),some ⟨.one,[c]⟩,some (.slice e)=>match want with
   | true=>none
   | false=>match tyOf P 8 e with
    | some ty=>match c.list ty with
     | some xs=>some ⟨ty,F.get xs i⟩
     | none=>none
    | none=>none
  | some (false,_,i),some ⟨.one,[.dp ds]⟩,some (.array len e)=>match tyOf P 8 e with
   | some ty=>match decs ty (chunks ty.n len ((ds.map D.toC).take (len * ty.n))) with
    | some xs=>some ⟨ty,F.get xs i⟩
    | none=>none
   | none=>none
  | _,_,_=>none
 | .load _ x=>match evalO s x with
  | some ⟨.one,[.pe n off ty len i _]⟩=>match s.box? n with
   | some (_,cs)=>match decs ty (chunks ty.n len ((cs.drop off).take (len * ty.n))) with
    | some xs=>some ⟨ty,F.get xs i⟩
    | none=>none
   | none=>match s.arr? n with
    | some (_,l)=>some ⟨.bool,F.get l i⟩
    | none=>none
  | some ⟨.one,[.re q ty i _]⟩=>match s.at? q with
   | some c=>match c.list ty with
    | some xs=>some ⟨ty,F.get xs i⟩
    | none=>none
   | none=>none
  | _=>none
 | .index t x ix=>match (evalO s ix).bind SV.int?,evalO s x,P.underlying t with
  | some (false,_,i),some ⟨.agg,cs⟩,some (.array len e)=>match tyOf P 8 e with
   | some ty=>match decs ty (chunks ty.n len cs) with
    | some xs=>some ⟨ty,F.get xs i⟩
    | none=>none
   | none=>none
  | some (_,_,i),some ⟨.one,[c]⟩,some .string=>match c.val? with
   | some (_,.string b)=>some ⟨.int .u8,F.get (F.bytes b) i⟩
   | _=>none
  | _,_,_=>none
 | _=>none
def storeElem (s:St):Op -> Option ((t:Ty) × Option t.T)
 | .store _ ad _=>match evalO s ad with
  | some ⟨.one,[.re q ty i _]⟩=>match s.at? q with
   | some c=>match c.list ty with
    | some xs=>some ⟨ty,F.get xs i⟩
    | none=>none
   | none=>none
  | _=>none
 | _=>none
def calmFin (P:Program) (want:Bool) (s:St) (o:Oper) (K:SV -> Option (Nat × List Cell) -> Option ρ) (h:Option Hint):Option ρ:=
 match acalm P want h s o with
 | some (v,_,b)=>K v b
 | none=>none
def calmVal (P:Program) (g want:Bool) (s:St) (o:Oper) (op:Op) (K:SV -> Option (Nat × List Cell) -> Option ρ) (v:SV):Option ρ:=
 match g with
 | true=>match v.boolV? with
  | some b=>bite b (calmFin P want s o K (some (.bool true))) (calmFin P want s o K (some (.bool false)))
  | none=>K v none
 | false=>match reckons op with
  | true=>share v fun v'=>K v' none
  | false=>K v none
def calmGen (P:Program) (g want:Bool) (s:St) (o:Oper) (op:Op) (K:SV -> Option (Nat × List Cell) -> Option ρ):Option ρ:=
 match elemOf P want s op with
 | some ⟨t,q⟩=>obind q fun e=>calmFin P want s o K (some (.elem t e))
 | none=>match aval P want none s op with
  | some (v,c)=>gd c (calmVal P g want s o op K v)
  | none=>none
def calm (T:List Ent) (W:List NEnt) (P:Program) (g want:Bool) (s:St) (o:Oper) (K:SV -> Option (Nat × List Cell) -> Option ρ):Option ρ:=
 match o.op with
 | .alloc _=>calmFin P want s o K none
 | .makeMap _ none=>calmFin P want s o K none
 | .range _ _=>calmFin P want s o K none
 | .box _ _=>calmFin P want s o K none
 | .buildSlice _ _ _=>calmFin P want s o K none
 | .makeSlice t x _=>match P.underlying t,(evalO s x).bind SV.int? with
  | some (.slice e),some (_,_,n)=>match P.info? e with
   | some j=>gd (.chk (F.fillOk j.bytes n)) (calmFin P want s o K none)
   | none=>none
  | _,_=>none
 | .call c=>match c.callee with
  | .value f=>match evalO s f with
   | some fv=>match callee s fv,evalArgs s c.args.toList with
    | some (fn,caps,_),some (as,_)=>match newE W fn (as ++ caps) fun e cs=>calmFin P want s o K (some (.newc e cs)) with
     | some r=>r
     | none=>callE T fn (as ++ caps) fun r=>fork g r fun r'=>calmFin P want s o K (some (.call r' True))
    | _,_=>none
   | none=>none
  | _=>calmGen P g want s o o.op K
 | _=>calmGen P g want s o o.op K
def guards (ops:Array Oper) (d:Nat):Bool:=ops.any fun o=>match o.guard with
 | none=>false
 | some (j,_)=>match dstOf ops j with
  | some e=>e == d
  | none=>false
def shareHead (s:St) (K:St -> Option ρ):Option ρ:=
 match s.slots with
 | []=>K s
 | (d,v) :: r=>share v fun v'=>K { s with slots:=(d,v') :: r }
abbrev Way (ρ:Type):=St -> List SV -> (SV -> St -> Option ρ) -> Option ρ
structure Inl (ρ:Type) where
 fn:Nat -> Nat -> Option (Way ρ)
 yl:Nat -> Nat -> Nat -> Option (Way ρ)
 mv:Bool
 nw:List NEnt
def Inl.mvd {ρ:Type} (I:Inl ρ) (b:Bool):Inl ρ:=⟨I.fn,I.yl,b,I.nw⟩
def inlNone {ρ:Type}:Inl ρ:=⟨fun _ _=>none,fun _ _ _=>none,false,[]⟩
def evalIn (s:St):List Operand -> Option (List SV)
 | []=>some []
 | x :: r=>match evalO s x,evalIn s r with
  | some v,some l=>some (⟨v.sh,copyCells false (fun _=>.slot 0 0) 0 v.cs⟩ :: l)
  | _,_=>none
def lpSV (c:Int) (fn p:Nat):SV:=⟨.agg,[.c (.int .i64 c),.c (.int .i64 (fn:Int)),.c (.int .i64 (p:Int))]⟩
def St.loopAt (s:St) (n:Nat):Option (Nat × Nat):=
 match Nat.beq (n % sh) lim,s.slots.lookup n with
 | true,some ⟨.agg,[c,x,y]⟩=>match c.val?,x.val?,y.val? with
  | some (true,.int _ z),some (true,.int _ fn),some (true,.int _ p)=>if z = 0 then some (fn.toNat,p.toNat) else none
  | _,_,_=>none
 | _,_=>none
def goTo (f:Option (Way ρ)) (as:Option (List SV)) (caps:List SV):Option (Way ρ × List SV):=
 match f,as with
 | some g,some l=>some (g,l ++ caps)
 | _,_=>none
def inlOf (I:Inl ρ) (s:St) (o:Oper):Option (Way ρ × List SV):=
 match o.op with
 | .call c=>match c.callee with
  | .value f=>match evalO s f with
   | some ⟨.one,[.clo fn caps]⟩=>goTo (I.fn (o.dst.getD 0) fn) (evalIn s c.args.toList) (caps.map fun q=>one (.ptr q.1 q.2))
   | some ⟨.one,[.dclo fn dss]⟩=>goTo (I.fn (o.dst.getD 0) fn) (evalIn s c.args.toList) (dss.map fun ds=>one (.dp ds))
   | some ⟨.one,[.yld n]⟩=>match s.loopAt n with
    | some (fn,p)=>goTo (I.yl n fn p) (evalIn s c.args.toList) []
    | none=>none
   | _=>none
  | _=>none
 | _=>none
def isInl (I:Inl ρ) (s:St) (o:Oper):Bool:=
 match inlOf I s o with
 | some _=>true
 | none=>false
def takeIn (N:Nat) (o:Oper) (K:St -> Option ρ) (v:SV) (s:St):Option ρ:=
 match o.dst with
 | some d=>if d < N then match v.refs d with
   | true=>none
   | false=>K ((s.app d v none).pull d)
  else none
 | none=>none
def nilTest (P:Program) (s:St) (o:Oper):Option (Nat × Bool × Int):=
 match o.op,o.dst with
 | .binOp op t x y _,some d=>match evalO s x,evalO s y,P.underlying t with
  | some ⟨.one,[c]⟩,some ⟨.one,[.nilS]⟩,some (.slice _)=>match c.count with
   | some (false,n)=>match op with
    | .eql=>some (d,true,n)
    | .neq=>some (d,false,n)
    | _=>none
   | _=>none
  | _,_,_=>none
 | _,_=>none
def preT {ρ:Type} (I:Inl ρ) (s:St) (o:Oper):St:=
 match I.mv with
 | true=>match o.op with
  | .store _ _ (.tmp t)=>s.pull t
  | _=>s
 | false=>s
noncomputable def evT (T:List Ent) (P:Program) (N:Nat) (I:Inl ρ) (ops:Array Oper):List Oper -> St -> (St -> Option ρ) -> Option ρ
 | [],s,K=>K s
 | o :: r,s0,K=>match wanted (preT I s0 o) ops o with
  | some false=>match o.dst with
   | some d=>if d < N then evT T P N I ops r ((preT I s0 o).app d undefSV none) K else none
   | none=>evT T P N I ops r (preT I s0 o) K
  | some true=>match nilTest P (preT I s0 o) o with
   | some (d,b,n)=>match Nat.blt d N with
    | true=>nilE n (evT T P N I ops r ((preT I s0 o).app d (one (.c (.bool b))) none) K) (evT T P N I ops r ((preT I s0 o).app d (one (.c (.bool (!b)))) none) K)
    | false=>none
   | none=>match inlOf I (preT I s0 o) o with
   | some (g,as)=>g (preT I s0 o) as (takeIn N o fun s'=>shareHead s' fun s''=>evT T P N I ops r s'' K)
   | none=>match isTail o (preT I s0 o) with
    | true=>match storeElem (preT I s0 o) o.op with
     | some ⟨t,q⟩=>obind q fun e=>match atail P N (some (.elem t e)) (preT I s0 o) o with
      | some (s',_)=>shareHead s' fun s''=>evT T P N I ops r s'' K
      | none=>none
     | none=>match atail P N none (preT I s0 o) o with
      | some (s',c)=>gd c (match o.op with
       | .call _=>shareHead s' fun s''=>evT T P N I ops r s'' K
       | _=>evT T P N I ops r (kept (preT I s0 o) o s') K)
      | none=>none
    | false=>match o.dst with
     | some d=>if d < N then calm T I.nw P (guards ops d) (wantsOwn ops (some d)) (preT I s0 o) o fun v b=>match v.refs d with
       | true=>none
       | false=>evT T P N I ops r ((preT I s0 o).app d v b) K
      else none
     | none=>none
  | none=>none
def behindTl (b tl:List Nat) (i:Nat):Bool:=tl.any fun j=>(b.getD i 0).testBit j
def writes (o:Oper):Bool:=
 match o.op with
 | .store ..=>true
 | .call c=>match c.callee with
  | .builtin .append=>true
  | .builtin .copy=>true
  | _=>false
 | _=>false
def amid (P:Program) (ops:Array Oper) (b:List Nat):Bool:=
 let ws:=(List.range ops.size).filter fun i=>match ops[i]? with
  | some o=>writes o
  | none=>false
 let tl:=(List.range ops.size).filter fun i=>ws.any fun j=>j == i || (b.getD i 0).testBit j
 tl.any fun i=>(List.range ops.size).any fun k=>k != i && !(if tl.contains k then (b.getD i 0).testBit k || (b.getD k 0).testBit i else (b.getD i 0).testBit k || lightAt P ops b k)
def evC (T:List Ent) (P:Program) (N:Nat) (I:Inl ρ) (ops:Array Oper) (b:List Nat) (am:Bool):List Oper -> Nat -> List Nat -> St -> List (Option Res) -> (St -> List (Option Res) -> Option ρ) -> Option ρ
 | [],_,_,s,acc,K=>K s acc
 | o :: r,i,tl,s,acc,K=>match behindTl b tl i with
  | true=>evC T P N I ops b am r (i + 1) (tl ++ [i]) s (acc ++ [none]) K
  | false=>match wanted s ops o with
   | some false=>match o.dst with
    | some d=>if d < N then evC T P N I ops b am r (i + 1) tl (s.app d undefSV none) (acc ++ [some ⟨some undefSV,none,none,[]⟩]) K else none
    | none=>none
   | some true=>match isInl I s o with
    | true=>evC T P N I ops b am r (i + 1) (tl ++ [i]) s (acc ++ [none]) K
    | false=>match isTail o s with
     | true=>match am with
      | true=>match aeff P N (s.restrict o) o with
       | some (q,c)=>gd c (evC T P N I ops b am r (i + 1) tl (s.wr o.dst q) (acc ++ [some ⟨q.put,q.box,some q.del,(s.restrict o).boxes.map (·.1)⟩]) K)
       | none=>evC T P N I ops b am r (i + 1) (tl ++ [i]) s (acc ++ [none]) K
      | false=>evC T P N I ops b am r (i + 1) (tl ++ [i]) s (acc ++ [none]) K
     | false=>match o.dst with
      | some d=>if d < N then calm T I.nw P (guards ops d) (wantsOwn ops (some d)) (s.restrict o) o fun v x=>match v.refs d with
        | true=>none
        | false=>evC T P N I ops b am r (i + 1) tl (s.app d v x) (acc ++ [some ⟨some v,x.map fun y=>(d,y),none,(s.restrict o).boxes.map (·.1)⟩]) K
       else none
      | none=>none
   | none=>none
noncomputable def evX (T:List Ent) (P:Program) (N:Nat) (I:Inl ρ) (ops:Array Oper):Nat -> List Nat -> St -> (St -> Option ρ) -> Option ρ
 | 0,L,s,K=>match readyL ops L with
  | []=>K s
  | _=>none
 | n + 1,L,s,K=>match readyL ops L with
  | []=>K s
  | i :: r=>match (i :: r).find? (lightL P ops L) with
   | some j=>match ops[j]? with
    | some o=>evT T P N I ops [o] s fun s'=>evX T P N I ops n (j :: L) s' K
    | none=>none
   | none=>match r,ops[i]? with
    | [],some o=>evT T P N I ops [o] s fun s'=>evX T P N I ops n (i :: L) s' K
    | [j],some o=>match ops[j]? with
     | some o'=>nilE 0 (evT T P N I ops [o] s fun s'=>evX T P N I ops n (i :: L) s' K) (evT T P N I ops [o'] s fun s'=>evX T P N I ops n (j :: L) s' K)
     | none=>none
    | _,_=>none
noncomputable def evY (T:List Ent) (P:Program) (N:Nat) (I:Inl ρ) (ops:Array Oper) (b L:List Nat):List Nat -> St -> (St -> Option ρ) -> Option ρ
 | [],s,K=>K s
 | i :: r,s,K=>match ops[i]? with
  | some o=>evT T P N I ops [o] s fun s'=>match lateC P ops s' (L.filter fun k=>!(b.getD i 0).testBit k) with
   | some c=>gd c (evY T P N I ops b L r s' K)
   | none=>none
  | none=>none
noncomputable def evLate (T:List Ent) (P:Program) (N:Nat) (I:Inl ρ) (ops:Array Oper) (res:List (Option Res)) (u:Option Nat) (s1:St) (K:St -> Option ρ):Option ρ:=
 match u with
 | none=>evX T P N I ops ops.size (calL ops res none) s1 K
 | some k=>match Nat.blt k ops.size && soft res k,dstOf ops k,(readyL ops (calL ops res u)).filter fun i=>!cal res i with
  | true,some d,[i]=>match ops[i]? with
   | some o=>nilE 0 (evX T P N I ops ops.size (calL ops res none) s1 K) (evT T P N I ops [o] (s1.lack d) fun s'=>evX T P N I ops ops.size (i :: calL ops res u) s' K)
   | none=>none
  | _,_,_=>none
noncomputable def evR2 (T:List Ent) (P:Program) (N:Nat) (I:Inl ρ) (ops:Array Oper) (s1:St) (res:List (Option Res)) (K:St -> Option ρ):Option ρ:=
 match tailOk P ops res (befs ops.toList []) with
 | true=>evT T P N I ops ((tailOf ops res).filterMap fun j=>ops[j]?) s1 fun s2=>K s2.clean
 | false=>match lateOk ops res (befs ops.toList []) with
  | true=>evY T P N I ops (befs ops.toList []) (lateL ops res (befs ops.toList [])) (tailOf ops res) s1 fun s2=>K s2.clean
  | false=>match tailU P ops res (befs ops.toList []) (freeU P ops res (befs ops.toList [])) with
   | true=>evLate T P N I ops res (freeU P ops res (befs ops.toList [])) s1 fun s2=>K s2.clean
   | false=>none
noncomputable def evR (T:List Ent) (P:Program) (N:Nat) (I:Inl ρ) (draw:Bool) (ops:Array Oper) (s:St) (K:St -> Option ρ):Option ρ:=
 match draw with
 | false=>evT T P N I ops ops.toList s fun s'=>K s'.clean
 | true=>evC T P N I ops (befs ops.toList []) (amid P ops (befs ops.toList [])) ops.toList 0 [] s [] fun s1 res=>match drawOk ops res s (befs ops.toList []) with
  | true=>evR2 T P N I ops s1 res K
  | false=>match amid P ops (befs ops.toList []) with
   | true=>evC T P N I ops (befs ops.toList []) false ops.toList 0 [] s [] fun s1 res=>match drawOk ops res s (befs ops.toList []) with
    | true=>evR2 T P N I ops s1 res K
    | false=>none
   | false=>none
end
inductive It where
 | slot (t:Nat) (agg:Bool) (cs:List CT)
 | box (n e:Nat) (cs:List CT)
def It.cs:It -> List CT
 | .slot _ _ cs=>cs
 | .box _ _ cs=>cs
abbrev VT:=List It
@[reducible] def VT.T:VT -> Type
 | []=>Unit
 | .slot _ _ cs :: r=>ctsT cs (VT.T r)
 | .box _ _ cs :: r=>ctsT cs (VT.T r)
def boxKind (e:Nat) (cs:List CT):Bool:=
 match Nat.blt e spc,cs with
 | true,_=>true
 | false,[.arr]=>true
 | false,_=>false
def VT.dec (s:St):(v:VT) -> Option (VT.T v)
 | []=>some ()
 | .slot t g cs :: r=>match s.slots.lookup t with
  | some v=>match v.sh,g with
   | .agg,true=>match ctsDec (R:=VT.T r) cs v.cs with
    | some f=>match VT.dec s r with
     | some y=>some (f y)
     | none=>none
    | none=>none
   | .one,false=>match ctsDec (R:=VT.T r) cs v.cs with
    | some f=>match VT.dec s r with
     | some y=>some (f y)
     | none=>none
    | none=>none
   | _,_=>none
  | none=>none
 | .box n e cs :: r=>match s.boxes.lookup n with
  | some (e',c)=>match Nat.beq e' e && boxKind e cs with
   | true=>match ctsDec (R:=VT.T r) cs c with
    | some f=>match VT.dec s r with
     | some y=>some (f y)
     | none=>none
    | none=>none
   | false=>none
  | none=>none
def VT.emb:(v:VT) -> VT.T v -> St
 | [],_=>⟨[],[]⟩
 | .slot t g cs :: r,x=>match ctsEmb (R:=VT.T r) cs x with
  | (l,y)=>match VT.emb r y with
   | s=>{ s with slots:=(t,⟨shapeB g,l⟩) :: s.slots }
 | .box n e cs :: r,x=>match ctsEmb (R:=VT.T r) cs x with
  | (l,y)=>match VT.emb r y with
   | s=>{ s with boxes:=(n,e,l) :: s.boxes }
inductive Out where
 | normal
 | ret
 | exit (i:Nat)
def Out.ex:Out -> Exit
 | .normal=>.normal
 | .ret=>.ret
 | .exit i=>.exit i
def Out.is:Out -> Exit -> Bool
 | .normal,.normal=>true
 | .ret,.ret=>true
 | .exit i,.exit j=>Nat.beq j i
 | _,_=>false
@[reducible] def XT:List (Out × VT) -> Type
 | []=>Empty
 | [q]=>VT.T q.2
 | q :: r=>VT.T q.2 ⊕ XT r
def outOf:(l:List (Out × VT)) -> XT l -> Exit × St
 | [q],x=>(q.1.ex,VT.emb q.2 x)
 | q :: q' :: r,.inl x=>(q.1.ex,VT.emb q.2 x)
 | q :: q' :: r,.inr x=>outOf (q' :: r) x
def toOut:(l:List (Out × VT)) -> Exit -> St -> Option (XT l)
 | [],_,_=>none
 | [q],e,s=>match q.1.is e with
  | true=>VT.dec s q.2
  | false=>none
 | q :: q' :: r,e,s=>match q.1.is e with
  | true=>match VT.dec s q.2 with
   | some x=>some (.inl x)
   | none=>none
  | false=>match toOut (q' :: r) e s with
   | some x=>some (.inr x)
   | none=>none
def caseOut {ρ:Type}:(l:List (Out × VT)) -> XT l -> (Exit -> St -> Option ρ) -> Option ρ
 | [],_,_=>none
 | [q],x,k=>k q.1.ex (VT.emb q.2 x)
 | q :: q' :: r,x,k=>osum x (fun y=>k q.1.ex (VT.emb q.2 y)) (fun z=>caseOut (q' :: r) z k)
structure Seg where
 V:VT
 X:List (Out × VT)
 F:VT.T V -> Option (XT X)
section
variable {ρ:Type}
def loopU:Nat -> (St -> (Exit -> St -> Option ρ) -> Option ρ) -> St -> (Exit -> St -> Option ρ) -> Option ρ
 | 0,_,_,_=>none
 | n + 1,f,s,k=>f s fun e s'=>match e with
  | .normal=>loopU n f s' k
  | e=>k e s'
def segIn (s:St):List (Nat × Seg) -> Nat -> Option ((g:Seg) × VT.T g.V)
 | [],_=>none
 | (p,g) :: r,q=>match Nat.beq p q with
  | true=>match VT.dec s g.V with
   | some v=>some ⟨g,v⟩
   | none=>segIn s r q
  | false=>segIn s r q
def child:Nat -> Code -> Option Code
 | 0,.seq a _=>some a
 | 0,.cond _ a _=>some a
 | 0,.block _ a=>some a
 | 0,.loop a=>some a
 | 0,.rangeFunc _ _ a _=>some a
 | 1,.rangeFunc _ _ _ b=>some b
 | 1,.seq _ b=>some b
 | 1,.cond _ _ b=>some b
 | _,_=>none
def cAt (c0:Code):Nat -> Nat -> Option Code
 | 0,_=>none
 | f + 1,p=>match Nat.beq p 1 with
  | true=>some c0
  | false=>match cAt c0 f (p / 2) with
   | some c=>child (p % 2) c
   | none=>none
def codeAt (c0:Code) (p:Nat):Code:=(cAt c0 400 p).getD .skip
def nodupB:List Nat -> Bool
 | []=>true
 | n :: r=>!(r.any (Nat.beq n)) && nodupB r
def Place.ren (fs fb:Nat -> Nat):Place -> Place
 | .slot t i=>.slot (fs t) i
 | .box n i=>.box (fb n) i
def Cell.ren (fs fb:Nat -> Nat):Cell -> Cell
 | .ali q e t l=>.ali (q.ren fs fb) e t l
 | .ptr n off=>.ptr (fb n) off
 | .sp n off len cap t=>.sp (fb n) off len cap t
 | .pe n off t len i fo=>.pe (fb n) off t len i fo
 | .re q t i fo=>.re (q.ren fs fb) t i fo
 | .clo g caps=>.clo g (caps.map fun q=>(fb q.1,q.2))
 | .yld n=>.yld (fb n)
 | x=>x
def SV.ren (fs fb:Nat -> Nat) (v:SV):SV:=⟨v.sh,v.cs.map (Cell.ren fs fb)⟩
def upN (n:Nat):Nat:=n + sh
def downN (n:Nat):Nat:=n - sh
abbrev Plan:=List (Nat × Nat)
def Plan.to:Plan -> Nat -> Option Nat
 | [],_=>none
 | (a,b) :: r,n=>match Nat.beq a n with
  | true=>some b
  | false=>Plan.to r n
def Plan.has:Plan -> Nat -> Bool
 | [],_=>false
 | (_,b) :: r,n=>match Nat.beq b n with
  | true=>true
  | false=>Plan.has r n
def Plan.bx (pl:Plan) (n:Nat):Option Nat:=
 match Nat.ble sh n with
 | true=>match pl.has (n - sh) with
  | true=>none
  | false=>some (n - sh)
 | false=>pl.to n
def Plan.ok (pl:Plan):Bool:=nodupB (pl.map (·.2)) && pl.all fun q=>Nat.blt q.1 sh && Nat.blt q.2 lim
def Plan.dn (pl:Plan) (n:Nat):Nat:=(pl.bx n).getD 0
def Place.far (pl:Plan):Place -> Bool
 | .slot t _=>Nat.ble sh t
 | .box n _=>(pl.bx n).isSome
def Cell.far (pl:Plan):Cell -> Bool
 | .ali q _ _ _=>q.far pl
 | .ptr n _=>(pl.bx n).isSome
 | .sp n _ _ _ _=>(pl.bx n).isSome
 | .pe n _ _ _ _ _=>(pl.bx n).isSome
 | .re q _ _ _=>q.far pl
 | .clo _ caps=>caps.all fun q=>(pl.bx q.1).isSome
 | .yld n=>(pl.bx n).isSome
 | _=>true
def St.up (s:St):St:=⟨s.slots.map fun q=>(upN q.1,q.2.ren upN upN),s.boxes.map fun q=>(upN q.1,q.2.1,q.2.2.map (Cell.ren upN upN))⟩
def St.down (pl:Plan) (s:St):St:=⟨(s.slots.filter fun q=>Nat.ble sh q.1 && q.2.cs.all (Cell.far pl)).map fun q=>(downN q.1,q.2.ren downN pl.dn),(s.boxes.filter fun q=>(pl.bx q.1).isSome && q.2.2.all (Cell.far pl)).map fun q=>(pl.dn q.1,q.2.1,q.2.2.map (Cell.ren downN pl.dn))⟩
def St.enter (s:St) (args:List SV):St:=⟨fnSlots 0 (args.map (SV.ren upN upN)) ++ s.up.slots,s.up.boxes⟩
def Cell.named:Cell -> List Nat
 | .ali (.box n _) _ _ _=>[n]
 | .ptr n _=>[n]
 | .sp n _ _ _ _=>[n]
 | .pe n _ _ _ _ _=>[n]
 | .re (.box n _) _ _ _=>[n]
 | .clo _ caps=>caps.map (·.1)
 | _=>[]
def hasN:List Nat -> Nat -> Bool
 | [],_=>false
 | a :: r,n=>match Nat.beq a n with
  | true=>true
  | false=>hasN r n
def reachN (s:St):Nat -> List Nat -> List Nat -> List Nat
 | 0,_,seen=>seen
 | _,[],seen=>seen
 | f + 1,n :: r,seen=>match Nat.ble sh n || hasN seen n with
  | true=>reachN s f r seen
  | false=>match s.boxes.lookup n with
   | some q=>reachN s f (q.2.flatMap Cell.named ++ r) (seen ++ [n])
   | none=>reachN s f r seen
def planFrom (d:Nat):Nat -> List Nat -> Plan
 | _,[]=>[]
 | i,n :: r=>(n,1000 + 8 * d + i) :: planFrom d (i + 1) r
def planOf (d:Nat) (s:St) (l:List SV):Plan:=
 planFrom d 0 (reachN s 200 ((l.flatMap fun v=>v.cs.flatMap Cell.named) ++ (s.boxes.flatMap fun q=>match Nat.ble sh q.1 with
  | true=>q.2.2.flatMap Cell.named
  | false=>[])) [])
def outSV (pl:Plan) (v:SV):Option SV:=
 match (copyCells false (fun _=>.slot 0 0) 0 v.cs).all (Cell.far pl) with
 | true=>some ⟨v.sh,(copyCells false (fun _=>.slot 0 0) 0 v.cs).map (Cell.ren downN pl.dn)⟩
 | false=>none
def outSVs (pl:Plan):List SV -> Option (List SV)
 | []=>some []
 | v :: r=>match outSV pl v,outSVs pl r with
  | some x,some l=>some (x :: l)
  | _,_=>none
def St.drop (s:St) (n:Nat):St:=⟨s.slots.filter fun q=>q.1 != n && (!q.2.mentions n && !q.2.refs n),s.boxes.filter fun q=>q.1 != n && !q.2.2.any (Cell.mentions n)⟩
def St.setLp (s:St) (n:Nat) (c:Int) (fn p:Nat):St:={ s with slots:=(n,lpSV c fn p) :: dropRefs n s.slots }
def St.loopIn (s:St) (fn p:Nat):St:=let s:=s.drop lim; { s with slots:=(lim,lpSV 0 fn p) :: s.slots }
def exitsIn:Code -> List Nat
 | .seq a b=>exitsIn a ++ exitsIn b
 | .cond _ a b=>exitsIn a ++ exitsIn b
 | .block i a=>(exitsIn a).filter fun j=>j != i
 | .loop a=>exitsIn a
 | .rangeFunc _ _ a b=>exitsIn a ++ exitsIn b
 | .exit i=>[i]
 | _=>[]
def retsIn:Code -> Bool
 | .seq a b=>retsIn a || retsIn b
 | .cond _ a b=>retsIn a || retsIn b
 | .block _ a=>retsIn a
 | .loop a=>retsIn a
 | .rangeFunc _ _ a b=>retsIn a || retsIn b
 | .ret=>true
 | _=>false
def waysOf (b:Code):List (Int × Exit):=
 (0,.normal) :: ((match retsIn b with
  | true=>[(2,.ret)]
  | false=>[]) ++ (exitsIn b).map fun i=>(((3 + i:Nat):Int),.exit i))
def jumpTo (kn:Bool) (n:Int) (k:Exit -> Option ρ):List (Int × Exit) -> Option ρ
 | []=>none
 | (c,e) :: r=>match kn with
  | true=>if n = c then k e else jumpTo kn n k r
  | false=>match r with
   | []=>bgd (F.eq n c) (k e)
   | q :: r'=>bite (F.eq n c) (k e) (jumpTo kn n k (q :: r'))
def loopOut (b:Code) (k:Exit -> St -> Option ρ) (s:St):Option ρ:=
 match s.slots.lookup lim with
 | some ⟨.agg,c :: _⟩=>match c.val? with
  | some (kn,.int _ n)=>jumpTo kn n (fun e=>k e (s.drop lim)) (waysOf b)
  | _=>none
 | _=>none
def frameHas (n:Nat) (ps:List Nat) (t:Nat):Bool:=Nat.ble (n - lim) t && (Nat.blt t n && !hasN ps (t - (n - lim)))
def frameAt (n:Nat) (ps:List Nat) (l:List (Nat × SV)):List (Nat × SV):=
 (l.filter fun q=>frameHas n ps q.1).map fun q=>(q.1 - (n - lim),(⟨q.2.sh,copyCells false (fun _=>.slot 0 0) 0 q.2.cs⟩:SV).ren upN upN)
def psSlots:List Nat -> List SV -> List (Nat × SV)
 | p :: ps,v :: vs=>(p,v.ren upN upN) :: psSlots ps vs
 | _,_=>[]
def St.round (s:St) (n:Nat) (ps:List Nat) (args:List SV):St:=
 ⟨psSlots ps args ++ (frameAt n ps s.slots ++ s.up.slots),s.up.boxes⟩
def codeOf:Exit -> Option (Bool × Int)
 | .normal=>some (true,0)
 | .ret=>some (false,2)
 | .exit i=>some (false,((3 + i:Nat):Int))
 | _=>none
def rangeE (I:Inl ρ) (f:Operand) (b:Code) (k:Exit -> St -> Option ρ) (s:St):Option ρ:=
 match evalO s f with
 | some ⟨.one,[.clo fn caps]⟩=>match I.fn 1099 fn with
  | some g=>g s (one (.yld lim) :: caps.map fun q=>one (.ptr q.1 q.2)) fun _ s'=>loopOut b k s'
  | none=>none
 | some ⟨.one,[.dclo fn dss]⟩=>match I.fn 1099 fn with
  | some g=>g s (one (.yld lim) :: dss.map fun ds=>one (.dp ds)) fun _ s'=>loopOut b k s'
  | none=>none
 | _=>none
noncomputable def ev (T:List Ent) (P:Program) (N U me:Nat) (G:List (Nat × Seg)) (I:Inl ρ):Code -> Nat -> St -> (Exit -> St -> Option ρ) -> Option ρ
 | c,p,s,k=>match segIn s G p with
  | some ⟨g,v⟩=>obind (g.F v) fun x=>caseOut g.X x k
  | none=>match c with
   | .skip=>k .normal s
   | .region _ ops draw=>evR T P N I draw ops s fun s'=>k .normal s'
   | .seq a b=>ev T P N U me G I a (2 * p) s fun e s'=>match e with
    | .normal=>ev T P N U me G I b (2 * p + 1) s' k
    | e=>k e s'
   | .cond x a b=>match (evalO s x).bind SV.bool? with
    | some (true,true)=>ev T P N U me G I a (2 * p) s k
    | some (true,false)=>ev T P N U me G I b (2 * p + 1) s k
    | some (false,c)=>bite c (ev T P N U me G I a (2 * p) s k) (ev T P N U me G I b (2 * p + 1) s k)
    | none=>none
   | .block i a=>ev T P N U me G I a (2 * p) s fun e s'=>match e with
    | .exit j=>match Nat.beq j i with
     | true=>k .normal s'
     | false=>k (.exit j) s'
    | e=>k e s'
   | .loop a=>loopU U (fun s' k'=>ev T P N U me G I a (2 * p) s' k') s k
   | .exit i=>k (.exit i) s
   | .ret=>k .ret s
   | .rangeFunc f ps a b=>rangeE I f b k (s.loopIn me p)
   | _=>none
structure InlF where
 fn:Nat
 c:Code
 N:Nat
 U:Nat
 rs:List ResultVar
 G:List (Nat × Seg)
def finIn (P:Program) (rs:List ResultVar) (d:Nat) (K:SV -> St -> Option ρ) (s:St):Option ρ:=
 match resOf P s rs with
 | some l=>match (planOf d s l).ok with
  | true=>match outSVs (planOf d s l) l with
   | some l'=>match joinRes l' with
    | some v=>K v (s.down (planOf d s l))
    | none=>none
   | none=>none
  | false=>none
 | none=>none
def resMv (P:Program) (s:St):List ResultVar -> Option (List SV)
 | [.cell t ty]=>match s.look t with
  | some ⟨.one,[.ptr n off]⟩=>match s.box? n with
   | some (_,cs)=>match partSV P ty cs off with
    | some v=>some [⟨v.sh,copyCells true (fun i=>.box n (off + i)) 0 v.cs⟩]
    | none=>none
   | none=>none
  | _=>none
 | _=>none
def outMv (pl:Plan) (v:SV):Option SV:=
 match v.cs.all (Cell.far pl) with
 | true=>some ⟨v.sh,v.cs.map (Cell.ren downN pl.dn)⟩
 | false=>none
def outMvs (pl:Plan):List SV -> Option (List SV)
 | [v]=>match outMv pl v with
  | some x=>some [x]
  | none=>none
 | _=>none
def finMv (P:Program) (rs:List ResultVar) (d:Nat) (K:SV -> St -> Option ρ) (s:St):Option ρ:=
 match resMv P s rs with
 | some l=>match (planOf d s l).ok with
  | true=>match outMvs (planOf d s l) l with
   | some l'=>match joinRes l' with
    | some v=>K v (s.down (planOf d s l))
    | none=>none
   | none=>none
  | false=>none
 | none=>none
def finAll (P:Program) (mv:Bool) (rs:List ResultVar) (d:Nat) (K:SV -> St -> Option ρ) (s:St):Option ρ:=
 match mv with
 | true=>finMv P rs d K s
 | false=>finIn P rs d K s
noncomputable def inlRun (T:List Ent) (P:Program) (I:Inl ρ) (q:InlF) (d:Nat):Way ρ:=fun s args K=>
 match Nat.ble args.length q.N with
 | true=>ev T P q.N q.U q.fn q.G (I.mvd (Nat.ble 1000 q.U)) q.c 1 (s.enter args) fun e s'=>match e with
  | .normal=>finAll P (Nat.ble 1000 q.U) q.rs d K s'
  | .ret=>finAll P (Nat.ble 1000 q.U) q.rs d K s'
  | _=>none
 | false=>none
def roundEnd (K:SV -> St -> Option ρ) (n fn p:Nat) (pl:Plan) (s:St) (e:Exit):Option ρ:=
 match codeOf e with
 | some (v,c)=>match pl.ok with
  | true=>K (one (.c (.bool v))) ((s.setLp n c fn p).down pl)
  | false=>none
 | none=>none
def roundMid (s:St) (n:Nat) (k:Nat -> Nat -> Option ρ):Option ρ:=
 match s.loopAt n with
 | some (fn,p)=>k fn p
 | none=>none
def onlyN (e:Exit) (k:Option ρ):Option ρ:=
 match e with
 | .normal=>k
 | _=>none
noncomputable def ylRun (T:List Ent) (P:Program) (I:Inl ρ) (q:InlF) (n p:Nat):Way ρ:=fun s args K=>
 match codeAt q.c p with
 | .rangeFunc _ ps a b=>match nodupB ps.toList && (Nat.beq args.length ps.size && (ps.toList.all fun x=>Nat.blt x q.N)) with
  | true=>ev T P q.N q.U q.fn q.G I a (2 * p) (s.round n ps.toList args) fun e s1=>onlyN e (roundMid s1 (n + sh) fun fn p'=>
    ev T P q.N q.U q.fn q.G I b (2 * p + 1) (s1.setLp (n + sh) 1 fn p') fun e s2=>roundEnd K (n + sh) fn p' (planOf 1098 s2 []) s2 e)
  | false=>none
 | _=>none
def inlFind:List InlF -> Nat -> Option InlF
 | [],_=>none
 | q :: r,fn=>match Nat.beq q.fn fn with
  | true=>some q
  | false=>inlFind r fn
structure MEnt where
 fn:Nat
 e:Nat
 t:Ty
 A:AT
 R:AT
 F:t.T -> A.T -> Option (R.T × t.T)
def St.refill (s:St) (n e:Nat) (cs:List Cell):St:=⟨delBoxRefs s.slots,setBox n (e,cs) s.boxes⟩
def mutArgs (m:MEnt) (s:St):List SV -> Option (Nat × m.t.T × m.A.T)
 | ⟨.one,[.ptr n 0]⟩ :: r=>match s.box? n with
  | some (e,cs)=>match Nat.beq e m.e with
   | true=>match decC m.t cs,m.A.dec r with
    | some (x,[]),some (y,[])=>some (n,x,y)
    | _,_=>none
   | false=>none
  | none=>none
 | _=>none
noncomputable def mutWay (m:MEnt):Way ρ:=fun s args K=>match mutArgs m s args with
 | some (n,x,y)=>obind (m.F x y) fun z=>match joinRes (m.R.svs z.1) with
  | some v=>K v (s.refill n m.e ((enc m.t z.2).map D.toC))
  | none=>none
 | none=>none
def mFind:List MEnt -> Nat -> Option MEnt
 | [],_=>none
 | m :: r,fn=>match Nat.beq m.fn fn with
  | true=>some m
  | false=>mFind r fn
noncomputable def inlTab (T:List Ent) (P:Program) (Ms:List MEnt) (W:List NEnt) (L:List InlF):Nat -> Inl ρ
 | 0=>inlNone
 | k + 1=>⟨fun d fn=>match mFind Ms fn with
  | some m=>some (mutWay m)
  | none=>match inlFind L fn with
   | some q=>some (inlRun T P (inlTab T P Ms W L k) q d)
   | none=>none,fun n fn p=>match inlFind L fn with
  | some q=>some (ylRun T P (inlTab T P Ms W L k) q n p)
  | none=>none,false,W⟩
def lentN:Nat:=10002
def finM (P:Program) (rs:List ResultVar) (R:AT) (te:Nat) (t:Ty) (e:Exit) (s:St):Option (R.T × t.T):=
 let go:Option (R.T × t.T):=match resOf P s rs,s.box? lentN with
  | some l,some (e',cs)=>match Nat.beq e' te,R.dec (l.map fun v=>⟨v.sh,copyCells false (fun _=>.slot 0 0) 0 v.cs⟩),decC t cs with
   | true,some (x,[]),some (z,[])=>some (x,z)
   | _,_,_=>none
  | _,_=>none
 match e with
 | .normal=>go
 | .ret=>go
 | _=>none
def mutIn {A:AT} (e:Nat) {t:Ty} (x:t.T) (y:A.T):St:=⟨fnSlots 0 (one (.ptr lentN 0) :: A.svs y),[(lentN,e,(enc t x).map D.toC)]⟩
def lendSVs (s:St):List SV -> Option (List SV)
 | []=>some []
 | v :: r=>match lends s v.cs,lendSVs s r with
  | some (cs,_),some l=>some (⟨v.sh,cs⟩ :: l)
  | _,_=>none
def fin (P:Program) (rs:List ResultVar) (R:AT) (e:Exit) (s:St):Option R.T:=
 let go:Option R.T:=match resOf P s rs with
  | some l=>match lendSVs s l with
   | some l'=>match l'.all (fun v=>v.cs.all Cell.plain) && ownHead R rs l with
    | true=>match R.decR l' with
     | some (x,[])=>some x
     | _=>none
    | false=>none
   | none=>none
  | none=>none
 match e with
 | .normal=>go
 | .ret=>go
 | _=>none
def finN (P:Program) (rs:List ResultVar) (te:Nat) (C:List CT) (e:Exit) (s:St):Option (ctsT C Unit):=
 let go:Option (ctsT C Unit):=match resOf P s rs with
  | some [⟨.one,[.ptr n 0]⟩]=>match s.box? n with
   | some (e',cs)=>match Nat.beq e' te && cs.all Cell.fresh,ctsDec (R:=Unit) C cs with
    | true,some f=>some (f ())
    | _,_=>none
   | none=>none
  | _=>none
 match e with
 | .normal=>go
 | .ret=>go
 | _=>none
def roundK (V:VT) (X:List (Out × VT)) (again:VT.T V -> Option (XT X)) (e:Exit) (s:St):Option (XT X):=
 match e with
 | .normal=>match VT.dec s V with
  | some v=>again v
  | none=>none
 | e=>toOut X e s
end
end Go.Proofs.YthnagpmnoncijaaGreat.M
