/- A part of the proof. -/
import Derived.Test.YthnagpmnoncijaaGreatMchA
set_option linter.unusedVariables false
namespace Go.Proofs.YthnagpmnoncijaaGreat.M
open Go Go.RowKit
inductive Cnd where
 | ok
 | chk (b:Bool)
 | pr (p:Prop)
def Cnd.P:Cnd -> Prop
 | .ok=>True
 | .chk b=>b = true
 | .pr p=>p
inductive Hint where
 | call (r:SV) (ob:Prop)
 | elem (t:Ty) (e:t.T)
 | bool (b:Bool)
 | newc (e:Nat) (cs:List Cell)
def Cell.toD:Cell -> Option D
 | .c x=>some (.v x)
 | .v x=>some (.v x)
 | .lst t l=>some (.lst t l)
 | .own _ t l=>some (.lst t l)
 | .ali _ _ t l=>some (.lst t l)
 | .clo f []=>some (.clo f [])
 | .dclo f dss=>some (.clo f dss)
 | _=>none
def D.toC:D -> Cell
 | .v x=>.v x
 | .lst t l=>.lst t l
 | .clo f dss=>.dclo f dss
def Cell.list (t:Ty):Cell -> Option (List t.T)
 | .nilS=>some []
 | .lst t' l=>if h:t' = t then some (h ▸ l) else none
 | .own _ t' l=>if h:t' = t then some (h ▸ l) else none
 | .ali _ _ t' l=>if h:t' = t then some (h ▸ l) else none
 | _=>none
def Cell.count:Cell -> Option (Bool × Int)
 | .nilS=>some (true,0)
 | .lst _ l=>some (false,F.len l)
 | .own _ _ l=>some (false,F.len l)
 | .ali _ _ _ l=>some (false,F.len l)
 | _=>none
def Cell.copy (want:Bool) (p:Place):Cell -> Cell
 | .own e t l=>match want with
  | true=>.ali p e t l
  | false=>.lst t l
 | .ali q e t l=>match want with
  | true=>.ali q e t l
  | false=>.lst t l
 | .re q t i fo=>match want with
  | true=>.re q t i fo
  | false=>.dp []
 | x=>x
def copyCells (want:Bool) (pl:Nat -> Place):Nat -> List Cell -> List Cell
 | _,[]=>[]
 | i,c :: r=>c.copy want (pl i) :: copyCells want pl (i + 1) r
def Cell.isOwn:Cell -> Bool
 | .own ..=>true
 | _=>false
def Cell.refs (d:Nat):Cell -> Bool
 | .ali (.slot t _) _ _ _=>t == d
 | .re (.slot t _) _ _ _=>t == d
 | _=>false
def Cell.mentions (n:Nat):Cell -> Bool
 | .ptr m _=>m == n
 | .sp m _ _ _ _=>m == n
 | .pe m _ _ _ _ _=>m == n
 | .clo _ caps=>caps.any fun q=>q.1 == n
 | .yld m=>m == n
 | .ali (.box m _) _ _ _=>m == n
 | .re (.box m _) _ _ _=>m == n
 | _=>false
def constCell:Value -> Option Cell
 | .slice none 0 0=>some .nilS
 | .agg _=>none
 | .tuple _=>none
 | x=>some (.c x)
def constCells:List Value -> Option (List Cell)
 | []=>some []
 | x :: r=>(constCell x).bind fun c=>(constCells r).map (c :: ·)
def constSV:Value -> Option SV
 | .agg cs=>(constCells cs.toList).map fun l=>⟨.agg,l⟩
 | .tuple _=>none
 | x=>(constCell x).map fun c=>⟨.one,[c]⟩
def St.look (s:St) (t:Nat):Option SV:=if t < lim then s.slots.lookup t else none
def evalO (s:St):Operand -> Option SV
 | .tmp t=>s.look t
 | .const v=>constSV v
 | .func f=>some ⟨.one,[.clo f []]⟩
 | .global _=>none
def St.box? (s:St) (n:Nat):Option (Nat × List Cell):=
 match s.boxes.lookup n with
 | some (e,cs)=>if e < spc then some (e,cs) else none
 | none=>none
def St.arr? (s:St) (n:Nat):Option (Nat × List Ty.bool.T):=
 match s.boxes.lookup n with
 | some (e,[.arr l])=>if spc <= e then some (e,l) else none
 | _=>none
def St.at? (s:St):Place -> Option Cell
 | .slot t j=>match s.slots.lookup t with
  | some v=>v.cs[j]?
  | none=>none
 | .box n j=>match s.box? n with
  | some (_,cs)=>cs[j]?
  | none=>none
def rowOf (x:Operand) (c:Cell):Option Place:=
 match c,x with
 | .own _ _ _,.tmp t=>some (.slot t 0)
 | .ali q _ _ _,_=>some q
 | _,_=>none
def Cell.val?:Cell -> Option (Bool × Value)
 | .c x=>some (true,x)
 | .v x=>some (false,x)
 | _=>none
def SV.val? (s:SV):Option (Bool × Value):=
 match s with
 | ⟨.one,[c]⟩=>c.val?
 | _=>none
def mkv (kn:Bool) (x:Value):SV:=⟨.one,[match kn with
 | true=>.c x
 | false=>.v x]⟩
def exactCells:List Cell -> Option (List Value)
 | []=>some []
 | c :: r=>match c.val? with
  | some (_,x)=>(exactCells r).map (x :: ·)
  | none=>none
def SV.int? (s:SV):Option (Bool × IntKind × Int):=
 match s.val? with
 | some (b,.int k n)=>some (b,k,n)
 | _=>none
def SV.bool? (s:SV):Option (Bool × Bool):=
 match s.val? with
 | some (b,.bool c)=>some (b,c)
 | _=>none
def evalP {α:Type} (P:Program):Sem α -> Option α
 | .pure a=>some a
 | .program k=>evalP P (k P)
 | _=>none
def isAggT (P:Program) (t:TypeId):Option Bool:=
 match P.underlying t with
 | some (.struct _)=>some true
 | some (.array _ _)=>some true
 | some _=>some false
 | none=>none
def sized (P:Program) (t:TypeId):Bool:=
 match P.info? t with
 | some j=>j.size != 0
 | none=>false
def partSV (P:Program) (t:TypeId) (cs:List Cell) (off:Nat):Option SV:=
 match isAggT P t,P.info? t with
 | some true,some i=>if off + i.size <= cs.length then some ⟨.agg,(cs.drop off).take i.size⟩ else none
 | some false,some _=>match cs[off]? with
  | some c=>some ⟨.one,[c]⟩
  | none=>none
 | _,_=>none
def zeroCells (P:Program) (t:TypeId):Option (List Cell):=
 match P.info? t with
 | some i=>match i.zero with
  | some z=>if z.cells.size = i.size then constCells z.cells.toList else none
  | none=>none
 | none=>none
def Cell.isF:Cell -> Bool
 | .c (.bool b)=>b == false
 | _=>false
def arrOf (P:Program) (e:TypeId):Option Nat:=
 match P.underlying e with
 | some (.array n el)=>match P.underlying el,zeroCells P e with
  | some .bool,some z=>if 512 < n /\ z.length = n /\ z.all Cell.isF = true then some n else none
  | _,_=>none
 | _=>none
def setFrom:List Cell -> Nat -> List Cell -> List Cell
 | cs,_,[]=>cs
 | cs,i,c :: r=>setFrom (cs.set i c) (i + 1) r
def fillCells (place:Nat -> Option (Nat × Nat)):List Cell -> List (Nat × List Cell) -> Option (List Cell)
 | cells,[]=>some cells
 | cells,(i,v) :: rest=>
  match place i with
  | none=>none
  | some (off,size)=>if v.length = size /\ off + v.length <= cells.length then fillCells place (setFrom cells off v) rest else none
def opPl:Operand -> Place
 | .tmp t=>.slot t 0
 | _=>.slot 0 0
def evalParts (want:Bool) (s:St):List (Nat × Operand) -> Option (List (Nat × List Cell))
 | []=>some []
 | (i,x) :: r=>match evalO s x with
  | some ⟨.one,[c]⟩=>(evalParts want s r).map ((i,[c.copy want (opPl x)]) :: ·)
  | some ⟨.agg,cs⟩=>(evalParts want s r).map ((i,copyCells false (fun _=>.slot 0 0) 0 cs) :: ·)
  | _=>none
def tupPart:List (Bool × Nat) -> List Cell -> Nat -> Option SV
 | [],_,_=>none
 | (b,k) :: r,cs,0=>if b then some ⟨.agg,cs.take k⟩ else some ⟨.one,cs.take 1⟩
 | (b,k) :: r,cs,n + 1=>tupPart r (cs.drop (if b then k else 1)) n
def opIx (s:St):Option Operand -> Option (Option (Bool × Int))
 | none=>some none
 | some x=>match (evalO s x).bind SV.int? with
  | some (b,_,n)=>some (some (b,n))
  | none=>none
def exacts (s:St):List Operand -> Option (Bool × List Value)
 | []=>some (true,[])
 | x :: r=>match (evalO s x).bind SV.val? with
  | some (b,v)=>match exacts s r with
   | some (c,vs)=>some (b && c,v :: vs)
   | none=>none
  | none=>none
def intBin (op:BinOp) (kn kb:Bool) (k k':IntKind) (a b:Int):Option (SV × Cnd):=
 match op with
 | .shl=>match kb with
  | true=>if 0 <= b then some (mkv kn (.int k (F.shl k a b)),.ok) else none
  | false=>some (mkv kn (.int k (F.shl k a b)),.chk (F.nonneg b))
 | .shr=>match kb with
  | true=>if 0 <= b then some (mkv kn (.int k (F.shr k a b)),.ok) else none
  | false=>some (mkv kn (.int k (F.shr k a b)),.chk (F.nonneg b))
 | op=>if k = k' then match op with
  | .add=>some (mkv kn (.int k (F.add k a b)),.ok)
  | .sub=>some (mkv kn (.int k (F.sub k a b)),.ok)
  | .mul=>some (mkv kn (.int k (F.mul k a b)),.ok)
  | .quo=>match kb with
   | true=>if b ≠ 0 then some (mkv kn (.int k (F.quo k a b)),.ok) else none
   | false=>some (mkv kn (.int k (F.quo k a b)),.chk (F.nonzero b))
  | .rem=>match kb with
   | true=>if b ≠ 0 then some (mkv kn (.int k (F.rem a b)),.ok) else none
   | false=>some (mkv kn (.int k (F.rem a b)),.chk (F.nonzero b))
  | .and=>some (mkv kn (.int k (F.and k a b)),.ok)
  | .or=>some (mkv kn (.int k (F.or k a b)),.ok)
  | .xor=>some (mkv kn (.int k (F.xor k a b)),.ok)
  | .andNot=>some (mkv kn (.int k (F.andNot k a b)),.ok)
  | .eql=>some (mkv kn (.bool (F.eq a b)),.ok)
  | .neq=>some (mkv kn (.bool (F.ne a b)),.ok)
  | .lss=>some (mkv kn (.bool (F.lt a b)),.ok)
  | .leq=>some (mkv kn (.bool (F.le a b)),.ok)
  | .gtr=>some (mkv kn (.bool (F.gt a b)),.ok)
  | .geq=>some (mkv kn (.bool (F.ge a b)),.ok)
  | _=>none
 else none
def andO:Option Bool -> Option Bool -> Option Bool
 | some a,some b=>some (F.both a b)
 | _,_=>none
def eqFs (f:Field -> Option Bool):List Field -> Option Bool
 | []=>some true
 | g :: r=>match g.name == "_" with
  | true=>none
  | false=>match r with
   | []=>f g
   | _ :: _=>andO (f g) (eqFs f r)
def eqIs (f:Nat -> Option Bool):List Nat -> Option Bool
 | []=>some true
 | [g]=>f g
 | g :: r=>andO (f g) (eqIs f r)
def eqAt (P:Program):Nat -> TypeId -> Value -> Value -> Option Bool
 | 0,_,_,_=>none
 | d + 1,t,x,y=>match P.underlying t,x,y with
  | some .bool,.bool a,.bool b=>some (F.beq a b)
  | some (.int _),.int k a,.int k' b=>if k = k' then some (F.eq a b) else none
  | some .string,.string a,.string b=>some (F.seq a b)
  | some (.struct fs),.agg xs,.agg ys=>match P.stoodInHeld t with
   | true=>none
   | false=>eqFs (fun f=>match evalP P (part f.type xs f.offset),evalP P (part f.type ys f.offset) with
     | some a,some b=>eqAt P d f.type a b
     | _,_=>none) fs.toList
  | some (.array n e),.agg xs,.agg ys=>match P.info? e with
   | some j=>eqIs (fun i=>match evalP P (part e xs (i * j.size)),evalP P (part e ys (i * j.size)) with
     | some a,some b=>eqAt P d e a b
     | _,_=>none) (List.range n)
   | none=>none
  | _,_,_=>none
def binAgg (P:Program) (op:BinOp) (t:TypeId) (xs ys:List Cell):Option (SV × Cnd):=
 match exactCells xs,exactCells ys,P.eqGuardType P.depth t with
 | some us,some vs,false=>match eqAt P 8 t (.agg us.toArray) (.agg vs.toArray) with
  | some r=>match op with
   | .eql=>some (mkv false (.bool r),.ok)
   | .neq=>some (mkv false (.bool (F.not r)),.ok)
   | _=>none
  | none=>none
 | _,_,_=>none
def funcEq (P:Program) (op:BinOp) (t:TypeId):Option (SV × Cnd):=
 match op,P.underlying t with
 | .eql,some (.func _ _ _)=>some (mkv true (.bool false),.ok)
 | .neq,some (.func _ _ _)=>some (mkv true (.bool true),.ok)
 | _,_=>none
def SV.isFn:SV -> Bool
 | ⟨.one,[.clo _ _]⟩=>true
 | ⟨.one,[.dclo _ _]⟩=>true
 | _=>false
def SV.isNilFn:SV -> Bool
 | ⟨.one,[.c .nilFunc]⟩=>true
 | _=>false
def ptrEq (P:Program) (op:BinOp) (t:TypeId):Option (SV × Cnd):=
 match op,P.underlying t with
 | .eql,some (.pointer _)=>some (mkv true (.bool false),.ok)
 | .neq,some (.pointer _)=>some (mkv true (.bool true),.ok)
 | _,_=>none
def nilsEq (P:Program) (op:BinOp) (t:TypeId):Option (SV × Cnd):=
 match op,P.underlying t with
 | .eql,some (.slice _)=>some (mkv true (.bool true),.ok)
 | .neq,some (.slice _)=>some (mkv true (.bool false),.ok)
 | _,_=>none
def SV.isNilS:SV -> Bool
 | ⟨.one,[.nilS]⟩=>true
 | _=>false
def SV.isPtr:SV -> Bool
 | ⟨.one,[.ptr _ _]⟩=>true
 | ⟨.one,[.dp _]⟩=>true
 | _=>false
def SV.isNilPtr:SV -> Bool
 | ⟨.one,[.c (.pointer none)]⟩=>true
 | _=>false
def binS (P:Program) (op:BinOp) (t:TypeId):Option (Bool × Value) -> Option (Bool × Value) -> Option (SV × Cnd)
 | some (ka,.int k a),some (kb,.int k' b)=>intBin op (ka && kb) kb k k' a b
 | some (ka,.bool a),some (kb,.bool b)=>match op,P.underlying t with
  | .eql,some .bool=>some (mkv (ka && kb) (.bool (F.beq a b)),.ok)
  | .neq,some .bool=>some (mkv (ka && kb) (.bool (F.bne a b)),.ok)
  | _,_=>none
 | some (ka,.string a),some (kb,.string b)=>match op with
  | .eql=>some (mkv (ka && kb) (.bool (F.seq a b)),.ok)
  | .neq=>some (mkv (ka && kb) (.bool (F.sne a b)),.ok)
  | _=>none
 | _,_=>none
def binV (P:Program) (op:BinOp) (t:TypeId) (x y:SV):Option (SV × Cnd):=
 match x.sh,y.sh with
 | .agg,.agg=>binAgg P op t x.cs y.cs
 | _,_=>match x.isFn,y.isNilFn with
  | true,true=>funcEq P op t
  | _,_=>match x.isPtr,y.isNilPtr with
   | true,true=>ptrEq P op t
   | _,_=>match x.isNilS,y.isNilS with
    | true,true=>nilsEq P op t
    | _,_=>binS P op t x.val? y.val?
def unV (op:UnOp) (x:SV):Option SV:=
 match op,x.val? with
 | .neg,some (kn,.int k n)=>some (mkv kn (.int k (F.neg k n)))
 | .xor,some (kn,.int k n)=>some (mkv kn (.int k (F.com k n)))
 | .not,some (kn,.bool b)=>some (mkv kn (.bool (F.not b)))
 | _,_=>none
def foldMM (k:IntKind) (f:Int -> Int -> Int):Int -> List Value -> Option Int
 | a,[]=>some a
 | a,.int k' b :: r=>if k = k' then foldMM k f (f a b) r else none
 | _,_=>none
def minmax (f:Int -> Int -> Int):Bool × List Value -> Option SV
 | (kn,.int k a :: r)=>(foldMM k f a r).map fun n=>mkv kn (.int k n)
 | _=>none
def decC:(t:Ty) -> List Cell -> Option (t.T × List Cell)
 | .int k,c :: r=>match c.val? with
  | some (_,.int k' n)=>if k' = k then some (n,r) else none
  | _=>none
 | .bool,c :: r=>match c.val? with
  | some (_,.bool b)=>some (b,r)
  | _=>none
 | .str,c :: r=>match c.val? with
  | some (_,.string b)=>some (b,r)
  | _=>none
 | .list t,c :: r=>match c.list t with
  | some l=>some (l,r)
  | none=>none
 | .pair a b,cs=>match decC a cs with
  | some (x,r)=>match decC b r with
   | some (y,r')=>some ((x,y),r')
   | none=>none
  | none=>none
 | .unit,cs=>some ((),cs)
 | _,[]=>none
def decAll (t:Ty) (cs:List Cell):Option t.T:=
 match decC t cs with
 | some (x,[])=>some x
 | _=>none
def tyFs (f:TypeId -> Option Ty):List Field -> Nat -> Option (Ty × Nat)
 | [],o=>some (.unit,o)
 | g :: r,o=>if g.offset = o then match f g.type with
   | some t=>match r with
    | []=>some (t,o + t.n)
    | _ :: _=>match tyFs f r (o + t.n) with
     | some (t',o')=>some (.pair t t',o')
     | none=>none
   | none=>none
  else none
def tyIs (t:Ty):Nat -> Ty
 | 0=>.unit
 | 1=>t
 | n + 1=>.pair t (tyIs t n)
def tyOf (P:Program):Nat -> TypeId -> Option Ty
 | 0,_=>none
 | n + 1,t=>match P.underlying t with
  | some .bool=>some .bool
  | some (.int k)=>some (.int k)
  | some .string=>some .str
  | some (.slice e)=>(tyOf P n e).map .list
  | some (.struct fs)=>match tyFs (tyOf P n) fs.toList 0 with
   | some (ty,o)=>match P.info? t with
    | some j=>if j.size = o then some ty else none
    | none=>none
   | none=>none
  | some (.array m e)=>match tyOf P n e with
   | some ty=>match P.info? t with
    | some j=>if j.size = m * ty.n then some (tyIs ty m) else none
    | none=>none
   | none=>none
  | _=>none
def chunks (sz:Nat):Nat -> List Cell -> List (List Cell)
 | 0,_=>[]
 | n + 1,l=>l.take sz :: chunks sz n (l.drop sz)
def decs (t:Ty):List (List Cell) -> Option (List t.T)
 | []=>some []
 | c :: r=>match decAll t c with
  | some x=>match decs t r with
   | some l=>some (x :: l)
   | none=>none
  | none=>none
def caps? (s:St):List Operand -> Option (List (Nat × Nat))
 | []=>some []
 | x :: r=>match evalO s x with
  | some ⟨.one,[.ptr n off]⟩=>(caps? s r).map ((n,off) :: ·)
  | _=>none
def cutL {t:Ty} (l:List t.T) (lo hi:Option (Bool × Int)):List t.T × Cnd:=
 match lo,hi with
 | none,none=>(l,.ok)
 | lo,hi=>(F.cut l ((lo.getD (true,0)).2) ((hi.getD (true,F.len l)).2),.chk (F.cutOk l ((lo.getD (true,0)).2) ((hi.getD (true,F.len l)).2)))
def zeroSV (P:Program) (t:TypeId):Option SV:=
 match P.info? t with
 | some i=>match i.zero with
  | some z=>constSV z
  | none=>none
 | none=>none
def numT (P:Program) (t:TypeId):Bool:=
 match P.underlying t,P.info? t,isAggT P t with
 | some (.int _),some j,some false=>j.size == 1
 | _,_,_=>false
def keyFit (P:Program) (t:TypeId) (v:SV):Bool:=
 match P.underlying t,v.sh with
 | some (.int _),_=>true
 | some (.struct fs),.agg=>fs.toList.all fun f=>numT P f.type && decide (f.offset < v.cs.length)
 | some (.array n e),.agg=>numT P e && decide (n <= v.cs.length)
 | _,_=>false
def aval (P:Program) (want:Bool) (h:Option Hint) (s:St):Op -> Option (SV × Cnd)
 | .move x=>match x with
  | .tmp t=>(s.look t).map fun v=>(⟨v.sh,copyCells want (.slot t) 0 v.cs⟩,.ok)
  | x=>(evalO s x).map fun v=>(v,.ok)
 | .assign x=>match x with
  | .tmp t=>match s.look t with
   | some v=>if v.cs.any Cell.isOwn then none else some (⟨v.sh,copyCells false (fun _=>.slot 0 0) 0 v.cs⟩,.ok)
   | none=>none
  | x=>(evalO s x).map fun v=>(v,.ok)
 | .pick c a b=>match (evalO s c).bind SV.bool? with
  | some (true,true)=>(evalO s a).map fun v=>(⟨v.sh,copyCells false (fun _=>.slot 0 0) 0 v.cs⟩,.ok)
  | some (true,false)=>(evalO s b).map fun v=>(⟨v.sh,copyCells false (fun _=>.slot 0 0) 0 v.cs⟩,.ok)
  | _=>none
 | .build t parts=>match zeroCells P t,evalParts want s parts.toList with
  | some z,some ps=>match P.underlying t with
   | some (.struct fields)=>match fields.toList.mapM (fun f=>(P.info? f.type).map fun i=>(f.offset,i.size)) with
    | some places=>(fillCells (fun i=>places[i]?) z ps).map fun cs=>(⟨.agg,cs⟩,.ok)
    | none=>none
   | some (.array _ e)=>match P.info? e with
    | some j=>(fillCells (fun i=>some (i * j.size,j.size)) z ps).map fun cs=>(⟨.agg,cs⟩,.ok)
    | none=>none
   | _=>none
  | _,_=>none
 | .load t x=>match evalO s x with
  | some ⟨.one,[.ptr n off]⟩=>match s.box? n with
   | some (_,cs)=>(partSV P t cs off).map fun v=>(⟨v.sh,copyCells want (fun i=>.box n (off + i)) 0 v.cs⟩,.ok)
   | none=>none
  | some ⟨.one,[.dp ds]⟩=>(partSV P t (ds.map D.toC) 0).map fun v=>(v,.ok)
  | some ⟨.one,[.pe n off ty len i fo]⟩=>match s.box? n,h with
   | some (_,cs),some (.elem t' x)=>match decs t' (chunks t'.n len ((cs.drop off).take (len * t'.n))) with
    | some xs=>if t' = ty /\ off + len * t'.n <= cs.length then (partSV P t ((enc t' x).map D.toC) fo).map fun v=>(v,.pr (F.get xs i = some x)) else none
    | none=>none
   | none,some (.elem .bool x)=>match s.arr? n,partSV P t [.v (.bool x)] 0 with
    | some (_,l),some v=>if ty = .bool /\ off = 0 /\ fo = 0 /\ v.sh.isAgg = false then some (v,.pr (F.get l i = some x)) else none
    | _,_=>none
   | _,_=>none
  | some ⟨.one,[.re q ty i fo]⟩=>match s.at? q,h with
   | some c,some (.elem t' x)=>match c.list t',c.isOwn with
    | some xs,true=>if t' = ty then (partSV P t (((enc t' x).drop fo).map D.toC) 0).map fun v=>(v,.pr (F.get xs i = some x)) else none
    | _,_=>none
   | _,_=>none
  | _=>none
 | .nilCheck x=>match evalO s x with
  | some ⟨.one,[.ptr n off]⟩=>some (⟨.one,[.ptr n off]⟩,.ok)
  | some ⟨.one,[.dp ds]⟩=>some (⟨.one,[.dp ds]⟩,.ok)
  | some ⟨.one,[.pe n off ty len i fo]⟩=>some (⟨.one,[.pe n off ty len i fo]⟩,.ok)
  | some ⟨.one,[.re q ty i fo]⟩=>some (⟨.one,[.re q ty i fo]⟩,.ok)
  | some ⟨.one,[.clo f c]⟩=>some (⟨.one,[.clo f c]⟩,.ok)
  | some ⟨.one,[.dclo f c]⟩=>some (⟨.one,[.dclo f c]⟩,.ok)
  | _=>none
 | .binOp op t x y _=>match evalO s x,evalO s y with
  | some a,some b=>binV P op t a b
  | _,_=>none
 | .unOp op _ x=>match evalO s x with
  | some v=>(unV op v).map (·,.ok)
  | none=>none
 | .convert src dst x=>match (evalO s x).bind SV.int? with
  | some (kn,_,n)=>match P.underlying src,P.underlying dst with
   | some _,some (.int k')=>some (mkv kn (.int k' (F.conv k' n)),.ok)
   | _,_=>none
  | _=>match evalO s x,P.underlying src,P.underlying dst with
   | some ⟨.one,[c]⟩,some (.slice e),some .string=>match P.underlying e,c.list (.int .u8) with
    | some (.int .u8),some xs=>some (mkv false (.string (F.str xs)),.ok)
    | _,_=>none
   | _,_,_=>none
 | .makeFunc fn first captured=>match fn,first.toList with
  | .func f,[]=>(caps? s captured.toList).map fun caps=>(⟨.one,[.clo f caps]⟩,.ok)
  | _,_=>none
 | .slice t x lo hi none=>match evalO s x,opIx s lo,opIx s hi,P.underlying t with
  | some ⟨.one,[.ptr n off]⟩,some l,some h,some (.array len e)=>match P.info? e,tyOf P 8 e with
   | some j,some ty=>if j.size = ty.n /\ (l.getD (true,0)).1 = true /\ (h.getD (true,(len:Int))).1 = true /\ 0 <= (l.getD (true,0)).2 /\ (l.getD (true,0)).2 < len /\ (l.getD (true,0)).2 <= (h.getD (true,(len:Int))).2 /\ (h.getD (true,(len:Int))).2 <= len then
     some (⟨.one,[.sp n (off + (l.getD (true,0)).2.toNat * j.size) ((h.getD (true,(len:Int))).2.toNat - (l.getD (true,0)).2.toNat) (len - (l.getD (true,0)).2.toNat) ty]⟩,.ok)
    else none
   | _,_=>none
  | some ⟨.one,[c]⟩,some l,some h,some (.slice e)=>match tyOf P 8 e,P.info? e with
   | some ty,some j=>if j.size = ty.n then match c.list ty with
     | some xs=>some (⟨.one,[.lst ty (cutL xs l h).1]⟩,(cutL xs l h).2)
     | none=>none
    else none
   | _,_=>none
  | _,_,_,_=>none
 | .slice t x lo (some hi) (some mx)=>match evalO s x,opIx s lo,(evalO s hi).bind SV.int?,(evalO s mx).bind SV.int?,P.underlying t with
  | some ⟨.one,[c]⟩,some l,some (_,_,n),some (_,_,m),some (.slice e)=>match tyOf P 8 e,P.info? e with
   | some ty,some j=>if j.size = ty.n then match c.list ty with
     | some xs=>some (⟨.one,[.lst ty (F.cut xs ((l.getD (true,0)).2) n)]⟩,.chk (F.both (F.cutOk xs ((l.getD (true,0)).2) n) (F.eq n m)))
     | none=>none
    else none
   | _,_=>none
  | _,_,_,_,_=>none
 | .sliceToArrayPointer t x=>match P.underlying t,evalO s x with
  | some (.array n _),some ⟨.one,[.sp b off len cap _]⟩=>if n <= len then some (⟨.one,[.ptr b off]⟩,.ok) else none
  | _,_=>none
 | .fieldAddr t x f=>match P.underlying t with
  | some (.struct fields)=>match fields[f]?,evalO s x with
   | some fd,some ⟨.one,[.ptr n off]⟩=>if sized P fd.type then some (⟨.one,[.ptr n (off + fd.offset)]⟩,.ok) else none
   | some fd,some ⟨.one,[.dp ds]⟩=>if sized P fd.type then some (⟨.one,[.dp (ds.drop fd.offset)]⟩,.ok) else none
   | some fd,some ⟨.one,[.pe n off ty len i fo]⟩=>if sized P fd.type then some (⟨.one,[.pe n off ty len i (fo + fd.offset)]⟩,.ok) else none
   | some fd,some ⟨.one,[.re q ty i fo]⟩=>if sized P fd.type then some (⟨.one,[.re q ty i (fo + fd.offset)]⟩,.ok) else none
   | _,_=>none
  | _=>none
 | .field t x f=>match P.underlying t with
  | some (.struct fields)=>match fields[f]?,evalO s x with
   | some fd,some ⟨.agg,cs⟩=>match x with
    | .tmp tx=>(partSV P fd.type cs fd.offset).map fun v=>(⟨v.sh,copyCells want (fun i=>.slot tx (fd.offset + i)) 0 v.cs⟩,.ok)
    | _=>(partSV P fd.type cs fd.offset).map fun v=>(⟨v.sh,copyCells false (fun _=>.slot 0 0) 0 v.cs⟩,.ok)
   | _,_=>none
  | _=>none
 | .indexAddr t x ix=>match (evalO s ix).bind SV.int?,evalO s x,P.underlying t with
  | some (kn,_,i),some ⟨.one,[.ptr n off]⟩,some (.array len e)=>match P.info? e,kn with
   | some j,true=>if 0 <= i /\ i < len then some (⟨.one,[.ptr n (off + i.toNat * j.size)]⟩,.ok) else none
   | some j,false=>match tyOf P 8 e with
    | some ty=>if j.size = ty.n then some (⟨.one,[.pe n off ty len i 0]⟩,.chk (F.within i len)) else none
    | none=>none
   | _,_=>none
  | some (kn,_,i),some ⟨.one,[.dp ds]⟩,some (.array len e)=>match P.info? e,kn with
   | some j,true=>if 0 <= i /\ i < len then some (⟨.one,[.dp (ds.drop (i.toNat * j.size))]⟩,.ok) else none
   | some j,false=>match h,tyOf P 8 e with
    | some (.elem t' x),some ty=>match decs t' (chunks t'.n len ((ds.map D.toC).take (len * t'.n))) with
     | some xs=>if t' = ty /\ j.size = ty.n /\ len * t'.n <= ds.length then some (⟨.one,[.dp (enc t' x)]⟩,.pr (F.get xs i = some x)) else none
     | none=>none
    | _,_=>none
   | _,_=>none
  | some (_,_,i),some ⟨.one,[c]⟩,some (.slice e)=>match want with
   | true=>match rowOf x c,tyOf P 8 e,P.info? e with
    | some q,some ty,some j=>if j.size = ty.n then match c.list ty with
      | some xs=>some (⟨.one,[.re q ty i 0]⟩,.chk (F.has xs i))
      | none=>none
     else none
    | _,_,_=>none
   | false=>match h,tyOf P 8 e,P.info? e with
    | some (.elem t' x),some ty,some j=>if j.size = ty.n then match c.list t' with
      | some xs=>if t' = ty then some (⟨.one,[.dp (enc t' x)]⟩,.pr (F.get xs i = some x)) else none
      | none=>none
     else none
    | _,_,_=>none
  | _,_,_=>none
 | .index t x ix=>match (evalO s ix).bind SV.int?,evalO s x,P.underlying t with
  | some (kn,_,i),some ⟨.agg,cs⟩,some (.array len e)=>match P.info? e with
   | some j=>match kn with
    | true=>if 0 <= i /\ i < len then match isAggT P e with
      | some true=>if cs.length = len * j.size then some (⟨.agg,copyCells false (fun _=>.slot 0 0) 0 ((cs.drop (i.toNat * j.size)).take j.size)⟩,.ok) else none
      | some false=>match cs[i.toNat * j.size]? with
       | some c=>some (⟨.one,[c.copy false (.slot 0 0)]⟩,.ok)
       | none=>none
      | none=>none
     else none
    | false=>match h,tyOf P 8 e,isAggT P e with
     | some (.elem t' x),some ty,some g=>if j.size = ty.n /\ t' = ty /\ cs.length = len * ty.n /\ 0 < ty.n then match decs t' (chunks ty.n len cs) with
       | some l=>match g with
        | true=>some (⟨.agg,(enc t' x).map D.toC⟩,.pr (F.get l i = some x))
        | false=>if ty.n = 1 then some (⟨.one,(enc t' x).map D.toC⟩,.pr (F.get l i = some x)) else none
       | none=>none
      else none
     | _,_,_=>none
   | none=>none
  | some (_,_,i),some ⟨.one,[c]⟩,some .string=>match c.val?,h with
   | some (_,.string b),some (.elem (.int .u8) x)=>some (⟨.one,[.v (.int .u8 x)]⟩,.pr (F.get (F.bytes b) i = some x))
   | _,_=>none
  | _,_,_=>none
 | .lookup t x ix ok=>match evalO s x,P.underlying t,evalO s ix with
  | some ⟨.one,[.imm 0]⟩,some (.map kt vt),some iv=>match keyFit P kt iv,zeroSV P vt with
   | true,some z=>match ok with
    | true=>some (⟨.tup [(z.sh.isAgg,z.cs.length),(false,1)],z.cs ++ [.c (.bool false)]⟩,.ok)
    | false=>some (z,.ok)
   | _,_=>none
  | _,_,_=>none
 | .next x str=>match str,evalO s x with
  | false,some ⟨.one,[.imm 1]⟩=>some (⟨.tup [(false,1)],[.c (.bool false)]⟩,.ok)
  | _,_=>none
 | .extract x k=>match evalO s x with
  | some ⟨.tup l,cs⟩=>(tupPart l cs k).map fun v=>(⟨v.sh,copyCells false (fun _=>.slot 0 0) 0 v.cs⟩,.ok)
  | _=>none
 | .call c=>match c.callee with
  | .builtin .len=>match c.args.toList,c.argTypes.toList with
   | [x],[t]=>match evalO s x,P.underlying t with
    | some ⟨.one,[.c (.string b)]⟩,some .string=>some (mkv true (.int .i64 (F.slen b)),.ok)
    | some ⟨.one,[.v (.string b)]⟩,some .string=>some (mkv false (.int .i64 (F.slen b)),.ok)
    | some _,some (.array n _)=>some (mkv true (.int .i64 n),.ok)
    | some ⟨.one,[c]⟩,some (.slice _)=>match c.count with
     | some (kn,n)=>some (mkv kn (.int .i64 n),.ok)
     | none=>none
    | _,_=>none
   | _,_=>none
  | .builtin .min=>match exacts s c.args.toList with
   | some vs=>(minmax F.min vs).map (·,.ok)
   | none=>none
  | .builtin .max=>match exacts s c.args.toList with
   | some vs=>(minmax F.max vs).map (·,.ok)
   | none=>none
  | _=>none
 | _=>none
end Go.Proofs.YthnagpmnoncijaaGreat.M
