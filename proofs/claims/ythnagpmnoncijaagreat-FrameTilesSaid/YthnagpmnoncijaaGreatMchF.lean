/- A part of the proof. -/
import Derived.Test.YthnagpmnoncijaaGreatMchE
set_option linter.unusedVariables false
namespace Go.Proofs.YthnagpmnoncijaaGreat.M
open Go Go.RowKit
def Cell.plain:Cell -> Bool
 | .c _=>true
 | .v _=>true
 | .nilS=>true
 | .lst _ _=>true
 | .clo _ []=>true
 | .dp _=>true
 | .dclo _ _=>true
 | _=>false
def Cell.shown:Cell -> Bool
 | .dp _=>false
 | x=>x.plain
def Cell.res:Cell -> Bool
 | .own ..=>true
 | x=>x.plain
def Ty.flat:Ty -> Bool
 | .list _=>false
 | .pair a b=>a.flat && b.flat
 | _=>true
def Cell.scal:Cell -> Bool
 | .c _=>true
 | .v _=>true
 | .clo _ []=>true
 | _=>false
def Cell.loose:Cell -> Bool
 | .own _ t _=>t.flat
 | x=>x.scal
def toDs:List Cell -> List D
 | []=>[]
 | x :: r=>match x.toD with
  | some d=>d :: toDs r
  | none=>match x with
   | .nilS=>.lst .unit [] :: toDs r
   | _=>[]
def behind (s:St) (n off:Nat):Option (List D):=
 match s.box? n with
 | some (_,cs)=>some (toDs (cs.drop off))
 | none=>none
def behinds (s:St):List (Nat × Nat) -> Option (List (List D))
 | []=>some []
 | (n,off) :: r=>match behind s n off,behinds s r with
  | some ds,some l=>some (ds :: l)
  | _,_=>none
def lend (s:St):Cell -> Option (Cell × Bool)
 | .ptr n off=>(behind s n off).map fun ds=>(.dp ds,false)
 | .clo f []=>some (.clo f [],false)
 | .clo f caps=>(behinds s caps).map fun l=>(.dclo f l,true)
 | .sp n off len cap t=>match s.box? n with
  | some (_,cs)=>match decs t (chunks t.n len ((cs.drop off).take (len * t.n))) with
   | some l=>match Nat.ble (off + len * t.n) cs.length && (Nat.ble len cap && Nat.ble cap maxLen) with
    | true=>some (.lst t l,true)
    | false=>none
   | none=>none
  | none=>none
 | x=>some (x.copy false (.slot 0 0),false)
def lends (s:St):List Cell -> Option (List Cell × Bool)
 | []=>some ([],false)
 | x :: r=>match lend s x,lends s r with
  | some (y,b),some (l,c)=>some (y :: l,b || c)
  | _,_=>none
def evalArgs (s:St):List Operand -> Option (List SV × Bool)
 | []=>some ([],false)
 | x :: r=>match evalO s x with
  | some v=>match lends s v.cs,evalArgs s r with
   | some (cs,b),some (l,c)=>some (⟨v.sh,cs⟩ :: l,b || c)
   | _,_=>none
  | none=>none
def one (x:Cell):SV:=⟨.one,[x]⟩
def Ty.kin:Ty -> List Ty
 | .list _=>[]
 | .pair a b=>a.kin ++ b.kin
 | .unit=>[]
 | x=>[x]
def Ty.farA (K:List Ty):Ty -> Bool
 | .list t=>!K.contains (.list .unit) && t.farA K
 | .pair a b=>a.farA K && b.farA K
 | .unit=>true
 | .int k=>!K.contains (.int k)
 | .bool=>!K.contains .bool
 | .str=>!K.contains .str
def Ty.under (K:List Ty):Ty -> Bool
 | .list t=>t.farA K
 | .pair a b=>a.under K && b.under K
 | _=>true
def Ty.cells:Ty -> List (Option Ty)
 | .list _=>[some (.list .unit)]
 | .pair a b=>a.cells ++ b.cells
 | .unit=>[]
 | .int k=>[some (.int k)]
 | .bool=>[some .bool]
 | .str=>[some .str]
def kindsOf:List (Option Ty) -> Option (List Ty)
 | []=>some []
 | some t :: r=>match kindsOf r with
  | some l=>some (t :: l)
  | none=>none
 | none :: _=>none
def D.far (K:List Ty):D -> Bool
 | .v (.int k _)=>!K.contains (.int k)
 | .v (.bool _)=>!K.contains .bool
 | .v (.string _)=>!K.contains .str
 | .lst t _=>(Ty.list t).farA K
 | _=>false
def Cell.keeps (q:Place) (K:List Ty):Cell -> Bool
 | .own _ t _=>t.under K
 | .ali (.slot t j) _ ty _=>decide (Place.slot t j ≠ q) && ty.under K
 | .ali (.box _ _) _ _ _=>false
 | .re (.box _ _) _ _ _=>false
 | .lst t _=>t.farA K
 | .dp ds=>ds.all (D.far K)
 | .dclo _ dss=>dss.all fun ds=>ds.all (D.far K)
 | _=>true
def Cell.left (q:Place) (K:List Ty) (c:Cell):Cell:=if c.keeps q K then c else .imm 2
def St.dim (s:St) (q:Place) (K:List Ty):St:=⟨s.slots,s.boxes.map fun p=>(p.1,p.2.1,p.2.2.map (Cell.left q K))⟩
def St.rewriteI (s:St) (q:Place) (c:Cell) (K:List Ty):Option St:=
 match q with
 | .slot t j=>match s.slots.lookup t with
  | some v=>if (v.cs.set j c).all (Cell.keeps q K) = true then some ⟨(t,⟨v.sh,v.cs.set j c⟩) :: s.slots.filter (fun p=>p.1 != t && p.2.cs.all (Cell.keeps q K)),s.boxes.filter (fun p=>p.2.2.all (Cell.keeps q K))⟩ else none
  | none=>none
 | .box n j=>match s.box? n with
  | some (e,cs)=>if (cs.set j c).all (Cell.keeps q K) = true then some ⟨s.slots.filter (fun p=>p.2.cs.all (Cell.keeps q K)),(n,e,cs.set j c) :: s.boxes.filter (fun p=>p.1 != n && p.2.2.all (Cell.keeps q K))⟩ else none
  | none=>none
def St.rewrite (s:St) (q:Place) (c:Cell) (K:List Ty):Option St:=(s.dim q K).rewriteI q c K
def Cell.ownOf (t:Ty):Cell -> Option (Nat × List t.T)
 | .own e t' l=>if h:t' = t then some (e,h ▸ l) else none
 | _=>none
def sameOp:Operand -> Operand -> Bool
 | .tmp a,.tmp b=>a == b
 | .const (.int _ a),.const (.int _ b)=>a == b
 | _,_=>false
def callee (s:St) (f:SV):Option (Nat × List SV × Bool):=
 match f with
 | ⟨.one,[.clo fn []]⟩=>some (fn,[],false)
 | ⟨.one,[.clo fn caps]⟩=>(behinds s caps).map fun l=>(fn,l.map fun ds=>one (.dp ds),false)
 | ⟨.one,[.dclo fn l]⟩=>some (fn,l.map fun ds=>one (.dp ds),false)
 | _=>none
def Weaker (args args':List SV):Prop:=
 args.length = args'.length /\ ∀ (i:Nat) x y,args[i]? = some x -> args'[i]? = some y -> ∀ c pl u,SVR c pl x u -> ∃ pl',SVR c pl' y u
def CallOb (P:Program) (fn:Nat) (args:List SV) (r:SV):Prop:=
 ∃ args',Weaker args args' /\ args'.all (fun v=>v.cs.all Cell.plain) = true /\ PureC P fn args' r
def zerosOf (z:List Cell) (n:Nat):List Cell:=(List.range n).map fun i=>(z[i % z.length]?).getD .nilS
def callV (P:Program) (h:Option Hint) (s:St) (f:Operand) (args:List Operand):Option (SV × Prop):=
 match h,evalO s f with
 | some (.call r _),some fv=>match callee s fv,evalArgs s args with
  | some (fn,caps,b),some (as,c)=>if (as ++ caps).all (fun v=>v.cs.all Cell.plain) && r.cs.all Cell.res && (!(b || c) || r.cs.all Cell.loose) then some (r,CallOb P fn (as ++ caps) r) else none
  | _,_=>none
 | _,_=>none
def Cell.fresh:Cell -> Bool
 | .c _=>true
 | .v _=>true
 | .nilS=>true
 | .lst _ _=>true
 | .clo _ []=>true
 | .imm _=>true
 | _=>false
def NewOb (P:Program) (fn:Nat) (args:List SV) (e:Nat) (cs:List Cell):Prop:=
 ∃ args',Weaker args args' /\ args'.all (fun v=>v.cs.all Cell.plain) = true /\ NewC P fn args' e cs
def callN (P:Program) (s:St) (e:Nat) (cs:List Cell) (f:Operand) (args:List Operand):Option Prop:=
 match evalO s f with
 | some fv=>match callee s fv,evalArgs s args with
  | some (fn,caps,b),some (as,c)=>if (as ++ caps).all (fun v=>v.cs.all Cell.plain) && (cs.all Cell.fresh && decide (e < spc)) && !(b || c) then some (NewOb P fn (as ++ caps) e cs) else none
  | _,_=>none
 | none=>none
def callW (P:Program) (h:Option Hint) (s:St) (d:Option Nat) (f:Operand) (args:List Operand):Option (SV × Prop × Option (Nat × List Cell)):=
 match h,d with
 | some (.newc e cs),some d=>(callN P s e cs f args).map fun ob=>(⟨.one,[.ptr d 0]⟩,ob,some (e,cs))
 | h,_=>(callV P h s f args).map fun q=>(q.1,q.2,none)
def acalm (P:Program) (want:Bool) (h:Option Hint) (s:St) (o:Oper):Option (SV × Prop × Option (Nat × List Cell)):=
 match o.op with
 | .alloc e=>match o.dst,arrOf P e with
  | some d,some n=>some (⟨.one,[.ptr d 0]⟩,True,some (spc + e,[.arr (F.fill (n:Nat) false)]))
  | some d,none=>match zeroCells P e with
   | some z=>if e < spc then some (⟨.one,[.ptr d 0]⟩,True,some (e,z)) else none
   | none=>none
  | none,_=>none
 | .box e x=>match o.dst,evalO s x with
  | some d,some ⟨.one,[c]⟩=>if c.mentions d \/ spc <= e then none else some (⟨.one,[.ptr d 0]⟩,True,some (e,[c.copy false (.slot 0 0)]))
  | some d,some ⟨.agg,cs⟩=>if cs.any (Cell.mentions d) \/ spc <= e then none else some (⟨.one,[.ptr d 0]⟩,True,some (e,copyCells false (fun _=>.slot 0 0) 0 cs))
  | _,_=>none
 | .buildSlice t len parts=>match P.underlying t with
  | some (.slice e)=>match P.info? e,tyOf P 8 e with
   | some j,some ty=>match zeroCells P e,evalParts false s parts.toList with
    | some z,some ps=>if j.size = 0 then none else if len * j.size > 2 ^ 24 then none else if j.size ≠ ty.n then none else
     match fillCells (fun i=>some (i * j.size,j.size)) (zerosOf z (len * j.size)) ps with
     | some cs=>match decs ty (chunks ty.n len cs) with
      | some l=>some (⟨.one,[.own e ty l]⟩,True,none)
      | none=>none
     | none=>none
    | _,_=>none
   | _,_=>none
  | _=>none
 | .makeMap t none=>match P.underlying t with
  | some (.map _ _)=>some (⟨.one,[.imm 0]⟩,True,none)
  | _=>none
 | .range t x=>match P.underlying t,evalO s x with
  | some (.map _ _),some ⟨.one,[.imm 0]⟩=>some (⟨.one,[.imm 1]⟩,True,none)
  | _,_=>none
 | .makeSlice t x y=>match P.underlying t,(evalO s x).bind SV.int? with
  | some (.slice e),some (_,_,n)=>match P.info? e,tyOf P 8 e,zeroCells P e with
   | some j,some ty,some z=>match decAll ty z with
    | some z0=>if j.size = ty.n /\ 0 < j.size /\ sameOp x y = true then some (⟨.one,[.own e ty (F.fill n z0)]⟩,F.fillOk j.bytes n = true,none) else none
    | none=>none
   | _,_,_=>none
  | _,_=>none
 | .call c=>match c.callee with
  | .value f=>callW P h s o.dst f c.args.toList
  | _=>match h with
   | some (.bool b)=>match aval P want none s o.op with
    | some (⟨.one,[.v (.bool x)]⟩,ob)=>some (⟨.one,[.c (.bool b)]⟩,ob.P /\ x = b,none)
    | _=>none
   | _=>(aval P want h s o.op).map fun q=>(q.1,q.2.P,none)
 | op=>match h with
  | some (.bool b)=>match aval P want none s op with
   | some (⟨.one,[.v (.bool x)]⟩,ob)=>some (⟨.one,[.c (.bool b)]⟩,ob.P /\ x = b,none)
   | _=>none
  | _=>(aval P want h s op).map fun q=>(q.1,q.2.P,none)
def dropRefs (d:Nat) (l:List (Nat × SV)):List (Nat × SV):=l.filter fun q=>q.1 != d && !q.2.refs d
def dropMentions (d:Nat) (l:List (Nat × SV)):List (Nat × SV):=l.filter fun q=>!q.2.mentions d
def dropBox (d:Nat) (l:List (Nat × Nat × List Cell)):List (Nat × Nat × List Cell):=l.filter fun q=>q.1 != d && !q.2.2.any (Cell.mentions d)
def St.app (s:St) (d:Nat) (v:SV):Option (Nat × List Cell) -> St
 | none=>{ s with slots:=(d,v) :: dropRefs d s.slots }
 | some b=>{ slots:=(d,v) :: dropRefs d (dropMentions d s.slots),boxes:=(d,b) :: dropBox d s.boxes }
def undefSV:SV:=⟨.tup [],[]⟩
def SV.asks (v:SV) (b:Bool):Option Bool:=
 match v with
 | ⟨.tup [],[]⟩=>some false
 | ⟨.one,[.c (.bool c)]⟩=>some (c == b)
 | _=>none
def wanted (s:St) (ops:Array Oper) (o:Oper):Option Bool:=
 match o.guard with
 | none=>some true
 | some (j,b)=>match (ops[j]?).bind (·.dst) with
  | some d=>match s.look d with
   | some v=>v.asks b
   | none=>none
  | none=>none
def wantsN (ops:Array Oper):Nat -> Nat -> Bool
 | 0,_=>false
 | n + 1,d=>ops.any fun o=>match o.op with
  | .call c=>match c.callee,c.args.toList with
   | .builtin .append,.tmp t :: _=>t == d
   | .builtin .copy,.tmp t :: _=>t == d
   | _,_=>false
  | .store _ (.tmp t) _=>t == d
  | .assign (.tmp t)=>t == d
  | .fieldAddr _ (.tmp t) _=>t == d && (match o.dst with
   | some d'=>wantsN ops n d'
   | none=>false)
  | .indexAddr _ (.tmp t) _=>t == d && (match o.dst with
   | some d'=>wantsN ops n d'
   | none=>false)
  | _=>false
def skips:Op -> Bool
 | .alloc _=>true
 | .nilCheck _=>true
 | .fieldAddr _ _ _=>true
 | _=>false
def storesT (d:Nat):Op -> Bool
 | .store _ _ (.tmp t)=>t == d
 | _=>false
def storedSoon (d:Nat):List Oper -> Bool
 | o :: r=>storesT d o.op || (skips o.op && storedSoon d r)
 | []=>false
def storedNext (d:Nat):List Oper -> Bool
 | a :: r=>(a.dst == some d && storedSoon d r) || storedNext d r
 | []=>false
def wantsOwn (ops:Array Oper) (d:Option Nat):Bool:=
 match d with
 | none=>false
 | some d=>wantsN ops 4 d || storedNext d ops.toList
def storeCell:Cell -> Cell
 | .ali _ _ t l=>.lst t l
 | .re _ _ _ _=>.dp []
 | x=>x
def spliceCells (cs:List Cell) (off:Nat) (ys:List Cell):List Cell:=cs.take off ++ ys ++ cs.drop (off + ys.length)
def setBox (n:Nat) (b:Nat × List Cell) (l:List (Nat × Nat × List Cell)):List (Nat × Nat × List Cell):=(n,b) :: l.filter fun q=>q.1 != n
def delSlot (t:Nat) (l:List (Nat × SV)):List (Nat × SV):=l.filter fun q=>q.1 != t && !q.2.refs t
def Cell.aliBox:Cell -> Bool
 | .ali (.box _ _) _ _ _=>true
 | .re (.box _ _) _ _ _=>true
 | _=>false
def delBoxRefs (l:List (Nat × SV)):List (Nat × SV):=l.filter fun q=>!q.2.cs.any Cell.aliBox
def Cell.aliAt (n:Nat) (bx:List (Nat × Nat × List Cell)):Cell -> Bool
 | .ali (.box m _) _ _ _=>m == n || (bx.lookup m).isNone
 | .re (.box m _) _ _ _=>m == n || (bx.lookup m).isNone
 | _=>false
def ownTmp (x:Operand) (v:SV):Option Nat:=
 match x with
 | .tmp t0=>if v.cs.any Cell.isOwn then some t0 else none
 | _=>none
def kept (s:St) (o:Oper) (s':St):St:=
 match o.op with
 | .store _ ad x=>match evalO s ad,evalO s x with
  | some ⟨.one,[.ptr n _]⟩,some v=>match s.box? n with
   | some _=>match ownTmp x v with
    | some t0=>⟨(delSlot t0 s.slots).filter fun q=>!q.2.cs.any (Cell.aliAt n s.boxes),s'.boxes⟩
    | none=>⟨s.slots.filter fun q=>!q.2.cs.any (Cell.aliAt n s.boxes),s'.boxes⟩
   | none=>s'
  | _,_=>s'
 | _=>s'
def Cell.aliUnk (bx:List (Nat × Nat × List Cell)):Cell -> Bool
 | .ali (.box m _) _ _ _=>(bx.lookup m).isNone
 | .re (.box m _) _ _ _=>(bx.lookup m).isNone
 | _=>false
def delUnk (bx:List (Nat × Nat × List Cell)) (l:List (Nat × SV)):List (Nat × SV):=l.filter fun q=>!q.2.cs.any (Cell.aliUnk bx)
def growing (s:St) (d e:Nat) (ty:Ty) (cx:Cell) (x:Operand):Option (St × (t:Ty) × List t.T):=
 match cx,x with
 | .nilS,_=>some ({ s with slots:=delUnk s.boxes (delSlot d s.slots) },⟨ty,[]⟩)
 | .own e' t xs,.tmp tx=>if e' = e /\ t.n = ty.n /\ tx ≠ d then some ({ s with slots:=delUnk s.boxes (delSlot tx s.slots) },⟨t,xs⟩) else none
 | .ali (.slot t0 _) e' t xs,_=>if e' = e /\ t.n = ty.n /\ t0 ≠ d then some ({ s with slots:=delUnk s.boxes (delSlot t0 s.slots) },⟨t,xs⟩) else none
 | .ali (.box n i) e' t xs,_=>match s.box? n with
  | some (be,cs)=>if e' = e /\ t.n = ty.n then some ({ slots:=delBoxRefs s.slots,boxes:=setBox n (be,cs.set i (.lst t xs)) s.boxes },⟨t,xs⟩) else none
  | none=>none
 | _,_=>none
def peCells (t:Ty) (i:Int) (off fo:Nat) (cs ys:List Cell):Nat -> Nat -> Option (List Cell)
 | 0,_=>some []
 | m + 1,k=>match decAll t ((cs.drop (off + k * t.n)).take t.n),decAll t (((spliceCells cs (off + k * t.n + fo) ys).drop (off + k * t.n)).take t.n),peCells t i off fo cs ys m (k + 1) with
  | some x,some y,some l=>some ((enc t (F.pick (α:=t.T) i k y x)).map D.toC ++ l)
  | _,_,_=>none
def takes (s:St) (d:Nat) (v:SV):Option Nat:=
 match v with
 | ⟨.one,[.ali (.slot t0 0) _ _ _]⟩=>match s.slots.lookup d,s.slots.lookup t0 with
  | some ⟨.one,[.nilS]⟩,some ⟨.one,[.own _ _ _]⟩=>some t0
  | _,_=>none
 | _=>none
def atail (P:Program) (N:Nat) (h:Option Hint) (s:St) (o:Oper):Option (St × Cnd):=
 match o.op with
 | .store t ad x=>match evalO s ad,evalO s x with
  | some ⟨.one,[.ptr n off]⟩,some v=>match s.box? n,P.info? t with
   | some (e,cs),some j=>match v.sh with
    | .tup _=>none
    | _=>if v.cs.length = j.size /\ (v.sh.isAgg = true \/ v.cs.length = 1) /\ off + v.cs.length <= cs.length /\ o.dst = none then
      match x with
      | .tmp t0=>some ({ slots:=delBoxRefs (if v.cs.any Cell.isOwn then delSlot t0 s.slots else s.slots),boxes:=setBox n (e,spliceCells cs off (v.cs.map storeCell)) s.boxes },.ok)
      | _=>some ({ slots:=delBoxRefs s.slots,boxes:=setBox n (e,spliceCells cs off (v.cs.map storeCell)) s.boxes },.ok)
     else none
   | none,some j=>match s.arr? n with
    | some (e,l)=>if v.sh.isAgg = true /\ v.cs.all Cell.isF = true /\ v.cs.length = j.size /\ off = 0 /\ o.dst = none then some ({ slots:=delBoxRefs s.slots,boxes:=setBox n (e,[.arr (F.fill (v.cs.length:Nat) false)]) s.boxes },.chk (F.eq (F.len l) (v.cs.length:Nat))) else none
    | none=>none
   | _,_=>none
  | some ⟨.one,[.pe n off ty len i fo]⟩,some v=>match s.box? n,P.info? t with
   | some (e,cs),some j=>match v.sh with
    | .tup _=>none
    | _=>if v.cs.length = j.size /\ (v.sh.isAgg = true \/ v.cs.length = 1) /\ off + len * ty.n <= cs.length /\ fo + v.cs.length <= ty.n /\ o.dst = none /\ v.cs.any Cell.isOwn = false then
      match peCells ty i off fo cs (v.cs.map storeCell) len 0 with
      | some l=>some ({ slots:=delBoxRefs s.slots,boxes:=setBox n (e,cs.take off ++ l ++ cs.drop (off + l.length)) s.boxes },.ok)
      | none=>none
     else none
   | none,some j=>match s.arr? n,v.bool? with
    | some (e,l),some (_,b)=>if ty = .bool /\ off = 0 /\ fo = 0 /\ j.size = 1 /\ o.dst = none then some ({ slots:=delBoxRefs s.slots,boxes:=setBox n (e,[.arr (F.put l i b)]) s.boxes },.chk (F.has l i)) else none
    | _,_=>none
   | _,_=>none
  | some ⟨.one,[.re q ty i fo]⟩,some v=>match s.at? q,h,P.info? t with
   | some c,some (.elem t2 x0),some j=>match v.sh with
    | .tup _=>none
    | _=>match c.ownOf t2 with
     | some (e,xs)=>match kindsOf ((t2.cells.drop fo).take v.cs.length) with
      | some K=>if t2 = ty /\ t2.under K = true /\ v.cs.length = j.size /\ (v.sh.isAgg = true \/ v.cs.length = 1) /\ fo + v.cs.length <= t2.n /\ o.dst = none /\ v.cs.any Cell.isOwn = false then
       match decAll t2 (spliceCells ((enc t2 x0).map D.toC) fo v.cs) with
       | some x1=>(s.rewrite q (.own e t2 (F.put xs i x1)) K).map fun s'=>(s',.pr (F.get xs i = some x0))
       | none=>none
      else none
      | none=>none
     | none=>none
   | _,_,_=>none
  | _,_=>none
 | .assign (.tmp t)=>match o.dst,s.look t with
  | some d,some v=>match takes s d v with
   | some t0=>match s.slots.lookup t0 with
    | some v0=>if d < N /\ t0 ≠ d /\ v0.cs.all (fun c=>c.target.isNone) = true then some ({ s with slots:=(d,v0) :: dropRefs d (delBoxRefs (delSlot t0 s.slots)) },.ok) else none
    | none=>none
   | none=>if d < N /\ t ≠ d /\ v.cs.all (fun c=>c.target.isNone) = true then some ({ s with slots:=(d,v) :: dropRefs d (delBoxRefs (delSlot t s.slots)) },.ok) else none
  | _,_=>none
 | .call c=>match c.callee,c.args.toList,c.argTypes.toList,o.dst with
  | .builtin .append,[x,y],[t,t'],some d=>if t = t' /\ d < N then
    match P.underlying t with
    | some (.slice e)=>match P.info? e,tyOf P 8 e,evalO s x,evalO s y with
     | some j,some ty,some ⟨.one,[cx]⟩,some ⟨.one,[cy]⟩=>match j.zero with
      | some z=>if j.size = 0 \/ z.cells.size ≠ j.size \/ j.size ≠ ty.n then none else
       match growing s d e ty cx x with
       | some (s1,⟨t1,xs⟩)=>match cy.list t1 with
        | some ys=>some ({ s1 with slots:=(d,⟨.one,[.own e t1 (F.app xs ys)]⟩) :: dropRefs d s1.slots },.chk (F.appOk j.bytes xs ys))
        | none=>none
       | none=>none
      | none=>none
     | _,_,_,_=>none
    | _=>none
   else none
  | .builtin .clear,[x],[t],none=>match evalO s x,P.underlying t with
   | some ⟨.one,[.imm 0]⟩,some (.map _ _)=>some (s,.ok)
   | _,_=>none
  | .builtin .copy,[x,y],[t,t'],dst=>match P.underlying t with
   | some (.slice e)=>match P.info? e,tyOf P 8 e,evalO s x,evalO s y with
    | some j,some ty,some ⟨.one,[cx]⟩,some ⟨.one,[cy]⟩=>match rowOf x cx with
     | some q=>match s.at? q with
      | some c=>match c.ownOf ty,cy.list ty with
       | some (e',xs),some ys=>if ty.flat = true /\ j.size = ty.n then
         match s.rewrite q (.own e' ty (F.over xs ys)) ty.kin with
         | some s1=>match dst with
          | some d=>if d < N then some ({ s1 with slots:=(d,one (.v (.int .i64 (F.overN xs ys)))) :: dropRefs d s1.slots },.ok) else none
          | none=>some (s1,.ok)
         | none=>none
        else none
       | _,_=>none
      | none=>none
     | none=>none
    | _,_,_,_=>none
   | _=>none
  | _,_,_,_=>none
 | _=>none
def isTail (o:Oper) (s:St):Bool:=
 match o.op with
 | .store ..=>true
 | .assign (.tmp t)=>match s.look t with
  | some v=>v.cs.any Cell.isOwn || (match o.dst with
   | some d=>(takes s d v).isSome
   | none=>false)
  | none=>false
 | .call c=>match c.callee with
  | .builtin .append=>true
  | .builtin .copy=>true
  | .builtin .clear=>true
  | _=>false
 | _=>false
def astep (P:Program) (N:Nat) (ops:Array Oper) (h:Option Hint) (s:St) (o:Oper):Option (St × Prop):=
 match wanted s ops o with
 | some false=>match o.dst with
  | some d=>if d < N then some (s.app d undefSV none,True) else none
  | none=>some (s,True)
 | some true=>if isTail o s then (atail P N h s o).map fun q=>(q.1,q.2.P) else
  match o.dst with
  | some d=>if d < N then match acalm P (wantsOwn ops (some d)) h s o with
    | some (v,ob,b)=>if v.refs d then none else some (s.app d v b,ob)
    | none=>none
   else none
  | none=>none
 | none=>none
def St.clean (s:St):St:={ s with slots:=s.slots.filter fun q=>!q.2.cs.any fun x=>x.target.isSome && !(Nat.ble 100000 q.1 && x.aliBox) }
end Go.Proofs.YthnagpmnoncijaaGreat.M
