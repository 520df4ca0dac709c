/- A part of the proof. -/
import Derived.Test.YthnagpmnoncijaaGreatMchO
set_option linter.unusedVariables false
namespace Go.Proofs.YthnagpmnoncijaaGreat.M
open Go Go.RowKit
structure Res where
 val:Option SV
 box:Option (Nat × Nat × List Cell)
 wr:Option (Option Nat)
 used:List Nat
structure Eff where
 del:Option Nat
 box:Option (Nat × Nat × List Cell)
 put:Option SV
def delO (u:Option Nat) (l:List (Nat × SV)):List (Nat × SV):=
 match u with
 | some t=>delSlot t l
 | none=>l
def putO (d:Option Nat) (v:Option SV) (l:List (Nat × SV)):List (Nat × SV):=
 match d,v with
 | some d,some v=>(d,v) :: dropRefs d l
 | _,_=>l
def boxO (y:Option (Nat × Nat × List Cell)) (l:List (Nat × Nat × List Cell)):List (Nat × Nat × List Cell):=
 match y with
 | some y=>setBox y.1 y.2 l
 | none=>l
def St.wr (s:St) (d:Option Nat) (q:Eff):St:=⟨putO d q.put (delBoxRefs (delO q.del s.slots)),boxO q.box s.boxes⟩
def growE (s:St) (d e:Nat) (ty:Ty) (cx:Cell) (x:Operand):Option (Option Nat × Option (Nat × Nat × List Cell) × ((t:Ty) × List t.T)):=
 match cx,x with
 | .nilS,_=>some (some d,none,⟨ty,[]⟩)
 | .own e' t xs,.tmp tx=>if e' = e /\ t.n = ty.n /\ tx ≠ d then some (some tx,none,⟨t,xs⟩) else none
 | .ali (.slot t0 _) e' t xs,_=>if e' = e /\ t.n = ty.n /\ t0 ≠ d then some (some t0,none,⟨t,xs⟩) else none
 | .ali (.box n i) e' t xs,_=>match s.box? n with
  | some (be,cs)=>if e' = e /\ t.n = ty.n then some (none,some (n,be,cs.set i (.lst t xs)),⟨t,xs⟩) else none
  | none=>none
 | _,_=>none
def aeff (P:Program) (N:Nat) (s:St) (o:Oper):Option (Eff × Cnd):=
 match o.op with
 | .store t ad x=>match evalO s ad,evalO s x with
  | some ⟨.one,[.ptr n off]⟩,some v=>match s.box? n,P.info? t with
   | some (e,cs),some j=>match v.sh with
    | .tup _=>none
    | _=>if v.cs.length = j.size /\ (v.sh.isAgg = true \/ v.cs.length = 1) /\ off + v.cs.length <= cs.length /\ o.dst = none then
      match x with
      | .tmp t0=>some (⟨if v.cs.any Cell.isOwn then some t0 else none,some (n,e,spliceCells cs off (v.cs.map storeCell)),none⟩,.ok)
      | _=>some (⟨none,some (n,e,spliceCells cs off (v.cs.map storeCell)),none⟩,.ok)
     else none
   | _,_=>none
  | some ⟨.one,[.pe n off ty len i fo]⟩,some v=>match s.box? n,P.info? t with
   | some (e,cs),some j=>match v.sh with
    | .tup _=>none
    | _=>if v.cs.length = j.size /\ (v.sh.isAgg = true \/ v.cs.length = 1) /\ off + len * ty.n <= cs.length /\ fo + v.cs.length <= ty.n /\ o.dst = none /\ v.cs.any Cell.isOwn = false then
      match peCells ty i off fo cs (v.cs.map storeCell) len 0 with
      | some l=>some (⟨none,some (n,e,cs.take off ++ l ++ cs.drop (off + l.length)),none⟩,.ok)
      | none=>none
     else none
   | _,_=>none
  | _,_=>none
 | .assign (.tmp t)=>match o.dst,s.look t with
  | some d,some v=>if d < N /\ t ≠ d /\ v.cs.all (fun c=>c.target.isNone) = true /\ v.cs.any Cell.isOwn = true then some (⟨some t,none,some v⟩,.ok) else none
  | _,_=>none
 | .call c=>match c.callee,c.args.toList,c.argTypes.toList,o.dst with
  | .builtin .append,[x,y],[t,t'],some d=>if t = t' /\ d < N then
    match P.underlying t with
    | some (.slice e)=>match P.info? e,tyOf P 8 e,evalO s x,evalO s y with
     | some j,some ty,some ⟨.one,[cx]⟩,some ⟨.one,[cy]⟩=>match j.zero with
      | some z=>if j.size = 0 \/ z.cells.size ≠ j.size \/ j.size ≠ ty.n then none else
       match growE s d e ty cx x with
       | some (u,bx,⟨t1,xs⟩)=>match cy.list t1 with
        | some ys=>some (⟨u,bx,some ⟨.one,[.own e t1 (F.app xs ys)]⟩⟩,.chk (F.appOk j.bytes xs ys))
        | none=>none
       | none=>none
      | none=>none
     | _,_,_,_=>none
    | _=>none
   else none
  | _,_,_,_=>none
 | _=>none
def opTmps (o:Oper):List Nat:=o.op.operands.toList.filterMap fun
 | .tmp t=>some t
 | _=>none
def guardTmp (ops:Array Oper) (o:Oper):List Nat:=
 match o.guard with
 | none=>[]
 | some (j,_)=>match (ops[j]?).bind (·.dst) with
  | some d=>[d]
  | none=>[]
def St.restrict (s:St) (o:Oper):St:=
 let sl:=s.slots.filter fun q=>(opTmps o).contains q.1
 ⟨sl,s.boxes.filter fun q=>sl.any fun p=>p.2.mentions q.1⟩
def arunC (P:Program) (N:Nat) (ops:Array Oper) (hints:List (Nat × Hint)) (tl:List Nat):Nat -> List Oper -> St -> Option (List (Option Res) × St × Prop)
 | _,[],s=>some ([],s,True)
 | i,o :: r,s=>match tl.contains i with
  | true=>match arunC P N ops hints tl (i + 1) r s with
   | some (l,s',ob)=>some (none :: l,s',ob)
   | none=>none
  | false=>match wanted s ops o with
   | some false=>match o.dst with
    | some d=>if d < N then match arunC P N ops hints tl (i + 1) r (s.app d undefSV none) with
      | some (l,s',ob)=>some (some ⟨some undefSV,none,none,[]⟩ :: l,s',ob)
      | none=>none
     else none
    | none=>none
   | some true=>match isTail o s with
    | true=>match aeff P N (s.restrict o) o with
     | some (q,c)=>match arunC P N ops hints tl (i + 1) r (s.wr o.dst q) with
      | some (l,s',ob')=>some (some ⟨q.put,q.box,some q.del,(s.restrict o).boxes.map (·.1)⟩ :: l,s',c.P /\ ob')
      | none=>none
     | none=>none
    | false=>match o.dst with
     | some d=>if d < N then match acalm P (wantsOwn ops (some d)) (hints.lookup i) (s.restrict o) o with
      | some (v,ob,b)=>if v.refs d then none else match arunC P N ops hints tl (i + 1) r (s.app d v b) with
       | some (l,s',ob')=>some (some ⟨some v,b.map fun y=>(d,y),none,(s.restrict o).boxes.map (·.1)⟩ :: l,s',ob /\ ob')
       | none=>none
      | none=>none
     else none
     | none=>none
   | none=>none
def edgesOf (o:Oper):List Nat:=(o.after.toList.filter (Region.binds .any)).map (·.on)
def befs:List Oper -> List Nat -> List Nat
 | [],acc=>acc
 | o :: r,acc=>befs r (acc ++ [(edgesOf o).foldl (fun s j=>s ||| 2 ^ j ||| acc.getD j 0) 0])
def dstOf (ops:Array Oper) (k:Nat):Option Nat:=(ops[k]?).bind (·.dst)
def resAt (res:List (Option Res)) (k:Nat):Option Res:=(res[k]?).bind id
def makes (res:List (Option Res)) (i:Nat):Bool:=
 match resAt res i with
 | some q=>q.box.isSome && q.wr.isNone
 | none=>false
def hangs (ops:Array Oper) (res:List (Option Res)) (i:Nat) (v:SV):Bool:=
 match dstOf ops i with
 | some d=>v.refs d || (makes res i && v.mentions d)
 | none=>false
def boxHangs (ops:Array Oper) (res:List (Option Res)) (i:Nat) (cs:List Cell):Bool:=
 match dstOf ops i with
 | some d=>makes res i && cs.any (Cell.mentions d)
 | none=>false
def hits (q:Res) (t:Nat) (x:SV):Bool:=
 match q.wr with
 | none=>false
 | some del=>x.cs.any Cell.aliBox || (match del with
  | some u=>t == u || x.refs u
  | none=>false)
def hitAt (res:List (Option Res)) (c t:Nat) (x:SV):Bool:=
 match resAt res c with
 | some q=>hits q t x
 | none=>false
def setsB (res:List (Option Res)) (k n:Nat):Bool:=
 match resAt res k with
 | some q=>match q.box with
  | some y=>y.1 == n
  | none=>false
 | none=>false
def valAt (res:List (Option Res)) (k:Nat):Option SV:=(resAt res k).bind (·.val)
def ord (b:List Nat) (i k:Nat):Bool:=(Nat.blt k i && (b.getD i 0).testBit k) || (Nat.blt i k && (b.getD k 0).testBit i)
def light (P:Program) (o:Oper):Bool:=
 match o.op with
 | .move _=>true
 | .assign _=>true
 | .extract _ _=>true
 | .slice _ _ _ _ _=>true
 | .nilCheck _=>true
 | .fieldAddr t _ f=>match P.underlying t with
  | some (.struct fs)=>match fs[f]? with
   | some q=>match P.info? q.type with
    | some i=>i.size != 0
    | none=>false
   | none=>false
  | _=>false
 | _=>false
def lightAt (P:Program) (ops:Array Oper) (b:List Nat) (i:Nat):Bool:=
 match ops[i]? with
 | some o=>light P o && (List.range ops.size).all fun j=>j == i || (b.getD i 0).testBit j || match ops[j]? with
   | some oj=>(edgesOf oj).contains i || o.apart ops oj
   | none=>true
 | none=>false
def cal (res:List (Option Res)) (i:Nat):Bool:=(resAt res i).isSome
def noSel (ops:Array Oper):Bool:=ops.all fun o=>match o.op with
 | .select _ _=>false
 | .defer _=>false
 | _=>true
theorem noSel_spec {ops:Array Oper} (h:noSel ops = true) {j:Nat} {o:Oper} (ho:ops[j]? = some o):(∀ cs b,o.op ≠ .select cs b) /\ ∀ c,o.op ≠ .defer c:=by
 have:=Array.all_eq_true_iff_forall_mem.1 h o (Array.mem_of_getElem? ho);exact ⟨fun cs b e=>by simp [e] at this,fun c e=>by simp [e] at this⟩
def drawOk (ops:Array Oper) (res:List (Option Res)) (s:St) (b:List Nat):Bool:=
 noSel ops && (List.range ops.size).all fun i=>match ops[i]? with
  | none=>false
  | some o=>
   ((edgesOf o).all fun j=>j < i) &&
   (match resAt res i with
   | some q=>
    (o.dst.isNone || (List.range ops.size).all fun k=>k == i || !cal res k || dstOf ops k != o.dst) &&
    ((opTmps o ++ guardTmp ops o).all fun t=>(List.range ops.size).all fun k=>(!cal res k || dstOf ops k != some t || ord b i k) && (k == i || (match valAt res k with
     | some x=>dstOf ops k != some t || (List.range ops.size).all fun c=>c == i || !hitAt res c t x || ord b i c
     | none=>true) && (match s.slots.lookup t with
     | some x=>!hitAt res k t x || ord b i k
     | none=>true))) &&
    ((List.range ops.size).all fun k=>k == i || (match resAt res k with
     | some p=>(!((match p.val with | some x=>hangs ops res i x | none=>false) || (match p.box with | some y=>boxHangs ops res i y.2.2 | none=>false)) || (b.getD k 0).testBit i) &&
       (q.wr.isNone || (match p.val,dstOf ops k with
        | some x,some t=>!hits q t x || ord b i k
        | _,_=>true)) &&
       (q.used.all fun n=>!setsB res k n || ord b i k)
     | none=>true)) &&
    (s.slots.all fun q=>!hangs ops res i q.2) &&
    (!makes res i || s.boxes.all fun y=>some y.1 != o.dst && !boxHangs ops res i y.2.2) &&
    (match q.wr,q.box with
     | some _,some y=>q.used.contains y.1
     | _,_=>true) &&
    (edgesOf o).all fun j=>cal res j
   | none=>true)
def tailOk (P:Program) (ops:Array Oper) (res:List (Option Res)) (b:List Nat):Bool:=
 (List.range ops.size).all fun i=>cal res i || ((List.range ops.size).all fun k=>!cal res k || (b.getD i 0).testBit k || lightAt P ops b k) && (List.range i).all fun k=>cal res k || (b.getD i 0).testBit k
def soft (res:List (Option Res)) (k:Nat):Bool:=
 match resAt res k with
 | some q=>q.wr.isNone
 | none=>false
def freeU (P:Program) (ops:Array Oper) (res:List (Option Res)) (b:List Nat):Option Nat:=
 (List.range ops.size).find? fun k=>soft res k && !lightAt P ops b k && (List.range ops.size).any fun i=>!cal res i && !(b.getD i 0).testBit k
def tailU (P:Program) (ops:Array Oper) (res:List (Option Res)) (b:List Nat) (u:Option Nat):Bool:=
 (List.range ops.size).all fun i=>if cal res i then (match u with
   | some k=>i == k || !(b.getD i 0).testBit k
   | none=>true)
  else (List.range ops.size).all fun k=>!cal res k || (b.getD i 0).testBit k || lightAt P ops b k || u == some k
def calL (ops:Array Oper) (res:List (Option Res)) (u:Option Nat):List Nat:=(List.range ops.size).filter fun k=>cal res k && u != some k
def readyL (ops:Array Oper) (L:List Nat):List Nat:=(List.range ops.size).filter fun i=>!L.contains i && match ops[i]? with
 | some o=>(edgesOf o).all L.contains
 | none=>false
def lightL (P:Program) (ops:Array Oper) (L:List Nat) (i:Nat):Bool:=
 match ops[i]? with
 | some o=>light P o && (List.range ops.size).all fun j=>j == i || L.contains j || match ops[j]? with
   | some oj=>(edgesOf oj).contains i || o.apart ops oj
   | none=>true
 | none=>false
def St.lack (s:St) (d:Nat):St:=⟨dropRefs d (dropMentions d s.slots),dropBox d s.boxes⟩
def stillOp (o:Oper):Bool:=
 match o.op with
 | .load _ _=>true
 | .binOp _ _ _ _ _=>true
 | .move _=>true
 | .nilCheck _=>true
 | .fieldAddr _ _ _=>true
 | _=>false
def sameV:Value -> Value -> Option Cnd
 | .int k a,.int k' b=>if k = k' then some (.chk (F.eq a b)) else none
 | .bool a,.bool b=>some (.chk (F.beq a b))
 | _,_=>none
def sameCell:Cell -> Cell -> Option Cnd
 | .c x,.c y=>sameV x y
 | .c x,.v y=>sameV x y
 | .v x,.c y=>sameV x y
 | .v x,.v y=>sameV x y
 | .nilS,.nilS=>some .ok
 | .ptr n o,.ptr m p=>if Nat.beq n m && Nat.beq o p then some .ok else none
 | .ali (.box n i) _ _ _,.ali (.box m j) _ _ _=>if Nat.beq n m && Nat.beq i j then some .ok else none
 | _,_=>none
def Cnd.and:Cnd -> Cnd -> Cnd
 | .ok,c=>c
 | c,.ok=>c
 | .chk a,.chk b=>.chk (F.both a b)
 | c,.pr p=>.pr (c.P /\ p)
 | .pr p,c=>.pr (p /\ c.P)
def sameCells:List Cell -> List Cell -> Option Cnd
 | [],[]=>some .ok
 | x :: r,y :: r'=>match sameCell x y,sameCells r r' with
  | some c,some d=>some (c.and d)
  | _,_=>none
 | _,_=>none
def sameSV (x y:SV):Option Cnd:=
 match x.sh,y.sh with
 | .one,.one=>sameCells x.cs y.cs
 | .agg,.agg=>sameCells x.cs y.cs
 | _,_=>none
def lateL (ops:Array Oper) (res:List (Option Res)) (b:List Nat):List Nat:=
 (List.range ops.size).filter fun k=>cal res k && (List.range ops.size).any fun i=>!cal res i && !(b.getD i 0).testBit k
def lateOne (ops:Array Oper) (res:List (Option Res)) (b L:List Nat) (k:Nat):Bool:=
 match ops[k]?,resAt res k with
 | some o,some q=>match o.dst with
  | some d=>stillOp o && o.guard.isNone && q.box.isNone && q.wr.isNone && !(o.looksAt ops).contains d &&
   (List.range ops.size).all fun j=>j == k || (match ops[j]? with
    | some oj=>if cal res j then !L.contains j || (b.getD j 0).testBit k || !(oj.looksAt ops).contains d else (b.getD j 0).testBit k || o.apart ops oj
    | none=>false)
  | none=>false
 | _,_=>false
def lateOk (ops:Array Oper) (res:List (Option Res)) (b:List Nat):Bool:=
 ((List.range ops.size).all fun i=>cal res i || (List.range i).all fun k=>cal res k || (b.getD i 0).testBit k) &&
 (lateL ops res b).all (lateOne ops res b (lateL ops res b))
def lateC (P:Program) (ops:Array Oper) (s:St):List Nat -> Option Cnd
 | []=>some .ok
 | k :: r=>match ops[k]? with
  | some o=>match o.dst with
   | some d=>match s.look d,aval P (wantsOwn ops (some d)) none s o.op with
    | some x,some (y,.ok)=>match sameSV x y,lateC P ops s r with
     | some c,some c'=>some (c.and c')
     | _,_=>none
    | _,_=>none
   | none=>none
  | none=>none
def tailOf (ops:Array Oper) (res:List (Option Res)):List Nat:=(List.range ops.size).filter fun i=>!cal res i
def Closed (ops:Array Oper) (L:Nat -> Prop):Prop:=∀ (i:Nat) o,ops[i]? = some o -> L i -> ∀ j ∈ edgesOf o,L j
theorem testBit_or_pow {x j k:Nat} (h:(x ||| 2 ^ j).testBit k = true):x.testBit k = true \/ k = j:=by
 rw [Nat.testBit_or,Bool.or_eq_true] at h;rcases h with h | h
 ·exact .inl h
 ·right;rw [Nat.testBit_two_pow] at h;simpa using (of_decide_eq_true h).symm
theorem befs_sound {ops:Array Oper} {L:Nat -> Prop} (hL:Closed ops L):∀ (l:List Oper) (acc:List Nat),(∀ j,l[j]? = ops[acc.length + j]?) -> (∀ (i b:Nat),acc[i]? = some b -> ∀ k,b.testBit k = true -> L i -> L k) ->
  ∀ (i b:Nat),(befs l acc)[i]? = some b -> ∀ k,b.testBit k = true -> L i -> L k
 | [],acc,_,h,i,b,hb=>h i b hb
 | o :: r,acc,hl,h,i,b,hb=>by
  refine befs_sound hL r _ (fun j=>?_) ?_ i b hb
  ·have:=hl (j + 1);rw [List.getElem?_cons_succ] at this;rw [this]
   congr 1
   simp;omega
  ·intro i b hb k hk hi;by_cases hlt:i < acc.length
   ·rw [List.getElem?_append_left hlt] at hb;exact h i b hb k hk hi
   ·rw [List.getElem?_append_right (by omega)] at hb
    have hi0:i - acc.length = 0:=by
     have:=(List.getElem?_eq_some_iff.1 hb).1;simp at this;omega
    rw [hi0] at hb;simp at hb;have ho:ops[i]? = some o:=by
     have:=hl 0;simp at this;rw [show i = acc.length from by omega,<- this]
    have hed:=hL i o ho hi;have key:∀ (es:List Nat) (x:Nat),(∀ j ∈ es,L j) -> (∀ k,x.testBit k = true -> L k) -> ∀ k,(es.foldl (fun s j=>s ||| 2 ^ j ||| acc.getD j 0) x).testBit k = true -> L k:=by
     intro es;induction es with
     | nil=>intro x _ hx k hk; exact hx k hk
     | cons j es ih=>
      intro x hes hx k hk;refine ih _ (fun j' hj'=>hes j' (by simp [hj'])) (fun k' hk'=>?_) k hk
      rw [Nat.testBit_or,Bool.or_eq_true] at hk';rcases hk' with hk' | hk'
      ·rcases testBit_or_pow hk' with h1 | h1
       ·exact hx k' h1
       ·rw [h1]; exact hes j (by simp)
      ·rw [List.getD_eq_getElem?_getD] at hk';cases hq:acc[j]? with
       | none=>rw [hq] at hk'; simp at hk'
       | some y=>rw [hq] at hk'; exact h j y hq k' hk' (hes j (by simp))
    rw [<- hb] at hk;exact key _ 0 hed (by simp) k hk
section
variable {P:Program} {E:Env} {ops:Array Oper} {N:Nat} {res:List (Option Res)} {s0:St} {b:List Nat} {hints:List (Nat × Hint)}
def ixOf (ops:Array Oper) (res:List (Option Res)) (t:Nat):Option Nat:=(List.range ops.size).find? fun k=>cal res k && dstOf ops k == some t
def slB (s0:St) (ops:Array Oper) (res:List (Option Res)) (L:Nat -> Bool):Sl:=fun t=>
 match s0.slots.lookup t with
 | some x=>if (List.range ops.size).any fun c=>L c && hitAt res c t x then none else some x
 | none=>none
def lost (ops:Array Oper) (res:List (Option Res)) (b:List Nat) (L:Nat -> Bool) (k t:Nat) (x:SV):Bool:=
 (List.range ops.size).any fun c=>c != k && (L c && hitAt res c t x) && !((b.getD k 0).testBit c)
def slS (s0:St) (ops:Array Oper) (res:List (Option Res)) (b:List Nat) (L:Nat -> Bool):Sl:=fun t=>
 match ixOf ops res t with
 | some k=>if L k then (match valAt res k with
  | some x=>if lost ops res b L k t x then none else some x
  | none=>none) else slB s0 ops res L t
 | none=>slB s0 ops res L t
def lastB (res:List (Option Res)) (L:Nat -> Bool) (n:Nat):Nat -> Option Nat
 | 0=>none
 | m + 1=>if L m && setsB res m n then some m else lastB res L n m
def bxS (s0:St) (ops:Array Oper) (res:List (Option Res)) (L:Nat -> Bool):Bx:=fun n=>
 match lastB res L n ops.size with
 | some k=>((resAt res k).bind (·.box)).map (·.2)
 | none=>s0.boxes.lookup n
theorem lastB_some {L:Nat -> Bool} {n k:Nat}:∀ {m:Nat},lastB res L n m = some k -> k < m /\ L k = true /\ setsB res k n = true /\ ∀ c,k < c -> c < m -> L c = true -> setsB res c n = false
 | 0,h=>by cases h
 | m + 1,h=>by
  simp only [lastB] at h;split at h
  ·rename_i hc;injection h with h;subst h;rw [Bool.and_eq_true] at hc;exact ⟨by omega,hc.1,hc.2,fun c h1 h2=>by omega⟩
  ·rename_i hc;obtain ⟨h1,h2,h3,h4⟩:=lastB_some h;refine ⟨by omega,h2,h3,fun c c1 c2 c3=>?_⟩
   by_cases hcm:c = m
   ·subst hcm;simpa [c3] using hc
   ·exact h4 c c1 (by omega) c3
theorem lastB_none {L:Nat -> Bool} {n:Nat}:∀ {m:Nat},lastB res L n m = none -> ∀ c,c < m -> L c = true -> setsB res c n = false
 | 0,_,c,h,_=>by omega
 | m + 1,h,c,h1,h2=>by
  simp only [lastB] at h;split at h
  ·cases h
  ·rename_i hc;by_cases hcm:c = m
   ·subst hcm;simpa [h2] using hc
   ·exact lastB_none h c (by omega) h2
theorem cal_of {q:Res} {i:Nat} (h:resAt res i = some q):cal res i = true:=by unfold cal; rw [h]; rfl
theorem ixOf_some {t k:Nat} (h:ixOf ops res t = some k):k < ops.size /\ cal res k = true /\ dstOf ops k = some t:=by
 unfold ixOf at h;have h1:=List.find?_some h;have h2:=List.mem_of_find?_eq_some h;simp only [Bool.and_eq_true,beq_iff_eq] at h1;exact ⟨by simpa using h2,h1⟩
theorem ixOf_none {t:Nat} (h:ixOf ops res t = none):∀ k,k < ops.size -> cal res k = true -> dstOf ops k ≠ some t:=fun k hk hc e=>by
 unfold ixOf at h;rw [List.find?_eq_none] at h;have:=h k (by simpa using hk)
 simp [e,hc] at this
end
end Go.Proofs.YthnagpmnoncijaaGreat.M
