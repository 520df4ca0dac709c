/- A part of the proof. -/
import Derived.RangeFuncNested
import Derived.OrdersIn
import Derived.Below
import Derived.Laws.AppendOwn
import Derived.Deep.MidRow
import Derived.Laws.BytesString
import Derived.KernelRfl
namespace Go.Proofs.YthnagpmnoncijaaGreat.M
open Go Go.RowKit
inductive Ty where
 | int (k:IntKind)
 | bool
 | str
 | list (t:Ty)
 | pair (a b:Ty)
 | unit
 deriving DecidableEq
@[reducible] def Ty.T:Ty -> Type
 | .int _=>Int
 | .bool=>Bool
 | .str=>ByteArray
 | .list t=>List t.T
 | .pair a b=>a.T × b.T
 | .unit=>Unit
def Ty.n:Ty -> Nat
 | .pair a b=>a.n + b.n
 | .unit=>0
 | _=>1
inductive D where
 | v (x:Value)
 | lst (t:Ty) (l:List t.T)
 | clo (f:Nat) (dss:List (List D))
def enc:(t:Ty) -> t.T -> List D
 | .int k,x=>[.v (.int k x)]
 | .bool,x=>[.v (.bool x)]
 | .str,x=>[.v (.string x)]
 | .list t,x=>[.lst t x]
 | .pair a b,x=>enc a x.1 ++ enc b x.2
 | .unit,_=>[]
theorem enc_length:∀ (t:Ty) (x:t.T),(enc t x).length = t.n
 | .int _,_=>rfl
 | .bool,_=>rfl
 | .str,_=>rfl
 | .list _,_=>rfl
 | .unit,_=>rfl
 | .pair a b,x=>by simp [enc,Ty.n,enc_length a,enc_length b]
inductive Place where
 | slot (t i:Nat)
 | box (n i:Nat)
 deriving DecidableEq
inductive Cell where
 | c (x:Value)
 | v (x:Value)
 | nilS
 | lst (t:Ty) (l:List t.T)
 | own (e:Nat) (t:Ty) (l:List t.T)
 | ali (p:Place) (e:Nat) (t:Ty) (l:List t.T)
 | ptr (n off:Nat)
 | dp (cs:List D)
 | sp (n off len cap:Nat) (t:Ty)
 | pe (n off:Nat) (t:Ty) (len:Nat) (i:Int) (fo:Nat)
 | re (q:Place) (t:Ty) (i:Int) (fo:Nat)
 | clo (f:Nat) (caps:List (Nat × Nat))
 | yld (n:Nat)
 | dclo (f:Nat) (dss:List (List D))
 | imm (k:Nat)
 | arr (l:List Ty.bool.T)
def Cell.target:Cell -> Option Place
 | .ali q _ _ _=>some q
 | .re q _ _ _=>some q
 | _=>none
def spc:Nat:=1000000
inductive Shape where
 | one
 | agg
 | tup (l:List (Bool × Nat))
def Shape.isAgg:Shape -> Bool
 | .agg=>true
 | _=>false
structure SV where
 sh:Shape
 cs:List Cell
structure St where
 slots:List (Nat × SV)
 boxes:List (Nat × Nat × List Cell)
def Uniq {α:Type} (l:List (Nat × α)):Prop:=(l.map (·.1)).Nodup
structure St.Ok (s:St):Prop where
 slots:Uniq s.slots
 boxes:Uniq s.boxes
def comps:List (Bool × Nat) -> List Value -> List Value
 | [],_=>[]
 | (true,k) :: r,us=>.agg (us.take k).toArray :: comps r (us.drop k)
 | (false,_) :: r,us=>us.headD undef :: comps r (us.drop 1)
def Shape.mk:Shape -> List Value -> Value
 | .one,us=>us.headD undef
 | .agg,us=>.agg us.toArray
 | .tup l,us=>.tuple (comps l us).toArray
def flat:Value -> List Value
 | .agg cs=>cs.toList
 | .tuple vs=>vs.toList.flatMap fun v=>v.cells.toList
 | v=>[v]
inductive Perm where
 | free
 | box (n:Nat)
 | row (p:Place) (tip:Nat)
structure Dy where
 out:Nat -> Value
 ds:List Deferred
 ko:Nat -> Option Obj
structure Gh where
 ι:Nat -> Nat
 perm:Nat -> Perm
 dy:Dy
def lim:Nat:=10000
def sh:Nat:=100000
structure LpI where
 l:Nat
 rc:Loop
 fn:Nat
 p:Nat
structure Bel (B:Nat) (lent:Nat -> Prop) (w w':World):Prop where
 os:w'.os = w.os
 tape:w'.tape = w.tape
 output:w'.output = w.output
 size:w.heap.size <= w'.heap.size
 block:∀ k,k < B -> ¬ lent k -> w'.heap[k]? = w.heap[k]?
theorem Bel.of {B:Nat} {lent:Nat -> Prop} {w w':World} (h:Below B w w'):Bel B lent w w':=⟨h.os,h.tape,h.output,h.size,fun k hk _=>h.block k hk⟩
theorem Bel.trans {B:Nat} {lent:Nat -> Prop} {a b c:World} (h:Bel B lent a b) (k:Bel B lent b c):Bel B lent a c:=
 ⟨k.os.trans h.os,k.tape.trans h.tape,k.output.trans h.output,Nat.le_trans h.size k.size,fun i hi hn=>(k.block i hi hn).trans (h.block i hi hn)⟩
theorem Bel.refl (B:Nat) (lent:Nat -> Prop) (w:World):Bel B lent w w:=.of (Below.refl B w)
theorem Bel.below {B:Nat} {lent:Nat -> Prop} {w w':World} (h:Bel B lent w w') (hn:∀ k,¬ lent k):Below B w w':=⟨h.os,h.tape,h.output,h.size,fun k hk=>h.block k hk (hn k)⟩
theorem Bel.drew {B:Nat} {lent:Nat -> Prop} {a w:World} (h:Bel B lent a w):Bel B lent a w.drew:=⟨h.os,h.tape,h.output,h.size,h.block⟩
structure Env where
 N:Nat
 base:Nat
 lent:Nat -> Prop
 w0:World
 k0:Nat -> Nat -> Prop
 rd:Option Nat
 li:Nat -> Nat
 lps:Nat -> Option LpI
 J:Dy -> Prop
 hN:N <= lim
 hl:∀ b i,lent b -> ¬ k0 b i
def tv (out:Nat -> Value) (a:Act) (t:Nat):Value:=if t < lim then a.tmps.getD t undef else out t
def okp (perm:Nat -> Perm) (b i:Nat):Prop:=
 match perm b with
 | .free=>True
 | .box _=>False
 | .row _ tip=>i < tip
def ok (base:Nat) (k0:Nat -> Nat -> Prop) (perm:Nat -> Perm) (b i:Nat):Prop:=
 if b < base then k0 b i else okp perm b i
inductive DV (w:World) (k:Nat -> Nat -> Prop):D -> Value -> Prop
 | v (x:Value) (h:x.oneCell' = true):DV w k (.v x) x
 | emp (t:Ty) (a:Option Addr) (cap:Nat) (h:cap <= maxLen):DV w k (.lst t []) (.slice a 0 cap)
 | lst (t:Ty) (l:List t.T) (b off cap:Nat) (u:Nat -> Nat -> Value)
   (hc:∀ i j,i < l.length -> j < t.n -> w.cell? ⟨b,off + i * t.n + j,none⟩ = some (u i j) /\ k b (off + i * t.n + j))
   (h1:∀ i j,i < l.length -> j < t.n -> (u i j).oneCell' = true)
   (hd:∀ i j e d,l[i]? = some e -> (enc t e)[j]? = some d -> DV w k d (u i j))
   (hcap:l.length <= cap) (hm:cap <= maxLen):DV w k (.lst t l) (.slice (some ⟨b,off,none⟩) l.length cap)
 | clo (f:Nat) (dss:List (List D)) (as:List (Nat × Nat)) (x:Nat -> Nat -> Value) (hl:as.length = dss.length)
   (hc:∀ i q ds j d,as[i]? = some q -> dss[i]? = some ds -> ds[j]? = some d -> w.cell? ⟨q.1,q.2 + j,none⟩ = some (x i j) /\ k q.1 (q.2 + j))
   (h1:∀ i q ds j d,as[i]? = some q -> dss[i]? = some ds -> ds[j]? = some d -> (x i j).oneCell' = true)
   (hd:∀ i q ds j d,as[i]? = some q -> dss[i]? = some ds -> ds[j]? = some d -> DV w k d (x i j)) :
   DV w k (.clo f dss) (.func (.func f) #[] (as.map fun q=>.pointer (some ⟨q.1,q.2,none⟩)).toArray)
structure Ctx where
 w:World
 k:Nat -> Nat -> Prop
 perm:Nat -> Perm
 ι:Nat -> Nat
 conc:Place -> Option Value
 kp:Nat -> Nat -> Prop
def DPV (w:World) (kp k:Nat -> Nat -> Prop) (b off:Nat) (cs:List D):Prop:=
 ∀ (j:Nat) d,cs[j]? = some d -> ∃ x,w.cell? ⟨b,off + j,none⟩ = some x /\ kp b (off + j) /\ x.oneCell' = true /\ DV w k d x
def Imm (w:World):Nat -> Value -> Prop
 | 0,u=>∃ b,u = .map (some b) /\ w.heap[b]? = some (.map #[] 0)
 | _ + 2,_=>True
 | 1,u=>∃ r m,u = .pointer (some ⟨r,0,none⟩) /\ w.heap[r]? = some (.mapIter (some m) 0 #[] 0) /\ w.heap[m]? = some (.map #[] 0)
def CV (c:Ctx) (p:Place):Cell -> Value -> Prop
 | .c x,u=>u = x
 | .v x,u=>u = x
 | .nilS,u=>u = .slice none 0 0
 | .lst t l,u=>DV c.w c.k (.lst t l) u
 | .own e t l,u=>(∃ us,c.w.ownsRow 0 e t.n u l.length us) /\ DV c.w c.k (.lst t l) u /\ ∀ b,u.ownBlock = some b -> c.perm b = .row p (l.length * t.n)
 | .ali q e t l,u=>c.conc q = some u /\ (∃ us,c.w.ownsRow 0 e t.n u l.length us) /\ DV c.w c.k (.lst t l) u /\ ∀ b,u.ownBlock = some b -> c.perm b = .row q (l.length * t.n)
 | .ptr n off,u=>u = .pointer (some ⟨c.ι n,off,none⟩)
 | .dp cs,u=>∃ b off,u = .pointer (some ⟨b,off,none⟩) /\ DPV c.w c.kp c.k b off cs
 | .sp n off len cap _,u=>u = .slice (some ⟨c.ι n,off,none⟩) len cap
 | .pe n off t len i fo,u=>u = .pointer (some ⟨c.ι n,off + i.toNat * t.n + fo,none⟩) /\ 0 <= i /\ i < len
 | .re q t i fo,u=>∃ b len cap,c.conc q = some (.slice (some ⟨b,0,none⟩) len cap) /\ u = .pointer (some ⟨b,i.toNat * t.n + fo,none⟩) /\ 0 <= i /\ i < (len:Int)
 | .clo f caps,u=>u = .func (.func f) #[] (caps.map fun q=>.pointer (some ⟨c.ι q.1,q.2,none⟩)).toArray
 | .yld n,u=>u = .func (.yield (c.ι n)) #[] #[]
 | .dclo f dss,u=>∃ as:List (Nat × Nat),u = .func (.func f) #[] (as.map fun q=>.pointer (some ⟨q.1,q.2,none⟩)).toArray /\ as.length = dss.length /\
   ∀ (i:Nat) q ds,as[i]? = some q -> dss[i]? = some ds -> DPV c.w c.k c.k q.1 q.2 ds
 | .imm k,u=>Imm c.w k u
 | .arr _,_=>False
def BoxS (w:World) (b e:Nat) (cs:List Cell):Prop:=
 ∃ l:List Ty.bool.T,cs = [.arr l] /\ w.heap[b]? = some (.cells (l.map Value.bool).toArray (e - spc) (0,0))
def BoxV (c:Ctx) (b n e:Nat) (cs:List Cell):Prop:=
 (e < spc -> ∃ us:List Value,c.w.heap[b]? = some (.cells us.toArray e (0,0)) /\ us.length = cs.length /\
  ∀ i x y,cs[i]? = some x -> us[i]? = some y -> y.oneCell' = true /\ CV c (.box n i) x y) /\ (spc <= e -> BoxS c.w b e cs)
theorem BoxV.norm {c:Ctx} {b n e:Nat} {cs:List Cell} (h:BoxV c b n e cs) (he:e < spc):∃ us:List Value,c.w.heap[b]? = some (.cells us.toArray e (0,0)) /\ us.length = cs.length /\
  ∀ i x y,cs[i]? = some x -> us[i]? = some y -> y.oneCell' = true /\ CV c (.box n i) x y:=h.1 he
theorem BoxV.mk {c:Ctx} {b n e:Nat} {cs:List Cell} (he:e < spc) (h:∃ us:List Value,c.w.heap[b]? = some (.cells us.toArray e (0,0)) /\ us.length = cs.length /\
  ∀ i x y,cs[i]? = some x -> us[i]? = some y -> y.oneCell' = true /\ CV c (.box n i) x y):BoxV c b n e cs:=⟨fun _=>h,fun h=>by unfold spc at *; omega⟩
theorem BoxV.mono {c c':Ctx} {b b' n n' e:Nat} {cs cs':List Cell} (h:BoxV c b n e cs) (hb:c'.w.heap[b']? = c.w.heap[b]?) (hl:cs'.length = cs.length) (hs:spc <= e -> cs' = cs)
  (hcv:∀ i x' y,cs'[i]? = some x' -> y.oneCell' = true -> (∀ x,cs[i]? = some x -> CV c (.box n i) x y) -> CV c' (.box n' i) x' y):BoxV c' b' n' e cs':=by
 refine ⟨fun he=>?_,fun he=>?_⟩
 ·obtain ⟨us,h1,h2,h3⟩:=h.1 he;refine ⟨us,hb.trans h1,h2.trans hl.symm,fun i x y hx hy=>?_⟩
  have hi:=(List.getElem?_eq_some_iff.1 hx).1;have hx0:cs[i]? = some cs[i]:=List.getElem?_eq_getElem (by omega)
  have h1':=(h3 i _ y hx0 hy).1;exact ⟨h1',hcv i x y hx h1' fun z hz=>by rw [hx0] at hz; injection hz with hz; subst hz; exact (h3 i _ y hx0 hy).2⟩
 ·rw [hs he];obtain ⟨l,h1,h2⟩:=h.2 he;exact ⟨l,h1,hb.trans h2⟩
theorem BoxV.heap {c:Ctx} {b n e:Nat} {cs:List Cell} (h:BoxV c b n e cs):∃ us f,c.w.heap[b]? = some (.cells us f (0,0)):=by
 by_cases he:e < spc
 ·obtain ⟨us,h1,_⟩:=h.1 he;exact ⟨_,_,h1⟩
 ·obtain ⟨_,_,h1⟩:=h.2 (by omega)
  exact ⟨_,_,h1⟩
def SVR (c:Ctx) (pl:Nat -> Place) (s:SV) (u:Value):Prop:=
 ∃ us:List Value,u = s.sh.mk us /\ flat u = us /\ us.length = s.cs.length /\ ∀ i x y,s.cs[i]? = some x -> us[i]? = some y -> y.oneCell' = true /\ CV c (pl i) x y
def concAt (out:Nat -> Value) (a:Act) (w:World) (ι:Nat -> Nat):Place -> Option Value
 | .slot t i=>(flat (tv out a t))[i]?
 | .box n i=>w.cell? ⟨ι n,i,none⟩
def kpOf (base:Nat) (lent:Nat -> Prop) (k:Nat -> Nat -> Prop):Nat -> Nat -> Prop:=fun b i=>(b < base /\ ¬ lent b) \/ k b i
def Perm.rowless (p:Perm):Prop:=∀ q tip,p ≠ .row q tip
def ctx (E:Env) (g:Gh) (a:Act) (w:World):Ctx:=⟨w,ok E.base E.k0 g.perm,g.perm,g.ι,concAt g.dy.out a w g.ι,kpOf E.base E.lent (ok E.base E.k0 g.perm)⟩
structure Rel (E:Env) (s:St) (a:Act) (w:World) (g:Gh):Prop where
 uniq:s.Ok
 slots:∀ t x,s.slots.lookup t = some x -> SVR (ctx E g a w) (.slot t) x (tv g.dy.out a t)
 boxes:∀ n e cs,s.boxes.lookup n = some (e,cs) -> g.perm (g.ι n) = .box n /\ BoxV (ctx E g a w) (g.ι n) n e cs
 nt:∀ n e cs,s.boxes.lookup n = some (e,cs) -> ∀ c ∈ cs,c.target = none
 lo:∀ b,g.perm b ≠ .free -> (E.base <= b \/ (E.lent b /\ (g.perm b).rowless)) /\ b < w.heap.size
 below:Bel E.base E.lent E.w0 w
 base:E.base <= w.heap.size
 size:a.tmps.size = E.N
 defers:a.defers = g.dy.ds
 ko:∀ l o,g.dy.ko l = some o -> w.heap[l]? = some o /\ g.perm l = .free
 li:∀ n,lim <= n % sh -> g.ι n = E.li n
 dyn:E.J g.dy
def Fr (r:Option Nat):Fence:={ fn:=fun _=>True,depth:=none,alive:=false,round:=r }
def AWp (P:Program) (r:Option Nat) (E:Env) (c:Code) (s:St) (Q:Exit -> St -> Prop):Prop:=
 ∀ a w g,Rel E s a w g -> c.wpIn (Fr r) 9 P (fun e a' w'=>∃ s' g',Q e s' /\ Rel E s' a' w' g') a w
def PureC (P:Program) (f:Nat) (args:List SV) (r:SV):Prop:=
 (∀ args w,(callFunc f args).run P w = .ok (.enter f args) w) /\
 ∀ (rd:Option Nat) (w:World) (k:Nat -> Nat -> Prop) (vs:List Value),vs.length = args.length ->
  (∀ i x y,args[i]? = some x -> vs[i]? = some y -> SVR ⟨w,k,fun _=>.free,fun _=>0,fun _=>none,fun _ _=>True⟩ (.slot i) x y) ->
  CallsIn (Fr rd) 9 P f vs.toArray w fun e w'=>∃ u perm,e = .returned u /\ Below w.heap.size w w' /\ (∀ b,perm b ≠ .free -> w.heap.size <= b /\ b < w'.heap.size) /\
   SVR ⟨w',ok w.heap.size k perm,perm,fun _=>0,fun _=>none,ok w.heap.size k perm⟩ (.slot 0) r u
def NewC (P:Program) (f:Nat) (args:List SV) (e:TypeId) (cs:List Cell):Prop:=
 (∀ args w,(callFunc f args).run P w = .ok (.enter f args) w) /\
 ∀ (rd:Option Nat) (w:World) (k:Nat -> Nat -> Prop) (vs:List Value),vs.length = args.length ->
  (∀ i x y,args[i]? = some x -> vs[i]? = some y -> SVR ⟨w,k,fun _=>.free,fun _=>0,fun _=>none,fun _ _=>True⟩ (.slot i) x y) ->
  CallsIn (Fr rd) 9 P f vs.toArray w fun ee w'=>∃ (b n:Nat) (us:List Value) (perm:Nat -> Perm),ee = .returned (.pointer (some ⟨b,0,none⟩)) /\ Below w.heap.size w w' /\ (∀ b,perm b ≠ .free -> w.heap.size <= b /\ b < w'.heap.size) /\
   perm b = .box n /\ w'.heap[b]? = some (.cells us.toArray e (0,0)) /\ us.length = cs.length /\
   ∀ i x y,cs[i]? = some x -> us[i]? = some y -> y.oneCell' = true /\ CV ⟨w',ok w.heap.size k perm,perm,fun _=>0,fun _=>none,ok w.heap.size k perm⟩ (.box 0 i) x y
def bnd {α β:Type} (e:α) (f:α -> Option β):Option β:=f e
def obind {α β:Type} (e:Option α) (f:α -> Option β):Option β:=e.bind f
def osum {α β γ:Type} (x:α ⊕ β) (f:α -> Option γ) (g:β -> Option γ):Option γ:=
 match x with
 | .inl y=>f y
 | .inr z=>g z
def bite {β:Type} (b:Bool) (x y:Option β):Option β:=if b = true then x else y
def bgd {β:Type} (b:Bool) (x:Option β):Option β:=if b = true then x else none
noncomputable def either {β:Type} (x y:Option β):Option β:=@ite _ (x = y) (Classical.propDecidable _) x none
noncomputable def nilE {β:Type} (n:Int) (x y:Option β):Option β:=@ite _ (n = 0) (Classical.propDecidable _) (either x y) y
namespace F
def add (k:IntKind) (a b:Int):Int:=k.wrap (a + b)
def sub (k:IntKind) (a b:Int):Int:=k.wrap (a - b)
def mul (k:IntKind) (a b:Int):Int:=k.wrap (a * b)
def quo (k:IntKind) (a b:Int):Int:=k.wrap (a.tdiv b)
def rem (a b:Int):Int:=a.tmod b
def and (k:IntKind) (a b:Int):Int:=k.wrap ((BitVec.ofInt k.bits a &&& BitVec.ofInt k.bits b).toNat:Int)
def or (k:IntKind) (a b:Int):Int:=k.wrap ((BitVec.ofInt k.bits a ||| BitVec.ofInt k.bits b).toNat:Int)
def xor (k:IntKind) (a b:Int):Int:=k.wrap ((BitVec.ofInt k.bits a ^^^ BitVec.ofInt k.bits b).toNat:Int)
def andNot (k:IntKind) (a b:Int):Int:=k.wrap ((BitVec.ofInt k.bits a &&& ~~~BitVec.ofInt k.bits b).toNat:Int)
def shl (k:IntKind) (a b:Int):Int:=k.wrap (a * 2 ^ (min b.toNat k.bits))
def shr (k:IntKind) (a b:Int):Int:=a.fdiv (2 ^ (min b.toNat k.bits))
def eq (a b:Int):Bool:=a == b
def ne (a b:Int):Bool:=a != b
def lt (a b:Int):Bool:=decide (a < b)
def le (a b:Int):Bool:=decide (a <= b)
def gt (a b:Int):Bool:=decide (a > b)
def ge (a b:Int):Bool:=decide (a ≥ b)
def not (a:Bool):Bool:=!a
def beq (a b:Bool):Bool:=a == b
def bne (a b:Bool):Bool:=!(a == b)
def both (a b:Bool):Bool:=a && b
def neg (k:IntKind) (a:Int):Int:=k.wrap (0 - a)
def com (k:IntKind) (a:Int):Int:=k.wrap ((BitVec.ofInt k.bits (if k.signed then -1 else k.max) ^^^ BitVec.ofInt k.bits a).toNat:Int)
def conv (k:IntKind) (a:Int):Int:=k.wrap a
def min (a b:Int):Int:=if b < a then b else a
def max (a b:Int):Int:=if b > a then b else a
def len {α:Type} (l:List α):Int:=(l.length:Int)
def slen (b:ByteArray):Int:=(b.size:Int)
def seq (a b:ByteArray):Bool:=a.toList == b.toList
def sne (a b:ByteArray):Bool:=!(a.toList == b.toList)
def get {α:Type} (l:List α) (i:Int):Option α:=if 0 <= i then l[i.toNat]? else none
def cut {α:Type} (l:List α) (lo hi:Int):List α:=(l.take hi.toNat).drop lo.toNat
def cutOk {α:Type} (l:List α) (lo hi:Int):Bool:=decide (0 <= lo) && (decide (lo <= hi) && decide (hi <= (l.length:Int)))
def app {α:Type} (l m:List α):List α:=l ++ m
def appOk {α β:Type} (n:Nat) (l:List α) (m:List β):Bool:=decide (l.length + m.length <= maxLen) && decide ((l.length + m.length) * n <= 140737488355328)
def within (i:Int) (n:Nat):Bool:=decide (0 <= i) && decide (i < n)
def has {α:Type} (l:List α) (i:Int):Bool:=decide (0 <= i) && decide (i < (l.length:Int))
def put {α:Type} (l:List α) (i:Int) (x:α):List α:=l.set i.toNat x
def fill {α:Type} (n:Int) (x:α):List α:=List.replicate n.toNat x
def fillOk (b:Nat) (n:Int):Bool:=decide (0 <= n) && (decide (n <= (maxLen:Int)) && decide ((b:Int) * n <= 281474976710656))
def over {α:Type} (l m:List α):List α:=m.take l.length ++ l.drop m.length
def overN {α β:Type} (l:List α) (m:List β):Int:=if (m.length:Int) <= (l.length:Int) then (m.length:Int) else (l.length:Int)
def pick {α:Type} (i:Int) (k:Nat) (x y:α):α:=if i = k then x else y
def str (l:List Int):ByteArray:=l.foldl (fun r n=>r.push (UInt8.ofNat n.toNat)) ByteArray.empty
def bytes (b:ByteArray):List Int:=b.data.toList.map fun c=>(c.toNat:Int)
def nonneg (a:Int):Bool:=decide (0 <= a)
def nonzero (a:Int):Bool:=decide (a ≠ 0)
end F
end Go.Proofs.YthnagpmnoncijaaGreat.M
