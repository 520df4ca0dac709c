/- A part of the proof. -/
import Derived.Test.YthnagpmnoncijaaGreatMchY
import Derived.WalkKit
import Derived.ProofKit
set_option linter.unusedVariables false
namespace Go.Proofs.YthnagpmnoncijaaGreat.M
open Go Go.RowKit
def all2 {α β:Type} (R:α -> β -> Prop):List α -> List β -> Prop
 | [],[]=>True
 | a :: as,b :: bs=>R a b /\ all2 R as bs
 | _,_=>False
theorem all2_get {α β:Type} {R:α -> β -> Prop}:∀ {as:List α} {bs:List β},all2 R as bs -> ∀ (j:Nat) a b,as[j]? = some a -> bs[j]? = some b -> R a b
 | [],bs,h,j,a,b,ha,_=>by simp at ha
 | x :: as,[],h,j,a,b,ha,hb=>by simp at hb
 | x :: as,y :: r,h,j,a,b,ha,hb=>by
  cases j with
  | zero=>simp at ha hb; subst ha hb; exact h.1
  | succ j=>exact all2_get h.2 j a b (by simpa using ha) (by simpa using hb)
def argCtx (w:World):Ctx:=⟨w,any2,fun _=>.free,fun _=>0,fun _=>none,fun _ _=>True⟩
theorem toC_svr {w:World} {p:Place} {d:D} {u:Value} (h:DV w any2 d u):CV (argCtx w) p d.toC u:=by
 cases d with
 | v x=>cases h; rfl
 | lst t xs=>exact h
 | clo f dss=>
  cases h with
  | clo f dss as x hl hc h1 hd=>exact ⟨as,rfl,hl,fun i q ds hq hds j d hd'=>⟨x i j,(hc i q ds j d hq hds hd').1,(hc i q ds j d hq hds hd').2,h1 i q ds j d hq hds hd',hd i q ds j d hq hds hd'⟩⟩
section
variable {H:Type} {encH:TypeId × Value -> H} {P:Program} {w:World} {sp:Nat -> Bool} {hd:Bool} {b0:Nat} {t:TypeId} {v:Value} {d:DataW H} {ps:List MemPlace} {n:Nat}
theorem arg_in (g:Bool) (ty:Ty) (ht:isAggT P t = some g) (hval:Value.okWide P w .any b0 t v) (h:DataW.Trod encH P w 0 sp hd t v d ps) (hl:tyC P n t = some ty) :
  ∃ x:ty.T,(∀ pl,SVR (argCtx w) pl ⟨shapeB g,(enc ty x).map D.toC⟩ v) /\ okT ty x:=by
 obtain ⟨fuel,hfu⟩:=h;obtain ⟨x,hc,hx⟩:=readD _ _ _ _ _ _ hfu hl;refine ⟨x,fun pl=>?_,hx⟩
 cases g with
 | true=>
  have:∃ cs,v = .agg cs:=by
   unfold Value.okWide at hval;unfold isAggT at ht;split at hval
   ·obtain ⟨cs,h,_⟩:=hval; exact ⟨cs,h⟩
   ·obtain ⟨cs,h,_⟩:=hval; exact ⟨cs,h⟩
   ·split at ht <;> simp_all
  obtain ⟨cs,rfl⟩:=this;refine ⟨cs.toList,by simp [Shape.mk,shapeB],by simp [flat],by simp; rw [<- hc.1]; simp [Value.cells],fun i y z hy hz=>?_⟩
  simp only [List.getElem?_map] at hy;cases hq:(enc ty x)[i]? with
  | none=>rw [hq] at hy; cases hy
  | some q=>
   rw [hq] at hy; injection hy with hy; subst hy
   obtain ⟨h1,h2⟩:=hc.2 i z q (by simpa [Value.cells] using hz) hq
   exact ⟨h1,toC_svr h2⟩
 | false=>
  have hv:v.cells.toList = [v]:=by
   unfold isAggT at ht;unfold Value.okWide at hval;split at hval
   ·simp_all
   ·simp_all
   ·unfold Cell.okWide at hval;cases v <;> first | rfl | (exfalso; revert hval; split <;> simp_all [Cell.ok])
  rw [hv] at hc;have hl1:(enc ty x).length = 1:=by rw [<- hc.1]; rfl
  match hq:enc ty x,hl1 with
  | [q],_=>
   rw [hq] at hc;obtain ⟨h1,h2⟩:=hc.2 0 v q rfl rfl;exact SVR.of_one h1 (toC_svr h2)
end
theorem Ent.calls {P:Program} {f:Nat} {A:AT} {F:A.T -> Option (AT.val false .bool).T} (h:Ent.Ok P ⟨f,A,.val false .bool,F⟩) {y:A.T} {b:Bool} (hF:F y = some b) {w:World} {vs:List Value}
  (hl:vs.length = (A.svs y).length) (hvs:all2 (fun x y=>∀ pl,SVR (argCtx w) pl x y) (A.svs y) vs):Calls P f vs.toArray w fun e w'=>e = .returned (.bool b) /\ Below w.heap.size w w':=by
 have h:=h y b _ hF rfl;have hc:=h.2 none w any2 vs hl (fun i x y hx hy=>all2_get hvs i x y hx hy _)
 have hw:CallsIn Fence.wide 9 P f vs.toArray w _:=hc;refine (callsIn_wide.1 hw).mono fun e w' ⟨u,perm,he,hb,_,hs⟩=>⟨?_,hb⟩
 have:u = .bool b:=hs.one.2;rw [he,this]
end Go.Proofs.YthnagpmnoncijaaGreat.M
