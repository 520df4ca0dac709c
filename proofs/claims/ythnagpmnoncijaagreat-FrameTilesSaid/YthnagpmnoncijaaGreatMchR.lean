/- A part of the proof. -/
import Derived.Test.YthnagpmnoncijaaGreatMchQ
set_option linter.unusedVariables false
namespace Go.Proofs.YthnagpmnoncijaaGreat.M
open Go Go.RowKit
def unl (L:Nat -> Bool):Nat -> Nat
 | 0=>0
 | n + 1=>unl L n + (if L n then 0 else 1)
theorem unl_zero {L:Nat -> Bool}:∀ {n:Nat},unl L n = 0 -> ∀ k,k < n -> L k = true
 | 0,_,k,h=>by omega
 | n + 1,h,k,hk=>by
  simp only [unl] at h;by_cases hn:L n = true
  ·by_cases hkn:k = n
   ·rw [hkn]; exact hn
   ·exact unl_zero (n:=n) (by omega) k (by omega)
  ·simp [hn] at h
theorem unl_set {L L':Nat -> Bool} {i:Nat} (h:∀ k,L' k = if k = i then true else L k) (hi:L i = false):∀ n,(i < n -> unl L' n + 1 <= unl L n) /\ (n <= i -> unl L' n = unl L n)
 | 0=>⟨fun h=>by omega,fun _=>rfl⟩
 | n + 1=>by
  obtain ⟨h1,h2⟩:=unl_set h hi n;refine ⟨fun hin=>?_,fun hin=>?_⟩
  ·simp only [unl];by_cases hni:n = i
   ·subst hni;rw [h2 (Nat.le_refl _),h n,if_pos rfl,hi];simp
   ·rw [h n,if_neg hni];have:=h1 (by omega)
    omega
  ·simp only [unl];have e:L' n = L n:=by rw [h n,if_neg (by omega)]
   rw [h2 (by omega),e]
def WF {α:Type} (P:Program) (m:Sem α):Prop:=(∃ v,∀ w,m.run P w = .ok v w) \/ ∀ w x w',m.run P w ≠ .ok x w'
theorem and_ok {α β:Type} {r:Result α} {f:α -> World -> Result β} {x:β} {w':World} (h:r.andThen f = .ok x w'):∃ y w1,r = .ok y w1 /\ f y w1 = .ok x w':=by
 cases r with
 | ok y w1=>exact ⟨y,w1,rfl,h⟩
 | halt y w1=>cases h
theorem wf_pure {α:Type} {P:Program} (x:α):WF P (pure x:Sem α):=.inl ⟨x,fun _=>rfl⟩
theorem wf_stuck {α:Type} {P:Program} (x:String):WF P (stuck x:Sem α):=.inr fun w y w' h=>by cases h
theorem wf_bind {α β:Type} {P:Program} {m:Sem α} {f:α -> Sem β} (h1:WF P m) (h2:∀ x,WF P (f x)):WF P (m >>= f):=by
 rcases h1 with ⟨v,h1⟩ | h1
 ·rcases h2 v with ⟨u,h2⟩ | h2
  ·exact .inl ⟨u,fun w=>by rw [Sem.run_bind,h1,Result.andThen_ok,h2]⟩
  ·exact .inr fun w x w' h=>by rw [Sem.run_bind,h1,Result.andThen_ok] at h; exact h2 _ _ _ h
 ·refine .inr fun w x w' h=>?_
  rw [Sem.run_bind] at h;cases hr:m.run P w with
  | ok y w1=>exact h1 _ _ _ hr
  | halt y w1=>rw [hr] at h; cases h
theorem wf_never {α β:Type} {P:Program} {m:Sem α} {f:α -> Sem β} (h2:∀ x w y w',(f x).run P w ≠ .ok y w'):WF P (m >>= f):=by
 refine .inr fun w x w' h=>?_
 rw [Sem.run_bind] at h;cases hr:m.run P w with
 | ok y w1=>rw [hr] at h; exact h2 _ _ _ _ h
 | halt y w1=>rw [hr] at h; cases h
theorem panic_never {α:Type} {P:Program} (e:RuntimeError):∀ w (x:α) w',(runtimePanic e:Sem α).run P w ≠ .ok x w':=by
 intro w x w' h;unfold runtimePanic at h;rw [Sem.run_bind] at h;simp only [Go.program] at h;cases e with
 | typeAssertion i c a m=>
  simp only [Sem.run_bind] at h;obtain ⟨_,_,_,h⟩:=and_ok h;obtain ⟨_,_,_,h⟩:=and_ok h;obtain ⟨_,_,_,h⟩:=and_ok h;cases h
 | panicNil=>
  simp only [Sem.run_bind] at h;obtain ⟨_,_,_,h⟩:=and_ok h;obtain ⟨_,_,_,h⟩:=and_ok h;obtain ⟨_,_,_,h⟩:=and_ok h;cases h
 | _=>obtain ⟨_,_,_,h⟩:=and_ok h; cases h
theorem wf_bounds {α:Type} {P:Program} (k:IntKind) (x y:Int) (c:BoundsCode):WF P (boundsPanic k x y c:Sem α):=by
 unfold boundsPanic;dsimp only;split
 ·exact wf_never fun _=>panic_never _
 ·exact wf_never fun _=>panic_never _
theorem wf_under {P:Program} (t:TypeId):WF P (underlying t):=by
 unfold Go.underlying;cases h:P.underlying t with
 | some d=>exact .inl ⟨d,fun w=>by rw [Sem.run_bind]; simp [Go.program,Sem.run,h]⟩
 | none=>exact .inr fun w x w' hh=>by rw [Sem.run_bind] at hh; simp [Go.program,Sem.run,h,stuck] at hh
theorem wf_size {P:Program} (t:TypeId):WF P (sizeOf t):=by
 unfold Go.sizeOf Go.typeInfo;refine wf_bind ?_ fun _=>wf_pure _
 cases h:P.info? t with
 | some d=>exact .inl ⟨d,fun w=>by rw [Sem.run_bind]; simp [Go.program,Sem.run,h]⟩
 | none=>exact .inr fun w x w' hh=>by rw [Sem.run_bind] at hh; simp [Go.program,Sem.run,h,stuck] at hh
theorem wf_int {P:Program} (v:Value):WF P (asIntOf v):=by
 unfold asIntOf;split
 ·exact wf_pure _
 ·exact .inr fun w x w' h=>by cases h
 ·exact wf_stuck _
theorem wf_addr {P:Program} (v:Value):WF P (asAddr v):=by
 unfold asAddr;split
 ·exact wf_pure _
 ·exact .inr fun w x w'=>panic_never _ w x w'
 ·exact wf_stuck _
theorem wf_sure {P:Program} (v:Value):WF P (Instr.sureAddr v):=by
 unfold Instr.sureAddr;split
 ·exact wf_pure _
 ·exact wf_stuck _
theorem wf_bound {P:Program} (x:Value) (y:Nat) (c:BoundsCode):WF P (Instr.sliceBound x y c):=by
 unfold Instr.sliceBound;refine wf_bind (wf_int _) fun q=>?_
 obtain ⟨k,i⟩:=q;dsimp only;split
 ·exact wf_pure _
 ·exact wf_bounds _ _ _ _
theorem wf_slbounds {P:Program} (g:Bool) (l c:Nat) (lo hi mx:Option Value):WF P (Instr.sliceBounds g l c lo hi mx):=by
 unfold Instr.sliceBounds
 have l3:∀ (m h:Nat),WF P (have __do_jp:=fun l=>(pure (l,h,m):Sem (Nat × Nat × Nat)); match lo with
   | some v=>do
    let l <- Instr.sliceBound v h (if mx.isSome = true then BoundsCode.slice3C else BoundsCode.sliceB)
    __do_jp l
   | none=>do
    let l <- pure 0
    __do_jp l):=fun m h=>by
  cases lo with
  | some v=>exact wf_bind (wf_bound _ _ _) fun _=>wf_pure _
  | none=>exact wf_bind (wf_pure _) fun _=>wf_pure _
 cases mx with
 | some u=>cases hi with
  | some v=>exact wf_bind (wf_bound _ _ _) fun m=>wf_bind (wf_bound _ _ _) fun h=>l3 m h
  | none=>exact wf_bind (wf_bound _ _ _) fun m=>wf_bind (wf_stuck _) fun h=>l3 m h
 | none=>cases hi with
  | some v=>exact wf_bind (wf_pure _) fun m=>wf_bind (wf_bound _ _ _) fun h=>l3 m h
  | none=>exact wf_bind (wf_pure _) fun m=>wf_bind (wf_pure _) fun h=>l3 m h
theorem wf_slice {P:Program} (t:TypeId) (x:Value) (lo hi mx:Option Value):WF P (Instr.slice t x lo hi mx):=by
 unfold Instr.slice;refine wf_bind (wf_under _) fun d=>?_
 split
 ·split
  ·exact wf_bind (wf_stuck _) fun _=>wf_bind (wf_slbounds _ _ _ _ _ _) fun q=>wf_pure _
  ·exact wf_bind (wf_slbounds _ _ _ _ _ _) fun q=>wf_pure _
 ·exact wf_bind (wf_slbounds _ _ _ _ _ _) fun q=>wf_bind (wf_size _) fun _=>wf_pure _
 ·refine wf_bind (wf_addr _) fun a=>wf_bind (wf_under _) fun d=>?_
  split
  ·exact wf_bind (wf_slbounds _ _ _ _ _ _) fun q=>wf_bind (wf_size _) fun _=>wf_pure _
  ·exact wf_stuck _
 ·exact wf_stuck _
theorem wf_sliceAt {P:Program} (t:TypeId) (x:Value) (lo hi mx:Option Value):WF P (Instr.sliceAt t x lo hi mx):=by
 unfold Instr.sliceAt;refine wf_bind (wf_under _) fun d=>?_
 split
 ·exact wf_bind (wf_sure _) fun a=>wf_bind (wf_slbounds _ _ _ _ _ _) fun q=>wf_bind (wf_size _) fun _=>wf_pure _
 ·exact wf_slice _ _ _ _ _
theorem wf_info {P:Program} (t:TypeId):WF P (typeInfo t):=by
 unfold Go.typeInfo;cases h:P.info? t with
 | some d=>exact .inl ⟨d,fun w=>by rw [Sem.run_bind]; simp [Go.program,Sem.run,h]⟩
 | none=>exact .inr fun w x w' hh=>by rw [Sem.run_bind] at hh; simp [Go.program,Sem.run,h,stuck] at hh
theorem wf_isAgg {P:Program} (t:TypeId):WF P (isAgg t):=by
 unfold Go.isAgg;refine wf_bind (wf_under _) fun d=>?_
 split <;> exact wf_pure _
theorem wf_part {P:Program} (t:TypeId) (cs:Array Value) (off:Nat):WF P (part t cs off):=by
 unfold Go.part;refine wf_bind (wf_isAgg _) fun b=>?_
 split
 ·exact wf_bind (wf_size _) fun _=>wf_pure _
 ·split
  ·exact wf_pure _
  ·exact wf_stuck _
theorem wf_blind {P:Program}:∀ (l:List FieldStep) (t:TypeId) (x:Option Value),WF P (followBlind l t x)
 | [],t,x=>wf_pure _
 | s :: rest,t,x=>by
  unfold followBlind;refine wf_bind (wf_under _) fun d=>?_
  split
  ·split
   ·split
    ·exact wf_pure _
    ·exact wf_blind _ _ _
    ·exact wf_stuck _
    ·exact wf_pure _
    ·exact wf_bind (wf_part _ _ _) fun _=>wf_blind _ _ _
    ·exact wf_stuck _
    ·exact wf_blind _ _ _
   ·exact wf_stuck _
  ·exact wf_stuck _
theorem wf_nilAhead {P:Program}:∀ (n:Nat) (t:TypeId) (v:Value) (name:String),WF P (nilAhead n t v name)
 | 0,_,_,_=>wf_pure _
 | n + 1,t,v,name=>by
  unfold nilAhead;refine wf_bind (wf_info _) fun i=>?_
  split
  ·refine wf_bind (wf_blind _ _ _) fun q=>?_
   split
   ·exact wf_pure _
   ·split
    ·exact wf_nilAhead _ _ _ _
    ·exact wf_pure _
    ·exact wf_stuck _
    ·exact wf_pure _
    ·exact wf_pure _
    ·refine wf_bind (wf_under _) fun d=>?_
     split <;> exact wf_pure _
  ·exact wf_stuck _
theorem wf_known {α β:Type} {P:Program} {m:Sem α} {f:α -> Sem β} {v:α} (h1:∀ w,m.run P w = .ok v w) (h2:WF P (f v)):WF P (m >>= f):=by
 rcases h2 with ⟨u,h2⟩ | h2
 ·exact .inl ⟨u,fun w=>by rw [Sem.run_bind,h1,Result.andThen_ok,h2]⟩
 ·exact .inr fun w x w' h=>by rw [Sem.run_bind,h1,Result.andThen_ok] at h; exact h2 _ _ _ h
theorem wf_fieldAt {P:Program} {t:TypeId} {f:Nat} {v:Value} {fs:Array Field} {q:Field} {i:TypeInfo} (h1:P.underlying t = some (.struct fs)) (h2:fs[f]? = some q) (h3:P.info? q.type = some i) (h4:i.size ≠ 0):WF P (Instr.fieldAt t v f):=by
 unfold Instr.fieldAt;refine wf_known (v:=.struct fs) (fun w=>by unfold Go.underlying; rw [Sem.run_bind]; simp [Go.program,Sem.run,h1]) ?_
 simp only [h2];refine wf_bind (wf_sure _) fun a=>wf_bind ?_ fun _=>wf_pure _
 unfold fieldPlace;refine wf_known (v:=i.size) (fun w=>by unfold Go.sizeOf Go.typeInfo; rw [Sem.run_bind,Sem.run_bind]; simp [Go.program,Sem.run,h3]) ?_
 rw [if_neg h4];exact wf_pure _
theorem wf_light {P:Program} {o:Oper} (h:light P o = true) (ρ:Operand -> Value):(∃ v,∀ w,(execOp ρ o).run P w = .ok (.value v) w) \/ ∀ w x w',(execOp ρ o).run P w ≠ .ok x w':=by
 have val:∀ {m:Sem Value},WF P m -> (∃ v,∀ w,((do pure (Next.value (<- m)):Sem Next)).run P w = .ok (.value v) w) \/ ∀ w x w',((do pure (Next.value (<- m)):Sem Next)).run P w ≠ .ok x w':=fun {m} hm=>by
  rcases hm with ⟨v,hm⟩ | hm
  ·exact .inl ⟨v,fun w=>by rw [Sem.run_bind,hm]; rfl⟩
  ·refine .inr fun w x w' h=>?_
   rw [Sem.run_bind] at h;obtain ⟨y,w1,h1,_⟩:=and_ok h;exact hm _ _ _ h1
 have on:∀ {α:Type} {m:Sem α} {f:α -> Sem Next},WF P m -> (∀ x,(∃ v,∀ w,(f x).run P w = .ok (.value v) w) \/ ∀ w y w',(f x).run P w ≠ .ok y w') -> (∃ v,∀ w,(m >>= f).run P w = .ok (.value v) w) \/ ∀ w y w',(m >>= f).run P w ≠ .ok y w':=fun {α m f} hm hf=>by
  rcases hm with ⟨u,hm⟩ | hm
  ·rcases hf u with ⟨v,hv⟩ | hv
   ·exact .inl ⟨v,fun w=>by rw [Sem.run_bind,hm,Result.andThen_ok,hv]⟩
   ·exact .inr fun w y w' h=>by rw [Sem.run_bind,hm,Result.andThen_ok] at h; exact hv _ _ _ h
  ·refine .inr fun w y w' h=>?_
   rw [Sem.run_bind] at h;obtain ⟨z,w1,h1,_⟩:=and_ok h;exact hm _ _ _ h1
 unfold light at h;unfold execOp;split at h
 ·rename_i x e; rw [e]; exact .inl ⟨ρ x,fun _=>rfl⟩
 ·rename_i x e; rw [e]; exact .inl ⟨ρ x,fun _=>rfl⟩
 ·rename_i x i e;rw [e];refine val ?_;unfold Instr.extract;split
  ·split
   ·exact wf_pure _
   ·exact wf_stuck _
  ·exact wf_stuck _
 ·rename_i t x lo hi mx e;rw [e];exact val (wf_sliceAt _ _ _ _ _)
 ·rename_i x e;rw [e];dsimp only;split
  ·exact .inr fun w x w'=>panic_never _ w x w'
  ·exact .inr fun w x w'=>panic_never _ w x w'
  ·exact .inr fun w x w'=>panic_never _ w x w'
  ·split
   ·exact .inr fun w x w'=>panic_never _ w x w'
   ·refine on (m:=program) (.inl ⟨P,fun w=>by simp [Go.program,Sem.run]⟩) fun p=>on (wf_nilAhead _ _ _ _) fun b=>?_
    split
    ·exact .inr fun w x w' h=>by cases h
    ·exact .inl ⟨_,fun _=>rfl⟩
   ·exact .inl ⟨_,fun _=>rfl⟩
  ·exact .inl ⟨_,fun _=>rfl⟩
 ·rename_i t x f e;rw [e];split at h
  ·rename_i fs h1;split at h
   ·rename_i q h2;split at h
    ·rename_i i h3;exact val (wf_fieldAt h1 h2 h3 (by simpa using h))
    ·cases h
   ·cases h
  ·cases h
 ·cases h
theorem light_runs {P:Program} {r:Option Nat} {o:Oper} {a:Act} {w:World} {K:Act -> World -> Prop} (h:light P o = true) (hw:o.wpIn (Fr r) 9 P a w K (fun _ _ _=>False)) :
  ∃ v,(∀ w',(execOp a.eval o).run P w' = .ok (.value v) w') /\ K (a.put o.dst v) w:=by
 unfold Oper.wpIn at hw;have hw:=hw.2;rw [Oper.semAt_eq _ _ _ (fun c e=>by unfold light at h; rw [e] at h; cases h)] at hw
 rcases wf_light (P:=P) h a.eval with ⟨v,hv⟩ | hn
 ·rw [hv w] at hw;exact ⟨v,hv,hw⟩
 ·exfalso;generalize hr:(execOp a.eval o).run P w = q at hw;cases q with
  | ok x w'=>exact hn _ _ _ hr
  | halt x w'=>cases x <;> exact hw
theorem still_noDefer {o:Oper} (h:stillOp o = true):∀ c,o.op ≠ .defer c:=fun c e=>by unfold stillOp at h; rw [e] at h; cases h
theorem still_about {P:Program} {o:Oper} (h:stillOp o = true) (ρ:Operand -> Value) (w:World):o.about P w ρ = none:=by
 unfold Oper.about;cases hop:o.op
 all_goals first
  | rfl
  | (exfalso; unfold stillOp at h; rw [hop] at h; cases h; done)
theorem tail_notStill {s:St} {o:Oper} (h:isTail o s = true):¬ stillOp o = true:=fun hs=>by
 unfold isTail at h;cases hop:o.op
 all_goals first
  | (exfalso; unfold stillOp at hs; rw [hop] at hs; cases hs; done)
  | (rw [hop] at h; cases h; done)
theorem acalm_runs {P:Program} {E:Env} {s:St} {a:Act} {w:World} {g:Gh} {o:Oper} {want:Bool} {h:Option Hint} {v:SV} {ob:Prop} {bb:Option (Nat × List Cell)} (hs:stillOp o = true) (hc:acalm P want h s o = some (v,ob,bb)) (hob:ob) (hr:Rel E s a w g):∃ u,(execOp a.eval o).run P w = .ok (.value u) w:=by
 have key:∀ {h':Option Hint} {q:SV × Cnd},aval P want h' s o.op = some q -> q.2.P -> ∃ u,(execOp a.eval o).run P w = .ok (.value u) w:=fun {h' q} h1 h2=>by
  obtain ⟨u,h3,_⟩:=aval_sound (pl:=fun _=>.slot 0 0) h1 h2 hr
  exact ⟨u,h3⟩
 have last:∀ (op:Op),o.op = op -> (match (generalizing:=false) h with
   | some (.bool b)=>match aval P want none s op with
    | some (⟨.one,[.v (.bool x)]⟩,ob)=>some ((⟨.one,[.c (.bool b)]⟩:SV),ob.P /\ x = b,(none:Option (Nat × List Cell)))
    | _=>none
   | _=>(aval P want h s op).map fun q=>(q.1,q.2.P,none)) = some (v,ob,bb) -> ∃ u,(execOp a.eval o).run P w = .ok (.value u) w:=fun op e hc=>by
  subst e;split at hc
  ·split at hc
   ·rename_i x ob1 h1;simp only [Option.some.injEq,Prod.mk.injEq] at hc;obtain ⟨_,rfl,_⟩:=hc;exact key h1 hob.1
   ·cases hc
  ·cases h1:aval P want h s o.op with
   | none=>rw [h1] at hc; cases hc
   | some q=>
    rw [h1] at hc;simp only [Option.map_some,Option.some.injEq,Prod.mk.injEq] at hc;obtain ⟨_,rfl,_⟩:=hc;exact key h1 hob
 unfold acalm at hc;cases hop:o.op
 all_goals first
  | (exfalso; unfold stillOp at hs; rw [hop] at hs; cases hs; done)
  | (rw [hop] at hc; exact last _ hop hc)
theorem acalm_stays {P:Program} {E:Env} {s:St} {a:Act} {w:World} {g:Gh} {o:Oper} {want:Bool} {h:Option Hint} {v:SV} {ob:Prop} {bb:Option (Nat × List Cell)} {r:Option Nat} {K:Act -> World -> Prop} {Q:Exit -> Act -> World -> Prop} (hc:acalm P want h s o = some (v,ob,bb)) (hob:ob) (hr:Rel E s a w g) (hw:o.wpIn (Fr r) 9 P a w K Q):o.wpIn (Fr r) 9 P a w (fun a' w'=>K a' w' /\ (stillOp o = true -> w' = w)) Q:=by
 by_cases hs:stillOp o = true
 ·obtain ⟨u,hrun⟩:=acalm_runs hs hc hob hr;refine wpIn_value (still_noDefer hs) hrun ⟨?_,fun _=>rfl⟩
  have h1:=hw.2;rw [show (Fr r).round = r from rfl,Oper.semAt_eq _ _ _ (still_noDefer hs),hrun] at h1;exact h1
 ·exact Oper.wpIn_mono (fun a' w' h=>⟨h,fun h'=>absurd h' hs⟩) hw
theorem light_about {P:Program} {o:Oper} (h:light P o = true) (ρ:Operand -> Value) (w:World):o.about P w ρ = none:=by
 unfold light at h;unfold Oper.about;split at h
 ·rename_i x e; rw [e]
 ·rename_i x e; rw [e]
 ·rename_i x i e; rw [e]
 ·rename_i t x lo hi mx e; rw [e]
 ·rename_i x e; rw [e]
 ·rename_i t x f e; rw [e]
 ·cases h
section
variable {F:Fence} {n:Nat} {P:Program} {ops:Array Oper} {Q:Exit -> Act -> World -> Prop}
theorem put_ahead {j:Nat} {oi oj:Oper} {v:Value} (hj:ops[j]? = some oj) (hap:oi.apart ops oj = true) (hsi:∀ cs b,oi.op ≠ .select cs b) (hsj:∀ cs b,oj.op ≠ .select cs b) (hdj:∀ c,oj.op ≠ .defer c)
  (hQ:∀ c a w,¬ Q (.panic c) a w) {K:Act -> World -> Prop} {a:Act} {w:World} (hy:Yields P ops oi v a) (h:wpOpIn F n P ops Q j K (a.put oi.dst v) w) :
  wpOpIn F n P ops Q j (fun a' w'=>Yields P ops oi v a' /\ K (a'.put oi.dst v) w') a w:=by
 obtain ⟨h1,h2,h3⟩:=Oper.apart_spec hap;have keep:∀ b:Act,Yields P ops oi v b -> ∀ u,Yields P ops oi v (b.put oj.dst u):=fun b hb u=>hb.of_same (execOp_put oi hsi b oj.dst u h3) (wanted_put oi b oj.dst u h3)
 unfold wpOpIn at *
 simp only [hj] at *
 rw [wanted_put oj a oi.dst v h1,about_put oj w a oi.dst v h1] at h;split
 ·rename_i hw;simp only [hw,if_true] at h;unfold Oper.wpIn at *
  rw [about_put oj w a oi.dst v h1,Oper.semAt_eq _ _ _ hdj,execOp_put oj hsj a oi.dst v h1] at h;rw [Oper.semAt_eq _ _ _ hdj];obtain ⟨h0,h⟩:=h;refine ⟨h0,?_⟩;generalize (execOp a.eval oj).run P w = q at *
  cases q with
  | halt x w'=>
   cases x <;> simp only [Oper.uponIn] at h ⊢;exact absurd h (hQ _ _ _)
  | ok x w'=>
   cases x <;> simp only [Oper.uponIn] at h ⊢
   case value u=>exact ⟨keep a hy u,by rw [<- Act.put_comm a v u h2]; exact h⟩
   case skip=>exact ⟨keep a hy _,by rw [<- Act.put_comm a v undef h2]; exact h⟩
   case defer d=>
    refine ⟨keep { a with defers:=d :: a.defers } (hy.of_same rfl rfl) _,?_⟩
    rw [<- Act.put_comm _ v undef h2,<- Act.put_defers];exact h
   case row=>exact ⟨h.1,RowsIn.mono h.2 fun u w'' he=>⟨keep a hy u,by rw [<- Act.put_comm a v u h2]; exact he⟩⟩
   case enter=>
    refine ⟨h.1,CallsIn.mono h.2 fun e w'' he=>?_⟩
    cases e with
    | returned u=>exact ⟨keep a hy u,by rw [<- Act.put_comm a v u h2]; exact he⟩
    | panicked c=>exact absurd he (hQ _ _ _)
    | outgrown=>exact he
   case round=>
    refine ⟨h.1,RoundIn.mono h.2 fun e w'' he=>?_⟩
    cases e with
    | returned u=>exact ⟨keep a hy u,by rw [<- Act.put_comm a v u h2]; exact he⟩
    | panicked c=>exact absurd he (hQ _ _ _)
    | outgrown=>exact he
 ·rename_i hw;simp only [hw] at h;exact ⟨h.1,keep a hy _,by rw [<- Act.put_comm a v undef h2]; exact h.2⟩
theorem light_op {i:Nat} {o:Oper} {v:Value} {a:Act} (hl:light P o = true) (hi:ops[i]? = some o) (hy:Yields P ops o v a) {K:Act -> World -> Prop} {w:World} (h:K (a.put o.dst v) w):wpOpIn F n P ops Q i K a w:=by
 unfold Go.wpOpIn;simp only [hi];rcases hy with ⟨hw,hv⟩ | ⟨hw,rfl⟩
 ·rw [if_pos hw];unfold Oper.wpIn;rw [Oper.semAt_eq _ _ _ (fun c e=>by unfold light at hl; rw [e] at hl; cases hl),hv w]
  exact ⟨fun f hf=>(by rw [light_about hl] at hf; cases hf),h⟩
 ·rw [if_neg (by rw [hw]; decide)]
  exact ⟨fun f hf=>(by rw [light_about hl] at hf; cases hf),h⟩
theorem take_light {i:Nat} {oi:Oper} {v:Value} (hl:light P oi = true) (hi:ops[i]? = some oi) (hns:noSel ops = true) (hQ:∀ c a w,¬ Q (.panic c) a w):∀ (fuel:Nat) (listed:Array Bool) (a:Act) (w:World),
  (∀ j oj,ops[j]? = some oj -> j ≠ i -> listed.getD j true = false -> i ∉ edgesOf oj -> oi.apart ops oj = true) -> i ∈ Region.ready .any ops listed -> Yields P ops oi v a ->
  wpAnyIn F n P .any ops Q fuel (listed.setIfInBounds i true) (a.put oi.dst v) w -> wpAnyIn F n P .any ops Q (fuel + 1) listed a w:=by
 intro fuel;induction fuel with
 | zero=>
  intro listed a w hap hr hy H;refine ⟨fun h=>(by rw [h] at hr; cases hr),fun j hj=>?_⟩
  by_cases hji:j = i
  ·subst hji; exact light_op hl hi hy H
  ·have:=ready_mono hj hji;rw [H.1] at this;cases this
 | succ fuel ih=>
  intro listed a w hap hr hy H;refine ⟨fun h=>(by rw [h] at hr; cases hr),fun j hj=>?_⟩
  by_cases hji:j = i
  ·subst hji; exact light_op hl hi hy H
  ·obtain ⟨hjl,oj,hoj,hje⟩:=mem_ready.1 hj;have hij:i ∉ edgesOf oj:=fun hm=>by
    unfold edgesOf at hm;obtain ⟨e,he,rfl⟩:=List.mem_map.1 hm;rw [List.mem_filter] at he;have h1:=hje e (by simpa using he.1) he.2
    have h0:=(mem_ready.1 hr).1;rw [Array.getD_eq_getD_getElem?] at h0 h1;cases hq:listed[e.on]? with
    | none=>rw [hq] at h1; simp at h1
    | some x=>rw [hq] at h0 h1; simp at h0 h1; rw [h0] at h1; cases h1
   have h2:=put_ahead hoj (hap j oj hoj hji hjl hij) (noSel_spec hns hi).1 (noSel_spec hns hoj).1 (noSel_spec hns hoj).2 hQ hy (H.2 j (ready_mono hj hji));refine wpOpIn_mono (fun a' w' h3=>ih (listed.setIfInBounds j true) a' w' (fun k ok hk hki hun hno=>?_) (ready_mono hr (Ne.symm hji)) h3.1 ?_) h2
   ·refine hap k ok hk hki ?_ hno;by_cases hjk:j = k
    ·subst hjk; exact hjl
    ·rw [getD_set_ne true hjk] at hun; exact hun
   ·rw [Array.setIfInBounds_comm _ _ hji];exact h3.2
end
section
variable {P:Program} {E:Env} {ops:Array Oper} {N:Nat} {res:List (Option Res)} {s0 s1 s2:St} {b:List Nat} {hints:List (Nat × Hint)} {ob:Prop} {r:Option Nat} {Q:Exit -> Act -> World -> Prop}
theorem ready_iff {i:Nat} {listed:Array Bool}:i ∈ Region.ready .any ops listed ↔ listed.getD i true = false /\ ∃ o,ops[i]? = some o /\ ∀ j ∈ edgesOf o,listed.getD j false = true:=by
 rw [mem_ready];refine and_congr_right fun _=>exists_congr fun o=>and_congr_right fun _=>?_
 unfold edgesOf;constructor
 ·intro h j hj;obtain ⟨e,he,rfl⟩:=List.mem_map.1 hj;rw [List.mem_filter] at he;exact h e (by simpa using he.1) he.2
 ·intro h e he hb;exact h e.on (List.mem_map.2 ⟨e,List.mem_filter.2 ⟨by simpa using he,hb⟩,rfl⟩)
theorem getD_tf {listed:Array Bool} {i:Nat}:listed.getD i true = false ↔ i < listed.size /\ listed.getD i false = false:=by
 rw [Array.getD_eq_getD_getElem?,Array.getD_eq_getD_getElem?];cases h:listed[i]? with
 | none=>
  have:listed.size <= i:=Array.getElem?_eq_none_iff.1 h;simp;omega
 | some x=>
  have:=(Array.getElem?_eq_some_iff.1 h).1;simp [this]
theorem set_getD {listed:Array Bool} {i k:Nat} (hi:i < listed.size):(listed.setIfInBounds i true).getD k false = if k = i then true else listed.getD k false:=by
 rw [Array.getD_eq_getD_getElem?,Array.getD_eq_getD_getElem?,Array.getElem?_setIfInBounds];by_cases h:i = k
 ·subst h; simp [hi]
 ·rw [if_neg h,if_neg (Ne.symm h)]
theorem before_listed (hb:b = befs ops.toList []) {listed:Array Bool} (hc:Closed ops fun k=>listed.getD k false = true) {i k:Nat} {o:Oper} (ho:ops[i]? = some o) (he:∀ j ∈ edgesOf o,listed.getD j false = true) (hk:(b.getD i 0).testBit k = true):listed.getD k false = true \/ k = i:=by
 have hc':Closed ops fun k=>listed.getD k false = true \/ k = i:=fun j oj hj hl q hq=>by
  rcases hl with hl | hl
  ·exact .inl (hc j oj hj hl q hq)
  ·subst hl;rw [ho] at hj;injection hj with hj;subst hj;exact .inl (he q hq)
 subst hb;rw [List.getD_eq_getElem?_getD] at hk;cases hq:(befs ops.toList [])[i]? with
 | none=>rw [hq] at hk; simp at hk
 | some y=>
  rw [hq] at hk;exact befs_sound hc' ops.toList [] (fun j=>by simp) (by simp) i y hq k hk (.inr rfl)
theorem closed_set {listed:Array Bool} {i:Nat} (hc:Closed ops fun k=>listed.getD k false = true) (hi:i ∈ Region.ready .any ops listed):Closed ops fun k=>(listed.setIfInBounds i true).getD k false = true:=fun k ok hk hlk j hj=>by
 rw [ready_iff,getD_tf] at hi;obtain ⟨⟨hisz,_⟩,o,ho,he⟩:=hi;have hset:∀ k,(listed.setIfInBounds i true).getD k false = if k = i then true else listed.getD k false:=fun k=>set_getD hisz
 simp only [hset] at hlk ⊢;by_cases hki:k = i
 ·subst hki;rw [ho] at hk; injection hk with hk; subst hk
  split
  ·rfl
  ·exact he j hj
 ·rw [if_neg hki] at hlk;split
  ·rfl
  ·exact hc k ok hk hlk j hj
theorem unl_filter {L:Nat -> Bool}:∀ n,((List.range n).filter fun k=>!L k).length = unl L n
 | 0=>rfl
 | n + 1=>by
  rw [List.range_succ,List.filter_append,List.length_append,unl_filter n];simp only [unl];cases h:L n <;> simp [h]
theorem tail_sound {Kp:St -> Prop} (hd:DF ops res s0 b) (ht:DT P ops res b) (hb:b = befs ops.toList []):∀ (js:List Nat) (l:List Oper) (fuel:Nat) (s:St) (listed:Array Bool) (a:Act) (w:World) (g:Gh),js.filterMap (fun j=>ops[j]?) = l -> (∀ j ∈ js,j < ops.size) -> js.Pairwise (fun p q=>p < q /\ (b.getD q 0).testBit p = true) -> listed.size = ops.size -> Closed ops (fun k=>listed.getD k false = true) ->
  (∀ k,k < ops.size -> (listed.getD k false = true ↔ k ∉ js)) -> js.length <= fuel -> Goes P r E ops Kp l s -> Rel E s a w g -> (∀ s2 a' w' g',Kp s2 -> Rel E s2 a' w' g' -> Q .normal a' w') -> wpAnyIn (Fr r) 9 P .any ops Q fuel listed a w
 | [],l,fuel,s,listed,a,w,g,hl,hjs,hpw,hls,hclosed,hlk,hf,h,hr,hQ=>by
  simp at hl;subst hl;refine wpAnyIn_done (List.eq_nil_iff_forall_not_mem.2 fun j hj=>?_) (hQ s a w g h hr) fuel
  rw [ready_iff,getD_tf] at hj;have:=(hlk j (by omega)).2 (by simp)
  rw [hj.1.2] at this;cases this
 | j :: js,l,fuel,s,listed,a,w,g,hl,hjs,hpw,hls,hclosed,hlk,hf,h,hr,hQ=>by
  obtain ⟨f,rfl⟩:∃ f,fuel = f + 1:=⟨fuel - 1,by simp at hf; omega⟩
  have hjz:j < ops.size:=hjs j (by simp)
  obtain ⟨o,ho⟩:∃ o,ops[j]? = some o:=⟨_,Array.getElem?_eq_getElem hjz⟩
  simp only [List.filterMap_cons,ho] at hl;subst hl;rw [List.pairwise_cons] at hpw;obtain ⟨hp1,hp2⟩:=hpw;have hready:j ∈ Region.ready .any ops listed:=by
   rw [ready_iff,getD_tf];refine ⟨⟨by omega,?_⟩,o,ho,fun q hq=>?_⟩
   ·cases hc:listed.getD j false with
    | false=>rfl
    | true=>exact absurd (List.mem_cons_self) ((hlk j hjz).1 hc)
   ·have h1:=hd.edge j o ho q hq;rw [hlk q (by omega)]
    intro hm;rcases List.mem_cons.1 hm with rfl | hm
    ·omega
    ·have:=(hp1 q hm).1; omega
  refine ⟨(fun h0=>by rw [h0] at hready; cases hready),fun i' hi'=>?_⟩
  have hii:i' = j:=by
   rw [ready_iff,getD_tf] at hi';obtain ⟨⟨h1,h2⟩,o',ho',he'⟩:=hi';have hm:i' ∈ j :: js:=by
    refine Classical.byContradiction fun hn=>?_
    rw [(hlk i' (by omega)).2 hn] at h2
    cases h2
   rcases List.mem_cons.1 hm with rfl | hm
   ·rfl
   ·have hbit:=(hp1 i' hm).2;rcases before_listed hb hclosed ho' he' hbit with h3 | h3
    ·exact absurd (List.mem_cons_self) ((hlk j hjz).1 h3)
    ·exact h3.symm
  subst hii;unfold wpOpIn;rw [ho];refine h a w g _ Q hr fun s3 a' w' g' h' hr'=>?_
  have hnot:i' ∉ js:=fun hm=>by have:=(hp1 i' hm).1; omega
  exact tail_sound hd ht hb js _ f s3 _ a' w' g' rfl (fun q hq=>hjs q (by simp [hq])) hp2 (by simpa using hls) (closed_set hclosed hready)
   (fun k hk=>by
    rw [set_getD (by omega)]
    by_cases hki:k = i'
    ·subst hki; simp [hnot]
    ·rw [if_neg hki,hlk k hk]; simp [hki]) (by simp at hf; omega) h' hr' hQ
structure St.Le (s S:St):Prop where
 slots:∀ t x,s.slots.lookup t = some x -> S.slots.lookup t = some x
 boxes:∀ n y,s.boxes.lookup n = some y -> S.boxes.lookup n = some y
theorem St.Le.look {s S:St} (h:s.Le S) {t:Nat} {x:SV} (hx:s.look t = some x):S.look t = some x:=by
 obtain ⟨h1,h2⟩:=look_some hx;unfold St.look;rw [if_pos h1];exact h.slots t x h2
theorem St.Le.evalO {s S:St} (h:s.Le S) {o:Operand} {x:SV} (hx:evalO s o = some x):evalO S o = some x:=by
 cases o with
 | tmp t=>exact h.look hx
 | const v=>exact hx
 | func f=>exact hx
 | global g=>exact hx
theorem St.Le.box {s S:St} (h:s.Le S) {n:Nat} {y:Nat × List Cell} (hy:s.box? n = some y):S.box? n = some y:=by
 obtain ⟨h1,h2⟩:=St.box?_eq hy;unfold St.box?;rw [h.boxes _ _ h1];simp only;rw [if_pos h2]
theorem growE_mono {s S:St} (h:s.Le S) {d e:Nat} {ty:Ty} {cx:Cell} {x:Operand} {z:Option Nat × Option (Nat × Nat × List Cell) × ((t:Ty) × List t.T)} (hg:growE s d e ty cx x = some z):growE S d e ty cx x = some z:=by
 unfold growE at hg ⊢;split at hg
 ·exact hg
 ·exact hg
 ·exact hg
 ·split at hg
  ·rename_i hb;rw [h.box hb];exact hg
  ·cases hg
 ·cases hg
theorem aeff_mono {s S:St} (h:s.Le S) {o:Oper} {z:Eff × Cnd} (ha:aeff P N s o = some z):aeff P N S o = some z:=by
 unfold aeff at ha ⊢;split at ha
 ·rename_i hop;split at ha
  ·rename_i h1 h2;split at ha
   ·rename_i h3 h4;simp only [h.evalO h1,h.evalO h2,h.box h3,h4];exact ha
   ·cases ha
  ·rename_i h1 h2;split at ha
   ·rename_i h3 h4;simp only [h.evalO h1,h.evalO h2,h.box h3,h4];exact ha
   ·cases ha
  ·cases ha
 ·rename_i hop;split at ha
  ·rename_i h1 h2;simp only [h1,h.look h2];exact ha
  ·cases ha
 ·rename_i hop;split at ha
  ·split at ha
   ·rename_i hc;rw [if_pos hc];split at ha
    ·rename_i hu;split at ha
     ·rename_i k1 k2 k3 k4;simp only [k1,k2,h.evalO k3,h.evalO k4];split at ha
      ·rename_i hz;split at ha
       ·cases ha
       ·rename_i hn;simp only [if_neg hn];split at ha
        ·rename_i hg;simp only [growE_mono h hg];exact ha
        ·cases ha
      ·cases ha
     ·cases ha
    ·cases ha
   ·cases ha
  ·cases ha
 ·cases ha
theorem delUnk_look {bx:List (Nat × Nat × List Cell)} {l:List (Nat × SV)} (hu:Uniq l) {t:Nat} {x:SV} (h:(delBoxRefs l).lookup t = some x):(delUnk bx l).lookup t = some x:=by
 obtain ⟨h1,h2⟩:=(dbr_look hu).1 h;refine lookup_of_mem (hu.filter _) (List.mem_filter.2 ⟨lookup_mem h1,?_⟩);simp only [Bool.not_eq_true',List.any_eq_false];rw [List.any_eq_false] at h2;intro c hc;have:=h2 c hc;cases c <;> simp [Cell.aliUnk]
 all_goals (rename_i q _ _ _; cases q <;> simp [Cell.aliBox] at this ⊢)
theorem growE_grow {s:St} (hs:s.Ok) {d e:Nat} {ty:Ty} {cx:Cell} {x:Operand} {u:Option Nat} {bx:Option (Nat × Nat × List Cell)} {l:(t:Ty) × List t.T} (hg:growE s d e ty cx x = some (u,bx,l)) :
  ∃ sl,growing s d e ty cx x = some (⟨sl,boxO bx s.boxes⟩,l) /\ Uniq sl /\ ∀ t y,(delBoxRefs (delO u s.slots)).lookup t = some y -> sl.lookup t = some y:=by
 unfold growE at hg;unfold growing;split at hg
 ·injection hg with hg; injection hg with h1 hg; injection hg with h2 h3; subst h1; subst h2; subst h3
  exact ⟨_,rfl,(hs.slots.filter _).filter _,fun t y h=>delUnk_look (hs.slots.filter _) h⟩
 ·split at hg
  ·rename_i hc;injection hg with hg; injection hg with h1 hg; injection hg with h2 h3; subst h1; subst h2; subst h3
   simp only [if_pos hc];exact ⟨_,rfl,(hs.slots.filter _).filter _,fun t y h=>delUnk_look (hs.slots.filter _) h⟩
  ·cases hg
 ·split at hg
  ·rename_i hc;injection hg with hg; injection hg with h1 hg; injection hg with h2 h3; subst h1; subst h2; subst h3
   simp only [if_pos hc];exact ⟨_,rfl,(hs.slots.filter _).filter _,fun t y h=>delUnk_look (hs.slots.filter _) h⟩
  ·cases hg
 ·split at hg
  ·rename_i hb;split at hg
   ·rename_i hc;injection hg with hg; injection hg with h1 hg; injection hg with h2 h3; subst h1; subst h2; subst h3
    simp only [hb,if_pos hc];exact ⟨_,rfl,hs.slots.filter _,fun t y h=>h⟩
   ·cases hg
  ·cases hg
 ·cases hg
theorem aeff_atail {s:St} (hs:s.Ok) {o:Oper} {q:Eff} {c:Cnd} (ha:aeff P N s o = some (q,c)):(∃ s',atail P N none s o = some (s',c) /\ (s.wr o.dst q).Le s') /\ isTail o s = true:=by
 have same:∀ {z:Option (St × Cnd)},z = some (s.wr o.dst q,c) -> ∃ s',z = some (s',c) /\ (s.wr o.dst q).Le s':=fun h=>⟨_,h,fun _ _ h=>h,fun _ _ h=>h⟩
 unfold aeff at ha;unfold atail isTail;split at ha
 ·rename_i t ad x hop;refine ⟨same ?_,by simp only [hop]⟩
  simp only [hop];split at ha
  ·rename_i h1 h2;split at ha
   ·rename_i h3 h4;simp only [h1,h2,h3,h4];split at ha
    ·cases ha
    ·split at ha
     ·rename_i hc;rw [if_pos hc];cases x <;> (simp only at ha ⊢; injection ha with ha; injection ha with e1 e2; subst e1; subst e2; simp only [St.wr,putO,hc.2.2.2,boxO,delO]; try split <;> rfl)
     ·cases ha
   ·cases ha
  ·rename_i h1 h2;split at ha
   ·rename_i h3 h4;simp only [h1,h2,h3,h4];split at ha
    ·cases ha
    ·split at ha
     ·rename_i hc;rw [if_pos hc];split at ha
      ·rename_i hp;injection ha with ha; injection ha with e1 e2; subst e1; subst e2
       simp only [hp,St.wr,putO,hc.2.2.2.2.1,boxO,delO]
      ·cases ha
     ·cases ha
   ·cases ha
  ·cases ha
 ·rename_i t hop;split at ha
  ·rename_i d v h1 h2;split at ha
   ·rename_i hc;injection ha with ha; injection ha with e1 e2; subst e1; subst e2
    have htk:takes s d v = none:=by
     unfold takes;split
     ·rename_i hv;have:=hc.2.2.2;simp [Cell.isOwn] at this
     ·rfl
    simp only [hop,h1,h2,htk,hc.2.2.2,Bool.true_or,and_true];rw [if_pos ⟨hc.1,hc.2.1,hc.2.2.1⟩];exact ⟨_,rfl,fun _ _ h=>h,fun _ _ h=>h⟩
   ·cases ha
  ·cases ha
 ·rename_i cc hop;split at ha
  ·rename_i x y t t' d h1 h2 h3 h4;simp only [hop,h1,h2,h3,h4,and_true];split at ha
   ·rename_i hc;rw [if_pos hc];split at ha
    ·rename_i hu;simp only [hu];split at ha
     ·rename_i k1 k2 k3 k4;simp only [k1,k2,k3,k4];split at ha
      ·rename_i hz;split at ha
       ·cases ha
       ·rename_i hn;simp only [hz,if_neg hn];split at ha
        ·rename_i hg;obtain ⟨sl,hgr,hsu,hle⟩:=growE_grow hs hg;simp only [hgr];split at ha
         ·rename_i hl;injection ha with ha; injection ha with e1 e2; subst e1; subst e2
          simp only [hl];refine ⟨_,rfl,fun t y h=>?_,fun n y h=>h⟩
          simp only [St.wr,putO,List.lookup_cons] at h ⊢;by_cases htd:t == d
          ·simp only [htd] at h ⊢; exact h
          ·simp only [htd] at h ⊢;obtain ⟨p1,p2⟩:=lookup_filter ((delO_uniq hs.slots).filter _) h;exact lookup_of_mem (hsu.filter _) (List.mem_filter.2 ⟨lookup_mem (hle t y p1),p2⟩)
         ·cases ha
        ·cases ha
      ·cases ha
     ·cases ha
    ·cases ha
   ·cases ha
  ·cases ha
 ·cases ha
theorem atail_sound {s s':St} {o:Oper} {c:Cnd} {a:Act} {w:World} {g:Gh} {Q:Exit -> Act -> World -> Prop} (hN:N = E.N) (ht:isTail o s = true) (hat:atail P N none s o = some (s',c)) (hob:c.P) (hr:Rel E s a w g):o.wpIn (Fr r) 9 P a w (Post E s') Q:=by
 unfold isTail at ht;split at ht
 ·rename_i hop; exact store_post hop hat hob hr
 ·rename_i hop; exact assign_post hop hN hat hr
 ·rename_i c hop;split at ht
  ·rename_i hcal; exact append_post hop hcal hN hat hob hr
  ·rename_i hcal; exact copy_post hop hcal hN hat hr
  ·rename_i hcal; exact clear_post hop hcal hat hr
  ·cases ht
 ·cases ht
theorem valAt_isCal {k:Nat} {x:SV} (h:valAt res k = some x):cal res k = true:=by
 obtain ⟨q,hq,_⟩:=valAt_cal h;exact cal_of hq
theorem hitAt_false_of {c t:Nat} {x:SV} (h:¬ hitAt res c t x = true):hitAt res c t x = false:=by simpa using h
theorem slB_iff {L:Nat -> Bool} {t:Nat} {x:SV}:slB s0 ops res L t = some x ↔ s0.slots.lookup t = some x /\ ∀ c,c < ops.size -> L c = true -> hitAt res c t x = false:=by
 unfold slB;cases hx:s0.slots.lookup t with
 | none=>simp
 | some z=>
  simp only;constructor
  ·intro h;split at h
   ·cases h
   ·rename_i hn;injection h with h;subst h;refine ⟨rfl,fun c hc hl=>?_⟩
    rw [Bool.not_eq_true,List.any_eq_false] at hn;have:=hn c (by simpa using hc)
    simpa [hl] using this
  ·rintro ⟨h,h2⟩
   injection h with h;subst h;rw [if_neg];rw [Bool.not_eq_true,List.any_eq_false];intro c hc;simp only [List.mem_range] at hc;cases hl:L c with
   | false=>simp
   | true=>simp [h2 c hc hl]
theorem lost_iff {L:Nat -> Bool} {k t:Nat} {x:SV}:lost ops res b L k t x = false ↔ ∀ c,c < ops.size -> c ≠ k -> L c = true -> hitAt res c t x = true -> (b.getD k 0).testBit c = true:=by
 unfold lost;rw [List.any_eq_false];constructor
 ·intro h c hc hck hl hh;have:=h c (by simpa using hc)
  simpa [hck,hl,hh] using this
 ·intro h c hc;simp only [List.mem_range] at hc;by_cases hck:c = k
  ·simp [hck]
  ·cases hl:L c with
   | false=>simp
   | true=>
    cases hh:hitAt res c t x with
    | false=>simp
    | true=>have:=h c hc hck hl hh; rw [List.getD_eq_getElem?_getD] at this; simp [this]
theorem slS_iff (hd:DF ops res s0 b) {L:Nat -> Bool} {t:Nat} {x:SV}:slS s0 ops res b L t = some x ↔
  (∃ k,k < ops.size /\ cal res k = true /\ dstOf ops k = some t /\ L k = true /\ valAt res k = some x /\ ∀ c,c < ops.size -> c ≠ k -> L c = true -> hitAt res c t x = true -> (b.getD k 0).testBit c = true) \/
  ((∀ k,k < ops.size -> cal res k = true -> dstOf ops k = some t -> L k = false) /\ s0.slots.lookup t = some x /\ ∀ c,c < ops.size -> L c = true -> hitAt res c t x = false):=by
 unfold slS;cases hi:ixOf ops res t with
 | none=>
  simp only;rw [slB_iff];have hno:=ixOf_none hi;constructor
  ·rintro ⟨h1,h2⟩
   exact .inr ⟨fun k hk hc he=>absurd he (hno k hk hc),h1,h2⟩
  ·rintro (⟨k,hk,hc,he,_⟩ | ⟨_,h1,h2⟩)
   ·exact absurd he (hno k hk hc)
   ·exact ⟨h1,h2⟩
 | some k=>
  obtain ⟨d1,d0,d2⟩:=ixOf_some hi;simp only;cases hl:L k with
  | false=>
   simp only [Bool.false_eq_true,if_false];rw [slB_iff];constructor
   ·rintro ⟨h1,h2⟩
    refine .inr ⟨fun k' hk hc he=>?_,h1,h2⟩
    rw [<- hd.inj k k' t d1 hk d0 hc d2 he,hl]
   ·rintro (⟨k',hk,hc,he,hl',_⟩ | ⟨_,h1,h2⟩)
    ·rw [<- hd.inj k k' t d1 hk d0 hc d2 he,hl] at hl'; cases hl'
    ·exact ⟨h1,h2⟩
  | true=>
   simp only [if_true];constructor
   ·intro h;cases hv:valAt res k with
    | none=>rw [hv] at h; cases h
    | some z=>
     rw [hv] at h;simp only at h;split at h
     ·cases h
     ·rename_i hn;injection h with h;subst h;exact .inl ⟨k,d1,d0,d2,hl,hv,lost_iff.1 (by simpa using hn)⟩
   ·rintro (⟨k',hk,hc,he,hl',hv,hh⟩ | ⟨h1,_⟩)
    ·cases hd.inj k k' t d1 hk d0 hc d2 he;rw [hv];simp only;rw [if_neg];rw [Bool.not_eq_true];exact lost_iff.2 hh
    ·rw [h1 k d1 d0 d2] at hl; cases hl
theorem setsB_iff {k n:Nat}:setsB res k n = true ↔ ∃ q y,resAt res k = some q /\ q.box = some (n,y):=by
 unfold setsB;cases hq:resAt res k with
 | none=>simp
 | some q=>
  cases hb:q.box with
  | none=>simp [hb]
  | some z=>
   obtain ⟨m,y⟩:=z;simp only [hb,beq_iff_eq];constructor
   ·rintro rfl; exact ⟨q,y,rfl,hb⟩
   ·rintro ⟨q',y',h1,h2⟩
    injection h1 with h1;subst h1;rw [hb] at h2;injection h2 with h2;injection h2 with h2 _
theorem bxS_iff {L:Nat -> Bool} {n:Nat} {y:Nat × List Cell}:bxS s0 ops res L n = some y ↔
  (∃ k q,k < ops.size /\ L k = true /\ resAt res k = some q /\ q.box = some (n,y) /\ ∀ c,k < c -> c < ops.size -> L c = true -> setsB res c n = false) \/
  ((∀ c,c < ops.size -> L c = true -> setsB res c n = false) /\ s0.boxes.lookup n = some y):=by
 unfold bxS;cases hl:lastB res L n ops.size with
 | none=>
  have hno:=lastB_none hl;simp only;constructor
  ·exact fun h=>.inr ⟨hno,h⟩
  ·rintro (⟨k,q,h1,h2,h3,h4,_⟩ | ⟨_,h⟩)
   ·have:=hno k h1 h2;rw [setsB_iff.2 ⟨q,y,h3,h4⟩] at this;cases this
   ·exact h
 | some k=>
  obtain ⟨c1,c2,c3,c4⟩:=lastB_some hl;obtain ⟨q,z,hq,hz⟩:=setsB_iff.1 c3;simp only [hq,hz,Option.bind_some,Option.map_some,Option.some.injEq];constructor
  ·rintro rfl
   exact .inl ⟨k,q,c1,c2,hq,hz,c4⟩
  ·rintro (⟨k',q',h1,h2,h3,h4,h5⟩ | ⟨h,_⟩)
   ·have hkk:k' = k:=by
     rcases Nat.lt_trichotomy k k' with h | h | h
     ·have:=c4 k' h h1 h2;rw [setsB_iff.2 ⟨q',y,h3,h4⟩] at this;cases this
     ·exact h.symm
     ·have:=h5 k h c1 c2;rw [c3] at this;cases this
    subst hkk;rw [hq] at h3;injection h3 with h3;subst h3;rw [hz] at h4;injection h4 with h4;injection h4
   ·rw [h k c1 c2] at c3; cases c3
theorem fin_list {α:Type}:∀ (l:List Nat) (f:Nat -> Option α),(∀ t,f t ≠ none -> t ∈ l) -> ∃ m:List (Nat × α),Uniq m /\ ∀ t,m.lookup t = f t
 | [],f,h=>⟨[],by simp [Uniq],fun t=>by
   cases hf:f t with
   | none=>rfl
   | some x=>have:=h t (by rw [hf]; simp); cases this⟩
 | t0 :: l,f,h=>by
  obtain ⟨m,hm,hl⟩:=fin_list l (fun t=>if t = t0 then none else f t) (fun t ht=>by
   by_cases h0:t = t0
   ·simp [h0] at ht
   ·simp only [h0,if_false] at ht;rcases List.mem_cons.1 (h t ht) with h1 | h1
    ·exact absurd h1 h0
    ·exact h1)
  cases hf:f t0 with
  | none=>
   refine ⟨m,hm,fun t=>?_⟩
   rw [hl t];split
   ·rename_i h0; subst h0; exact hf.symm
   ·rfl
  | some x=>
   refine ⟨(t0,x) :: m,hm.cons fun q hq e=>?_,fun t=>?_⟩
   ·have:=lookup_of_mem hm hq;rw [hl,if_pos e] at this;cases this
   ·rw [List.lookup_cons];by_cases h0:t = t0
    ·subst h0; simp [hf]
    ·have:(t == t0) = false:=by simpa using h0
     rw [this,hl t,if_neg h0]
theorem st_of (hd:DF ops res s0 b) {L:Nat -> Bool}:∃ S:St,S.Ok /\ (∀ t,S.slots.lookup t = slS s0 ops res b L t) /\ ∀ n,S.boxes.lookup n = bxS s0 ops res L n:=by
 obtain ⟨m1,u1,l1⟩:=fin_list (s0.slots.map (·.1) ++ (List.range ops.size).filterMap fun k=>dstOf ops k) (slS s0 ops res b L) (fun t ht=>by
  obtain ⟨x,hx⟩:=Option.ne_none_iff_exists'.1 ht;rcases (slS_iff hd).1 hx with ⟨k,h1,_,h2,_⟩ | ⟨_,h,_⟩
  ·exact List.mem_append_right _ (List.mem_filterMap.2 ⟨k,by simpa using h1,h2⟩)
  ·exact List.mem_append_left _ (List.mem_map.2 ⟨(t,x),lookup_mem h,rfl⟩))
 obtain ⟨m2,u2,l2⟩:=fin_list (s0.boxes.map (·.1) ++ (List.range ops.size).filterMap fun k=>((resAt res k).bind (·.box)).map (·.1)) (bxS s0 ops res L) (fun n hn=>by
  obtain ⟨y,hy⟩:=Option.ne_none_iff_exists'.1 hn;rcases bxS_iff.1 hy with ⟨k,q,h1,_,h2,h3,_⟩ | ⟨_,h⟩
  ·exact List.mem_append_right _ (List.mem_filterMap.2 ⟨k,by simpa using h1,by simp [h2,h3]⟩)
  ·exact List.mem_append_left _ (List.mem_map.2 ⟨(n,y),lookup_mem h,rfl⟩))
 exact ⟨⟨m1,m2⟩,⟨u1,u2⟩,l1,l2⟩
section
variable {listed:Array Bool} {i:Nat} {o:Oper}
theorem not_yet (hb:b = befs ops.toList []) (hc:Closed ops fun k=>listed.getD k false = true) (hiun:listed.getD i false = false) {k:Nat} (hk:k < ops.size) (hki:k ≠ i) (hbit:(b.getD k 0).testBit i = true):listed.getD k false = false:=by
 cases hl:listed.getD k false with
 | false=>rfl
 | true=>
  obtain ⟨ok,hok⟩:∃ ok,ops[k]? = some ok:=⟨ops[k]'hk,Array.getElem?_eq_getElem hk⟩
  rcases before_listed hb hc hok (fun j hj=>hc k ok hok hl j hj) hbit with h | h
  ·rw [hiun] at h; cases h
  ·exact absurd h.symm hki
theorem sets_ord (hd:DF ops res s0 b) (hmk:∀ k q y,k < ops.size -> resAt res k = some q -> q.wr = none -> q.box = some y -> dstOf ops k = some y.1) {k n:Nat} (hi:i < ops.size) (hk:k < ops.size) (hki:k ≠ i) (h1:setsB res i n = true) (h2:setsB res k n = true):Ord b i k:=by
 obtain ⟨q,y,hq,hy⟩:=setsB_iff.1 h1;obtain ⟨p,z,hp,hz⟩:=setsB_iff.1 h2;cases hqw:q.wr with
 | some u=>exact hd.used i q n k hi hq (hd.wused i q u _ hi hq hqw hy) hk hki h2
 | none=>
  cases hpw:p.wr with
  | some u=>exact (hd.used k p n i hk hp (hd.wused k p u _ hk hp hpw hz) hi (Ne.symm hki) h1).symm
  | none=>exact absurd (hd.inj i k n hi hk (cal_of hq) (cal_of hp) (hmk i q _ hi hq hqw hy) (hmk k p _ hk hp hpw hz)).symm hki
theorem any_step (hN:N = E.N) (hd:DF ops res s0 b) (hb:b = befs ops.toList []) (hmk:∀ k q y,k < ops.size -> resAt res k = some q -> q.wr = none -> q.box = some y -> dstOf ops k = some y.1) (hstep:StepOk P N ops hints s0 res i) {a:Act} {w:World} {g:Gh} (hls:listed.size = ops.size) (hc:Closed ops fun k=>listed.getD k false = true)
  (hi:i ∈ Region.ready .any ops listed) (hci:cal res i = true) (hF:RelF E (slS s0 ops res b fun k=>listed.getD k false) (bxS s0 ops res fun k=>listed.getD k false) a w g) {K:Act -> World -> Prop}
  (hK:∀ a' w' g',RelF E (slS s0 ops res b fun k=>(listed.setIfInBounds i true).getD k false) (bxS s0 ops res fun k=>(listed.setIfInBounds i true).getD k false) a' w' g' -> (∀ o,ops[i]? = some o -> stillOp o = true -> o.guard = none -> w' = w) -> K a' w'):wpOpIn (Fr r) 9 P ops Q i K a w:=by
 rw [ready_iff,getD_tf] at hi;obtain ⟨⟨hisz,hiun⟩,o,ho,he⟩:=hi;have hin:i < ops.size:=by omega
 have hset:∀ k,(listed.setIfInBounds i true).getD k false = if k = i then true else listed.getD k false:=fun k=>set_getD hisz
 have hset1:∀ {k},listed.getD k false = true -> (listed.setIfInBounds i true).getD k false = true:=fun {k} h=>by rw [hset]; split <;> simp [h]
 have hsetn:∀ {k},k ≠ i -> (listed.setIfInBounds i true).getD k false = true -> listed.getD k false = true:=fun {k} hk h=>by rw [hset,if_neg hk] at h; exact h
 have hseti:(listed.setIfInBounds i true).getD i false = true:=by rw [hset,if_pos rfl]
 have bl:∀ k,k ≠ i -> (b.getD i 0).testBit k = true -> listed.getD k false = true:=fun k hki hk=>(before_listed hb hc ho he hk).resolve_right hki
 have ny:∀ k,k < ops.size -> k ≠ i -> (b.getD k 0).testBit i = true -> listed.getD k false = false:=fun k=>not_yet hb hc hiun
 have come:∀ k,k < ops.size -> k ≠ i -> Ord b i k -> listed.getD k false = true -> k < i /\ (b.getD i 0).testBit k = true:=fun k hk hki ho hl=>by
  rcases ho with h | ⟨_,h⟩
  ·exact h
  ·rw [ny k hk hki h] at hl; cases hl
 obtain ⟨o',s,ho',htx,hcase⟩:=hstep;have heo:o' = o:=by rw [ho] at ho'; injection ho' with ho'; exact ho'.symm
 subst heo;have look:∀ t x,t ∈ opTmps o' ++ guardTmp ops o' -> s.slots.lookup t = some x -> slS s0 ops res b (fun k=>listed.getD k false) t = some x:=fun t x ht hx=>by
  rw [slS_iff hd];rcases htx.slots t x hx with ⟨k,c1,c2,c3,c4⟩ | ⟨c1,c2,c3⟩
  ·have hck:=valAt_isCal c3;have hk:k < ops.size:=by omega
   have hOk:k < i /\ (b.getD i 0).testBit k = true:=by
    rcases hd.opd i o' t k ho hci ht hk hck c2 with h | h
    ·exact h
    ·omega
   refine .inl ⟨k,hk,hck,c2,bl k (by omega) hOk.2,c3,fun c hcz hck hl hh=>?_⟩
   have hci':c ≠ i:=fun e=>by subst e; rw [hiun] at hl; cases hl
   obtain ⟨e1,e2⟩:=come c hcz hci' (hd.rd i o' t k x c ho hci ht hk (by omega) c3 c2 hcz hci' hh) hl
   rcases hd.hord c k x t hcz hk (Ne.symm hck) c3 c2 hh with ⟨f1,f2⟩ | ⟨f1,f2⟩
   ·have:=c4 c f1 e1;rw [hh] at this; cases this
   ·exact f2
  ·refine .inr ⟨fun k hk hck hdk=>?_,c2,fun c hcz hl=>hitAt_false_of fun hh=>?_⟩
   ·have hki:k ≠ i:=fun e=>by
     subst e;rcases hd.opd k o' t k ho hci ht hk hck hdk with ⟨h,_⟩ | ⟨h,_⟩ <;> omega
    cases hl:listed.getD k false with
    | false=>rfl
    | true=>exact absurd hdk (c1 k (come k hk hki (hd.opd i o' t k ho hci ht hk hck hdk) hl).1 hck)
   ·have hci':c ≠ i:=fun e=>by subst e; rw [hiun] at hl; cases hl
    have:=c3 c (come c hcz hci' (hd.rd0 i o' t x c ho hci ht c2 hcz hci' hh) hl).1;rw [hh] at this; cases this
 have lookB:∀ q n y,resAt res i = some q -> n ∈ q.used -> s.boxes.lookup n = some y -> bxS s0 ops res (fun k=>listed.getD k false) n = some y:=fun q n y hq hn hy=>by
  rw [bxS_iff];have none_between:∀ c,c < ops.size -> listed.getD c false = true -> setsB res c n = true -> c < i:=fun c hcz hl hs=>by
   have hci':c ≠ i:=fun e=>by subst e; rw [hiun] at hl; cases hl
   exact (come c hcz hci' (hd.used i q n c hin hq hn hcz hci' hs) hl).1
  rcases htx.boxes n y hy with ⟨k,p,c1,c2,c3,c4⟩ | ⟨c1,c2⟩
  ·have hk:k < ops.size:=by omega
   have hs:setsB res k n = true:=setsB_iff.2 ⟨p,y,c2,c3⟩;have hOk:k < i /\ (b.getD i 0).testBit k = true:=by
    rcases hd.used i q n k hin hq hn hk (by omega) hs with h | h
    ·exact h
    ·omega
   refine .inl ⟨k,p,hk,bl k (by omega) hOk.2,c2,c3,fun c h1 h2 hl=>?_⟩
   cases hsc:setsB res c n with
   | false=>rfl
   | true=>
    have:=c4 c h1 (none_between c h2 hl hsc);rw [hsc] at this; cases this
  ·refine .inr ⟨fun c h2 hl=>?_,c2⟩
   cases hsc:setsB res c n with
   | false=>rfl
   | true=>
    have:=c1 c (none_between c h2 hl hsc);rw [hsc] at this; cases this
 have hw:∀ c,wanted s ops o' = some c -> Region.wanted o' (yielded ops a.tmps) = c:=fun c hc'=>by
  unfold wanted at hc';unfold Region.wanted;cases hg:o'.guard with
  | none=>simp [hg] at hc'; simp [hc']
  | some q=>
   obtain ⟨j,bb⟩:=q;simp only [hg] at hc';split at hc'
   ·rename_i dd hdd;split at hc'
    ·rename_i x hl;have hlk:=look dd x (List.mem_append_right _ (by simp [guardTmp,hg,hdd])) (look_some hl).2
     have k:=hF.slots dd x hlk;rw [tv_own (look_some hl).1] at k;exact asks_tmp k hc' hdd
    ·simp at hc'
   ·simp at hc'
 have noHang:∀ t x,slS s0 ops res b (fun k=>listed.getD k false) t = some x -> hangs ops res i x = false:=fun t x hx=>by
  rcases (slS_iff hd).1 hx with ⟨k,h1,h2,h3,h4,h5,_⟩ | ⟨_,h,_⟩
  ·cases hh:hangs ops res i x with
   | false=>rfl
   | true=>
    obtain ⟨q,hq,hqx⟩:=valAt_cal h5;have hki:k ≠ i:=fun e=>by subst e; rw [hiun] at h4; cases h4
    rw [ny k h1 hki (hd.hang i k q hin h1 hci hki hq (.inl ⟨x,hqx,hh⟩))] at h4;cases h4
  ·exact hd.s0sl i t x hin hci h
 have noHangB:∀ n y,bxS s0 ops res (fun k=>listed.getD k false) n = some y -> boxHangs ops res i y.2 = false:=fun n y hy=>by
  rcases bxS_iff.1 hy with ⟨k,q,h1,h2,h3,h4,_⟩ | ⟨_,h⟩
  ·cases hh:boxHangs ops res i y.2 with
   | false=>rfl
   | true=>
    have hki:k ≠ i:=fun e=>by subst e; rw [hiun] at h2; cases h2
    rw [ny k h1 hki (hd.hang i k q hin h1 hci hki h3 (.inr ⟨(n,y),h4,hh⟩))] at h2;cases h2
  ·cases hm:makes res i with
   | true=>exact (hd.s0bx i n y hin hm h).2
   | false=>unfold boxHangs; split <;> simp [hm]
 have slNext:∀ t x,slS s0 ops res b (fun k=>(listed.setIfInBounds i true).getD k false) t = some x -> (dstOf ops i = some t /\ valAt res i = some x) \/ (dstOf ops i ≠ some t /\ slS s0 ops res b (fun k=>listed.getD k false) t = some x /\ hitAt res i t x = false):=fun t x hx=>by
  rcases (slS_iff hd).1 hx with ⟨k,h1,h2,h3,h4,h5,h6⟩ | ⟨h1,h2,h3⟩
  ·by_cases hki:k = i
   ·subst hki; exact .inl ⟨h3,h5⟩
   ·have hlk:=hsetn hki h4;refine .inr ⟨fun e=>hki (hd.inj i k t hin h1 hci h2 e h3).symm,(slS_iff hd).2 (.inl ⟨k,h1,h2,h3,hlk,h5,fun c c1 c2 c3 c4=>h6 c c1 c2 (hset1 c3) c4⟩),hitAt_false_of fun hh=>?_⟩
    rw [ny k h1 hki (h6 i hin (Ne.symm hki) hseti hh)] at hlk;cases hlk
  ·refine .inr ⟨fun e=>?_,(slS_iff hd).2 (.inr ⟨fun k k1 k2 k3=>?_,h2,fun c c1 c2=>h3 c c1 (hset1 c2)⟩),h3 i hin hseti⟩
   ·have:=h1 i hin hci e;rw [hseti] at this; cases this
   ·cases hl:listed.getD k false with
    | false=>rfl
    | true=>have:=h1 k k1 k2 k3; rw [hset1 hl] at this; cases this
 have bxNext:∀ n y,bxS s0 ops res (fun k=>(listed.setIfInBounds i true).getD k false) n = some y -> (∃ q,resAt res i = some q /\ q.box = some (n,y)) \/ (setsB res i n = false /\ bxS s0 ops res (fun k=>listed.getD k false) n = some y):=fun n y hy=>by
  rcases bxS_iff.1 hy with ⟨k,q,h1,h2,h3,h4,h5⟩ | ⟨h1,h2⟩
  ·by_cases hki:k = i
   ·subst hki; exact .inl ⟨q,h3,h4⟩
   ·have hlk:=hsetn hki h2;have hsk:=setsB_iff.2 ⟨q,y,h3,h4⟩;refine .inr ⟨?_,bxS_iff.2 (.inl ⟨k,q,h1,hlk,h3,h4,fun c c1 c2 c3=>h5 c c1 c2 (hset1 c3)⟩)⟩
    cases hsi:setsB res i n with
    | false=>rfl
    | true=>
     have:=(come k h1 hki (sets_ord hd hmk hin h1 hki hsi hsk) hlk).1;have:=h5 i this hin hseti;rw [hsi] at this; cases this
  ·exact .inr ⟨h1 i hin hseti,bxS_iff.2 (.inr ⟨fun c c1 c2=>h1 c c1 (hset1 c2),h2⟩)⟩
 have hsub:∀ q,resAt res i = some q -> q.used = (s.restrict o').boxes.map (·.1) -> (∀ t x,(s.restrict o').slots.lookup t = some x -> slS s0 ops res b (fun k=>listed.getD k false) t = some x) /\ ∀ n y,(s.restrict o').boxes.lookup n = some y -> bxS s0 ops res (fun k=>listed.getD k false) n = some y:=fun q hq hu=>by
  refine ⟨fun t x hx=>?_,fun n y hy=>?_⟩
  ·obtain ⟨c1,c2⟩:=lookup_filter htx.ok.slots hx;exact look t x (List.mem_append_left _ (by simpa using c2)) c1
  ·have hmem:n ∈ (s.restrict o').boxes.map (·.1):=List.mem_map.2 ⟨(n,y),lookup_mem hy,rfl⟩;obtain ⟨c1,_⟩:=lookup_filter htx.ok.boxes hy;exact lookB q n y hq (by rw [hu]; exact hmem) c1
 unfold wpOpIn;rw [ho];rcases hcase with ⟨d,hdst,hw0,hdN,hr0⟩ | ⟨q,c,hw1,htl,hcP,hae,hres⟩ | ⟨d,hdst,hw1,hdN,v,obv,bb,hov,hac,hvr,hres⟩
 ·have hdi:dstOf ops i = some d:=by simp [dstOf,ho,hdst]
  simp only [hw false hw0,Bool.false_eq_true,if_false];rw [hdst];refine ⟨fun _ _=>trivial,hK _ w g ((appF_put hF (by rw [<- hN]; exact hdN) undef_svr rfl).weak (fun t x hx=>?_) (fun n y hy=>?_)) (fun _ _ _ _=>rfl)⟩
  ·unfold slApp;rcases slNext t x hx with ⟨h1,h2⟩ | ⟨h1,h2,_⟩
   ·rw [hdi] at h1; injection h1 with h1
    rw [if_pos h1.symm,<- h2]; unfold valAt; rw [hr0]; rfl
   ·have htd:t ≠ d:=fun e=>h1 (by rw [hdi,e])
    have hnh:=noHang t x h2;simp only [hangs,hdi,Bool.or_eq_false_iff] at hnh;simp only [htd,if_false,h2,hnh.1,Option.isSome_none,Bool.false_and,Bool.or_self,Bool.false_eq_true]
  ·rcases bxNext n y hy with ⟨q,h1,h2⟩ | ⟨_,h2⟩
   ·rw [hr0] at h1; injection h1 with h1; subst h1; cases h2
   ·exact h2
 ·simp only [hw true hw1,if_true];obtain ⟨S,hS,hS1,hS2⟩:=st_of (s0:=s0) (ops:=ops) (res:=res) (b:=b) hd (L:=fun k=>listed.getD k false)
  obtain ⟨l1,l2⟩:=hsub _ hres rfl;have hle:(s.restrict o').Le S:=⟨fun t x hx=>by rw [hS1]; exact l1 t x hx,fun n y hy=>by rw [hS2]; exact l2 n y hy⟩
  have hrel:Rel E S a w g:=RelF.toRel hS (hF.weak (fun t x hx=>by rw [<- hS1]; exact hx) (fun n y hy=>by rw [<- hS2]; exact hy))
  obtain ⟨⟨S',ht1,hleS⟩,ht2⟩:=aeff_atail hS (aeff_mono hle hae);refine Oper.wpIn_mono (fun a' w' hp=>?_) (atail_sound (r:=r) (Q:=Q) hN ht2 ht1 hcP hrel)
  obtain ⟨g',hg0⟩:=hp;have hg':Rel E (S.wr o'.dst q) a' w' g':=RelF.toRel (hS.wr _ _) (hg0.toF.weak hleS.slots hleS.boxes);refine hK a' w' g' (hg'.toF.weak (fun t x hx=>?_) (fun n y hy=>?_)) (fun o1 ho1 hs1 _=>absurd hs1 ?_)
  rotate_left
  rotate_left
  ·rw [ho] at ho1;injection ho1 with ho1;subst ho1;exact tail_notStill htl
  ·rw [wr_slots (v:=q.put) (bx:=q.box) (u:=(s.restrict o').boxes.map (·.1)) hS];rcases slNext t x hx with ⟨h1,h2⟩ | ⟨h1,h2,h3⟩
   ·refine .inl ⟨by simpa [dstOf,ho] using h1,?_⟩
    rw [<- h2]; unfold valAt; rw [hres]; rfl
   ·refine .inr ⟨⟨by rw [hS1]; exact h2,by unfold hitAt at h3; rw [hres] at h3; exact h3⟩,fun e y he hy=>?_⟩
    have hdi:dstOf ops i = some e:=by simp [dstOf,ho,he]
    have hnh:=noHang t x h2;simp only [hangs,hdi,Bool.or_eq_false_iff] at hnh;exact ⟨fun h=>h1 (by rw [hdi,h]),hnh.1⟩
  ·refine (boxO_look hS.boxes).2 ?_;rcases bxNext n y hy with ⟨p,h1,h2⟩ | ⟨h1,h2⟩
   ·rw [hres] at h1; injection h1 with h1; subst h1; exact .inl h2
   ·refine .inr ⟨by rw [hS2]; exact h2,fun z hz e=>?_⟩
    rw [setsB_iff.2 ⟨_,z.2,hres,by rw [<- e]; exact hz⟩] at h1
    cases h1
 ·have hdi:dstOf ops i = some d:=by simp [dstOf,ho,hdst]
  simp only [hw true hw1,if_true];obtain ⟨l1,l2⟩:=hsub _ hres rfl;have hrel:Rel E (s.restrict o') a w g:=RelF.toRel ⟨htx.ok.slots.filter _,htx.ok.boxes.filter _⟩ (hF.weak l1 l2);refine Oper.wpIn_mono (fun a' w' hp=>?_) (acalm_stays hac hov hrel (acalm_sound hac hov hrel hF hdst (by rw [<- hN]; exact hdN) hvr))
  obtain ⟨⟨g',hg'⟩,hww⟩:=hp;have hmkb:makes res i = bb.isSome:=by unfold makes; rw [hres]; cases bb <;> rfl
  refine hK a' w' g' (hg'.weak (fun t x hx=>?_) (fun n y hy=>?_)) (fun o1 ho1 hs1 _=>hww (by rw [ho] at ho1; injection ho1 with ho1; subst ho1; exact hs1))
  ·unfold slApp;rcases slNext t x hx with ⟨h1,h2⟩ | ⟨h1,h2,_⟩
   ·rw [hdi] at h1; injection h1 with h1
    rw [if_pos h1.symm,<- h2]; unfold valAt; rw [hres]; rfl
   ·have htd:t ≠ d:=fun e=>h1 (by rw [hdi,e])
    have hnh:=noHang t x h2;simp only [hangs,hdi,hmkb,Bool.or_eq_false_iff] at hnh;simp only [htd,if_false,h2,hnh.1,hnh.2,Bool.or_self,Bool.false_eq_true]
  ·unfold bxApp;rcases bxNext n y hy with ⟨p,h1,h2⟩ | ⟨h1,h2⟩
   ·rw [hres] at h1; injection h1 with h1; subst h1
    cases bb with
    | none=>cases h2
    | some z=>
     simp only [Option.map_some,Option.some.injEq,Prod.mk.injEq] at h2;obtain ⟨rfl,rfl⟩:=h2;simp
   ·cases bb with
    | none=>exact h2
    | some z=>
     have hnd:n ≠ d:=fun e=>by
      rw [setsB_iff.2 ⟨_,z,hres,by rw [e]; rfl⟩] at h1
      cases h1
     have hnh:=noHangB n y h2;simp only [boxHangs,hdi,hmkb,Option.isSome_some,Bool.true_and] at hnh;simp only [hnd,if_false,h2,hnh];simp
end
theorem befs_edge {i j:Nat} {o:Oper} (ho:ops[i]? = some o) (hj:j ∈ edgesOf o):((befs ops.toList []).getD i 0).testBit j = true:=by
 have gen:∀ (l:List Oper) (acc:List Nat) (i:Nat),acc.length <= i -> l[i - acc.length]? = some o -> ((befs l acc).getD i 0).testBit j = true:=by
  intro l;induction l with
  | nil=>intro acc i _ h; simp at h
  | cons p l ih=>
   intro acc i hi h;by_cases hi0:i = acc.length
   ·subst hi0;simp at h;subst h;have hkeep:∀ (l:List Oper) (acc:List Nat) (i:Nat) (x:Nat),acc[i]? = some x -> (befs l acc)[i]? = some x:=by
     intro l;induction l with
     | nil=>intro acc i x h; exact h
     | cons q l ih2=>
      intro acc i x h;refine ih2 _ _ _ ?_;rw [List.getElem?_append_left (List.getElem?_eq_some_iff.1 h).1];exact h
    have hfold:∀ (es:List Nat) (x:Nat),(j ∈ es \/ x.testBit j = true) -> (es.foldl (fun s j=>s ||| 2 ^ j ||| acc.getD j 0) x).testBit j = true:=by
     intro es;induction es with
     | nil=>intro x h; exact h.resolve_left (by simp)
     | cons e es ih2=>
      intro x h;refine ih2 _ ?_;rcases h with h | h
      ·rcases List.mem_cons.1 h with rfl | h
       ·right;rw [Nat.testBit_or,Nat.testBit_or,Nat.testBit_two_pow];simp
       ·exact .inl h
      ·right;rw [Nat.testBit_or,Nat.testBit_or,h];simp
    have:=hkeep l (acc ++ [(edgesOf p).foldl (fun s j=>s ||| 2 ^ j ||| acc.getD j 0) 0]) acc.length _ (by rw [List.getElem?_append_right (Nat.le_refl _),Nat.sub_self,List.getElem?_cons_zero])
    show ((befs l _).getD _ 0).testBit j = true;rw [List.getD_eq_getElem?_getD,this];exact hfold _ 0 (.inl hj)
   ·refine ih (acc ++ [_]) i (by simp; omega) ?_
    rw [show i - acc.length = (i - (acc.length + 1)) + 1 from by omega,List.getElem?_cons_succ] at h
    simpa using h
 exact gen ops.toList [] i (by simp) (by simpa using ho)
theorem makes_dst (hstep:∀ i,i < ops.size -> cal res i = true -> StepOk P N ops hints s0 res i):∀ k q y,k < ops.size -> resAt res k = some q -> q.wr = none -> q.box = some y -> dstOf ops k = some y.1:=fun k q y hk hq hqw hqb=>by
 obtain ⟨o,s,ho,_,hcase⟩:=hstep k hk (cal_of hq);rcases hcase with ⟨d,hdst,_,_,hr0⟩ | ⟨p,c,_,_,_,_,hres⟩ | ⟨d,hdst,_,_,v,obv,bb,_,_,_,hres⟩
 ·rw [hr0] at hq; injection hq with hq; subst hq; cases hqb
 ·rw [hres] at hq; injection hq with hq; subst hq; cases hqw
 ·rw [hres] at hq; injection hq with hq; subst hq
  cases bb with
  | none=>cases hqb
  | some z=>
   simp only [Option.map_some,Option.some.injEq] at hqb;subst hqb;simp [dstOf,ho,hdst]
theorem to_end (hd:DF ops res s0 b) (hend:Txt s0 ops res ops.size s1) {listed:Array Bool} {a:Act} {w:World} {g:Gh} (hall:∀ k,k < ops.size -> cal res k = true -> listed.getD k false = true) (hF:RelF E (slS s0 ops res b fun k=>listed.getD k false) (bxS s0 ops res fun k=>listed.getD k false) a w g):Rel E s1 a w g:=by
 refine RelF.toRel hend.ok (hF.weak (fun t x hx=>?_) (fun n y hy=>?_))
 ·rw [slS_iff hd];rcases hend.slots t x hx with ⟨k,c1,c2,c3,c4⟩ | ⟨c1,c2,c3⟩
  ·have hck:=valAt_isCal c3;refine .inl ⟨k,c1,hck,c2,hall k c1 hck,c3,fun c hcz hkc hl hh=>?_⟩
   rcases hd.hord c k x t hcz c1 (Ne.symm hkc) c3 c2 hh with ⟨f1,f2⟩ | ⟨f1,f2⟩
   ·have:=c4 c f1 hcz;rw [hh] at this; cases this
   ·exact f2
  ·exact .inr ⟨fun k k1 k2 k3=>absurd k3 (c1 k k1 k2),c2,fun c hcz _=>c3 c hcz⟩
 ·rw [bxS_iff];rcases hend.boxes n y hy with ⟨k,q,c1,c2,c3,c4⟩ | ⟨c1,c2⟩
  ·exact .inl ⟨k,q,c1,hall k c1 (cal_of c2),c2,c3,fun c h1 h2 _=>c4 c h1 h2⟩
  ·exact .inr ⟨fun c h1 _=>c1 c h1,c2⟩
theorem draw_core (hN:N = E.N) (hd:DF ops res s0 b) (hb:b = befs ops.toList []) (hmk:∀ k q y,k < ops.size -> resAt res k = some q -> q.wr = none -> q.box = some y -> dstOf ops k = some y.1) (hstep:∀ i,i < ops.size -> cal res i = true -> StepOk P N ops hints s0 res i) {u:Option Nat} (htl:∀ i k,i < ops.size -> cal res i = false -> k < ops.size -> cal res k = true -> (b.getD i 0).testBit k = true \/ lightAt P ops b k = true \/ u = some k) (hu:∀ k i,u = some k -> i < ops.size -> cal res i = true -> i ≠ k -> (b.getD i 0).testBit k = false)
  (hQp:∀ c a w,¬ Q (.panic c) a w)
  (writes:∀ {fuel:Nat} {listed:Array Bool} {a:Act} {w:World} {g:Gh},listed.size = ops.size -> Closed ops (fun k=>listed.getD k false = true) -> (∀ k,listed.getD k false = true -> cal res k = true) -> (∀ k,k < ops.size -> cal res k = true -> listed.getD k false = true) ->
   unl (fun k=>listed.getD k false) ops.size <= fuel -> RelF E (slS s0 ops res b fun k=>listed.getD k false) (bxS s0 ops res fun k=>listed.getD k false) a w g -> wpAnyIn (Fr r) 9 P .any ops Q fuel listed a w)
  (side:∀ {fuel:Nat} {listed:Array Bool} {a:Act} {w:World} {g:Gh} {k i:Nat},u = some k -> listed.size = ops.size -> Closed ops (fun k=>listed.getD k false = true) -> (∀ k,listed.getD k false = true -> cal res k = true) -> (∀ j,j < ops.size -> cal res j = true -> j ≠ k -> listed.getD j false = true) -> listed.getD k false = false ->
   unl (fun k=>listed.getD k false) ops.size <= fuel + 1 -> RelF E (slS s0 ops res b fun k=>listed.getD k false) (bxS s0 ops res fun k=>listed.getD k false) a w g -> i ∈ Region.ready .any ops listed -> cal res i = false -> wpOpIn (Fr r) 9 P ops Q i (wpAnyIn (Fr r) 9 P .any ops Q fuel (listed.setIfInBounds i true)) a w):∀ (fuel:Nat) (listed:Array Bool) (a:Act) (w:World) (g:Gh),listed.size = ops.size -> Closed ops (fun k=>listed.getD k false = true) -> (∀ k,listed.getD k false = true -> cal res k = true) ->
   unl (fun k=>listed.getD k false) ops.size <= fuel -> RelF E (slS s0 ops res b fun k=>listed.getD k false) (bxS s0 ops res fun k=>listed.getD k false) a w g -> wpAnyIn (Fr r) 9 P .any ops Q fuel listed a w:=by
 intro fuel;induction fuel with
 | zero=>
  intro listed a w g hls hc hlm hu' hF;exact writes hls hc hlm (fun k hk _=>unl_zero (Nat.le_zero.1 hu') k hk) hu' hF
 | succ fuel ih=>
  intro listed a w g hls hc hlm hu' hF;have less:∀ i,i ∈ Region.ready .any ops listed -> unl (fun k=>(listed.setIfInBounds i true).getD k false) ops.size <= fuel:=fun i hi=>by
   rw [ready_iff,getD_tf] at hi;have:=(unl_set (L:=fun k=>listed.getD k false) (L':=fun k=>(listed.setIfInBounds i true).getD k false) (i:=i) (fun k=>set_getD hi.1.1) hi.1.2 ops.size).1 (by omega)
   omega
  have more:∀ i,i ∈ Region.ready .any ops listed -> cal res i = true -> ∀ k,(listed.setIfInBounds i true).getD k false = true -> cal res k = true:=fun i hi hci k hk=>by
   rw [ready_iff,getD_tf] at hi;rw [set_getD hi.1.1] at hk;by_cases hki:k = i
   ·rw [hki]; exact hci
   ·rw [if_neg hki] at hk; exact hlm k hk
  by_cases hlt:∃ i,i ∈ Region.ready .any ops listed /\ cal res i = true /\ lightAt P ops b i = true
  ·-- one that hangs not on the world is taken first
   obtain ⟨i,hi,hci,hli⟩:=hlt;have hi':=hi;rw [ready_iff,getD_tf] at hi';obtain ⟨⟨hisz,hiun⟩,o,ho,he⟩:=hi';have hin:i < ops.size:=by omega
   unfold lightAt at hli;simp only [ho,Bool.and_eq_true,List.all_eq_true] at hli;obtain ⟨hl,hfree⟩:=hli;have hst:=any_step (r:=r) (Q:=fun _ _ _=>False) hN hd hb hmk (hstep i hin hci) hls hc hi hci hF (K:=fun a' w'=>∃ g',RelF E (slS s0 ops res b fun k=>(listed.setIfInBounds i true).getD k false) (bxS s0 ops res fun k=>(listed.setIfInBounds i true).getD k false) a' w' g') (fun a' w' g' h _=>⟨g',h⟩)
   obtain ⟨v,hy,g',hF'⟩:∃ v,Yields P ops o v a /\ ∃ g',RelF E (slS s0 ops res b fun k=>(listed.setIfInBounds i true).getD k false) (bxS s0 ops res fun k=>(listed.setIfInBounds i true).getD k false) (a.put o.dst v) w g':=by
    unfold wpOpIn at hst;simp only [ho] at hst;cases hw:Region.wanted o (yielded ops a.tmps) with
    | true=>
     simp only [hw,if_true] at hst;obtain ⟨v,hv,hk⟩:=light_runs hl hst;exact ⟨v,.inl ⟨hw,hv⟩,hk⟩
    | false=>
     simp only [hw,Bool.false_eq_true,if_false] at hst;exact ⟨undef,.inr ⟨hw,rfl⟩,hst.2⟩
   refine take_light hl ho hd.nosel hQp fuel listed a w (fun j oj hj hji hjl hno=>?_) hi hy (ih _ _ _ g' (by simpa using hls) (closed_set hc hi) (more i hi hci) (less i hi) hF')
   have hjs:j < ops.size:=(Array.getElem?_eq_some_iff.1 hj).1;have h1:=hfree j (by simpa using hjs)
   rw [getD_tf] at hjl;simp only [hj,Bool.or_eq_true,beq_iff_eq,hji,false_or] at h1;rcases h1 with h1 | h1 | h1
   ·rcases before_listed hb hc ho he h1 with h2 | h2
    ·rw [hjl.2] at h2; cases h2
    ·exact absurd h2 hji
   ·exact absurd (by simpa using h1) hno
   ·exact h1
  ·-- all that is calm and hangs on the world comes up in whatever order
   by_cases hall:∀ k,k < ops.size -> cal res k = true -> listed.getD k false = true
   ·exact writes hls hc hlm hall hu' hF
   ·have first:∀ k,k < ops.size -> cal res k = true -> (∀ k',k' < k -> cal res k' = true -> listed.getD k' false = true) -> listed.getD k false = false -> k ∈ Region.ready .any ops listed:=fun k hk hck hbef hun=>by
     rw [ready_iff,getD_tf];exact ⟨⟨by omega,hun⟩,ops[k],Array.getElem?_eq_getElem hk,fun j hj=>hbef j (hd.edge k _ (Array.getElem?_eq_getElem hk) j hj) (hd.calm k _ (Array.getElem?_eq_getElem hk) hck j hj)⟩
    have least:∀ n k,k < n -> k < ops.size -> cal res k = true -> listed.getD k false = false -> ∃ k',k' < ops.size /\ cal res k' = true /\ listed.getD k' false = false /\ k' ∈ Region.ready .any ops listed:=by
     intro n;induction n with
     | zero=>intro k hk; omega
     | succ n ihn=>
      intro k hkn hk hck hun;by_cases hbef:∀ k',k' < k -> cal res k' = true -> listed.getD k' false = true
      ·exact ⟨k,hk,hck,hun,first k hk hck hbef hun⟩
      ·obtain ⟨k',hb'⟩:=Classical.not_forall.1 hbef;obtain ⟨h1,h2⟩:=Classical.not_imp.1 hb';obtain ⟨h3,h4⟩:=Classical.not_imp.1 h2;exact ihn k' (by omega) (by omega) h3 (by simpa using h4)
    obtain ⟨k0,hk0⟩:=Classical.not_forall.1 hall;obtain ⟨h1,h2⟩:=Classical.not_imp.1 hk0;obtain ⟨h3,h4⟩:=Classical.not_imp.1 h2;obtain ⟨k1,e1,e2,e3,e4⟩:=least (k0 + 1) k0 (by omega) h1 h3 (by simpa using h4)
    refine ⟨fun h0=>(by rw [h0] at e4; cases e4),fun i hi=>?_⟩
    have hi':=hi;rw [ready_iff,getD_tf] at hi';obtain ⟨⟨hisz,hiun⟩,o,ho,he⟩:=hi';have hin:i < ops.size:=by omega
    cases hci:cal res i with
    | true=>exact any_step hN hd hb hmk (hstep i hin hci) hls hc hi hci hF fun a' w' g' hF' _=>ih _ a' w' g' (by simpa using hls) (closed_set hc hi) (more i hi hci) (less i hi) hF'
    | false=>
     have late:∀ k,k < ops.size -> cal res k = true -> listed.getD k false = false -> u = some k:=fun k hk hck hun=>by
      have first':∀ n k,k < n -> k < ops.size -> cal res k = true -> listed.getD k false = false -> u ≠ some k -> ∃ k',k' < ops.size /\ cal res k' = true /\ listed.getD k' false = false /\ u ≠ some k' /\ k' ∈ Region.ready .any ops listed:=by
       intro n;induction n with
       | zero=>intro k hk; omega
       | succ n ihn=>
        intro k hkn hk hck hun hne;by_cases hbef:∀ k',k' < k -> cal res k' = true -> u ≠ some k' -> listed.getD k' false = true
        ·refine ⟨k,hk,hck,hun,hne,?_⟩;rw [ready_iff,getD_tf];refine ⟨⟨by omega,hun⟩,ops[k],Array.getElem?_eq_getElem hk,fun j hj=>?_⟩
         have hjk:=hd.edge k _ (Array.getElem?_eq_getElem hk) j hj;have hjc:=hd.calm k _ (Array.getElem?_eq_getElem hk) hck j hj;by_cases hju:u = some j
         ·exfalso;have hbit:(b.getD k 0).testBit j = true:=by rw [hb]; exact befs_edge (Array.getElem?_eq_getElem hk) hj
          rw [hu j k hju hk hck (by omega)] at hbit
          cases hbit
         ·exact hbef j hjk hjc hju
        ·obtain ⟨k',hb'⟩:=Classical.not_forall.1 hbef;obtain ⟨h1,h2⟩:=Classical.not_imp.1 hb';obtain ⟨h3,h4⟩:=Classical.not_imp.1 h2;obtain ⟨h5,h6⟩:=Classical.not_imp.1 h4;exact ihn k' (by omega) (by omega) h3 (by simpa using h6) h5
      refine Classical.byContradiction fun hne=>?_
      obtain ⟨k',f1,f2,f3,f4,f5⟩:=first' (k + 1) k (by omega) hk hck hun hne
      rcases htl i k' hin hci f1 f2 with h5 | h5 | h5
      ·rcases before_listed hb hc ho he h5 with h6 | h6
       ·rw [f3] at h6; cases h6
       ·rw [h6] at f2; rw [hci] at f2; cases f2
      ·exact hlt ⟨k',f5,f2,h5⟩
      ·exact f4 h5
     have hk1:=late k1 e1 e2 e3;refine side hk1 hls hc hlm (fun j hj hcj hjk=>?_) e3 hu' hF hi hci
     cases hl:listed.getD j false with
     | true=>rfl
     | false=>
      have:=late j hj hcj hl;rw [hk1] at this;injection this with this;exact absurd this.symm hjk
theorem draw_sound (hN:N = E.N) (hd:DF ops res s0 b) (ht:DT P ops res b) (hb:b = befs ops.toList []) (hstep:∀ i,i < ops.size -> cal res i = true -> StepOk P N ops hints s0 res i) (hend:Txt s0 ops res ops.size s1) {Kp:St -> Prop} (htail:Goes P r E ops Kp ((tailOf ops res).filterMap fun j=>ops[j]?) s1)
  (hQp:∀ c a w,¬ Q (.panic c) a w) (hQ:∀ s2 a' w' g',Kp s2 -> Rel E s2 a' w' g' -> Q .normal a' w'):∀ (fuel:Nat) (listed:Array Bool) (a:Act) (w:World) (g:Gh),listed.size = ops.size -> Closed ops (fun k=>listed.getD k false = true) -> (∀ k,listed.getD k false = true -> cal res k = true) ->
   unl (fun k=>listed.getD k false) ops.size <= fuel -> RelF E (slS s0 ops res b fun k=>listed.getD k false) (bxS s0 ops res fun k=>listed.getD k false) a w g -> wpAnyIn (Fr r) 9 P .any ops Q fuel listed a w:=by
 have writes:∀ {fuel:Nat} {listed:Array Bool} {a:Act} {w:World} {g:Gh},listed.size = ops.size -> Closed ops (fun k=>listed.getD k false = true) -> (∀ k,listed.getD k false = true -> cal res k = true) -> (∀ k,k < ops.size -> cal res k = true -> listed.getD k false = true) ->
   unl (fun k=>listed.getD k false) ops.size <= fuel -> RelF E (slS s0 ops res b fun k=>listed.getD k false) (bxS s0 ops res fun k=>listed.getD k false) a w g -> wpAnyIn (Fr r) 9 P .any ops Q fuel listed a w:=fun {fuel listed a w g} hls hc hlm hall hu hF=>by
  have e:tailOf ops res = (List.range ops.size).filter fun k=>!listed.getD k false:=by
   unfold tailOf;refine List.filter_congr fun k hk=>?_
   have hk:k < ops.size:=by simpa using hk
   cases hcl:cal res k with
   | true=>rw [hall k hk hcl]
   | false=>
    cases hl:listed.getD k false with
    | false=>rfl
    | true=>rw [hlm k hl] at hcl; cases hcl
  refine tail_sound (r:=r) (Q:=Q) hd ht hb (tailOf ops res) _ fuel s1 listed a w g rfl (fun j hj=>?_) ?_ hls hc (fun k hk=>?_) ?_ htail (to_end hd hend hall hF) hQ
  ·unfold tailOf at hj;rw [List.mem_filter] at hj;simpa using hj.1
  ·have hlt:(tailOf ops res).Pairwise (· < ·):=(List.pairwise_lt_range).filter _;refine hlt.imp_of_mem fun {p q} hp hq hpq=>⟨hpq,?_⟩
   unfold tailOf at hp hq;rw [List.mem_filter] at hp hq;exact ht.order q p (by simpa using hq.1) (by simpa using hq.2) hpq (by simpa using hp.2)
  ·unfold tailOf;rw [List.mem_filter];constructor
   ·intro h1 h2;rw [hlm k h1] at h2;simp at h2
   ·intro h1;refine hall k hk ?_;cases hcl:cal res k with
    | true=>rfl
    | false=>exact absurd ⟨by simpa using hk,by simp [hcl]⟩ h1
  ·rw [e,unl_filter];exact hu
 exact draw_core (u:=none) hN hd hb (makes_dst hstep) hstep (fun i k hi hci hk hck=>(ht.tail i k hi hci hk hck).imp id .inl) (fun k i h=>by cases h) hQp writes (fun h=>by cases h)
end
end Go.Proofs.YthnagpmnoncijaaGreat.M
