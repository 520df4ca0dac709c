/- FrameTiles: the law answers true to whatever it is given: the row. -/
import Derived.Test.YthnagpmnoncijaaGreatRows
import Derived.Test.YthnagpmnoncijaaGreatWalk1
import Derived.Test.YthnagpmnoncijaaGreatMchZ
import Derived.Test.YthnagpmnoncijaaGreatP36
import Derived.OpenShut
import Derived.ChangeOld
import Derived.Below
set_option linter.unusedVariables false
namespace Go.Proofs.YthnagpmnoncijaaGreat.frameTiles
open Go.ChangeShapes Go.WideShapes Go.ChangeAt Go.RowKit Go Go.Proofs.YthnagpmnoncijaaGreat.M Go.Proofs.YthnagpmnoncijaaGreat.G

theorem own:ownKnob Tryz.prog.godebug = none:=by kernel_rfl
theorem laidOut:laidOutB Tryz.prog = true:=by kernel_rfl

set_option maxRecDepth 100000 in
theorem lifted (os:Os) (started:os.Started) (H:Type) (enc:TypeId × Value -> H) :
    ReturnsInHanded {} Tryz.checked os 4 .any (Rows.frameTilesSpec.pre6 enc Tryz.prog Tryz.f4 Rows.frameTilesRow.domain false) (Rows.frameTilesSpec.post enc Tryz.prog Tryz.f4 false true false false):=by
  refine returnsInHanded_of_change (C:=Tryz.checked) own started (by kernel_rfl) Tryz.func4
    (ChangeSpec.witness6 (enc:=enc) (C:=Tryz.checked) false ⟨#[],#[.agg #[.int .u8 (0),.int .u8 (0)],.int .u8 (0),.int .u16 (0)],[]⟩ 8 (by kernel_rfl) (by kernel_rfl) (by kernel_rfl) (by kernel_rfl)) ?_
  intro W base args ds gs before hval0 hW hcnd _
  have hval:∀ (j:Nat) t v,Tryz.f4.params[j]? = some t -> args[j]? = some v -> Value.okWide Tryz.prog W .any base t v:=hval0
  have hW':=hW
  obtain ⟨p,q,hA0,hV,rfl,hfz,hnd⟩:=hW
  have hA:DataW.TrodAll enc Tryz.prog W 0 (fun _=>true) true Tryz.f4.params.toList args.toList ds p:=hA0
  rw [Tryz.params4] at hA hval
  obtain ⟨v0,vs0,d0,ds0,p0,q0,hargs,rfl,rfl,h0,r0⟩:=trodAll_cons hA
  obtain ⟨v1,vs1,d1,ds1,p1,q1,rfl,rfl,rfl,h1,r1⟩:=trodAll_cons r0
  obtain ⟨v2,vs2,d2,ds2,p2,q2,rfl,rfl,rfl,h2,r2⟩:=trodAll_cons r1
  obtain ⟨rfl,rfl,rfl⟩:=trodAll_nil r2
  obtain rfl:args = #[v0,v1,v2]:=by cases args; simp_all
  obtain ⟨rfl,rfl⟩:=trodVars_none hV
  have k0:=h0
  have lt0:∀ x ∈ p0,x.block < W.heap.size:=by obtain ⟨m,hm⟩:=k0; exact DataW.trod_lt m _ _ _ hm
  obtain ⟨x0,s0,o0⟩:=arg_in true (.pair (.int .u8) (.int .u8)) (n:=8) (by kernel_rfl) (hval 0 48 v0 rfl rfl) h0 (by kernel_rfl)
  have k1:=h1
  have lt1:∀ x ∈ p1,x.block < W.heap.size:=by obtain ⟨m,hm⟩:=k1; exact DataW.trod_lt m _ _ _ hm
  obtain ⟨x1,s1,o1⟩:=arg_in false (.int .u8) (n:=8) (by kernel_rfl) (hval 1 5 v1 rfl rfl) h1 (by kernel_rfl)
  have k2:=h2
  have lt2:∀ x ∈ p2,x.block < W.heap.size:=by obtain ⟨m,hm⟩:=k2; exact DataW.trod_lt m _ _ _ hm
  obtain ⟨x2,s2,o2⟩:=arg_in false (.int .u16) (n:=8) (by kernel_rfl) (hval 2 49 v2 rfl rfl) h2 (by kernel_rfl)
  obtain ⟨fl,hfl⟩:=law x0 x1 x2 o0 o1 o2
  have hP:=Ent.calls (glazierlaw23_FrameTiles_ok fl) (y:=(x0,(x1,x2))) (b:=true) hfl (w:=W) (vs:=[v0,v1,v2]) rfl ⟨s0,s1,s2,trivial⟩
  refine hP.mono fun e W' ⟨he,bel⟩=>?_
  subst he
  exact ⟨_,rfl,_,_,_,[],_,[],hW',trodAll_mk1 (shut_bool Tryz.underlying4 _),(trodAll_cons_mk (Below.trod laidOut (by kernel_rfl) (of_decide_eq_true (by kernel_rfl)) k0 bel lt0) (trodAll_cons_mk (Below.trod laidOut (by kernel_rfl) (of_decide_eq_true (by kernel_rfl)) k1 bel lt1) (trodAll_cons_mk (Below.trod laidOut (by kernel_rfl) (of_decide_eq_true (by kernel_rfl)) k2 bel lt2) trodAll_mk0))),rfl,bel.frame _,fun h=>by cases h⟩

theorem over:Rows.frameTilesRow.holds Tryz.pinned (OpenSpec.ofChange Rows.frameTilesSpec):=
  OpenClaim.holds_of_wide 4 Tryz.f4 rfl rfl rfl rfl rfl rfl rfl ⟨rfl,rfl,rfl,rfl,rfl⟩ rfl rfl rfl rfl rfl (by kernel_rfl) Tryz.func4 (by kernel_rfl)
    (of_decide_eq_true (by kernel_rfl)) (by unfold Func.isWrapper; first | (rw [if_pos (by decide +kernel)]; kernel_rfl) | (rw [if_neg (by decide +kernel)]; exact ⟨rfl,rfl⟩))
    (fun os started H enc _=>lifted os started H enc)

/-- The statement. -/
theorem proved:Rows.FrameTilesSaid:=over
end Go.Proofs.YthnagpmnoncijaaGreat.frameTiles
