/- Each part of the law, put together. -/
import Derived.Test.YthnagpmnoncijaaGreatMchZ
import Derived.Test.YthnagpmnoncijaaGreatGen
import Derived.KernelRfl
set_option linter.unusedVariables false
set_option maxRecDepth 100000
namespace Go.Proofs.YthnagpmnoncijaaGreat.G
open Go Go.RowKit Go.Proofs.YthnagpmnoncijaaGreat.M
theorem wrapI {n:Int} (h1:-9223372036854775808 <= n) (h2:n <= 9223372036854775807):IntKind.wrap .i64 n = n:=by
 simp only [IntKind.wrap,IntKind.bits,IntKind.signed];simp;split <;> omega
theorem inR_u8 {x:Int}:inR .u8 x ↔ 0 <= x /\ x <= 255:=by
 unfold inR;simp [Lit.wf,IntKind.min,IntKind.max,IntKind.signed,IntKind.bits]
/-! ### The words, of numbers that fit -/
theorem bnd_eq {α β:Type} (e:α) (f:α -> Option β):bnd e f = f e:=rfl
theorem ob_some {α β:Type} (e:α) (f:α -> Option β):obind (some e) f = f e:=rfl
theorem bite_t {β:Type} (x y:Option β):bite true x y = x:=rfl
theorem bite_f {β:Type} (x y:Option β):bite false x y = y:=rfl
theorem bgd_t {β:Type} (x:Option β):bgd true x = x:=rfl
theorem addI {a b:Int} (h:-9223372036854775808 <= a + b /\ a + b <= 9223372036854775807):F.add .i64 a b = a + b:=wrapI h.1 h.2
theorem mulI {a b:Int} (h:-9223372036854775808 <= a * b /\ a * b <= 9223372036854775807):F.mul .i64 a b = a * b:=wrapI h.1 h.2
theorem convI {a:Int} (h:-9223372036854775808 <= a /\ a <= 9223372036854775807):F.conv .i64 a = a:=wrapI h.1 h.2
theorem f_min {a b:Int}:F.min a b = min a b:=by unfold F.min; split <;> omega
theorem f_max {a b:Int}:F.max a b = max a b:=by unfold F.max; split <;> omega
theorem eq_t {a b:Int} (h:a = b):F.eq a b = true:=decide_eq_true h
theorem eq_f {a b:Int} (h:a ≠ b):F.eq a b = false:=decide_eq_false h
theorem lt_t {a b:Int} (h:a < b):F.lt a b = true:=decide_eq_true h
theorem lt_f {a b:Int} (h:b <= a):F.lt a b = false:=decide_eq_false (by omega)
theorem le_t {a b:Int} (h:a <= b):F.le a b = true:=decide_eq_true h
theorem gt_t {a b:Int} (h:b < a):F.gt a b = true:=decide_eq_true h
theorem gt_f {a b:Int} (h:a <= b):F.gt a b = false:=decide_eq_false (by omega)
theorem ge_t {a b:Int} (h:b <= a):F.ge a b = true:=decide_eq_true h
theorem ge_f {a b:Int} (h:a < b):F.ge a b = false:=decide_eq_false (by omega)
theorem nz_t {a:Int} (h:a ≠ 0):F.nonzero a = true:=decide_eq_true h
end Go.Proofs.YthnagpmnoncijaaGreat.G
namespace Go.Proofs.YthnagpmnoncijaaGreat.G
open Go Go.RowKit Go.Proofs.YthnagpmnoncijaaGreat.M
theorem lgetK {α:Type} {l:List α} {k:Nat} (h:k < l.length):F.get l (k:Int) = some l[k]:=by
 unfold F.get;rw [if_pos (Int.natCast_nonneg k),Int.toNat_natCast,List.getElem?_eq_getElem h]
theorem lenK {α:Type} (l:List α):F.len l = (l.length:Int):=rfl
theorem appOk_t {α β:Type} {n:Nat} {l:List α} {m:List β} (h:l.length + m.length <= 100000) (hn:n <= 100000):F.appOk n l m = true:=by
 unfold F.appOk;have h2:(l.length + m.length) * n <= 100000 * 100000:=Nat.mul_le_mul h hn;rw [decide_eq_true (by simp only [maxLen]; omega),decide_eq_true (by omega)]
 rfl
theorem appK {α:Type} (l m:List α):F.app l m = l ++ m:=rfl
end Go.Proofs.YthnagpmnoncijaaGreat.G
namespace Go.Proofs.YthnagpmnoncijaaGreat.G
open Go Go.RowKit Go.Proofs.YthnagpmnoncijaaGreat.M
abbrev Sc:=Int × Int × (Int × Int × Int × Int) × (List (Int × Int × Int × Int × Int × Int × Int × Int)) × (List (Int × Int × List (Int × Int × Int × Int))) × (List (List (Int × Int × Int × Int × Int))) × List (Int × Int × Int × Bool × List (Int × Int × Int × Int))
abbrev Res:=(Int × Int × List (Int × Int × Int × Int)) × (List Int × Int × Int × Int × Int × Int) × Int
theorem nilE_same {β:Type} (n:Int) (x:Option β):nilE n x x = x:=by
 unfold nilE either;split
 ·rw [if_pos rfl]
 ·rfl
theorem render_at {fl:Nat} {x:Sc} {room tile:Int} (h1:1 <= room) (h2:room <= 65536) (ht:tile = 8):∃ f:Int -> Option Res,(f 0 = (obind (frags_New x) fun q41=>
     obind (prepass_New x.1 x.2.1) fun q42=>
     bnd (F.mul .i64 x.1 x.2.1) fun v43=>
     bgd (F.fillOk 4 v43) (
      bnd (F.len q41.2.2.2.2.2.2.2.2.2.1) fun v44=>
      obind (frame_Render_i79_l2 fl fl q41.2.2.2.2.2.2.2.2.2.1 v44 0 room tile x.1 x.2.1 x.2.2.1.1 x.2.2.1.2.1 x.2.2.1.2.2.1 x.2.2.1.2.2.2 x.2.2.2.1 x.2.2.2.2.1 x.2.2.2.2.2.1 x.2.2.2.2.2.2 room tile q41.1 q41.2.1 q41.2.2.1 q41.2.2.2.1 q41.2.2.2.2.1 q41.2.2.2.2.2.1 q41.2.2.2.2.2.2.1 q41.2.2.2.2.2.2.2.1 q41.2.2.2.2.2.2.2.2.1 q41.2.2.2.2.2.2.2.2.2.1 x.1 x.2.1 x.2.2.1.1 x.2.2.1.2.1 x.2.2.1.2.2.1 x.2.2.1.2.2.2 x.2.2.2.1 x.2.2.2.2.1 x.2.2.2.2.2.1 x.2.2.2.2.2.2 q41.1 q41.2.1 q41.2.2.1 q41.2.2.2.1 q41.2.2.2.2.1 q41.2.2.2.2.2.1 q41.2.2.2.2.2.2.1 q41.2.2.2.2.2.2.2.1 q41.2.2.2.2.2.2.2.2.1 q41.2.2.2.2.2.2.2.2.2.1 q42.1 q42.2.1 x.1 x.2.1 x.2.2.1.1 x.2.2.1.2.1 x.2.2.1.2.2.1 x.2.2.1.2.2.2 x.2.2.2.1 x.2.2.2.2.1 x.2.2.2.2.2.1 x.2.2.2.2.2.2 room tile x.1 x.2.1 (F.fill v43 (0,(0,(0,0)))) x.1 x.2.1) fun q45=>
      obind (frame_Tiles fl q45.2.2.2.2.2.2.2.2.2.2.2.2.2.2.2.2.2.2.2.2.2.2.2.2.1 q45.2.2.2.2.2.2.2.2.2.2.2.2.2.2.2.2.2.2.2.2.2.2.2.2.2.1 q45.2.1) fun q46=>
      bnd (F.len q46) fun v47=>
      obind (frame_Render_l1 fl fl q46 v47 0 q45.2.2.2.2.2.2.2.2.2.2.2.2.2.2.2.2.2.2.2.2.2.2.2.2.2.2.2.2.2.2.2.2.2.2.1 q45.2.2.2.2.2.2.2.2.2.2.2.2.2.2.2.2.2.2.2.2.2.2.2.2.2.2.2.2.2.2.2.2.2.2.2.1 q45.2.2.2.2.2.2.2.2.2.2.2.2.2.2.2.2.2.2.2.2.2.2.2.2.2.2.2.2.2.2.2.2.2.2.2.2.1 q45.2.2.2.2.2.2.2.2.2.2.2.2.2.2.2.2.2.2.2.2.2.2.2.2.2.2.2.2.2.2.2.2.2.2.2.2.2.1 q45.2.2.2.2.2.2.2.2.2.2.2.2.2.2.2.2.2.2.2.2.2.2.2.2.2.2.2.2.2.2.2.2.2.2.2.2.2.2.1 q45.2.2.2.2.2.2.2.2.2.2.2.2.2.2.2.2.2.2.2.2.2.2.2.2.2.2.2.2.2.2.2.2.2.2.2.2.2.2.2.1 q45.2.2.2.2.2.2.2.2.2.2.2.2.2.2.2.2.2.2.2.2.2.2.2.2.2.2.2.2.2.2.2.2.2.2.2.2.2.2.2.2.1 q45.2.2.2.2.2.2.2.2.2.2.2.2.2.2.2.2.2.2.2.2.2.2.2.2.2.2.2.2.2.2.2.2.2.2.2.2.2.2.2.2.2.2.2.1 q45.2.2.2.2.2.2.2.2.2.2.2.2.2.2.2.2.2.2.2.2.2.2.2.2.2.2.2.2.2.2.2.2.2.2.2.2.2.2.2.2.2.2.2.2.1 q45.2.2.2.2.2.2.2.2.2.2.2.2.2.2.2.2.2.2.2.2.2.2.2.2.2.2.2.2.2.2.2.2.2.2.2.2.2.2.2.2.2.2.2.2.2.1 q45.2.2.2.2.2.2.2.2.2.2.2.2.2.2.2.2.2.2.2.2.2.2.2.2.2.2.2.2.2.2.2.2.2.2.2.2.2.2.2.2.2.2.2.2.2.2.1 q45.2.2.2.2.2.2.2.2.2.2.2.2.2.2.2.2.2.2.2.2.2.2.2.2.2.2.2.2.2.2.2.2.2.2.2.2.2.2.2.2.2.2.2.2.2.2.2.1 q45.2.2.2.2.2.2.2.2.2.2.2.2.2.2.2.2.2.2.2.2.2.2.2.2.2.2.2.2.2.2.2.2.2.2.2.2.2.2.2.2.2.2.2.2.2.2.2.2.1 q45.2.2.2.2.2.2.2.2.2.2.2.2.2.2.2.2.2.2.2.2.2.2.2.2.2.2.2.2.2.2.2.2.2.2.2.2.2.2.2.2.2.2.2.2.2.2.2.2.2.1 q45.2.2.2.2.2.2.2.2.2.2.2.2.2.2.2.2.2.2.2.2.2.2.2.2.2.2.2.2.2.2.2.2.2.2.2.2.2.2.2.2.2.2.2.2.2.2.2.2.2.2.1 q45.2.2.2.2.2.2.2.2.2.2.2.2.2.2.2.2.2.2.2.2.2.2.2.2.2.2.2.2.2.2.2.2.2.2.2.2.2.2.2.2.2.2.2.2.2.2.2.2.2.2.2.1 q45.2.2.2.2.2.2.2.2.2.2.2.2.2.2.2.2.2.2.2.2.2.2.2.2.2.2.2.2.2.2.2.2.2.2.2.2.2.2.2.2.2.2.2.2.2.2.2.2.2.2.2.2.1 q45.2.2.2.2.2.2.2.2.2.2.2.2.2.2.2.2.2.2.2.2.2.2.2.2.2.2.2.2.2.2.2.2.2.2.2.2.2.2.2.2.2.2.2.2.2.2.2.2.2.2.2.2.2.2.2.1 q45.2.2.2.2.2.2.2.2.2.2.2.2.2.2.2.2.2.2.2.2.2.2.2.2.2.2.2.2.2.2.2.2.2.2.2.2.2.2.2.2.2.2.2.2.2.2.2.2.2.2.2.2.2.2.2.2.1 q45.2.2.2.2.2.2.2.2.2.2.2.2.2.2.2.2.2.2.2.2.2.2.2.2.2.2.2.2.2.2.2.2.2.2.2.2.2.2.2.2.2.2.2.2.2.2.2.2.2.2.2.2.2.2.2.2.2.1 q45.2.2.2.2.2.2.2.2.2.2.2.2.2.2.2.2.2.2.2.2.2.2.2.2.2.2.2.2.2.2.2.2.2.2.2.2.2.2.2.2.2.2.2.2.2.2.2.2.2.2.2.2.2.2.2.2.2.2.1 q45.2.2.2.2.2.2.2.2.2.2.2.2.2.2.2.2.2.2.2.2.2.2.2.2.2.2.2.2.2.2.2.2.2.2.2.2.2.2.2.2.2.2.2.2.2.2.2.2.2.2.2.2.2.2.2.2.2.2.2.1 q45.2.2.2.2.2.2.2.2.2.2.2.2.2.2.2.2.2.2.2.2.2.2.2.2.2.2.2.2.2.2.2.2.2.2.2.2.2.2.2.2.2.2.2.2.2.2.2.2.2.2.2.2.2.2.2.2.2.2.2.2.1 0 0 0) fun q48=>
      some ((q48.2.2.2.2.2.2.2.2.2.2.2.2.2.2.2.2.2.2.2.2.1,(q48.2.2.2.2.2.2.2.2.2.2.2.2.2.2.2.2.2.2.2.2.2.1,q48.2.2.2.2.2.2.2.2.2.2.2.2.2.2.2.2.2.2.2.2.2.2.1)),(([],(q48.2.2.2.2.2.2.2.2.2.2.2.2.2.2.2.2.2.2.2.2.2.2.2.1,(q48.2.2.2.2.2.2.2.2.2.2.2.2.2.2.2.2.2.2.2.2.2.2.2.2.1,(q48.2.2.2.2.2.2.2.2.2.2.2.2.2.2.2.2.2.2.2.2.2.2.2.2.2.1,(0,0))))),0))))) /\ frame_Render fl x room tile = obind (scene_Check fl x) f:=by
 unfold frame_Render;rw [bnd_eq,lt_f (by omega),bite_f,bnd_eq,gt_f (by omega),bite_f]
 subst ht;exact ⟨_,rfl,rfl⟩
def S1:Sc:=(1,(1,((0,(0,(0,255))),([],([],([],[]))))))
theorem S1_tail (m:Nat):(obind (frags_New S1) fun q41=>
     obind (prepass_New S1.1 S1.2.1) fun q42=>
     bnd (F.mul .i64 S1.1 S1.2.1) fun v43=>
     bgd (F.fillOk 4 v43) (
      bnd (F.len q41.2.2.2.2.2.2.2.2.2.1) fun v44=>
      obind (frame_Render_i79_l2 (m + 5) (m + 5) q41.2.2.2.2.2.2.2.2.2.1 v44 0 1 8 S1.1 S1.2.1 S1.2.2.1.1 S1.2.2.1.2.1 S1.2.2.1.2.2.1 S1.2.2.1.2.2.2 S1.2.2.2.1 S1.2.2.2.2.1 S1.2.2.2.2.2.1 S1.2.2.2.2.2.2 1 8 q41.1 q41.2.1 q41.2.2.1 q41.2.2.2.1 q41.2.2.2.2.1 q41.2.2.2.2.2.1 q41.2.2.2.2.2.2.1 q41.2.2.2.2.2.2.2.1 q41.2.2.2.2.2.2.2.2.1 q41.2.2.2.2.2.2.2.2.2.1 S1.1 S1.2.1 S1.2.2.1.1 S1.2.2.1.2.1 S1.2.2.1.2.2.1 S1.2.2.1.2.2.2 S1.2.2.2.1 S1.2.2.2.2.1 S1.2.2.2.2.2.1 S1.2.2.2.2.2.2 q41.1 q41.2.1 q41.2.2.1 q41.2.2.2.1 q41.2.2.2.2.1 q41.2.2.2.2.2.1 q41.2.2.2.2.2.2.1 q41.2.2.2.2.2.2.2.1 q41.2.2.2.2.2.2.2.2.1 q41.2.2.2.2.2.2.2.2.2.1 q42.1 q42.2.1 S1.1 S1.2.1 S1.2.2.1.1 S1.2.2.1.2.1 S1.2.2.1.2.2.1 S1.2.2.1.2.2.2 S1.2.2.2.1 S1.2.2.2.2.1 S1.2.2.2.2.2.1 S1.2.2.2.2.2.2 1 8 S1.1 S1.2.1 (F.fill v43 (0,(0,(0,0)))) S1.1 S1.2.1) fun q45=>
      obind (frame_Tiles (m + 5) q45.2.2.2.2.2.2.2.2.2.2.2.2.2.2.2.2.2.2.2.2.2.2.2.2.1 q45.2.2.2.2.2.2.2.2.2.2.2.2.2.2.2.2.2.2.2.2.2.2.2.2.2.1 q45.2.1) fun q46=>
      bnd (F.len q46) fun v47=>
      obind (frame_Render_l1 (m + 5) (m + 5) q46 v47 0 q45.2.2.2.2.2.2.2.2.2.2.2.2.2.2.2.2.2.2.2.2.2.2.2.2.2.2.2.2.2.2.2.2.2.2.1 q45.2.2.2.2.2.2.2.2.2.2.2.2.2.2.2.2.2.2.2.2.2.2.2.2.2.2.2.2.2.2.2.2.2.2.2.1 q45.2.2.2.2.2.2.2.2.2.2.2.2.2.2.2.2.2.2.2.2.2.2.2.2.2.2.2.2.2.2.2.2.2.2.2.2.1 q45.2.2.2.2.2.2.2.2.2.2.2.2.2.2.2.2.2.2.2.2.2.2.2.2.2.2.2.2.2.2.2.2.2.2.2.2.2.1 q45.2.2.2.2.2.2.2.2.2.2.2.2.2.2.2.2.2.2.2.2.2.2.2.2.2.2.2.2.2.2.2.2.2.2.2.2.2.2.1 q45.2.2.2.2.2.2.2.2.2.2.2.2.2.2.2.2.2.2.2.2.2.2.2.2.2.2.2.2.2.2.2.2.2.2.2.2.2.2.2.1 q45.2.2.2.2.2.2.2.2.2.2.2.2.2.2.2.2.2.2.2.2.2.2.2.2.2.2.2.2.2.2.2.2.2.2.2.2.2.2.2.2.1 q45.2.2.2.2.2.2.2.2.2.2.2.2.2.2.2.2.2.2.2.2.2.2.2.2.2.2.2.2.2.2.2.2.2.2.2.2.2.2.2.2.2.2.2.1 q45.2.2.2.2.2.2.2.2.2.2.2.2.2.2.2.2.2.2.2.2.2.2.2.2.2.2.2.2.2.2.2.2.2.2.2.2.2.2.2.2.2.2.2.2.1 q45.2.2.2.2.2.2.2.2.2.2.2.2.2.2.2.2.2.2.2.2.2.2.2.2.2.2.2.2.2.2.2.2.2.2.2.2.2.2.2.2.2.2.2.2.2.1 q45.2.2.2.2.2.2.2.2.2.2.2.2.2.2.2.2.2.2.2.2.2.2.2.2.2.2.2.2.2.2.2.2.2.2.2.2.2.2.2.2.2.2.2.2.2.2.1 q45.2.2.2.2.2.2.2.2.2.2.2.2.2.2.2.2.2.2.2.2.2.2.2.2.2.2.2.2.2.2.2.2.2.2.2.2.2.2.2.2.2.2.2.2.2.2.2.1 q45.2.2.2.2.2.2.2.2.2.2.2.2.2.2.2.2.2.2.2.2.2.2.2.2.2.2.2.2.2.2.2.2.2.2.2.2.2.2.2.2.2.2.2.2.2.2.2.2.1 q45.2.2.2.2.2.2.2.2.2.2.2.2.2.2.2.2.2.2.2.2.2.2.2.2.2.2.2.2.2.2.2.2.2.2.2.2.2.2.2.2.2.2.2.2.2.2.2.2.2.1 q45.2.2.2.2.2.2.2.2.2.2.2.2.2.2.2.2.2.2.2.2.2.2.2.2.2.2.2.2.2.2.2.2.2.2.2.2.2.2.2.2.2.2.2.2.2.2.2.2.2.2.1 q45.2.2.2.2.2.2.2.2.2.2.2.2.2.2.2.2.2.2.2.2.2.2.2.2.2.2.2.2.2.2.2.2.2.2.2.2.2.2.2.2.2.2.2.2.2.2.2.2.2.2.2.1 q45.2.2.2.2.2.2.2.2.2.2.2.2.2.2.2.2.2.2.2.2.2.2.2.2.2.2.2.2.2.2.2.2.2.2.2.2.2.2.2.2.2.2.2.2.2.2.2.2.2.2.2.2.1 q45.2.2.2.2.2.2.2.2.2.2.2.2.2.2.2.2.2.2.2.2.2.2.2.2.2.2.2.2.2.2.2.2.2.2.2.2.2.2.2.2.2.2.2.2.2.2.2.2.2.2.2.2.2.2.2.1 q45.2.2.2.2.2.2.2.2.2.2.2.2.2.2.2.2.2.2.2.2.2.2.2.2.2.2.2.2.2.2.2.2.2.2.2.2.2.2.2.2.2.2.2.2.2.2.2.2.2.2.2.2.2.2.2.2.1 q45.2.2.2.2.2.2.2.2.2.2.2.2.2.2.2.2.2.2.2.2.2.2.2.2.2.2.2.2.2.2.2.2.2.2.2.2.2.2.2.2.2.2.2.2.2.2.2.2.2.2.2.2.2.2.2.2.2.1 q45.2.2.2.2.2.2.2.2.2.2.2.2.2.2.2.2.2.2.2.2.2.2.2.2.2.2.2.2.2.2.2.2.2.2.2.2.2.2.2.2.2.2.2.2.2.2.2.2.2.2.2.2.2.2.2.2.2.2.1 q45.2.2.2.2.2.2.2.2.2.2.2.2.2.2.2.2.2.2.2.2.2.2.2.2.2.2.2.2.2.2.2.2.2.2.2.2.2.2.2.2.2.2.2.2.2.2.2.2.2.2.2.2.2.2.2.2.2.2.2.1 q45.2.2.2.2.2.2.2.2.2.2.2.2.2.2.2.2.2.2.2.2.2.2.2.2.2.2.2.2.2.2.2.2.2.2.2.2.2.2.2.2.2.2.2.2.2.2.2.2.2.2.2.2.2.2.2.2.2.2.2.2.1 0 0 0) fun q48=>
      some ((q48.2.2.2.2.2.2.2.2.2.2.2.2.2.2.2.2.2.2.2.2.1,(q48.2.2.2.2.2.2.2.2.2.2.2.2.2.2.2.2.2.2.2.2.2.1,q48.2.2.2.2.2.2.2.2.2.2.2.2.2.2.2.2.2.2.2.2.2.2.1)),(([],(q48.2.2.2.2.2.2.2.2.2.2.2.2.2.2.2.2.2.2.2.2.2.2.2.1,(q48.2.2.2.2.2.2.2.2.2.2.2.2.2.2.2.2.2.2.2.2.2.2.2.2.1,(q48.2.2.2.2.2.2.2.2.2.2.2.2.2.2.2.2.2.2.2.2.2.2.2.2.2.1,(0,0))))),0)))) = some (((1,(1,[(0,(0,(0,255)))])),(([],(1,(0,(0,(0,0))))),0)):Res):=by
 rw [show frags_New S1 = some (1,(1,(0,(0,(0,(255,([],([],([],([],())))))))))) from rfl,ob_some,
  show prepass_New S1.1 S1.2.1 = some (1,(1,())) from rfl,ob_some,bnd_eq,show F.mul .i64 S1.1 S1.2.1 = 1 from rfl,show F.fillOk 4 1 = true from rfl,bgd_t,bnd_eq]
 refine (congrArg (fun z=>obind z _) (show frame_Render_i79_l2 (m + 5) (m + 5) (S1.2.2.2.2.2.2) 0 0 1 8 (S1.1) (S1.2.1) (S1.2.2.1.1) (S1.2.2.1.2.1) (S1.2.2.1.2.2.1) (S1.2.2.1.2.2.2) (S1.2.2.2.1) (S1.2.2.2.2.1) (S1.2.2.2.2.2.1) (S1.2.2.2.2.2.2) 1 8 (S1.1) (S1.2.1) (S1.2.2.1.1) (S1.2.2.1.2.1) (S1.2.2.1.2.2.1) (S1.2.2.1.2.2.2) (S1.2.2.2.1) (S1.2.2.2.2.1) (S1.2.2.2.2.2.1) (S1.2.2.2.2.2.2) (S1.1) (S1.2.1) (S1.2.2.1.1) (S1.2.2.1.2.1) (S1.2.2.1.2.2.1) (S1.2.2.1.2.2.2) (S1.2.2.2.1) (S1.2.2.2.2.1) (S1.2.2.2.2.2.1) (S1.2.2.2.2.2.2) (S1.1) (S1.2.1) (S1.2.2.1.1) (S1.2.2.1.2.1) (S1.2.2.1.2.2.1) (S1.2.2.1.2.2.2) (S1.2.2.2.1) (S1.2.2.2.2.1) (S1.2.2.2.2.2.1) (S1.2.2.2.2.2.2) (F.min (F.max S1.1 0) 64) (F.min (F.max S1.2.1 0) 64) (S1.1) (S1.2.1) (S1.2.2.1.1) (S1.2.2.1.2.1) (S1.2.2.1.2.2.1) (S1.2.2.1.2.2.2) (S1.2.2.2.1) (S1.2.2.2.2.1) (S1.2.2.2.2.2.1) (S1.2.2.2.2.2.2) 1 8 (S1.1) (S1.2.1) (F.fill (S1.1 * S1.2.1) (0,(0,(0,0)))) (S1.1) (S1.2.1) = some (1,(8,((S1.1),((S1.2.1),((S1.2.2.1.1),((S1.2.2.1.2.1),((S1.2.2.1.2.2.1),((S1.2.2.1.2.2.2),((S1.2.2.2.1),((S1.2.2.2.2.1),((S1.2.2.2.2.2.1),((S1.2.2.2.2.2.2),(1,(8,((S1.1),((S1.2.1),((S1.2.2.1.1),((S1.2.2.1.2.1),((S1.2.2.1.2.2.1),((S1.2.2.1.2.2.2),((S1.2.2.2.1),((S1.2.2.2.2.1),((S1.2.2.2.2.2.1),((S1.2.2.2.2.2.2),((S1.1),((S1.2.1),((S1.2.2.1.1),((S1.2.2.1.2.1),((S1.2.2.1.2.2.1),((S1.2.2.1.2.2.2),((S1.2.2.2.1),((S1.2.2.2.2.1),((S1.2.2.2.2.2.1),((S1.2.2.2.2.2.2),((S1.1),((S1.2.1),((S1.2.2.1.1),((S1.2.2.1.2.1),((S1.2.2.1.2.2.1),((S1.2.2.1.2.2.2),((S1.2.2.2.1),((S1.2.2.2.2.1),((S1.2.2.2.2.2.1),((S1.2.2.2.2.2.2),((F.min (F.max S1.1 0) 64),((F.min (F.max S1.2.1 0) 64),((S1.1),((S1.2.1),((S1.2.2.1.1),((S1.2.2.1.2.1),((S1.2.2.1.2.2.1),((S1.2.2.1.2.2.2),((S1.2.2.2.1),((S1.2.2.2.2.1),((S1.2.2.2.2.2.1),((S1.2.2.2.2.2.2),(1,(8,((S1.1),((S1.2.1),((F.fill (S1.1 * S1.2.1) (0,(0,(0,0)))),((S1.1),((S1.2.1),()))))))))))))))))))))))))))))))))))))))))))))))))))))))))))))))) from rfl)).trans ?_
 rw [ob_some];refine (congrArg (fun z=>obind z _) (show frame_Tiles (m + 5) S1.1 S1.2.1 8 = some [(0,(0,(1,1)))] from by kernel_rfl)).trans ?_
 rw [ob_some,bnd_eq,frame_Render_l1,bnd_eq,show F.lt 0 (F.len [((0:Int),((0:Int),((1:Int),(1:Int))))]) = true from rfl,bite_t,show F.get [((0:Int),((0:Int),((1:Int),(1:Int))))] 0 = some (0,(0,(1,1))) from rfl,ob_some,nilE_same]
 kernel_rfl
theorem shown_ok {fl:Nat} (hfl:100 <= fl):glazierlaw23_shown fl = some true:=by
 obtain ⟨m,rfl⟩:∃ m,fl = m + 5:=⟨fl - 5,by omega⟩
 unfold glazierlaw23_shown;obtain ⟨f,h2,e⟩:=render_at (fl:=m + 5) (x:=S1) (room:=1) (tile:=8) (by decide) (by decide) rfl
 rw [show scene_Check (m + 5) S1 = some 0 from by kernel_rfl,ob_some,h2,S1_tail m] at e
 refine (congrArg (fun z=>obind z _) e).trans ?_
 kernel_rfl
end Go.Proofs.YthnagpmnoncijaaGreat.G
namespace Go.Proofs.YthnagpmnoncijaaGreat.G
open Go Go.RowKit Go.Proofs.YthnagpmnoncijaaGreat.M
abbrev Tl:=Int × Int × Int × Int
def inT (t:Tl) (x y:Int):Prop:=(t.1 <= x /\ x < t.2.2.1) /\ t.2.1 <= y /\ y < t.2.2.2
def onScr (w h:Int) (t:Tl):Prop:=0 <= t.1 /\ 0 <= t.2.1 /\ t.2.2.1 <= w /\ t.2.2.2 <= h
def apart (l:List Tl):Prop:=l.Pairwise fun t u=>∀ x y,¬ (inT t x y /\ inT u x y)
structure Cov (w h:Int) (l:List Tl) (R:Int -> Int -> Prop):Prop where
 on:∀ t ∈ l,onScr w h t
 apart:apart l
 all:∀ x y,(∃ t ∈ l,inT t x y) ↔ R x y
theorem Cov.snoc {w h:Int} {l:List Tl} {R R':Int -> Int -> Prop} {t:Tl} (hc:Cov w h l R) (ht:onScr w h t) (hn:∀ x y,inT t x y -> ¬ R x y) (hR:∀ x y,R' x y ↔ R x y \/ inT t x y):Cov w h (l ++ [t]) R':=by
 refine ⟨fun u hu=>?_,?_,fun x y=>?_⟩
 ·rcases List.mem_append.1 hu with hu | hu
  ·exact hc.on u hu
  ·rw [List.mem_singleton.1 hu]; exact ht
 ·unfold G.apart;rw [List.pairwise_append];refine ⟨hc.apart,List.pairwise_singleton _ _,fun u hu v hv x y h=>?_⟩
  rw [List.mem_singleton.1 hv] at h;exact hn x y h.2 ((hc.all x y).1 ⟨u,hu,h.1⟩)
 ·rw [hR,<- hc.all];constructor
  ·rintro ⟨u,hu,hi⟩
   rcases List.mem_append.1 hu with hu | hu
   ·exact .inl ⟨u,hu,hi⟩
   ·rw [List.mem_singleton.1 hu] at hi; exact .inr hi
  ·rintro (⟨u,hu,hi⟩ | hi)
   ·exact ⟨u,List.mem_append.2 (.inl hu),hi⟩
   ·exact ⟨t,List.mem_append.2 (.inr (List.mem_singleton.2 rfl)),hi⟩
theorem Cov.same {w h:Int} {l:List Tl} {R R':Int -> Int -> Prop} (hc:Cov w h l R) (hR:∀ x y,R' x y ↔ R x y):Cov w h l R':=
 ⟨hc.on,hc.apart,fun x y=>(hc.all x y).trans (hR x y).symm⟩
theorem tiles_row (fl:Nat) (w h s y0:Int) (hs:1 <= s /\ s <= 64) (hw:1 <= w /\ w <= 64) (hh:1 <= h /\ h <= 64) (hy:0 <= y0 /\ y0 < h):∀ (k n:Nat) (l:List Tl) (x0:Int),(w - x0).toNat <= k -> k + 1 <= n -> 0 <= x0 -> l.length + k <= 10000 ->
  Cov w h l (fun x y=>0 <= x /\ ((x < w /\ 0 <= y /\ y < y0) \/ (x < min x0 w /\ y0 <= y /\ y < min (y0 + s) h))) ->
  ∃ l',l'.length <= l.length + k /\ Cov w h l' (fun x y=>(0 <= x /\ x < w) /\ 0 <= y /\ y < min (y0 + s) h) /\ frame_Tiles_l1 fl n w h s l y0 x0 = some (w,(h,(s,(l',(y0,())))))
 | 0,n,l,x0,hk,hn,h0,hl,hg=>by
  obtain ⟨n,rfl⟩:∃ m,n = m + 1:=⟨n - 1,by omega⟩
  refine ⟨l,by omega,hg.same fun x y=>by omega,?_⟩
  rw [frame_Tiles_l1,bnd_eq,lt_f (by omega),bite_f]
 | k + 1,n,l,x0,hk,hn,h0,hl,hg=>by
  obtain ⟨n,rfl⟩:∃ m,n = m + 1:=⟨n - 1,by omega⟩
  by_cases hc:x0 < w
  case neg=>
   refine ⟨l,by omega,hg.same fun x y=>by omega,?_⟩
   rw [frame_Tiles_l1,bnd_eq,lt_f (by omega),bite_f]
  obtain ⟨l',h1,h2,e⟩:=tiles_row fl w h s y0 hs hw hh hy k n (l ++ [(x0,(y0,(F.min (F.add .i64 x0 s) w,F.min (F.add .i64 y0 s) h)))]) (x0 + s) (by omega) (by omega) (by omega) (by simp; omega)
   (hg.snoc (by rw [f_min,f_min]; exact ⟨h0,hy.1,Int.min_le_right _ _,Int.min_le_right _ _⟩)
    (fun x y hi=>by
     unfold inT at hi;rw [f_min,f_min,addI (by omega),addI (by omega)] at hi
     dsimp only at hi
     omega)
    (fun x y=>by
     unfold inT;rw [f_min,f_min,addI (by omega),addI (by omega)]
     dsimp only
     omega))
  refine ⟨l',by simp at h1; omega,h2,?_⟩
  rw [frame_Tiles_l1,bnd_eq,lt_t hc,bite_t,bnd_eq,bnd_eq,bnd_eq,bnd_eq,appOk_t (by simp; omega) (by decide),bgd_t,bnd_eq,bnd_eq,appK,addI (a:=x0) (by omega)]
  rw [addI (a:=x0) (by omega)] at e
  exact e
theorem tiles_rows (fl:Nat) (hfl:70 <= fl) (w h s:Int) (hs:1 <= s /\ s <= 64) (hw:1 <= w /\ w <= 64) (hh:1 <= h /\ h <= 64):∀ (k n:Nat) (l:List Tl) (y0:Int),(h - y0).toNat <= k -> k + 1 <= n -> 0 <= y0 -> l.length + 64 * k <= 5000 ->
  Cov w h l (fun x y=>(0 <= x /\ x < w) /\ 0 <= y /\ y < min y0 h) ->
  ∃ l',l'.length <= l.length + 64 * k /\ Cov w h l' (fun x y=>(0 <= x /\ x < w) /\ 0 <= y /\ y < h) /\ frame_Tiles_l2 fl n w h s l y0 = some (l',())
 | 0,n,l,y0,hk,hn,h0,hl,hg=>by
  obtain ⟨n,rfl⟩:∃ m,n = m + 1:=⟨n - 1,by omega⟩
  refine ⟨l,by omega,hg.same fun x y=>by omega,?_⟩
  rw [frame_Tiles_l2,bnd_eq,lt_f (by omega),bite_f]
 | k + 1,n,l,y0,hk,hn,h0,hl,hg=>by
  obtain ⟨n,rfl⟩:∃ m,n = m + 1:=⟨n - 1,by omega⟩
  by_cases hc:y0 < h
  case neg=>
   refine ⟨l,by omega,hg.same fun x y=>by omega,?_⟩
   rw [frame_Tiles_l2,bnd_eq,lt_f (by omega),bite_f]
  obtain ⟨l1,h1,g1,e1⟩:=tiles_row fl w h s y0 hs hw hh ⟨h0,hc⟩ 64 fl l 0 (by omega) (by omega) (by omega) (by omega) (hg.same fun x y=>by omega)
  obtain ⟨l',h2,g2,e⟩:=tiles_rows fl hfl w h s hs hw hh k n l1 (y0 + s) (by omega) (by omega) (by omega) (by omega) g1
  refine ⟨l',by omega,g2,?_⟩
  rw [frame_Tiles_l2,bnd_eq,lt_t hc,bite_t,e1,ob_some,bnd_eq];dsimp only;rw [addI (by omega)]
  exact e
theorem tiles_spec (fl:Nat) (hfl:70 <= fl) (w h s:Int) (hs:1 <= s /\ s <= 64) (hw:1 <= w /\ w <= 64) (hh:1 <= h /\ h <= 64):∃ l,l.length <= 4096 /\ Cov w h l (fun x y=>(0 <= x /\ x < w) /\ 0 <= y /\ y < h) /\ frame_Tiles fl w h s = some l:=by
 obtain ⟨l,h1,g,e⟩:=tiles_rows fl hfl w h s hs hw hh 64 fl [] 0 (by omega) (by omega) (by omega) (by simp) ⟨(fun t ht=>by cases ht),List.Pairwise.nil,fun x y=>⟨(fun ⟨t,ht,_⟩=>by cases ht),(fun h=>by omega)⟩⟩
 refine ⟨l,by simpa using h1,g,?_⟩
 unfold frame_Tiles;rw [e,ob_some]
/-! ### What was seen -/
def told (l:List Bool) (V:Int -> Int -> Prop):Prop:=l.length = 4096 /\ ∀ (x y:Nat),x < 64 -> y < 64 -> (l[y * 64 + x]? = some true ↔ V x y)
theorem seen_row (fl:Nat) (room:Int) (n8:Int) (hd:Bool) (w h:Int) (l:List Tl) (i:Nat) (hi:i < l.length) (hw:w <= 64) (hh:h <= 64) (y:Int) (hy:0 <= y /\ y < h) (hb:0 <= l[i].1 /\ l[i].2.2.1 <= w):∀ (k n:Nat) (x:Int) (many:Nat) (S:List Bool) (V:Int -> Int -> Prop),
  (l[i].2.2.1 - x).toNat <= k -> k + 1 <= n -> 0 <= x -> many + k <= 100000 -> told S V -> S.count true = many -> (∀ x',x <= x' -> x' < l[i].2.2.1 -> ¬ V x' y) ->
  ∃ S' many':_,told S' (fun a b=>V a b \/ (b = y /\ x <= a /\ a < l[i].2.2.1)) /\ S'.count true = many' /\ many' <= many + k /\ glazierlaw23_FrameTiles_l1 fl n n8 room hd w h l many i y x S = some (.inr (n8,(room,(hd,(w,(h,(l,((many':Nat),((i:Nat),(y,(S',())))))))))))
 | 0,n,x,many,S,V,hk,hn,h0,hm,hS,hc,hV=>by
  obtain ⟨n,rfl⟩:∃ m,n = m + 1:=⟨n - 1,by omega⟩
  refine ⟨S,many,⟨hS.1,fun a b ha hb'=>(hS.2 a b ha hb').trans ⟨.inl,fun q=>q.elim id fun q=>by omega⟩⟩,hc,by omega,?_⟩
  rw [glazierlaw23_FrameTiles_l1,lgetK hi,ob_some,bnd_eq,lt_f (by omega),bite_f]
 | k + 1,n,x,many,S,V,hk,hn,h0,hm,hS,hc,hV=>by
  obtain ⟨n,rfl⟩:∃ m,n = m + 1:=⟨n - 1,by omega⟩
  by_cases hx:x < l[i].2.2.1
  case neg=>
   refine ⟨S,many,⟨hS.1,fun a b ha hb'=>(hS.2 a b ha hb').trans ⟨.inl,fun q=>q.elim id fun q=>by omega⟩⟩,hc,by omega,?_⟩
   rw [glazierlaw23_FrameTiles_l1,lgetK hi,ob_some,bnd_eq,lt_f (by omega),bite_f]
  have hk1:(y * 64 + x).toNat = y.toNat * 64 + x.toNat:=by omega
  have hlt:y.toNat * 64 + x.toNat < S.length:=by rw [hS.1]; omega
  have hnot:S[y.toNat * 64 + x.toNat] = false:=by
   have h1:=(hS.2 x.toNat y.toNat (by omega) (by omega))
   rw [List.getElem?_eq_getElem hlt,show ((x.toNat:Nat):Int) = x by omega,show ((y.toNat:Nat):Int) = y by omega] at h1
   cases hq:S[y.toNat * 64 + x.toNat] with
   | false=>rfl
   | true=>rw [hq] at h1; exact absurd (h1.1 rfl) (hV x (Int.le_refl _) hx)
  obtain ⟨S',many',g1,g2,g3,e⟩:=seen_row fl room n8 hd w h l i hi hw hh y hy hb k n (x + 1) (many + 1) (F.put S (y * 64 + x) true) (fun a b=>V a b \/ (b = y /\ a = x)) (by omega) (by omega) (by omega) (by omega)
   ⟨by unfold F.put; rw [List.length_set]; exact hS.1,fun a b ha hb'=>by
    unfold F.put;rw [List.getElem?_set,hk1];by_cases hq:y.toNat * 64 + x.toNat = b * 64 + a
    ·rw [if_pos hq,if_pos hlt];exact ⟨fun _=>.inr (by omega),fun _=>rfl⟩
    ·rw [if_neg hq]
     exact (hS.2 a b ha hb').trans ⟨.inl,fun q=>q.elim id fun q=>by omega⟩⟩
   (by
    unfold F.put;rw [hk1,List.count_set hlt,hnot,hc]
    simp)
   (fun x' h1 h2 q=>q.elim (hV x' (by omega) h2) fun q=>by omega)
  refine ⟨S',many',⟨g1.1,fun a b ha hb'=>(g1.2 a b ha hb').trans ⟨fun q=>?_,fun q=>?_⟩⟩,g2,by omega,?_⟩
  ·rcases q with (q | q) | q
   ·exact .inl q
   ·exact .inr (by omega)
   ·exact .inr (by omega)
  ·rcases q with q | q
   ·exact .inl (.inl q)
   ·by_cases ha':(a:Int) = x
    ·exact .inl (.inr ⟨q.1,ha'⟩)
    ·exact .inr (by omega)
  ·have hg:F.get S (y * 64 + x) = some false:=by
    rw [show y * 64 + x = ((y.toNat * 64 + x.toNat:Nat):Int) by omega,lgetK hlt,hnot]
   have hwi:F.within (y * 64 + x) 4096 = true:=by unfold F.within; rw [decide_eq_true (by omega),decide_eq_true (by omega)]; rfl
   have hha:F.has S (y * 64 + x) = true:=by unfold F.has; rw [hS.1,decide_eq_true (by omega),decide_eq_true (by omega)]; rfl
   rw [glazierlaw23_FrameTiles_l1,lgetK hi,ob_some,bnd_eq,lt_t hx,bite_t,bnd_eq,lt_f h0,bite_f,bnd_eq,ge_f (by omega),bite_f,bnd_eq,lt_f (by omega),bite_f,bnd_eq,ge_f (by omega),bite_f,
    bnd_eq,mulI (by omega),bnd_eq,addI (a:=y * 64) (by omega),hwi,bgd_t,hg,ob_some,bite_f,bnd_eq,bnd_eq,addI (a:=y * 64) (by omega),hwi,bgd_t,hha,bgd_t,bnd_eq,bnd_eq,addI (a:=x) (by omega),addI (a:=(many:Int)) (by omega)]
   exact e
theorem seen_rows (fl:Nat) (hfl:70 <= fl) (room:Int) (n8:Int) (hd:Bool) (w h:Int) (l:List Tl) (i:Nat) (hi:i < l.length) (hw:w <= 64) (hh:h <= 64) (hb:onScr w h l[i]):∀ (k n:Nat) (y:Int) (many:Nat) (S:List Bool) (V:Int -> Int -> Prop),
  (l[i].2.2.2 - y).toNat <= k -> k + 1 <= n -> 0 <= y -> many + 64 * k <= 90000 -> told S V -> S.count true = many -> (∀ x' y',l[i].1 <= x' -> x' < l[i].2.2.1 -> y <= y' -> y' < l[i].2.2.2 -> ¬ V x' y') ->
  ∃ S' many':_,told S' (fun a b=>V a b \/ ((l[i].1 <= a /\ a < l[i].2.2.1) /\ y <= b /\ b < l[i].2.2.2)) /\ S'.count true = many' /\ many' <= many + 64 * k /\ glazierlaw23_FrameTiles_l2 fl n n8 room hd w h l many i y S = some (.inr (n8,(room,(hd,(w,(h,(l,((many':Nat),((i:Nat),(S',()))))))))))
 | 0,n,y,many,S,V,hk,hn,h0,hm,hS,hc,hV=>by
  obtain ⟨n,rfl⟩:∃ m,n = m + 1:=⟨n - 1,by omega⟩
  refine ⟨S,many,⟨hS.1,fun a b ha hb'=>(hS.2 a b ha hb').trans ⟨.inl,fun q=>q.elim id fun q=>by omega⟩⟩,hc,by omega,?_⟩
  rw [glazierlaw23_FrameTiles_l2,lgetK hi,ob_some,bnd_eq,lt_f (by omega),bite_f]
 | k + 1,n,y,many,S,V,hk,hn,h0,hm,hS,hc,hV=>by
  obtain ⟨n,rfl⟩:∃ m,n = m + 1:=⟨n - 1,by omega⟩
  by_cases hy:y < l[i].2.2.2
  case neg=>
   refine ⟨S,many,⟨hS.1,fun a b ha hb'=>(hS.2 a b ha hb').trans ⟨.inl,fun q=>q.elim id fun q=>by omega⟩⟩,hc,by omega,?_⟩
   rw [glazierlaw23_FrameTiles_l2,lgetK hi,ob_some,bnd_eq,lt_f (by omega),bite_f]
  obtain ⟨b1,b2,b3,b4⟩:=hb;obtain ⟨S1,m1,g1,g2,g3,e1⟩:=seen_row fl room n8 hd w h l i hi hw hh y ⟨h0,by omega⟩ ⟨b1,b3⟩ 64 fl l[i].1 many S V (by omega) (by omega) b1 (by omega) hS hc (fun x' q1 q2=>hV x' y q1 q2 (Int.le_refl _) hy)
  obtain ⟨S',m',f1,f2,f3,e⟩:=seen_rows fl hfl room n8 hd w h l i hi hw hh ⟨b1,b2,b3,b4⟩ k n (y + 1) m1 S1 _ (by omega) (by omega) (by omega) (by omega) g1 g2 (fun x' y' q1 q2 q3 q4 q=>q.elim (hV x' y' q1 q2 (by omega) q4) fun q=>by omega)
  refine ⟨S',m',⟨f1.1,fun a b ha hb'=>(f1.2 a b ha hb').trans ⟨fun q=>?_,fun q=>?_⟩⟩,f2,by omega,?_⟩
  ·rcases q with (q | q) | q
   ·exact .inl q
   ·exact .inr (by omega)
   ·exact .inr (by omega)
  ·rcases q with q | q
   ·exact .inl (.inl q)
   ·by_cases ha':(b:Int) = y
    ·exact .inl (.inr ⟨ha',q.1⟩)
    ·exact .inr (by omega)
  ·rw [glazierlaw23_FrameTiles_l2,lgetK hi,ob_some,bnd_eq,lt_t hy,bite_t,ob_some,e1,ob_some];simp only [osum];rw [bnd_eq,addI (by omega)]
   exact e
theorem seen_tiles (fl:Nat) (hfl:70 <= fl) (room:Int) (n8:Int) (hd:Bool) (w h:Int) (l:List Tl) (hl:l.length <= 10000) (hw:w <= 64) (hh:h <= 64) (hon:∀ t ∈ l,onScr w h t) (hap:apart l):∀ (k n i:Nat) (many:Nat) (S:List Bool),
  i + k = l.length -> k + 1 <= n -> told S (fun a b=>∃ t ∈ l.take i,inT t a b) -> S.count true = many ->
  ∃ S' many':_,told S' (fun a b=>∃ t ∈ l,inT t a b) /\ S'.count true = many' /\ glazierlaw23_FrameTiles_l3 fl n n8 room hd w h l many i S = some (.inr (n8,(room,(hd,(w,(h,((many':Nat),())))))))
 | 0,n,i,many,S,hk,hn,hS,hc=>by
  obtain ⟨n,rfl⟩:∃ m,n = m + 1:=⟨n - 1,by omega⟩
  refine ⟨S,many,by rw [List.take_of_length_le (by omega)] at hS; exact hS,hc,?_⟩
  rw [glazierlaw23_FrameTiles_l3,bnd_eq,lenK,bnd_eq,lt_f (by omega),bite_f]
 | k + 1,n,i,many,S,hk,hn,hS,hc=>by
  obtain ⟨n,rfl⟩:∃ m,n = m + 1:=⟨n - 1,by omega⟩
  have hi:i < l.length:=by omega
  have hb:=hon _ (List.getElem_mem hi);have hcm:many <= 4096:=by rw [<- hc,<- hS.1]; exact List.count_le_length
  obtain ⟨b1,b2,b3,b4⟩:=hb
  obtain ⟨S1,m1,g1,g2,g3,e1⟩:=seen_rows fl hfl room n8 hd w h l i hi hw hh ⟨b1,b2,b3,b4⟩ 64 fl l[i].2.1 many S _ (by omega) (by omega) b2 (by omega) hS hc (fun x' y' q1 q2 q3 q4 ⟨t,ht,hin⟩=>by
   obtain ⟨j,hj,rfl⟩:=List.getElem_of_mem ht;rw [List.length_take] at hj;rw [List.getElem_take] at hin
   exact (List.pairwise_iff_getElem.1 hap j i (by omega) hi (by omega)) x' y' ⟨hin,⟨q1,q2⟩,q3,q4⟩)
  obtain ⟨S',m',f1,f2,e⟩:=seen_tiles fl hfl room n8 hd w h l hl hw hh hon hap k n (i + 1) m1 S1 (by omega) (by omega) ⟨g1.1,fun a b ha hb'=>(g1.2 a b ha hb').trans (by
   rw [List.take_succ_eq_append_getElem hi];constructor
   ·rintro (⟨t,ht,q⟩ | q)
    ·exact ⟨t,List.mem_append.2 (.inl ht),q⟩
    ·exact ⟨_,List.mem_append.2 (.inr (List.mem_singleton.2 rfl)),q⟩
   ·rintro ⟨t,ht,q⟩
    rcases List.mem_append.1 ht with ht | ht
    ·exact .inl ⟨t,ht,q⟩
    ·rw [List.mem_singleton.1 ht] at q; exact .inr q)⟩ g2
  refine ⟨S',m',f1,f2,?_⟩;rw [glazierlaw23_FrameTiles_l3,bnd_eq,lenK,bnd_eq,lt_t (by omega),bite_t,lgetK hi,ob_some,e1,ob_some]
  simp only [osum];have ei:F.add .i64 (i:Int) 1 = ((i + 1:Nat):Int):=by rw [addI (by omega)]; rfl
  rw [bnd_eq,ei];exact e
/-! ### How many a screen has -/
theorem count_lt (w:Nat):∀ n:Nat,((List.range n).map fun i=>decide (i < w)).count true = min n w
 | 0=>by simp
 | n + 1=>by
  rw [List.range_succ,List.map_append,List.count_append,count_lt w n];by_cases h:n < w
  ·simp [h]; omega
  ·simp [h]; omega
theorem count_scr (w h:Nat) (hw:w <= 64):∀ H:Nat,((List.range (64 * H)).map fun k=>decide (k % 64 < w /\ k / 64 < h)).count true = min H h * w
 | 0=>by simp
 | H + 1=>by
  rw [show 64 * (H + 1) = 64 * H + 64 by omega,List.range_add,List.map_append,List.count_append,count_scr w h hw H,List.map_map]
  have e:(List.range 64).map ((fun k=>decide (k % 64 < w /\ k / 64 < h)) ∘ fun x=>64 * H + x) = (List.range 64).map fun i=>decide (H < h) && decide (i < w):=by
   apply List.map_congr_left;intro i hi;rw [List.mem_range] at hi;simp only [Function.comp];rw [show (64 * H + i) % 64 = i by omega,show (64 * H + i) / 64 = H by omega]
   by_cases h1:i < w <;> by_cases h2:H < h <;> simp [h1,h2]
  rw [e];by_cases h1:H < h
  ·simp only [decide_eq_true h1,Bool.true_and];rw [count_lt,show min (H + 1) h = min H h + 1 by omega,Nat.add_mul]
   omega
  ·simp only [decide_eq_false h1,Bool.false_and];rw [show min (H + 1) h = min H h by omega,List.count_eq_zero.2,Nat.add_zero]
   intro q;obtain ⟨_,_,q⟩:=List.mem_map.1 q;cases q
theorem told_count {S:List Bool} {w h:Nat} (hw:w <= 64) (hh:h <= 64) (hS:told S (fun x y=>(0 <= x /\ x < (w:Int)) /\ 0 <= y /\ y < (h:Int))):S.count true = h * w:=by
 have e:S = (List.range (64 * 64)).map fun k=>decide (k % 64 < w /\ k / 64 < h):=by
  apply List.ext_getElem?;intro k;by_cases hk:k < 4096
  ·have h1:=hS.2 (k % 64) (k / 64) (by omega) (by omega)
   rw [show k / 64 * 64 + k % 64 = k by omega] at h1
   rw [List.getElem?_map,List.getElem?_range (by omega),Option.map_some]
   have hkl:k < S.length:=by rw [hS.1]; exact hk
   rw [List.getElem?_eq_getElem hkl] at h1 ⊢
   congr 1
   cases hq:S[k] with
   | true=>
    rw [hq] at h1;have:=h1.1 rfl;exact (decide_eq_true (by omega)).symm
   | false=>
    rw [hq] at h1;refine (decide_eq_false fun q=>?_).symm
    have:=h1.2 (by omega)
    cases this
  ·rw [List.getElem?_eq_none (by rw [hS.1]; omega),List.getElem?_eq_none (by simp; omega)]
 rw [e,count_scr w h hw 64,show min 64 h = h by omega]
end Go.Proofs.YthnagpmnoncijaaGreat.G
namespace Go.Proofs.YthnagpmnoncijaaGreat.frameTiles
open Go Go.RowKit Go.Proofs.YthnagpmnoncijaaGreat.M Go.Proofs.YthnagpmnoncijaaGreat.G
theorem tile_all:(List.range 256).all (fun k=>match glazierlaw23_tile (k:Int) with
 | some s=>s == 8 || (s == 16 || (s == 32 || s == 64))
 | none=>false) = true:=by kernel_rfl
theorem tile_spec {x:Int} (h:0 <= x /\ x <= 255):∃ s,glazierlaw23_tile x = some s /\ (s = 8 \/ s = 16 \/ s = 32 \/ s = 64):=by
 have h1:=List.all_eq_true.1 tile_all x.toNat (List.mem_range.2 (by omega))
 rw [show ((x.toNat:Nat):Int) = x by omega] at h1
 cases hq:glazierlaw23_tile x with
 | none=>rw [hq] at h1; cases h1
 | some s=>
  rw [hq] at h1;simp only [Bool.or_eq_true,beq_iff_eq] at h1;exact ⟨s,rfl,h1⟩
theorem rem64 {a:Int} (h:0 <= a):F.rem a 64 = a % 64:=by
 unfold F.rem;exact Int.tmod_eq_emod_of_nonneg h
theorem keep_spec {p s:Int} (hp:1 <= p /\ p <= 65536) (hs:s = 8 \/ s = 16 \/ s = 32 \/ s = 64):∃ k,frame_Keep p s = some k /\ 1 <= k /\ k <= 65536 /\ (k = 1 \/ k * s * s <= p) /\ p < (k + 1) * s * s:=by
 unfold frame_Keep;have hss:64 <= s * s /\ s * s <= 4096:=by rcases hs with rfl | rfl | rfl | rfl <;> decide
 rw [bnd_eq,mulI (by omega),nz_t (by omega),bgd_t,bnd_eq]
 have hq:F.quo .i64 p (s * s) = p / (s * s):=by
  unfold F.quo;rw [Int.tdiv_eq_ediv_of_nonneg (by omega)]
  have h0:0 <= p / (s * s):=Int.ediv_nonneg (by omega) (by omega)
  have h1:p / (s * s) <= p:=Int.ediv_le_self _ (by omega)
  exact wrapI (by omega) (by omega)
 rw [hq,bnd_eq,f_max];have h1:p / (s * s) * (s * s) <= p:=Int.ediv_mul_le p (by omega)
 have h2:p < (p / (s * s) + 1) * (s * s):=Int.lt_ediv_add_one_mul_self p (by omega)
 have h0:0 <= p / (s * s):=Int.ediv_nonneg (by omega) (by omega)
 have h3:p / (s * s) <= p:=Int.ediv_le_self _ (by omega)
 generalize p / (s * s) = q at h1 h2 h0 h3 ⊢;refine ⟨max q 1,rfl,by omega,by omega,?_,?_⟩
 ·by_cases hq1:q <= 1
  ·exact .inl (by omega)
  ·refine .inr ?_;rw [show max q 1 = q by omega,Int.mul_assoc]
   exact h1
 ·rw [Int.mul_assoc];by_cases hq1:q <= 1
  ·rw [show max q 1 = 1 by omega]
   have:(q + 1) * (s * s) <= (1 + 1) * (s * s):=Int.mul_le_mul_of_nonneg_right (by omega) (by omega)
   omega
  ·rw [show max q 1 = q by omega]
   exact h2
theorem law0 (a b n8 room:Int) (ha:0 <= a /\ a <= 255) (hb:0 <= b /\ b <= 255) (hn:0 <= n8 /\ n8 <= 255) (hr:0 <= room /\ room <= 65535):glazierlaw23_FrameTiles 20000 (a,b) n8 room = some true:=by
 obtain ⟨s,es,hs⟩:=tile_spec hn;have hw:1 <= 1 + a % 64 /\ 1 + a % 64 <= 64:=by omega
 have hh:1 <= 1 + b % 64 /\ 1 + b % 64 <= 64:=by omega
 obtain ⟨l,hl,hc,et⟩:=tiles_spec 20000 (by decide) (1 + a % 64) (1 + b % 64) s (by omega) hw hh
 obtain ⟨S',m',f1,f2,e⟩:=seen_tiles 20000 (by decide) room n8 true (1 + a % 64) (1 + b % 64) l (by omega) (by omega) (by omega) hc.on hc.apart l.length 20000 0 0 (F.fill 4096 false) (by omega) (by omega)
  ⟨by unfold F.fill; rw [List.length_replicate]; rfl,fun x y hx hy=>⟨fun q=>(by
   unfold F.fill at q;rw [List.getElem?_replicate] at q;split at q
   ·cases q
   ·cases q),fun ⟨t,ht,_⟩=>(by simp at ht)⟩⟩
  (by unfold F.fill; rw [List.count_replicate]; rfl)
 have f3:told S' (fun x y=>(0 <= x /\ x < ((1 + a % 64).toNat:Int)) /\ 0 <= y /\ y < ((1 + b % 64).toNat:Int)):=⟨f1.1,fun x y hx hy=>(f1.2 x y hx hy).trans ((hc.all x y).trans (by omega))⟩
 have hm:=told_count (by omega) (by omega) f3
 rw [f2] at hm;have hmm:((m':Nat):Int) = (1 + a % 64) * (1 + b % 64):=by
  rw [hm,Int.natCast_mul,Int.mul_comm]
  congr 1 <;> omega
 have hwh:(1 + a % 64) * (1 + b % 64) <= 64 * 64:=Int.mul_le_mul (by omega) (by omega) (by omega) (by omega)
 have hwh0:1 * 1 <= (1 + a % 64) * (1 + b % 64):=Int.mul_le_mul (by omega) (by omega) (by omega) (by omega)
 obtain ⟨k,ek,k1,k2,k3,k4⟩:=keep_spec (p:=1 + room) (by omega) hs
 have hks:k * s <= 65536 * 64 /\ 0 <= k * s:=⟨Int.mul_le_mul (by omega) (by omega) (by omega) (by omega),Int.mul_nonneg (by omega) (by omega)⟩
 have hkss:k * s * s <= 65536 * 64 * 64 /\ 0 <= k * s * s:=⟨Int.mul_le_mul (by omega) (by omega) (by omega) (by omega),Int.mul_nonneg (by omega) (by omega)⟩
 have hls:(k + 1) * s <= 65537 * 64 /\ 0 <= (k + 1) * s:=⟨Int.mul_le_mul (by omega) (by omega) (by omega) (by omega),Int.mul_nonneg (by omega) (by omega)⟩
 have hlss:(k + 1) * s * s <= 65537 * 64 * 64 /\ 0 <= (k + 1) * s * s:=⟨Int.mul_le_mul (by omega) (by omega) (by omega) (by omega),Int.mul_nonneg (by omega) (by omega)⟩
 unfold glazierlaw23_FrameTiles;rw [shown_ok (by decide),ob_some,bnd_eq,bnd_eq,bnd_eq,bnd_eq,bnd_eq,bnd_eq]
 dsimp only;rw [convI (by omega),rem64 ha.1,addI (by omega),convI (by omega),rem64 hb.1,addI (by omega),es,ob_some,et,ob_some,show F.eq (F.len (F.fill 4096 false)) 4096 = true from by kernel_rfl,bgd_t]
 refine (congrArg (fun z=>obind z _) e).trans ?_
 rw [ob_some];simp only [osum];rw [bnd_eq,convI (by omega),bnd_eq,addI (by omega),es,ob_some,ek,ob_some,bite_t,bnd_eq,mulI (by omega),bnd_eq,eq_t hmm,bite_t,bnd_eq,ge_t k1,bite_t,bnd_eq]
 by_cases hk1:k = 1
 ·rw [eq_t hk1,bite_t,bnd_eq,addI (by omega),ob_some,bnd_eq,mulI (by omega),ob_some,bnd_eq,mulI (by omega),bnd_eq,gt_t k4]
 ·rw [eq_f hk1,bite_f,ob_some,bnd_eq,mulI (by omega),ob_some,bnd_eq,mulI (by omega),bnd_eq,le_t (k3.resolve_left hk1),bite_t,bnd_eq,addI (by omega),ob_some,bnd_eq,mulI (by omega),ob_some,bnd_eq,mulI (by omega),bnd_eq,gt_t k4]
theorem law (x0:Int × Int) (x1 x2:Int) (h0:okT (.pair (.int .u8) (.int .u8)) x0) (h1:okT (.int .u8) x1) (h2:okT (.int .u16) x2):∃ fl,glazierlaw23_FrameTiles fl x0 x1 x2 = some true:=by
 obtain ⟨a,b⟩:=x0;have hr:0 <= x2 /\ x2 <= 65535:=by
  have h2:inR .u16 x2:=h2;unfold inR at h2;simpa [Lit.wf,IntKind.min,IntKind.max,IntKind.signed,IntKind.bits] using h2
 exact ⟨20000,law0 a b x1 x2 (inR_u8.1 h0.1) (inR_u8.1 h0.2) (inR_u8.1 h1) hr⟩
end Go.Proofs.YthnagpmnoncijaaGreat.frameTiles
