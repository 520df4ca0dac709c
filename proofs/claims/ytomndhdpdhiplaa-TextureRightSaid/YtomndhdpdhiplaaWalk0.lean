/- A part of the proof. -/
import Derived.Test.YtomndhdpdhiplaaGen
import Derived.Test.YtomndhdpdhiplaaMchXa
import Derived.Test.YtomndhdpdhiplaaProg
set_option linter.unusedVariables false
set_option maxRecDepth 100000
namespace Go.Proofs.Ytomndhdpdhiplaa.G
open Go Go.RowKit Go.Proofs.Ytomndhdpdhiplaa.M

theorem hmo:Try.prog.follows .mixedOrders = true:=by kernel_rfl

@[reducible] def I8:Ty:=.int .i64
@[reducible] def U8:Ty:=.int .u8
@[reducible] def W8:Ty:=.int .u64
@[reducible] def Y1:Ty:=.pair U8 (.pair U8 (.pair U8 U8))
@[reducible] def D:CT:=.dat I8
@[reducible] def z0:It:=.slot 2 false [.dat W8]
@[reducible] def z1:It:=.slot 8 false [.dat W8]
@[reducible] def z2:It:=.slot 9 false [.dat W8]
@[reducible] def z3:It:=.slot 10 false [.dat W8]
@[reducible] def z4:It:=.slot 14 false [.dat W8]
@[reducible] def z5:It:=.slot 15 false [.dat W8]
@[reducible] def z6:It:=.box 2 26 [.kint .i64 0,.kint .i64 0,.nils]
@[reducible] def z7:It:=.box 100005 26 [D,D,.dat (.list Y1)]
@[reducible] def z8:It:=.box 100011 26 [D,D,.own 30 Y1]
@[reducible] def z9:It:=.box 100012 26 [D,D,.own 30 Y1]
@[reducible] def z10:It:=.box 11 26 [D,D,.own 30 Y1]
@[reducible] def z11:It:=.box 12 26 [D,D,.own 30 Y1]
@[reducible] def z12:It:=.box 14 26 [D,D,.own 30 Y1]

noncomputable def fixed_size_e:Ent:=⟨41,(.val false I8),(.val false W8),fun y=>fixed_size y⟩
theorem fixed_size_ok:Ent.Ok Try.prog (fixed_size_e):=
  Ent.of (N:=8) (U:=60) allE_nil hmo (fn:=Try.f41) (c:=fnBody Try.f41) (G:=[]) (by kernel_rfl) (by kernel_rfl) (by kernel_rfl) (by kernel_rfl) (by kernel_rfl) (by kernel_rfl) (fun y=>by kernel_rfl) (rs:=[.tmp 2]) (by kernel_rfl) .nil (I:=inlNone) inl_none (fun y=>by kernel_rfl)

noncomputable def bits_Mul64_e:Ent:=⟨40,(.cons (.val false W8) (.val false W8)),(.cons (.val false W8) (.val false W8)),fun y=>bits_Mul64 y.1 y.2⟩
theorem bits_Mul64_ok:Ent.Ok Try.prog (bits_Mul64_e):=
  Ent.of (N:=51) (U:=60) allE_nil hmo (fn:=Try.f40) (c:=fnBody Try.f40) (G:=[]) (by kernel_rfl) (by kernel_rfl) (by kernel_rfl) (by kernel_rfl) (by kernel_rfl) (by kernel_rfl) (fun y=>by kernel_rfl) (rs:=[.tmp 4,.tmp 5]) (by kernel_rfl) .nil (I:=inlNone) inl_none (fun y=>by kernel_rfl)

noncomputable def bits_LeadingZeros64_e:Ent:=⟨48,(.val false W8),(.val false I8),fun y=>bits_LeadingZeros64 y⟩
theorem bits_LeadingZeros64_ok:Ent.Ok Try.prog bits_LeadingZeros64_e:=fun y x v h=>by cases h

@[reducible] def bits_Div64_l1_V:VT:=[z0,z1,z2,z3,.slot 11 false [.dat W8],.slot 13 false [.dat W8],z4,z5,.slot 16 false [.dat W8]]
@[reducible] def bits_Div64_l1_X:List (Out × VT):=[(.exit 0,[z0,z1,z2,z3,.slot 11 false [.dat W8],.slot 13 false [.dat W8],z4,z5])]
noncomputable def bits_Div64_l1_f (fl n:Nat):VT.T bits_Div64_l1_V -> Option (XT bits_Div64_l1_X):=fun v=>bits_Div64_l1 fl n v.1 v.2.1 v.2.2.1 v.2.2.2.1 v.2.2.2.2.1 v.2.2.2.2.2.1 v.2.2.2.2.2.2.1 v.2.2.2.2.2.2.2.1 v.2.2.2.2.2.2.2.2.1
noncomputable def bits_Div64_l1_s (fl:Nat):Seg:=⟨bits_Div64_l1_V,bits_Div64_l1_X,bits_Div64_l1_f fl fl⟩
theorem bits_Div64_l1_ok (fl:Nat):SegOk Try.prog 135 (.loop (loopBody (codeAt (fnBody Try.f42) 131068))) (bits_Div64_l1_s fl):=
  SegOk.loop (c0:=fnBody Try.f42) (p:=131068) (U:=60) allE_nil hmo (me:=42) ⟨Try.f42,by kernel_rfl,by kernel_rfl,by kernel_rfl⟩ (G:=[]) .nil (.of (f:=400) (by kernel_rfl)) (I:=inlNone) inl_none (F:=bits_Div64_l1_f fl) (VT.okV (by kernel_rfl)) (VT.okX (by kernel_rfl)) (fun v=>by kernel_rfl) (fun n v=>by kernel_rfl) fl

@[reducible] def bits_Div64_l2_V:VT:=[z0,z1,z2,z3,z4,z5,.slot 16 false [.dat W8],.slot 17 false [.dat W8],.slot 18 false [.dat W8]]
@[reducible] def bits_Div64_l2_X:List (Out × VT):=[(.exit 2,[z0,z1,z4,z5,.slot 17 false [.dat W8],.slot 18 false [.dat W8]])]
noncomputable def bits_Div64_l2_f (fl n:Nat):VT.T bits_Div64_l2_V -> Option (XT bits_Div64_l2_X):=fun v=>bits_Div64_l2 fl n v.1 v.2.1 v.2.2.1 v.2.2.2.1 v.2.2.2.2.1 v.2.2.2.2.2.1 v.2.2.2.2.2.2.1 v.2.2.2.2.2.2.2.1 v.2.2.2.2.2.2.2.2.1
noncomputable def bits_Div64_l2_s (fl:Nat):Seg:=⟨bits_Div64_l2_V,bits_Div64_l2_X,bits_Div64_l2_f fl fl⟩
theorem bits_Div64_l2_ok (fl:Nat):SegOk Try.prog 135 (.loop (loopBody (codeAt (fnBody Try.f42) 2097148))) (bits_Div64_l2_s fl):=
  SegOk.loop (c0:=fnBody Try.f42) (p:=2097148) (U:=60) allE_nil hmo (me:=42) ⟨Try.f42,by kernel_rfl,by kernel_rfl,by kernel_rfl⟩ (G:=[(131068,bits_Div64_l1_s fl)]) (.cons (f:=400) (by kernel_rfl) (bits_Div64_l1_ok fl) .nil) (.of (f:=400) (by kernel_rfl)) (I:=inlNone) inl_none (F:=bits_Div64_l2_f fl) (VT.okV (by kernel_rfl)) (VT.okX (by kernel_rfl)) (fun v=>by kernel_rfl) (fun n v=>by kernel_rfl) fl

noncomputable def bits_Div64_e (fl:Nat):Ent:=⟨42,(.cons (.val false W8) (.cons (.val false W8) (.val false W8))),(.cons (.val false W8) (.val false W8)),fun y=>bits_Div64 fl y.1 y.2.1 y.2.2⟩
theorem bits_Div64_ok (fl:Nat):Ent.Ok Try.prog (bits_Div64_e fl):=
  Ent.of (N:=135) (U:=60) (allE_cons bits_LeadingZeros64_ok allE_nil) hmo (fn:=Try.f42) (c:=fnBody Try.f42) (G:=[(131068,bits_Div64_l1_s fl),(2097148,bits_Div64_l2_s fl)]) (by kernel_rfl) (by kernel_rfl) (by kernel_rfl) (by kernel_rfl) (by kernel_rfl) (by kernel_rfl) (fun y=>by kernel_rfl) (rs:=[.tmp 6,.tmp 7]) (by kernel_rfl) (.cons (f:=400) (by kernel_rfl) (bits_Div64_l1_ok fl) (.cons (f:=400) (by kernel_rfl) (bits_Div64_l2_ok fl) .nil)) (I:=inlNone) inl_none (fun y=>by kernel_rfl)

noncomputable def fixed_checked_e:Ent:=⟨49,(.cons (.val false I8) (.val false .bool)),(.cons (.val false I8) (.val false I8)),fun y=>fixed_checked y.1 y.2⟩
theorem fixed_checked_ok:Ent.Ok Try.prog (fixed_checked_e):=
  Ent.of (N:=9) (U:=60) allE_nil hmo (fn:=Try.f49) (c:=fnBody Try.f49) (G:=[]) (by kernel_rfl) (by kernel_rfl) (by kernel_rfl) (by kernel_rfl) (by kernel_rfl) (by kernel_rfl) (fun y=>by kernel_rfl) (rs:=[.tmp 4,.tmp 5]) (by kernel_rfl) .nil (I:=inlNone) inl_none (fun y=>by kernel_rfl)

noncomputable def fixed_signed_e:Ent:=⟨43,(.cons (.val false W8) (.val false .bool)),(.cons (.val false I8) (.val false I8)),fun y=>fixed_signed y.1 y.2⟩
theorem fixed_signed_ok:Ent.Ok Try.prog (fixed_signed_e):=
  Ent.of (N:=22) (U:=60) (allE_cons fixed_checked_ok allE_nil) hmo (fn:=Try.f43) (c:=fnBody Try.f43) (G:=[]) (by kernel_rfl) (by kernel_rfl) (by kernel_rfl) (by kernel_rfl) (by kernel_rfl) (by kernel_rfl) (fun y=>by kernel_rfl) (rs:=[.tmp 4,.tmp 5]) (by kernel_rfl) .nil (I:=inlNone) inl_none (fun y=>by kernel_rfl)

noncomputable def fixed_MulDiv_e (fl:Nat):Ent:=⟨36,(.cons (.val false I8) (.cons (.val false I8) (.val false I8))),(.cons (.val false I8) (.val false I8)),fun y=>fixed_MulDiv fl y.1 y.2.1 y.2.2⟩
theorem fixed_MulDiv_ok (fl:Nat):Ent.Ok Try.prog (fixed_MulDiv_e fl):=
  Ent.of (N:=58) (U:=60) (allE_cons fixed_size_ok (allE_cons bits_Mul64_ok (allE_cons (bits_Div64_ok fl) (allE_cons fixed_signed_ok allE_nil)))) hmo (fn:=Try.f36) (c:=fnBody Try.f36) (G:=[]) (by kernel_rfl) (by kernel_rfl) (by kernel_rfl) (by kernel_rfl) (by kernel_rfl) (by kernel_rfl) (fun y=>by kernel_rfl) (rs:=[.tmp 6,.tmp 7]) (by kernel_rfl) .nil (I:=inlNone) inl_none (fun y=>by kernel_rfl)

noncomputable def fixed_Floor_e (fl:Nat):Ent:=⟨31,(.cons (.val false I8) (.val false I8)),(.cons (.val false I8) (.val false I8)),fun y=>fixed_Floor fl y.1 y.2⟩
theorem fixed_Floor_ok (fl:Nat):Ent.Ok Try.prog (fixed_Floor_e fl):=
  Ent.of (N:=11) (U:=60) (allE_cons (fixed_MulDiv_ok fl) allE_nil) hmo (fn:=Try.f31) (c:=fnBody Try.f31) (G:=[]) (by kernel_rfl) (by kernel_rfl) (by kernel_rfl) (by kernel_rfl) (by kernel_rfl) (by kernel_rfl) (fun y=>by kernel_rfl) (rs:=[.tmp 4,.tmp 5]) (by kernel_rfl) .nil (I:=inlNone) inl_none (fun y=>by kernel_rfl)

noncomputable def texture_cut_e (fl:Nat):Ent:=⟨24,(.val false I8),(.cons (.val false I8) (.val false I8)),fun y=>texture_cut fl y⟩
theorem texture_cut_ok (fl:Nat):Ent.Ok Try.prog (texture_cut_e fl):=
  Ent.of (N:=16) (U:=60) (allE_cons (fixed_Floor_ok fl) allE_nil) hmo (fn:=Try.f24) (c:=fnBody Try.f24) (G:=[]) (by kernel_rfl) (by kernel_rfl) (by kernel_rfl) (by kernel_rfl) (by kernel_rfl) (by kernel_rfl) (fun y=>by kernel_rfl) (rs:=[.tmp 2,.tmp 3]) (by kernel_rfl) .nil (I:=inlNone) inl_none (fun y=>by kernel_rfl)

@[reducible] def texture_sides_l1_V:VT:=[.slot 5 false [.dat (.list I8)],.slot 6 false [D],.slot 7 false [D]]
@[reducible] def texture_sides_l1_X:List (Out × VT):=[(.ret,[.slot 2 false [.kbool false]]),(.exit 0,[])]
noncomputable def texture_sides_l1_f (fl n:Nat):VT.T texture_sides_l1_V -> Option (XT texture_sides_l1_X):=fun v=>texture_sides_l1 fl n v.1 v.2.1 v.2.2.1
noncomputable def texture_sides_l1_s (fl:Nat):Seg:=⟨texture_sides_l1_V,texture_sides_l1_X,texture_sides_l1_f fl fl⟩
theorem texture_sides_l1_ok (fl:Nat):SegOk Try.prog 18 (.loop (loopBody (codeAt (fnBody Try.f27) 26))) (texture_sides_l1_s fl):=
  SegOk.loop (c0:=fnBody Try.f27) (p:=26) (U:=60) allE_nil hmo (me:=27) ⟨Try.f27,by kernel_rfl,by kernel_rfl,by kernel_rfl⟩ (G:=[]) .nil (.of (f:=400) (by kernel_rfl)) (I:=inlNone) inl_none (F:=texture_sides_l1_f fl) (VT.okV (by kernel_rfl)) (VT.okX (by kernel_rfl)) (fun v=>by kernel_rfl) (fun n v=>by kernel_rfl) fl

noncomputable def texture_sides_e (fl:Nat):Ent:=⟨27,(.val false (.list I8)),(.val false .bool),fun y=>texture_sides fl y⟩
theorem texture_sides_ok (fl:Nat):Ent.Ok Try.prog (texture_sides_e fl):=
  Ent.of (N:=18) (U:=60) allE_nil hmo (fn:=Try.f27) (c:=fnBody Try.f27) (G:=[(26,texture_sides_l1_s fl)]) (by kernel_rfl) (by kernel_rfl) (by kernel_rfl) (by kernel_rfl) (by kernel_rfl) (by kernel_rfl) (fun y=>by kernel_rfl) (rs:=[.tmp 2]) (by kernel_rfl) (.cons (f:=400) (by kernel_rfl) (texture_sides_l1_ok fl) .nil) (I:=inlNone) inl_none (fun y=>by kernel_rfl)

noncomputable def texture_Right_e (fl:Nat):Ent:=⟨14,(.val true (.pair I8 (.pair I8 (.list Y1)))),(.val false .bool),fun y=>texture_Right fl y⟩
theorem texture_Right_ok (fl:Nat):Ent.Ok Try.prog (texture_Right_e fl):=
  Ent.of (N:=20) (U:=60) (allE_cons (texture_sides_ok fl) allE_nil) hmo (fn:=Try.f14) (c:=fnBody Try.f14) (G:=[]) (by kernel_rfl) (by kernel_rfl) (by kernel_rfl) (by kernel_rfl) (by kernel_rfl) (by kernel_rfl) (fun y=>by kernel_rfl) (rs:=[.tmp 2]) (by kernel_rfl) .nil (I:=inlNone) inl_none (fun y=>by kernel_rfl)

noncomputable def texture_Texel_e (fl:Nat):Ent:=⟨17,(.cons (.val true (.pair I8 (.pair I8 (.list Y1)))) (.cons (.val false I8) (.val false I8))),(.val true Y1),fun y=>texture_Texel fl y.1 y.2.1 y.2.2⟩
theorem texture_Texel_ok (fl:Nat):Ent.Ok Try.prog (texture_Texel_e fl):=
  Ent.of (N:=41) (U:=60) (allE_cons (texture_Right_ok fl) allE_nil) hmo (fn:=Try.f17) (c:=fnBody Try.f17) (G:=[]) (by kernel_rfl) (by kernel_rfl) (by kernel_rfl) (by kernel_rfl) (by kernel_rfl) (by kernel_rfl) (fun y=>by kernel_rfl) (rs:=[.cell 6 30]) (by kernel_rfl) .nil (I:=inlNone) inl_none (fun y=>by kernel_rfl)

noncomputable def colour_Mix_1_e:Ent:=⟨33,(.cons (.val false I8) (.cons (.val false I8) (.dp I8))),(.val false I8),fun y=>colour_Mix_1 y.1 y.2.1 y.2.2⟩
theorem colour_Mix_1_ok:Ent.Ok Try.prog (colour_Mix_1_e):=
  Ent.of (N:=16) (U:=60) allE_nil hmo (fn:=Try.f33) (c:=fnBody Try.f33) (G:=[]) (by kernel_rfl) (by kernel_rfl) (by kernel_rfl) (by kernel_rfl) (by kernel_rfl) (by kernel_rfl) (fun y=>by kernel_rfl) (rs:=[.tmp 5]) (by kernel_rfl) .nil (I:=inlNone) inl_none (fun y=>by kernel_rfl)

noncomputable def fixed_Sat_e:Ent:=⟨38,(.val false I8),(.val false U8),fun y=>fixed_Sat y⟩
theorem fixed_Sat_ok:Ent.Ok Try.prog (fixed_Sat_e):=
  Ent.of (N:=7) (U:=60) allE_nil hmo (fn:=Try.f38) (c:=fnBody Try.f38) (G:=[]) (by kernel_rfl) (by kernel_rfl) (by kernel_rfl) (by kernel_rfl) (by kernel_rfl) (by kernel_rfl) (fun y=>by kernel_rfl) (rs:=[.tmp 2]) (by kernel_rfl) .nil (I:=inlNone) inl_none (fun y=>by kernel_rfl)

noncomputable def colour_each_1_e:Ent:=⟨37,(.cons (.val false U8) (.cons (.val false U8) (.dpf 33 (.val true I8)))),(.val false U8),fun y=>colour_each_1 y.1 y.2.1 y.2.2⟩
theorem colour_each_1_ok:Ent.Ok Try.prog (colour_each_1_e):=
  Ent.of (N:=13) (U:=60) (allE_cons colour_Mix_1_ok (allE_cons fixed_Sat_ok allE_nil)) hmo (fn:=Try.f37) (c:=fnBody Try.f37) (G:=[]) (by kernel_rfl) (by kernel_rfl) (by kernel_rfl) (by kernel_rfl) (by kernel_rfl) (by kernel_rfl) (fun y=>by kernel_rfl) (rs:=[.tmp 5]) (by kernel_rfl) .nil (I:=inlNone) inl_none (fun y=>by kernel_rfl)

noncomputable def colour_each_e:Ent:=⟨32,(.cons (.val true Y1) (.cons (.val true Y1) (.fn 33 (.val true I8)))),(.val true Y1),fun y=>colour_each y.1 y.2.1 y.2.2⟩
theorem colour_each_ok:Ent.Ok Try.prog (colour_each_e):=
  Ent.of (N:=34) (U:=60) (allE_cons colour_each_1_ok allE_nil) hmo (fn:=Try.f32) (c:=fnBody Try.f32) (G:=[]) (by kernel_rfl) (by kernel_rfl) (by kernel_rfl) (by kernel_rfl) (by kernel_rfl) (by kernel_rfl) (fun y=>by kernel_rfl) (rs:=[.cell 6 30]) (by kernel_rfl) .nil (I:=inlNone) inl_none (fun y=>by kernel_rfl)

noncomputable def colour_Mix_e:Ent:=⟨26,(.cons (.val true Y1) (.cons (.val true Y1) (.val false I8))),(.val true Y1),fun y=>colour_Mix y.1 y.2.1 y.2.2⟩
theorem colour_Mix_ok:Ent.Ok Try.prog (colour_Mix_e):=
  Ent.of (N:=14) (U:=60) (allE_cons colour_each_ok allE_nil) hmo (fn:=Try.f26) (c:=fnBody Try.f26) (G:=[]) (by kernel_rfl) (by kernel_rfl) (by kernel_rfl) (by kernel_rfl) (by kernel_rfl) (by kernel_rfl) (fun y=>by kernel_rfl) (rs:=[.cell 6 30]) (by kernel_rfl) .nil (I:=inlNone) inl_none (fun y=>by kernel_rfl)

noncomputable def texture_Smooth_1_e (fl:Nat):Ent:=⟨25,(.cons (.val false I8) (.cons (.dp (.pair I8 (.pair I8 (.list Y1)))) (.cons (.dp I8) (.dp I8)))),(.val true Y1),fun y=>texture_Smooth_1 fl y.1 y.2.1 y.2.2.1 y.2.2.2⟩
theorem texture_Smooth_1_ok (fl:Nat):Ent.Ok Try.prog (texture_Smooth_1_e fl):=
  Ent.of (N:=18) (U:=60) (allE_cons (texture_Texel_ok fl) (allE_cons colour_Mix_ok allE_nil)) hmo (fn:=Try.f25) (c:=fnBody Try.f25) (G:=[]) (by kernel_rfl) (by kernel_rfl) (by kernel_rfl) (by kernel_rfl) (by kernel_rfl) (by kernel_rfl) (fun y=>by kernel_rfl) (rs:=[.cell 5 30]) (by kernel_rfl) .nil (I:=inlNone) inl_none (fun y=>by kernel_rfl)

noncomputable def texture_Smooth_e (fl:Nat):Ent:=⟨13,(.cons (.val true (.pair I8 (.pair I8 (.list Y1)))) (.cons (.val false I8) (.val false I8))),(.val true Y1),fun y=>texture_Smooth fl y.1 y.2.1 y.2.2⟩
theorem texture_Smooth_ok (fl:Nat):Ent.Ok Try.prog (texture_Smooth_e fl):=
  Ent.of (N:=35) (U:=60) (allE_cons (texture_cut_ok fl) (allE_cons colour_Mix_ok (allE_cons (texture_Smooth_1_ok fl) allE_nil))) hmo (fn:=Try.f13) (c:=fnBody Try.f13) (G:=[]) (by kernel_rfl) (by kernel_rfl) (by kernel_rfl) (by kernel_rfl) (by kernel_rfl) (by kernel_rfl) (fun y=>by kernel_rfl) (rs:=[.cell 6 30]) (by kernel_rfl) .nil (I:=inlNone) inl_none (fun y=>by kernel_rfl)

noncomputable def glazierlaw11_shown_e (fl:Nat):Ent:=⟨8,.nil,(.val false .bool),fun y=>glazierlaw11_shown fl⟩
theorem glazierlaw11_shown_ok (fl:Nat):Ent.Ok Try.prog (glazierlaw11_shown_e fl):=
  Ent.of (N:=10) (U:=60) (allE_cons (texture_Smooth_ok fl) allE_nil) hmo (fn:=Try.f8) (c:=fnBody Try.f8) (G:=[]) (by kernel_rfl) (by kernel_rfl) (by kernel_rfl) (by kernel_rfl) (by kernel_rfl) (by kernel_rfl) (fun y=>by kernel_rfl) (rs:=[.tmp 0]) (by kernel_rfl) .nil (I:=inlNone) inl_none (fun y=>by kernel_rfl)

noncomputable def glazierlaw11_few_e:Ent:=⟨10,(.val true (.pair I8 (.pair I8 (.list Y1)))),(.val true (.pair I8 (.pair I8 (.list Y1)))),fun y=>glazierlaw11_few y⟩
theorem glazierlaw11_few_ok:Ent.Ok Try.prog (glazierlaw11_few_e):=
  Ent.of (N:=12) (U:=60) allE_nil hmo (fn:=Try.f10) (c:=fnBody Try.f10) (G:=[]) (by kernel_rfl) (by kernel_rfl) (by kernel_rfl) (by kernel_rfl) (by kernel_rfl) (by kernel_rfl) (fun y=>by kernel_rfl) (rs:=[.cell 2 26]) (by kernel_rfl) .nil (I:=inlNone) inl_none (fun y=>by kernel_rfl)

noncomputable def glazierref11_wrap_e:Ent:=⟨22,(.cons (.val false I8) (.val false I8)),(.val false I8),fun y=>glazierref11_wrap y.1 y.2⟩
theorem glazierref11_wrap_ok:Ent.Ok Try.prog (glazierref11_wrap_e):=
  Ent.of (N:=15) (U:=60) allE_nil hmo (fn:=Try.f22) (c:=fnBody Try.f22) (G:=[]) (by kernel_rfl) (by kernel_rfl) (by kernel_rfl) (by kernel_rfl) (by kernel_rfl) (by kernel_rfl) (fun y=>by kernel_rfl) (rs:=[.tmp 4]) (by kernel_rfl) .nil (I:=inlNone) inl_none (fun y=>by kernel_rfl)

@[reducible] def glazierlaw11_TextureRight_i9_l1_V:VT:=[.slot 1 false [.ptr 1 0],.slot 2 false [.ptr 2 0],.slot 3 false [.ptr 3 0],.slot 4 false [D],.slot 100001 false [.dat (.int .u16)],.slot 100003 false [.ptr 100003 0],.slot 100005 false [.ptr 100005 0],.slot 100007 false [.dat .bool],.slot 100008 false [D],.slot 100009 false [D],.slot 100010 false [D],.slot 100011 false [.ptr 100011 0],.slot 100012 false [.ptr 100012 0],.slot 100013 false [.dat .bool],.box 1 26 [D,D,.dat (.list Y1)],z6,.box 3 26 [D,D,.own 30 Y1],.box 100003 22 [.dat U8,.dat U8],z7,z8,z9]
@[reducible] def glazierlaw11_TextureRight_i9_l1_X:List (Out × VT):=[(.exit 0,[.slot 2 false [.ptr 2 0],.slot 3 false [.ptr 3 0],.slot 100001 false [.dat (.int .u16)],.slot 100003 false [.ptr 100003 0],.slot 100005 false [.ptr 100005 0],.slot 100007 false [.dat .bool],.slot 100008 false [D],.slot 100009 false [D],.slot 100010 false [D],.slot 100011 false [.ptr 100011 0],.slot 100012 false [.ptr 100012 0],.slot 100013 false [.dat .bool],z6,.box 3 26 [D,D,.own 30 Y1],.box 100003 22 [.dat U8,.dat U8],z7,z8,z9])]
noncomputable def glazierlaw11_TextureRight_i9_l1_f (fl n:Nat):VT.T glazierlaw11_TextureRight_i9_l1_V -> Option (XT glazierlaw11_TextureRight_i9_l1_X):=fun v=>glazierlaw11_TextureRight_i9_l1 fl n v.1 v.2.1 v.2.2.1 v.2.2.2.1 v.2.2.2.2.1 v.2.2.2.2.2.1 v.2.2.2.2.2.2.1 v.2.2.2.2.2.2.2.1 v.2.2.2.2.2.2.2.2.1 v.2.2.2.2.2.2.2.2.2.1 v.2.2.2.2.2.2.2.2.2.2.1 v.2.2.2.2.2.2.2.2.2.2.2.1 v.2.2.2.2.2.2.2.2.2.2.2.2.1 v.2.2.2.2.2.2.2.2.2.2.2.2.2.1 v.2.2.2.2.2.2.2.2.2.2.2.2.2.2.1 v.2.2.2.2.2.2.2.2.2.2.2.2.2.2.2.1 v.2.2.2.2.2.2.2.2.2.2.2.2.2.2.2.2.1 v.2.2.2.2.2.2.2.2.2.2.2.2.2.2.2.2.2.1 v.2.2.2.2.2.2.2.2.2.2.2.2.2.2.2.2.2.2.1 v.2.2.2.2.2.2.2.2.2.2.2.2.2.2.2.2.2.2.2.1 v.2.2.2.2.2.2.2.2.2.2.2.2.2.2.2.2.2.2.2.2.1 v.2.2.2.2.2.2.2.2.2.2.2.2.2.2.2.2.2.2.2.2.2.1 v.2.2.2.2.2.2.2.2.2.2.2.2.2.2.2.2.2.2.2.2.2.2.1 v.2.2.2.2.2.2.2.2.2.2.2.2.2.2.2.2.2.2.2.2.2.2.2.1
noncomputable def glazierlaw11_TextureRight_i9_l1_s (fl:Nat):Seg:=⟨glazierlaw11_TextureRight_i9_l1_V,glazierlaw11_TextureRight_i9_l1_X,glazierlaw11_TextureRight_i9_l1_f fl fl⟩
theorem glazierlaw11_TextureRight_i9_l1_ok (fl:Nat):SegOk Try.prog 47 (.loop (loopBody (codeAt (fnBody Try.f9) 58))) (glazierlaw11_TextureRight_i9_l1_s fl):=
  SegOk.loop (c0:=fnBody Try.f9) (p:=58) (U:=60) allE_nil hmo (me:=9) ⟨Try.f9,by kernel_rfl,by kernel_rfl,by kernel_rfl⟩ (G:=[]) .nil (.of (f:=400) (by kernel_rfl)) (I:=Inl.mvd (inlTab _ Try.prog [] [⟨9,fnBody Try.f9,47,1060,[.cell 2 26],[]⟩] 12) true) (InlsOk.mvd (inlTab_ok allE_nil hmo allM_nil (inlL_cons ⟨⟨Try.f9,by kernel_rfl,by kernel_rfl,by kernel_rfl,by kernel_rfl,by kernel_rfl⟩,by kernel_rfl,.nil⟩ inlL_nil) 12) true) (F:=glazierlaw11_TextureRight_i9_l1_f fl) (VT.okV (by kernel_rfl)) (VT.okX (by kernel_rfl)) (fun v=>by kernel_rfl) (fun n v=>by kernel_rfl) fl

noncomputable def glazierref01_Div255_e:Ent:=⟨30,(.val false I8),(.val false I8),fun y=>glazierref01_Div255 y⟩
theorem glazierref01_Div255_ok:Ent.Ok Try.prog (glazierref01_Div255_e):=
  Ent.of (N:=11) (U:=60) allE_nil hmo (fn:=Try.f30) (c:=fnBody Try.f30) (G:=[]) (by kernel_rfl) (by kernel_rfl) (by kernel_rfl) (by kernel_rfl) (by kernel_rfl) (by kernel_rfl) (fun y=>by kernel_rfl) (rs:=[.tmp 2]) (by kernel_rfl) .nil (I:=inlNone) inl_none (fun y=>by kernel_rfl)

noncomputable def glazierref02_part_e:Ent:=⟨23,(.cons (.val false U8) (.val false U8)),(.val false U8),fun y=>glazierref02_part y.1 y.2⟩
theorem glazierref02_part_ok:Ent.Ok Try.prog (glazierref02_part_e):=
  Ent.of (N:=12) (U:=60) (allE_cons glazierref01_Div255_ok allE_nil) hmo (fn:=Try.f23) (c:=fnBody Try.f23) (G:=[]) (by kernel_rfl) (by kernel_rfl) (by kernel_rfl) (by kernel_rfl) (by kernel_rfl) (by kernel_rfl) (fun y=>by kernel_rfl) (rs:=[.tmp 4]) (by kernel_rfl) .nil (I:=inlNone) inl_none (fun y=>by kernel_rfl)

noncomputable def glazierref02_Pre_e:Ent:=⟨11,(.val true Y1),(.val true Y1),fun y=>glazierref02_Pre y⟩
theorem glazierref02_Pre_ok:Ent.Ok Try.prog (glazierref02_Pre_e):=
  Ent.of (N:=21) (U:=60) (allE_cons glazierref02_part_ok allE_nil) hmo (fn:=Try.f11) (c:=fnBody Try.f11) (G:=[]) (by kernel_rfl) (by kernel_rfl) (by kernel_rfl) (by kernel_rfl) (by kernel_rfl) (by kernel_rfl) (fun y=>by kernel_rfl) (rs:=[.cell 2 30]) (by kernel_rfl) .nil (I:=inlNone) inl_none (fun y=>by kernel_rfl)

@[reducible] def glazierlaw11_TextureRight_l1_V:VT:=[.slot 1 false [.dat (.int .u16)],.slot 7 false [.dat .bool],.slot 8 false [D],.slot 9 false [D],.slot 10 false [D],.slot 11 false [.ptr 11 0],.slot 12 false [.ptr 12 0],.slot 13 false [.dat .bool],.slot 14 false [.ptr 14 0],.slot 15 false [D],z10,z11,z12]
@[reducible] def glazierlaw11_TextureRight_l1_X:List (Out × VT):=[(.exit 0,[.slot 1 false [.dat (.int .u16)],.slot 7 false [.dat .bool],.slot 8 false [D],.slot 9 false [D],.slot 10 false [D],.slot 11 false [.ptr 11 0],.slot 12 false [.ptr 12 0],.slot 13 false [.dat .bool],.slot 14 false [.ptr 14 0],z10,z11,z12])]
noncomputable def glazierlaw11_TextureRight_l1_f (fl n:Nat):VT.T glazierlaw11_TextureRight_l1_V -> Option (XT glazierlaw11_TextureRight_l1_X):=fun v=>glazierlaw11_TextureRight_l1 fl n v.1 v.2.1 v.2.2.1 v.2.2.2.1 v.2.2.2.2.1 v.2.2.2.2.2.1 v.2.2.2.2.2.2.1 v.2.2.2.2.2.2.2.1 v.2.2.2.2.2.2.2.2.1 v.2.2.2.2.2.2.2.2.2.1 v.2.2.2.2.2.2.2.2.2.2.1 v.2.2.2.2.2.2.2.2.2.2.2.1 v.2.2.2.2.2.2.2.2.2.2.2.2.1 v.2.2.2.2.2.2.2.2.2.2.2.2.2.1 v.2.2.2.2.2.2.2.2.2.2.2.2.2.2.1 v.2.2.2.2.2.2.2.2.2.2.2.2.2.2.2.1
noncomputable def glazierlaw11_TextureRight_l1_s (fl:Nat):Seg:=⟨glazierlaw11_TextureRight_l1_V,glazierlaw11_TextureRight_l1_X,glazierlaw11_TextureRight_l1_f fl fl⟩
theorem glazierlaw11_TextureRight_l1_ok (fl:Nat):SegOk Try.prog 107 (.loop (loopBody (codeAt (fnBody Try.f3) 8186))) (glazierlaw11_TextureRight_l1_s fl):=
  SegOk.loop (c0:=fnBody Try.f3) (p:=8186) (U:=60) (allE_cons glazierref02_Pre_ok allE_nil) hmo (me:=3) ⟨Try.f3,by kernel_rfl,by kernel_rfl,by kernel_rfl⟩ (G:=[]) .nil (.of (f:=400) (by kernel_rfl)) (I:=Inl.mvd (inlTab _ Try.prog [] [⟨9,fnBody Try.f9,47,1060,[.cell 2 26],[(58,glazierlaw11_TextureRight_i9_l1_s fl)]⟩] 12) true) (InlsOk.mvd (inlTab_ok (allE_cons glazierref02_Pre_ok allE_nil) hmo allM_nil (inlL_cons ⟨⟨Try.f9,by kernel_rfl,by kernel_rfl,by kernel_rfl,by kernel_rfl,by kernel_rfl⟩,by kernel_rfl,(.cons (f:=400) (by kernel_rfl) (glazierlaw11_TextureRight_i9_l1_ok fl) .nil)⟩ inlL_nil) 12) true) (F:=glazierlaw11_TextureRight_l1_f fl) (VT.okV (by kernel_rfl)) (VT.okX (by kernel_rfl)) (fun v=>by kernel_rfl) (fun n v=>by kernel_rfl) fl

noncomputable def glazierref02_Right_e:Ent:=⟨12,(.val true Y1),(.val false .bool),fun y=>glazierref02_Right y⟩
theorem glazierref02_Right_ok:Ent.Ok Try.prog (glazierref02_Right_e):=
  Ent.of (N:=22) (U:=60) allE_nil hmo (fn:=Try.f12) (c:=fnBody Try.f12) (G:=[]) (by kernel_rfl) (by kernel_rfl) (by kernel_rfl) (by kernel_rfl) (by kernel_rfl) (by kernel_rfl) (fun y=>by kernel_rfl) (rs:=[.tmp 2]) (by kernel_rfl) .nil (I:=inlNone) inl_none (fun y=>by kernel_rfl)

noncomputable def glazierlaw11_TextureRight_e (fl:Nat):Ent:=⟨3,(.cons (.val true (.pair U8 U8)) (.cons (.val false (.int .u16)) (.val true (.pair I8 (.pair I8 (.list Y1)))))),(.val false .bool),fun y=>glazierlaw11_TextureRight fl y.1 y.2.1 y.2.2⟩
theorem glazierlaw11_TextureRight_ok (fl:Nat):Ent.Ok Try.prog (glazierlaw11_TextureRight_e fl):=
  have hT:=allE_cons (texture_Right_ok fl) (allE_cons (texture_Smooth_ok fl) (allE_cons (glazierlaw11_shown_ok fl) (allE_cons glazierlaw11_few_ok (allE_cons glazierref11_wrap_ok (allE_cons glazierref02_Pre_ok (allE_cons glazierref02_Right_ok allE_nil)))))); Ent.of (N:=107) (U:=60) hT hmo (fn:=Try.f3) (c:=fnBody Try.f3) (G:=[(8186,glazierlaw11_TextureRight_l1_s fl)]) (by kernel_rfl) (by kernel_rfl) (by kernel_rfl) (by kernel_rfl) (by kernel_rfl) (by kernel_rfl) (fun y=>by kernel_rfl) (rs:=[.tmp 6]) (by kernel_rfl) (.cons (f:=400) (by kernel_rfl) (glazierlaw11_TextureRight_l1_ok fl) .nil) (I:=Inl.mvd (inlTab _ Try.prog [] [⟨9,fnBody Try.f9,47,1060,[.cell 2 26],[(58,glazierlaw11_TextureRight_i9_l1_s fl)]⟩] 12) true) (InlsOk.mvd (inlTab_ok hT hmo allM_nil (inlL_cons ⟨⟨Try.f9,by kernel_rfl,by kernel_rfl,by kernel_rfl,by kernel_rfl,by kernel_rfl⟩,by kernel_rfl,(.cons (f:=400) (by kernel_rfl) (glazierlaw11_TextureRight_i9_l1_ok fl) .nil)⟩ inlL_nil) 12) true) (fun y=>by kernel_rfl)


end Go.Proofs.Ytomndhdpdhiplaa.G
