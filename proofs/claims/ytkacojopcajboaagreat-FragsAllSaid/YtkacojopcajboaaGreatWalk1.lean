/- A part of the proof. -/
import Derived.Test.YtkacojopcajboaaGreatWalk0
set_option linter.unusedVariables false
namespace Go.Proofs.YtkacojopcajboaaGreat.G
open Go Go.RowKit Go.Proofs.YtkacojopcajboaaGreat.M

noncomputable def glazierlaw22_box_e:Ent:=⟨8,(.val true (.pair (.int .i8) (.pair (.int .i8) (.pair (.int .i8) (.int .i8))))),(.val true Y1),fun y=>glazierlaw22_box y⟩
theorem glazierlaw22_box_ok:Ent.Ok Tryz.prog (glazierlaw22_box_e):=
  Ent.of (N:=16) (U:=60) allE_nil hmo (fn:=Tryz.f8) (c:=fnBody Tryz.f8) (G:=[]) (by kernel_rfl) (by kernel_rfl) (by kernel_rfl) (by kernel_rfl) (by kernel_rfl) (by kernel_rfl) (fun y=>by kernel_rfl) (rs:=[.cell 2 39]) (by kernel_rfl) .nil (I:=inlNone) inl_none (fun y=>by kernel_rfl)

noncomputable def glazierref04_Dist_e:Ent:=⟨76,(.cons (.val false I8) (.val true Y11)),(.val false I8),fun y=>glazierref04_Dist y.1 y.2⟩
theorem glazierref04_Dist_ok:Ent.Ok Tryz.prog (glazierref04_Dist_e):=
  Ent.of (N:=45) (U:=60) allE_nil hmo (fn:=Tryz.f76) (c:=fnBody Tryz.f76) (G:=[]) (by kernel_rfl) (by kernel_rfl) (by kernel_rfl) (by kernel_rfl) (by kernel_rfl) (by kernel_rfl) (fun y=>by kernel_rfl) (rs:=[.tmp 4]) (by kernel_rfl) .nil (I:=inlNone) inl_none (fun y=>by kernel_rfl)

noncomputable def glazierref01_size_e:Ent:=⟨120,(.val false I8),(.val false W8),fun y=>glazierref01_size y⟩
theorem glazierref01_size_ok:Ent.Ok Tryz.prog (glazierref01_size_e):=
  Ent.of (N:=10) (U:=60) allE_nil hmo (fn:=Tryz.f120) (c:=fnBody Tryz.f120) (G:=[]) (by kernel_rfl) (by kernel_rfl) (by kernel_rfl) (by kernel_rfl) (by kernel_rfl) (by kernel_rfl) (fun y=>by kernel_rfl) (rs:=[.tmp 2]) (by kernel_rfl) .nil (I:=inlNone) inl_none (fun y=>by kernel_rfl)

@[reducible] def glazierref01_times_l1_V:VT:=[z6,z9,z31,.slot 5 false [.dat W8],.slot 6 false [.dat W8],z184,z1,z39,z185]
@[reducible] def glazierref01_times_l1_X:List (Out × VT):=[(.exit 0,[z6,z9,z31,z184,z1,z185])]
noncomputable def glazierref01_times_l1_f (fl n:Nat):VT.T glazierref01_times_l1_V -> Option (XT glazierref01_times_l1_X):=fun v=>glazierref01_times_l1 fl n v.1 v.2.1 v.2.2.1 v.2.2.2.1 v.2.2.2.2.1 v.2.2.2.2.2.1 v.2.2.2.2.2.2.1
noncomputable def glazierref01_times_l1_s (fl:Nat):Seg:=⟨glazierref01_times_l1_V,glazierref01_times_l1_X,glazierref01_times_l1_f fl fl⟩
theorem glazierref01_times_l1_ok (fl:Nat):SegOk Tryz.prog 56 (.loop (loopBody (codeAt (fnBody Tryz.f118) 506))) (glazierref01_times_l1_s fl):=
  SegOk.loop (c0:=fnBody Tryz.f118) (p:=506) (U:=60) allE_nil hmo (me:=118) ⟨Tryz.f118,by kernel_rfl,by kernel_rfl,by kernel_rfl⟩ (G:=[]) .nil (.of (f:=400) (by kernel_rfl)) (I:=inlNone) inl_none (F:=glazierref01_times_l1_f fl) (VT.okV (by kernel_rfl)) (VT.okX (by kernel_rfl)) (fun v=>by kernel_rfl) (fun n v=>by kernel_rfl) fl

noncomputable def glazierref01_times_e (fl:Nat):Ent:=⟨118,(.cons (.val false I8) (.val false I8)),(.val true (.pair W8 (.pair W8 .bool))),fun y=>glazierref01_times fl y.1 y.2⟩
theorem glazierref01_times_ok (fl:Nat):Ent.Ok Tryz.prog (glazierref01_times_e fl):=
  Ent.of (N:=56) (U:=60) (allE_cons glazierref01_size_ok allE_nil) hmo (fn:=Tryz.f118) (c:=fnBody Tryz.f118) (G:=[(506,glazierref01_times_l1_s fl)]) (by kernel_rfl) (by kernel_rfl) (by kernel_rfl) (by kernel_rfl) (by kernel_rfl) (by kernel_rfl) (fun y=>by kernel_rfl) (rs:=[.cell 4 156]) (by kernel_rfl) (.cons (f:=400) (by kernel_rfl) (glazierref01_times_l1_ok fl) .nil) (I:=inlNone) inl_none (fun y=>by kernel_rfl)

@[reducible] def glazierref01_parts_l1_V:VT:=[.slot 1 false [.dat W8],z173,z184,z1,z2,z15,.box 2 156 [.dat W8,.dat W8,.dat .bool]]
@[reducible] def glazierref01_parts_l1_X:List (Out × VT):=[(.exit 0,[z184,z1,z2])]
noncomputable def glazierref01_parts_l1_f (fl n:Nat):VT.T glazierref01_parts_l1_V -> Option (XT glazierref01_parts_l1_X):=fun v=>glazierref01_parts_l1 fl n v.1 v.2.1 v.2.2.1 v.2.2.2.1 v.2.2.2.2.1 v.2.2.2.2.2.1 v.2.2.2.2.2.2.1 v.2.2.2.2.2.2.2.1
noncomputable def glazierref01_parts_l1_s (fl:Nat):Seg:=⟨glazierref01_parts_l1_V,glazierref01_parts_l1_X,glazierref01_parts_l1_f fl fl⟩
theorem glazierref01_parts_l1_ok (fl:Nat):SegOk Tryz.prog 57 (.loop (loopBody (codeAt (fnBody Tryz.f119) 250))) (glazierref01_parts_l1_s fl):=
  SegOk.loop (c0:=fnBody Tryz.f119) (p:=250) (U:=60) allE_nil hmo (me:=119) ⟨Tryz.f119,by kernel_rfl,by kernel_rfl,by kernel_rfl⟩ (G:=[]) .nil (.of (f:=400) (by kernel_rfl)) (I:=inlNone) inl_none (F:=glazierref01_parts_l1_f fl) (VT.okV (by kernel_rfl)) (VT.okX (by kernel_rfl)) (fun v=>by kernel_rfl) (fun n v=>by kernel_rfl) fl

noncomputable def glazierref01_parts_e (fl:Nat):Ent:=⟨119,(.cons (.val true (.pair W8 (.pair W8 .bool))) (.val false W8)),(.cons (.val false W8) (.cons (.val false W8) (.val false W8))),fun y=>glazierref01_parts fl y.1 y.2⟩
theorem glazierref01_parts_ok (fl:Nat):Ent.Ok Tryz.prog (glazierref01_parts_e fl):=
  Ent.of (N:=57) (U:=60) allE_nil hmo (fn:=Tryz.f119) (c:=fnBody Tryz.f119) (G:=[(250,glazierref01_parts_l1_s fl)]) (by kernel_rfl) (by kernel_rfl) (by kernel_rfl) (by kernel_rfl) (by kernel_rfl) (by kernel_rfl) (fun y=>by kernel_rfl) (rs:=[.tmp 4,.tmp 5,.tmp 6]) (by kernel_rfl) (.cons (f:=400) (by kernel_rfl) (glazierref01_parts_l1_ok fl) .nil) (I:=inlNone) inl_none (fun y=>by kernel_rfl)

noncomputable def glazierref01_told_e:Ent:=⟨121,(.cons (.val false W8) (.cons (.val false W8) (.val false .bool))),(.cons (.val false I8) (.val false I8)),fun y=>glazierref01_told y.1 y.2.1 y.2.2⟩
theorem glazierref01_told_ok:Ent.Ok Tryz.prog (glazierref01_told_e):=
  Ent.of (N:=25) (U:=60) allE_nil hmo (fn:=Tryz.f121) (c:=fnBody Tryz.f121) (G:=[]) (by kernel_rfl) (by kernel_rfl) (by kernel_rfl) (by kernel_rfl) (by kernel_rfl) (by kernel_rfl) (fun y=>by kernel_rfl) (rs:=[.tmp 6,.tmp 7]) (by kernel_rfl) .nil (I:=inlNone) inl_none (fun y=>by kernel_rfl)

noncomputable def glazierref01_MulDiv_e (fl:Nat):Ent:=⟨88,(.cons (.val false I8) (.cons (.val false I8) (.val false I8))),(.cons (.val false I8) (.val false I8)),fun y=>glazierref01_MulDiv fl y.1 y.2.1 y.2.2⟩
theorem glazierref01_MulDiv_ok (fl:Nat):Ent.Ok Tryz.prog (glazierref01_MulDiv_e fl):=
  Ent.of (N:=58) (U:=60) (allE_cons glazierref01_size_ok (allE_cons (glazierref01_times_ok fl) (allE_cons (glazierref01_parts_ok fl) (allE_cons glazierref01_told_ok allE_nil)))) hmo (fn:=Tryz.f88) (c:=fnBody Tryz.f88) (G:=[]) (by kernel_rfl) (by kernel_rfl) (by kernel_rfl) (by kernel_rfl) (by kernel_rfl) (by kernel_rfl) (fun y=>by kernel_rfl) (rs:=[.tmp 6,.tmp 7]) (by kernel_rfl) .nil (I:=inlNone) inl_none (fun y=>by kernel_rfl)

noncomputable def glazierref01_Floor_e (fl:Nat):Ent:=⟨113,(.cons (.val false I8) (.val false I8)),(.cons (.val false I8) (.val false I8)),fun y=>glazierref01_Floor fl y.1 y.2⟩
theorem glazierref01_Floor_ok (fl:Nat):Ent.Ok Tryz.prog (glazierref01_Floor_e fl):=
  Ent.of (N:=11) (U:=60) (allE_cons (glazierref01_MulDiv_ok fl) allE_nil) hmo (fn:=Tryz.f113) (c:=fnBody Tryz.f113) (G:=[]) (by kernel_rfl) (by kernel_rfl) (by kernel_rfl) (by kernel_rfl) (by kernel_rfl) (by kernel_rfl) (fun y=>by kernel_rfl) (rs:=[.tmp 4,.tmp 5]) (by kernel_rfl) .nil (I:=inlNone) inl_none (fun y=>by kernel_rfl)

noncomputable def glazierref01_Down_e (fl:Nat):Ent:=⟨75,(.cons (.val false I8) (.val false I8)),(.val false I8),fun y=>glazierref01_Down fl y.1 y.2⟩
theorem glazierref01_Down_ok (fl:Nat):Ent.Ok Tryz.prog (glazierref01_Down_e fl):=
  Ent.of (N:=14) (U:=60) (allE_cons (glazierref01_Floor_ok fl) allE_nil) hmo (fn:=Tryz.f75) (c:=fnBody Tryz.f75) (G:=[]) (by kernel_rfl) (by kernel_rfl) (by kernel_rfl) (by kernel_rfl) (by kernel_rfl) (by kernel_rfl) (fun y=>by kernel_rfl) (rs:=[.tmp 4]) (by kernel_rfl) .nil (I:=inlNone) inl_none (fun y=>by kernel_rfl)

noncomputable def glazierref04_Between_e (fl:Nat):Ent:=⟨77,(.cons (.val true Y11) (.cons (.val true Y11) (.val false I8))),(.cons (.val true Y11) (.val false .bool)),fun y=>glazierref04_Between fl y.1 y.2.1 y.2.2⟩
theorem glazierref04_Between_ok (fl:Nat):Ent.Ok Tryz.prog (glazierref04_Between_e fl):=
  Ent.of (N:=122) (U:=60) (allE_cons glazierref04_Dist_ok (allE_cons (glazierref01_Down_ok fl) allE_nil)) hmo (fn:=Tryz.f77) (c:=fnBody Tryz.f77) (G:=[]) (by kernel_rfl) (by kernel_rfl) (by kernel_rfl) (by kernel_rfl) (by kernel_rfl) (by kernel_rfl) (fun y=>by kernel_rfl) (rs:=[.cell 6 66,.tmp 7]) (by kernel_rfl) .nil (I:=inlNone) inl_none (fun y=>by kernel_rfl)

@[reducible] def glazierref05_By_l1_V:VT:=[z6,.slot 1 false [.dat Y9],z7,z8,z30]
@[reducible] def glazierref05_By_l1_X:List (Out × VT):=[(.exit 0,[z7,z8])]
noncomputable def glazierref05_By_l1_f (fl n:Nat):VT.T glazierref05_By_l1_V -> Option (XT glazierref05_By_l1_X):=fun v=>glazierref05_By_l1 fl n v.1 v.2.1 v.2.2.1 v.2.2.2.1
noncomputable def glazierref05_By_l1_s (fl:Nat):Seg:=⟨glazierref05_By_l1_V,glazierref05_By_l1_X,glazierref05_By_l1_f fl fl⟩
theorem glazierref05_By_l1_ok (fl:Nat):SegOk Tryz.prog 89 (.loop (loopBody (codeAt (fnBody Tryz.f50) 122))) (glazierref05_By_l1_s fl):=
  SegOk.loop (c0:=fnBody Tryz.f50) (p:=122) (U:=60) (allE_cons glazierref04_Dist_ok (allE_cons (glazierref04_Between_ok fl) allE_nil)) hmo (me:=50) ⟨Tryz.f50,by kernel_rfl,by kernel_rfl,by kernel_rfl⟩ (G:=[]) .nil (.of (f:=400) (by kernel_rfl)) (I:=inlNone) inl_none (F:=glazierref05_By_l1_f fl) (VT.okV (by kernel_rfl)) (VT.okX (by kernel_rfl)) (fun v=>by kernel_rfl) (fun n v=>by kernel_rfl) fl

noncomputable def glazierref05_By_e (fl:Nat):Ent:=⟨50,(.cons (.val false I8) (.val false Y9)),(.own 66 Y11),fun y=>glazierref05_By fl y.1 y.2⟩
theorem glazierref05_By_ok (fl:Nat):Ent.Ok Tryz.prog (glazierref05_By_e fl):=
  Ent.of (N:=89) (U:=60) (allE_cons glazierref04_Dist_ok (allE_cons (glazierref04_Between_ok fl) allE_nil)) hmo (fn:=Tryz.f50) (c:=fnBody Tryz.f50) (G:=[(122,glazierref05_By_l1_s fl)]) (by kernel_rfl) (by kernel_rfl) (by kernel_rfl) (by kernel_rfl) (by kernel_rfl) (by kernel_rfl) (fun y=>by kernel_rfl) (rs:=[.tmp 4]) (by kernel_rfl) (.cons (f:=400) (by kernel_rfl) (glazierref05_By_l1_ok fl) .nil) (I:=inlNone) inl_none (fun y=>by kernel_rfl)

noncomputable def glazierref05_Poly_e (fl:Nat):Ent:=⟨30,(.val false Y9),(.own 66 Y11),fun y=>glazierref05_Poly fl y⟩
theorem glazierref05_Poly_ok (fl:Nat):Ent.Ok Tryz.prog (glazierref05_Poly_e fl):=
  Ent.of (N:=19) (U:=60) (allE_cons (glazierref05_By_ok fl) allE_nil) hmo (fn:=Tryz.f30) (c:=fnBody Tryz.f30) (G:=[]) (by kernel_rfl) (by kernel_rfl) (by kernel_rfl) (by kernel_rfl) (by kernel_rfl) (by kernel_rfl) (fun y=>by kernel_rfl) (rs:=[.tmp 2]) (by kernel_rfl) .nil (I:=inlNone) inl_none (fun y=>by kernel_rfl)

noncomputable def glazierref06_Point_e (fl:Nat):Ent:=⟨49,(.cons (.val false I8) (.cons (.val false I8) (.val true Y11))),(.cons (.val true Y3) (.val false .bool)),fun y=>glazierref06_Point fl y.1 y.2.1 y.2.2⟩
theorem glazierref06_Point_ok (fl:Nat):Ent.Ok Tryz.prog (glazierref06_Point_e fl):=
  Ent.of (N:=66) (U:=60) (allE_cons (glazierref01_Down_ok fl) allE_nil) hmo (fn:=Tryz.f49) (c:=fnBody Tryz.f49) (G:=[]) (by kernel_rfl) (by kernel_rfl) (by kernel_rfl) (by kernel_rfl) (by kernel_rfl) (by kernel_rfl) (fun y=>by kernel_rfl) (rs:=[.cell 6 70,.tmp 7]) (by kernel_rfl) .nil (I:=inlNone) inl_none (fun y=>by kernel_rfl)

@[reducible] def glazierref06_Points_l1_V:VT:=[z6,z9,.slot 2 false [.dat Y9],z10,z11,z39]
@[reducible] def glazierref06_Points_l1_X:List (Out × VT):=[(.ret,[z10,.slot 7 false [.kbool false]]),(.exit 0,[z10,z11])]
noncomputable def glazierref06_Points_l1_f (fl n:Nat):VT.T glazierref06_Points_l1_V -> Option (XT glazierref06_Points_l1_X):=fun v=>glazierref06_Points_l1 fl n v.1 v.2.1 v.2.2.1 v.2.2.2.1 v.2.2.2.2.1
noncomputable def glazierref06_Points_l1_s (fl:Nat):Seg:=⟨glazierref06_Points_l1_V,glazierref06_Points_l1_X,glazierref06_Points_l1_f fl fl⟩
theorem glazierref06_Points_l1_ok (fl:Nat):SegOk Tryz.prog 36 (.loop (loopBody (codeAt (fnBody Tryz.f29) 58))) (glazierref06_Points_l1_s fl):=
  SegOk.loop (c0:=fnBody Tryz.f29) (p:=58) (U:=60) (allE_cons (glazierref06_Point_ok fl) allE_nil) hmo (me:=29) ⟨Tryz.f29,by kernel_rfl,by kernel_rfl,by kernel_rfl⟩ (G:=[]) .nil (.of (f:=400) (by kernel_rfl)) (I:=inlNone) inl_none (F:=glazierref06_Points_l1_f fl) (VT.okV (by kernel_rfl)) (VT.okX (by kernel_rfl)) (fun v=>by kernel_rfl) (fun n v=>by kernel_rfl) fl

noncomputable def glazierref06_Points_e (fl:Nat):Ent:=⟨29,(.cons (.val false I8) (.cons (.val false I8) (.val false Y9))),(.cons (.own 70 Y3) (.val false .bool)),fun y=>glazierref06_Points fl y.1 y.2.1 y.2.2⟩
theorem glazierref06_Points_ok (fl:Nat):Ent.Ok Tryz.prog (glazierref06_Points_e fl):=
  Ent.of (N:=36) (U:=60) (allE_cons (glazierref06_Point_ok fl) allE_nil) hmo (fn:=Tryz.f29) (c:=fnBody Tryz.f29) (G:=[(58,glazierref06_Points_l1_s fl)]) (by kernel_rfl) (by kernel_rfl) (by kernel_rfl) (by kernel_rfl) (by kernel_rfl) (by kernel_rfl) (fun y=>by kernel_rfl) (rs:=[.tmp 6,.tmp 7]) (by kernel_rfl) (.cons (f:=400) (by kernel_rfl) (glazierref06_Points_l1_ok fl) .nil) (I:=inlNone) inl_none (fun y=>by kernel_rfl)

noncomputable def glazierref07_Cross_e:Ent:=⟨78,(.cons (.val true Y3) (.cons (.val true Y3) (.cons (.val false I8) (.val false I8)))),(.val false I8),fun y=>glazierref07_Cross y.1 y.2.1 y.2.2.1 y.2.2.2⟩
theorem glazierref07_Cross_ok:Ent.Ok Tryz.prog (glazierref07_Cross_e):=
  Ent.of (N:=30) (U:=60) allE_nil hmo (fn:=Tryz.f78) (c:=fnBody Tryz.f78) (G:=[]) (by kernel_rfl) (by kernel_rfl) (by kernel_rfl) (by kernel_rfl) (by kernel_rfl) (by kernel_rfl) (fun y=>by kernel_rfl) (rs:=[.tmp 8]) (by kernel_rfl) .nil (I:=inlNone) inl_none (fun y=>by kernel_rfl)

noncomputable def glazierref07_Area_e:Ent:=⟨51,(.val true (.pair Y3 (.pair Y3 Y3))),(.val false I8),fun y=>glazierref07_Area y⟩
theorem glazierref07_Area_ok:Ent.Ok Tryz.prog (glazierref07_Area_e):=
  Ent.of (N:=14) (U:=60) (allE_cons glazierref07_Cross_ok allE_nil) hmo (fn:=Tryz.f51) (c:=fnBody Tryz.f51) (G:=[]) (by kernel_rfl) (by kernel_rfl) (by kernel_rfl) (by kernel_rfl) (by kernel_rfl) (by kernel_rfl) (fun y=>by kernel_rfl) (rs:=[.tmp 2]) (by kernel_rfl) .nil (I:=inlNone) inl_none (fun y=>by kernel_rfl)

noncomputable def glazierref07_Turned_e:Ent:=⟨31,(.val true (.pair Y3 (.pair Y3 Y3))),(.cons (.val true (.pair Y3 (.pair Y3 Y3))) (.val false .bool)),fun y=>glazierref07_Turned y⟩
theorem glazierref07_Turned_ok:Ent.Ok Tryz.prog (glazierref07_Turned_e):=
  Ent.of (N:=20) (U:=60) (allE_cons glazierref07_Area_ok allE_nil) hmo (fn:=Tryz.f31) (c:=fnBody Tryz.f31) (G:=[]) (by kernel_rfl) (by kernel_rfl) (by kernel_rfl) (by kernel_rfl) (by kernel_rfl) (by kernel_rfl) (fun y=>by kernel_rfl) (rs:=[.cell 2 71,.tmp 3]) (by kernel_rfl) .nil (I:=inlNone) inl_none (fun y=>by kernel_rfl)

@[reducible] def glazierref10_Parts_l1_V:VT:=[z10,.slot 7 false [.dat (.list Y3)],z14,z15]
@[reducible] def glazierref10_Parts_l1_X:List (Out × VT):=[(.exit 0,[z10,z14])]
noncomputable def glazierref10_Parts_l1_f (fl n:Nat):VT.T glazierref10_Parts_l1_V -> Option (XT glazierref10_Parts_l1_X):=fun v=>glazierref10_Parts_l1 fl n v.1 v.2.1 v.2.2.1
noncomputable def glazierref10_Parts_l1_s (fl:Nat):Seg:=⟨glazierref10_Parts_l1_V,glazierref10_Parts_l1_X,glazierref10_Parts_l1_f fl fl⟩
theorem glazierref10_Parts_l1_ok (fl:Nat):SegOk Tryz.prog 61 (.loop (loopBody (codeAt (fnBody Tryz.f16) 122))) (glazierref10_Parts_l1_s fl):=
  SegOk.loop (c0:=fnBody Tryz.f16) (p:=122) (U:=60) (allE_cons glazierref07_Turned_ok allE_nil) hmo (me:=16) ⟨Tryz.f16,by kernel_rfl,by kernel_rfl,by kernel_rfl⟩ (G:=[]) .nil (.of (f:=400) (by kernel_rfl)) (I:=inlNone) inl_none (F:=glazierref10_Parts_l1_f fl) (VT.okV (by kernel_rfl)) (VT.okX (by kernel_rfl)) (fun v=>by kernel_rfl) (fun n v=>by kernel_rfl) fl

noncomputable def glazierref10_Parts_e (fl:Nat):Ent:=⟨16,(.cons (.val false I8) (.cons (.val false I8) (.val true (.pair Y11 (.pair Y11 Y11))))),(.own 73 Y10),fun y=>glazierref10_Parts fl y.1 y.2.1 y.2.2⟩
theorem glazierref10_Parts_ok (fl:Nat):Ent.Ok Tryz.prog (glazierref10_Parts_e fl):=
  Ent.of (N:=61) (U:=60) (allE_cons (glazierref05_Poly_ok fl) (allE_cons (glazierref06_Points_ok fl) (allE_cons glazierref07_Turned_ok allE_nil))) hmo (fn:=Tryz.f16) (c:=fnBody Tryz.f16) (G:=[(122,glazierref10_Parts_l1_s fl)]) (by kernel_rfl) (by kernel_rfl) (by kernel_rfl) (by kernel_rfl) (by kernel_rfl) (by kernel_rfl) (fun y=>by kernel_rfl) (rs:=[.tmp 6]) (by kernel_rfl) (.cons (f:=400) (by kernel_rfl) (glazierref10_Parts_l1_ok fl) .nil) (I:=inlNone) inl_none (fun y=>by kernel_rfl)

noncomputable def glazierref06_Pixel_e (fl:Nat):Ent:=⟨52,(.val false I8),(.val false I8),fun y=>glazierref06_Pixel fl y⟩
theorem glazierref06_Pixel_ok (fl:Nat):Ent.Ok Tryz.prog (glazierref06_Pixel_e fl):=
  Ent.of (N:=5) (U:=60) (allE_cons (glazierref01_Down_ok fl) allE_nil) hmo (fn:=Tryz.f52) (c:=fnBody Tryz.f52) (G:=[]) (by kernel_rfl) (by kernel_rfl) (by kernel_rfl) (by kernel_rfl) (by kernel_rfl) (by kernel_rfl) (fun y=>by kernel_rfl) (rs:=[.tmp 2]) (by kernel_rfl) .nil (I:=inlNone) inl_none (fun y=>by kernel_rfl)

noncomputable def glazierref10_Box_e (fl:Nat):Ent:=⟨32,(.cons (.val false I8) (.cons (.val false I8) (.val true (.pair Y3 (.pair Y3 Y3))))),(.cons (.val false I8) (.cons (.val false I8) (.cons (.val false I8) (.val false I8)))),fun y=>glazierref10_Box fl y.1 y.2.1 y.2.2⟩
theorem glazierref10_Box_ok (fl:Nat):Ent.Ok Tryz.prog (glazierref10_Box_e fl):=
  Ent.of (N:=65) (U:=60) (allE_cons (glazierref06_Pixel_ok fl) allE_nil) hmo (fn:=Tryz.f32) (c:=fnBody Tryz.f32) (G:=[]) (by kernel_rfl) (by kernel_rfl) (by kernel_rfl) (by kernel_rfl) (by kernel_rfl) (by kernel_rfl) (fun y=>by kernel_rfl) (rs:=[.tmp 6,.tmp 7,.tmp 8,.tmp 9]) (by kernel_rfl) .nil (I:=inlNone) inl_none (fun y=>by kernel_rfl)

noncomputable def glazierref08_Sample_e:Ent:=⟨53,(.cons (.val false I8) (.cons (.val false I8) (.val false I8))),(.cons (.val false I8) (.val false I8)),fun y=>glazierref08_Sample y.1 y.2.1 y.2.2⟩
theorem glazierref08_Sample_ok:Ent.Ok Tryz.prog (glazierref08_Sample_e):=
  Ent.of (N:=39) (U:=60) allE_nil hmo (fn:=Tryz.f53) (c:=fnBody Tryz.f53) (G:=[]) (by kernel_rfl) (by kernel_rfl) (by kernel_rfl) (by kernel_rfl) (by kernel_rfl) (by kernel_rfl) (fun y=>by kernel_rfl) (rs:=[.tmp 6,.tmp 7]) (by kernel_rfl) .nil (I:=inlNone) inl_none (fun y=>by kernel_rfl)

noncomputable def glazierref07_First_e:Ent:=⟨79,(.cons (.val true Y3) (.val true Y3)),(.val false .bool),fun y=>glazierref07_First y.1 y.2⟩
theorem glazierref07_First_ok:Ent.Ok Tryz.prog (glazierref07_First_e):=
  Ent.of (N:=24) (U:=60) allE_nil hmo (fn:=Tryz.f79) (c:=fnBody Tryz.f79) (G:=[]) (by kernel_rfl) (by kernel_rfl) (by kernel_rfl) (by kernel_rfl) (by kernel_rfl) (by kernel_rfl) (fun y=>by kernel_rfl) (rs:=[.tmp 4]) (by kernel_rfl) .nil (I:=inlNone) inl_none (fun y=>by kernel_rfl)

noncomputable def glazierref07_In_e:Ent:=⟨54,(.cons (.val true (.pair Y3 (.pair Y3 Y3))) (.cons (.val false I8) (.val false I8))),(.val false .bool),fun y=>glazierref07_In y.1 y.2.1 y.2.2⟩
theorem glazierref07_In_ok:Ent.Ok Tryz.prog (glazierref07_In_e):=
  Ent.of (N:=45) (U:=60) (allE_cons glazierref07_Cross_ok (allE_cons glazierref07_Area_ok (allE_cons glazierref07_First_ok allE_nil))) hmo (fn:=Tryz.f54) (c:=fnBody Tryz.f54) (G:=[]) (by kernel_rfl) (by kernel_rfl) (by kernel_rfl) (by kernel_rfl) (by kernel_rfl) (by kernel_rfl) (fun y=>by kernel_rfl) (rs:=[.tmp 6]) (by kernel_rfl) .nil (I:=inlNone) inl_none (fun y=>by kernel_rfl)

@[reducible] def glazierref08_Mask_j1_V:VT:=[z9,z16,z17,.slot 7 false [.kint .u8 0],.slot 8 false [.kint .u8 1],.slot 9 false [.kint .i64 0],z18]
@[reducible] def glazierref08_Mask_j1_X:List (Out × VT):=[(.normal,[z9,z16,z17,z186,.slot 8 false [.kint .u8 2],.slot 9 false [.kint .i64 0],z18])]
noncomputable def glazierref08_Mask_j1_s (fl:Nat):Seg:=⟨glazierref08_Mask_j1_V,glazierref08_Mask_j1_X,fun v=>glazierref08_Mask_j1 fl v.1 v.2.1 v.2.2.1 v.2.2.2.1 v.2.2.2.2.1 v.2.2.2.2.2.1 v.2.2.2.2.2.2.1 v.2.2.2.2.2.2.2.1 v.2.2.2.2.2.2.2.2.1 v.2.2.2.2.2.2.2.2.2.1 v.2.2.2.2.2.2.2.2.2.2.1 v.2.2.2.2.2.2.2.2.2.2.2.1 v.2.2.2.2.2.2.2.2.2.2.2.2.1 v.2.2.2.2.2.2.2.2.2.2.2.2.2.1 v.2.2.2.2.2.2.2.2.2.2.2.2.2.2.1 v.2.2.2.2.2.2.2.2.2.2.2.2.2.2.2.1 v.2.2.2.2.2.2.2.2.2.2.2.2.2.2.2.2.1 v.2.2.2.2.2.2.2.2.2.2.2.2.2.2.2.2.2.1 v.2.2.2.2.2.2.2.2.2.2.2.2.2.2.2.2.2.2.1 v.2.2.2.2.2.2.2.2.2.2.2.2.2.2.2.2.2.2.2.1 v.2.2.2.2.2.2.2.2.2.2.2.2.2.2.2.2.2.2.2.2.1 v.2.2.2.2.2.2.2.2.2.2.2.2.2.2.2.2.2.2.2.2.2.1 v.2.2.2.2.2.2.2.2.2.2.2.2.2.2.2.2.2.2.2.2.2.2.1⟩
theorem glazierref08_Mask_j1_ok (fl:Nat):SegOk Tryz.prog 35 (codeAt (fnBody Tryz.f33) 978) (glazierref08_Mask_j1_s fl):=
  SegOk.of (c0:=fnBody Tryz.f33) (p:=978) (U:=60) (allE_cons glazierref08_Sample_ok (allE_cons glazierref07_In_ok allE_nil)) hmo (me:=33) ⟨Tryz.f33,by kernel_rfl,by kernel_rfl,by kernel_rfl⟩ (G:=[]) .nil (.of (f:=400) (by kernel_rfl)) (I:=inlNone) inl_none (sg:=glazierref08_Mask_j1_s fl) (VT.okV (by kernel_rfl)) (VT.okX (by kernel_rfl)) (fun v=>by kernel_rfl)

@[reducible] def glazierref08_Mask_j2_V:VT:=[z9,z16,z17,z186,.slot 8 false [.kint .u8 2],.slot 9 false [.kint .i64 1],z18]
@[reducible] def glazierref08_Mask_j2_X:List (Out × VT):=[(.normal,[z9,z16,z17,z186,.slot 8 false [.kint .u8 4],.slot 9 false [.kint .i64 1],z18])]
noncomputable def glazierref08_Mask_j2_s (fl:Nat):Seg:=⟨glazierref08_Mask_j2_V,glazierref08_Mask_j2_X,fun v=>glazierref08_Mask_j2 fl v.1 v.2.1 v.2.2.1 v.2.2.2.1 v.2.2.2.2.1 v.2.2.2.2.2.1 v.2.2.2.2.2.2.1 v.2.2.2.2.2.2.2.1 v.2.2.2.2.2.2.2.2.1 v.2.2.2.2.2.2.2.2.2.1 v.2.2.2.2.2.2.2.2.2.2.1 v.2.2.2.2.2.2.2.2.2.2.2.1 v.2.2.2.2.2.2.2.2.2.2.2.2.1 v.2.2.2.2.2.2.2.2.2.2.2.2.2.1 v.2.2.2.2.2.2.2.2.2.2.2.2.2.2.1 v.2.2.2.2.2.2.2.2.2.2.2.2.2.2.2.1 v.2.2.2.2.2.2.2.2.2.2.2.2.2.2.2.2.1 v.2.2.2.2.2.2.2.2.2.2.2.2.2.2.2.2.2.1 v.2.2.2.2.2.2.2.2.2.2.2.2.2.2.2.2.2.2.1 v.2.2.2.2.2.2.2.2.2.2.2.2.2.2.2.2.2.2.2.1 v.2.2.2.2.2.2.2.2.2.2.2.2.2.2.2.2.2.2.2.2.1 v.2.2.2.2.2.2.2.2.2.2.2.2.2.2.2.2.2.2.2.2.2.1 v.2.2.2.2.2.2.2.2.2.2.2.2.2.2.2.2.2.2.2.2.2.2.1 v.2.2.2.2.2.2.2.2.2.2.2.2.2.2.2.2.2.2.2.2.2.2.2.1⟩
theorem glazierref08_Mask_j2_ok (fl:Nat):SegOk Tryz.prog 35 (codeAt (fnBody Tryz.f33) 978) (glazierref08_Mask_j2_s fl):=
  SegOk.of (c0:=fnBody Tryz.f33) (p:=978) (U:=60) (allE_cons glazierref08_Sample_ok (allE_cons glazierref07_In_ok allE_nil)) hmo (me:=33) ⟨Tryz.f33,by kernel_rfl,by kernel_rfl,by kernel_rfl⟩ (G:=[(978,glazierref08_Mask_j1_s fl)]) (.cons (f:=400) (by kernel_rfl) (glazierref08_Mask_j1_ok fl) .nil) (.of (f:=400) (by kernel_rfl)) (I:=inlNone) inl_none (sg:=glazierref08_Mask_j2_s fl) (VT.okV (by kernel_rfl)) (VT.okX (by kernel_rfl)) (fun v=>by kernel_rfl)

@[reducible] def glazierref08_Mask_j3_V:VT:=[z9,z16,z17,z186,.slot 8 false [.kint .u8 4],.slot 9 false [.kint .i64 2],z18]
@[reducible] def glazierref08_Mask_j3_X:List (Out × VT):=[(.normal,[z9,z16,z17,z186,.slot 8 false [.kint .u8 8],.slot 9 false [.kint .i64 2],z18])]
noncomputable def glazierref08_Mask_j3_s (fl:Nat):Seg:=⟨glazierref08_Mask_j3_V,glazierref08_Mask_j3_X,fun v=>glazierref08_Mask_j3 fl v.1 v.2.1 v.2.2.1 v.2.2.2.1 v.2.2.2.2.1 v.2.2.2.2.2.1 v.2.2.2.2.2.2.1 v.2.2.2.2.2.2.2.1 v.2.2.2.2.2.2.2.2.1 v.2.2.2.2.2.2.2.2.2.1 v.2.2.2.2.2.2.2.2.2.2.1 v.2.2.2.2.2.2.2.2.2.2.2.1 v.2.2.2.2.2.2.2.2.2.2.2.2.1 v.2.2.2.2.2.2.2.2.2.2.2.2.2.1 v.2.2.2.2.2.2.2.2.2.2.2.2.2.2.1 v.2.2.2.2.2.2.2.2.2.2.2.2.2.2.2.1 v.2.2.2.2.2.2.2.2.2.2.2.2.2.2.2.2.1 v.2.2.2.2.2.2.2.2.2.2.2.2.2.2.2.2.2.1 v.2.2.2.2.2.2.2.2.2.2.2.2.2.2.2.2.2.2.1 v.2.2.2.2.2.2.2.2.2.2.2.2.2.2.2.2.2.2.2.1 v.2.2.2.2.2.2.2.2.2.2.2.2.2.2.2.2.2.2.2.2.1 v.2.2.2.2.2.2.2.2.2.2.2.2.2.2.2.2.2.2.2.2.2.1 v.2.2.2.2.2.2.2.2.2.2.2.2.2.2.2.2.2.2.2.2.2.2.1 v.2.2.2.2.2.2.2.2.2.2.2.2.2.2.2.2.2.2.2.2.2.2.2.1⟩
theorem glazierref08_Mask_j3_ok (fl:Nat):SegOk Tryz.prog 35 (codeAt (fnBody Tryz.f33) 978) (glazierref08_Mask_j3_s fl):=
  SegOk.of (c0:=fnBody Tryz.f33) (p:=978) (U:=60) (allE_cons glazierref08_Sample_ok (allE_cons glazierref07_In_ok allE_nil)) hmo (me:=33) ⟨Tryz.f33,by kernel_rfl,by kernel_rfl,by kernel_rfl⟩ (G:=[(978,glazierref08_Mask_j1_s fl),(978,glazierref08_Mask_j2_s fl)]) (.cons (f:=400) (by kernel_rfl) (glazierref08_Mask_j1_ok fl) (.cons (f:=400) (by kernel_rfl) (glazierref08_Mask_j2_ok fl) .nil)) (.of (f:=400) (by kernel_rfl)) (I:=inlNone) inl_none (sg:=glazierref08_Mask_j3_s fl) (VT.okV (by kernel_rfl)) (VT.okX (by kernel_rfl)) (fun v=>by kernel_rfl)

@[reducible] def glazierref08_Mask_j4_V:VT:=[z9,z16,z17,z186,.slot 8 false [.kint .u8 8],.slot 9 false [.kint .i64 3],z18]
@[reducible] def glazierref08_Mask_j4_X:List (Out × VT):=[(.normal,[z9,z16,z17,z186,.slot 8 false [.kint .u8 16],.slot 9 false [.kint .i64 3],z18])]
noncomputable def glazierref08_Mask_j4_s (fl:Nat):Seg:=⟨glazierref08_Mask_j4_V,glazierref08_Mask_j4_X,fun v=>glazierref08_Mask_j4 fl v.1 v.2.1 v.2.2.1 v.2.2.2.1 v.2.2.2.2.1 v.2.2.2.2.2.1 v.2.2.2.2.2.2.1 v.2.2.2.2.2.2.2.1 v.2.2.2.2.2.2.2.2.1 v.2.2.2.2.2.2.2.2.2.1 v.2.2.2.2.2.2.2.2.2.2.1 v.2.2.2.2.2.2.2.2.2.2.2.1 v.2.2.2.2.2.2.2.2.2.2.2.2.1 v.2.2.2.2.2.2.2.2.2.2.2.2.2.1 v.2.2.2.2.2.2.2.2.2.2.2.2.2.2.1 v.2.2.2.2.2.2.2.2.2.2.2.2.2.2.2.1 v.2.2.2.2.2.2.2.2.2.2.2.2.2.2.2.2.1 v.2.2.2.2.2.2.2.2.2.2.2.2.2.2.2.2.2.1 v.2.2.2.2.2.2.2.2.2.2.2.2.2.2.2.2.2.2.1 v.2.2.2.2.2.2.2.2.2.2.2.2.2.2.2.2.2.2.2.1 v.2.2.2.2.2.2.2.2.2.2.2.2.2.2.2.2.2.2.2.2.1 v.2.2.2.2.2.2.2.2.2.2.2.2.2.2.2.2.2.2.2.2.2.1 v.2.2.2.2.2.2.2.2.2.2.2.2.2.2.2.2.2.2.2.2.2.2.1 v.2.2.2.2.2.2.2.2.2.2.2.2.2.2.2.2.2.2.2.2.2.2.2.1⟩
theorem glazierref08_Mask_j4_ok (fl:Nat):SegOk Tryz.prog 35 (codeAt (fnBody Tryz.f33) 978) (glazierref08_Mask_j4_s fl):=
  SegOk.of (c0:=fnBody Tryz.f33) (p:=978) (U:=60) (allE_cons glazierref08_Sample_ok (allE_cons glazierref07_In_ok allE_nil)) hmo (me:=33) ⟨Tryz.f33,by kernel_rfl,by kernel_rfl,by kernel_rfl⟩ (G:=[(978,glazierref08_Mask_j1_s fl),(978,glazierref08_Mask_j2_s fl),(978,glazierref08_Mask_j3_s fl)]) (.cons (f:=400) (by kernel_rfl) (glazierref08_Mask_j1_ok fl) (.cons (f:=400) (by kernel_rfl) (glazierref08_Mask_j2_ok fl) (.cons (f:=400) (by kernel_rfl) (glazierref08_Mask_j3_ok fl) .nil))) (.of (f:=400) (by kernel_rfl)) (I:=inlNone) inl_none (sg:=glazierref08_Mask_j4_s fl) (VT.okV (by kernel_rfl)) (VT.okX (by kernel_rfl)) (fun v=>by kernel_rfl)

noncomputable def glazierref08_Mask_e (fl:Nat):Ent:=⟨33,(.cons (.val true (.pair Y3 (.pair Y3 Y3))) (.cons (.val false I8) (.val false I8))),(.val false U8),fun y=>glazierref08_Mask fl y.1 y.2.1 y.2.2⟩
theorem glazierref08_Mask_ok (fl:Nat):Ent.Ok Tryz.prog (glazierref08_Mask_e fl):=
  Ent.of (N:=35) (U:=60) (allE_cons glazierref08_Sample_ok (allE_cons glazierref07_In_ok allE_nil)) hmo (fn:=Tryz.f33) (c:=fnBody Tryz.f33) (G:=[(978,glazierref08_Mask_j1_s fl),(978,glazierref08_Mask_j2_s fl),(978,glazierref08_Mask_j3_s fl),(978,glazierref08_Mask_j4_s fl)]) (by kernel_rfl) (by kernel_rfl) (by kernel_rfl) (by kernel_rfl) (by kernel_rfl) (by kernel_rfl) (fun y=>by kernel_rfl) (rs:=[.tmp 6]) (by kernel_rfl) (.cons (f:=400) (by kernel_rfl) (glazierref08_Mask_j1_ok fl) (.cons (f:=400) (by kernel_rfl) (glazierref08_Mask_j2_ok fl) (.cons (f:=400) (by kernel_rfl) (glazierref08_Mask_j3_ok fl) (.cons (f:=400) (by kernel_rfl) (glazierref08_Mask_j4_ok fl) .nil)))) (I:=inlNone) inl_none (fun y=>by kernel_rfl)

noncomputable def glazierref06_Centre_e:Ent:=⟨58,(.val false I8),(.val false I8),fun y=>glazierref06_Centre y⟩
theorem glazierref06_Centre_ok:Ent.Ok Tryz.prog (glazierref06_Centre_e):=
  Ent.of (N:=6) (U:=60) allE_nil hmo (fn:=Tryz.f58) (c:=fnBody Tryz.f58) (G:=[]) (by kernel_rfl) (by kernel_rfl) (by kernel_rfl) (by kernel_rfl) (by kernel_rfl) (by kernel_rfl) (fun y=>by kernel_rfl) (rs:=[.tmp 2]) (by kernel_rfl) .nil (I:=inlNone) inl_none (fun y=>by kernel_rfl)

noncomputable def glazierref09_At_e (fl:Nat):Ent:=⟨57,(.cons (.val true (.pair Y3 (.pair Y3 Y3))) (.cons (.val true (.pair I8 (.pair I8 I8))) (.cons (.val false I8) (.val false I8)))),(.val false I8),fun y=>glazierref09_At fl y.1 y.2.1 y.2.2.1 y.2.2.2⟩
theorem glazierref09_At_ok (fl:Nat):Ent.Ok Tryz.prog (glazierref09_At_e fl):=
  Ent.of (N:=97) (U:=60) (allE_cons (glazierref01_MulDiv_ok fl) (allE_cons (glazierref01_Down_ok fl) (allE_cons glazierref07_Cross_ok (allE_cons glazierref07_Area_ok allE_nil)))) hmo (fn:=Tryz.f57) (c:=fnBody Tryz.f57) (G:=[]) (by kernel_rfl) (by kernel_rfl) (by kernel_rfl) (by kernel_rfl) (by kernel_rfl) (by kernel_rfl) (fun y=>by kernel_rfl) (rs:=[.tmp 8]) (by kernel_rfl) .nil (I:=inlNone) inl_none (fun y=>by kernel_rfl)

noncomputable def glazierref09_Attrs_e (fl:Nat):Ent:=⟨35,(.cons (.val true (.pair Y3 (.pair Y3 Y3))) (.cons (.val false I8) (.val false I8))),(.val true Y1),fun y=>glazierref09_Attrs fl y.1 y.2.1 y.2.2⟩
theorem glazierref09_Attrs_ok (fl:Nat):Ent.Ok Tryz.prog (glazierref09_Attrs_e fl):=
  Ent.of (N:=39) (U:=60) (allE_cons glazierref06_Centre_ok (allE_cons (glazierref09_At_ok fl) allE_nil)) hmo (fn:=Tryz.f35) (c:=fnBody Tryz.f35) (G:=[]) (by kernel_rfl) (by kernel_rfl) (by kernel_rfl) (by kernel_rfl) (by kernel_rfl) (by kernel_rfl) (fun y=>by kernel_rfl) (rs:=[.cell 6 39]) (by kernel_rfl) .nil (I:=inlNone) inl_none (fun y=>by kernel_rfl)

noncomputable def glazierref12_three_e:Ent:=⟨136,(.val false U8),(.val false .bool),fun y=>glazierref12_three y⟩
theorem glazierref12_three_ok:Ent.Ok Tryz.prog (glazierref12_three_e):=
  Ent.of (N:=21) (U:=60) allE_nil hmo (fn:=Tryz.f136) (c:=fnBody Tryz.f136) (G:=[]) (by kernel_rfl) (by kernel_rfl) (by kernel_rfl) (by kernel_rfl) (by kernel_rfl) (by kernel_rfl) (fun y=>by kernel_rfl) (rs:=[.tmp 2]) (by kernel_rfl) .nil (I:=inlNone) inl_none (fun y=>by kernel_rfl)

noncomputable def glazierref12_One_e:Ent:=⟨114,(.cons (.val true (.pair U8 (.pair U8 (.pair U8 (.pair U8 I8))))) (.cons (.val false I8) (.val false I8))),(.val false .bool),fun y=>glazierref12_One y.1 y.2.1 y.2.2⟩
theorem glazierref12_One_ok:Ent.Ok Tryz.prog (glazierref12_One_e):=
  Ent.of (N:=102) (U:=60) (allE_cons glazierref12_three_ok allE_nil) hmo (fn:=Tryz.f114) (c:=fnBody Tryz.f114) (G:=[]) (by kernel_rfl) (by kernel_rfl) (by kernel_rfl) (by kernel_rfl) (by kernel_rfl) (by kernel_rfl) (fun y=>by kernel_rfl) (rs:=[.tmp 6]) (by kernel_rfl) .nil (I:=inlNone) inl_none (fun y=>by kernel_rfl)

@[reducible] def glazierref12_Check_l1_V:VT:=[z26,z140]
@[reducible] def glazierref12_Check_l1_X:List (Out × VT):=[(.ret,[.slot 2 false [.kint .i64 23]]),(.exit 0,[])]
noncomputable def glazierref12_Check_l1_f (fl n:Nat):VT.T glazierref12_Check_l1_V -> Option (XT glazierref12_Check_l1_X):=fun v=>glazierref12_Check_l1 fl n v.1 v.2.1
noncomputable def glazierref12_Check_l1_s (fl:Nat):Seg:=⟨glazierref12_Check_l1_V,glazierref12_Check_l1_X,glazierref12_Check_l1_f fl fl⟩
theorem glazierref12_Check_l1_ok (fl:Nat):SegOk Tryz.prog 29 (.loop (loopBody (codeAt (fnBody Tryz.f80) 58))) (glazierref12_Check_l1_s fl):=
  SegOk.loop (c0:=fnBody Tryz.f80) (p:=58) (U:=60) (allE_cons glazierref12_One_ok allE_nil) hmo (me:=80) ⟨Tryz.f80,by kernel_rfl,by kernel_rfl,by kernel_rfl⟩ (G:=[]) .nil (.of (f:=400) (by kernel_rfl)) (I:=inlNone) inl_none (F:=glazierref12_Check_l1_f fl) (VT.okV (by kernel_rfl)) (VT.okX (by kernel_rfl)) (fun v=>by kernel_rfl) (fun n v=>by kernel_rfl) fl

noncomputable def glazierref12_Check_e (fl:Nat):Ent:=⟨80,(.val false Y5),(.val false I8),fun y=>glazierref12_Check fl y⟩
theorem glazierref12_Check_ok (fl:Nat):Ent.Ok Tryz.prog (glazierref12_Check_e fl):=
  Ent.of (N:=29) (U:=60) (allE_cons glazierref12_One_ok allE_nil) hmo (fn:=Tryz.f80) (c:=fnBody Tryz.f80) (G:=[(58,glazierref12_Check_l1_s fl)]) (by kernel_rfl) (by kernel_rfl) (by kernel_rfl) (by kernel_rfl) (by kernel_rfl) (by kernel_rfl) (fun y=>by kernel_rfl) (rs:=[.tmp 2]) (by kernel_rfl) (.cons (f:=400) (by kernel_rfl) (glazierref12_Check_l1_ok fl) .nil) (I:=inlNone) inl_none (fun y=>by kernel_rfl)

@[reducible] def glazierref12_Samples_l1_V:VT:=[z26,z140]
@[reducible] def glazierref12_Samples_l1_X:List (Out × VT):=[(.ret,[.slot 2 false [.kbool true]]),(.exit 0,[])]
noncomputable def glazierref12_Samples_l1_f (fl n:Nat):VT.T glazierref12_Samples_l1_V -> Option (XT glazierref12_Samples_l1_X):=fun v=>glazierref12_Samples_l1 fl n v.1 v.2.1
noncomputable def glazierref12_Samples_l1_s (fl:Nat):Seg:=⟨glazierref12_Samples_l1_V,glazierref12_Samples_l1_X,glazierref12_Samples_l1_f fl fl⟩
theorem glazierref12_Samples_l1_ok (fl:Nat):SegOk Tryz.prog 24 (.loop (loopBody (codeAt (fnBody Tryz.f81) 26))) (glazierref12_Samples_l1_s fl):=
  SegOk.loop (c0:=fnBody Tryz.f81) (p:=26) (U:=60) allE_nil hmo (me:=81) ⟨Tryz.f81,by kernel_rfl,by kernel_rfl,by kernel_rfl⟩ (G:=[]) .nil (.of (f:=400) (by kernel_rfl)) (I:=inlNone) inl_none (F:=glazierref12_Samples_l1_f fl) (VT.okV (by kernel_rfl)) (VT.okX (by kernel_rfl)) (fun v=>by kernel_rfl) (fun n v=>by kernel_rfl) fl

noncomputable def glazierref12_Samples_e (fl:Nat):Ent:=⟨81,(.val false Y5),(.val false .bool),fun y=>glazierref12_Samples fl y⟩
theorem glazierref12_Samples_ok (fl:Nat):Ent.Ok Tryz.prog (glazierref12_Samples_e fl):=
  Ent.of (N:=24) (U:=60) allE_nil hmo (fn:=Tryz.f81) (c:=fnBody Tryz.f81) (G:=[(26,glazierref12_Samples_l1_s fl)]) (by kernel_rfl) (by kernel_rfl) (by kernel_rfl) (by kernel_rfl) (by kernel_rfl) (by kernel_rfl) (fun y=>by kernel_rfl) (rs:=[.tmp 2]) (by kernel_rfl) (.cons (f:=400) (by kernel_rfl) (glazierref12_Samples_l1_ok fl) .nil) (I:=inlNone) inl_none (fun y=>by kernel_rfl)

noncomputable def glazierref11_Right_e:Ent:=⟨82,(.val true Y7),(.val false .bool),fun y=>glazierref11_Right y⟩
theorem glazierref11_Right_ok:Ent.Ok Tryz.prog (glazierref11_Right_e):=
  Ent.of (N:=32) (U:=60) allE_nil hmo (fn:=Tryz.f82) (c:=fnBody Tryz.f82) (G:=[]) (by kernel_rfl) (by kernel_rfl) (by kernel_rfl) (by kernel_rfl) (by kernel_rfl) (by kernel_rfl) (fun y=>by kernel_rfl) (rs:=[.tmp 2]) (by kernel_rfl) .nil (I:=inlNone) inl_none (fun y=>by kernel_rfl)

noncomputable def glazierref13_Wrap_e:Ent:=⟨83,(.val false I8),(.val false I8),fun y=>glazierref13_Wrap y⟩
theorem glazierref13_Wrap_ok:Ent.Ok Tryz.prog (glazierref13_Wrap_e):=
  Ent.of (N:=15) (U:=60) allE_nil hmo (fn:=Tryz.f83) (c:=fnBody Tryz.f83) (G:=[]) (by kernel_rfl) (by kernel_rfl) (by kernel_rfl) (by kernel_rfl) (by kernel_rfl) (by kernel_rfl) (fun y=>by kernel_rfl) (rs:=[.tmp 2]) (by kernel_rfl) .nil (I:=inlNone) inl_none (fun y=>by kernel_rfl)

noncomputable def glazierref12_Target_e:Ent:=⟨84,(.cons (.val true (.pair U8 (.pair U8 (.pair U8 (.pair U8 I8))))) (.val false I8)),(.val false I8),fun y=>glazierref12_Target y.1 y.2⟩
theorem glazierref12_Target_ok:Ent.Ok Tryz.prog (glazierref12_Target_e):=
  Ent.of (N:=15) (U:=60) allE_nil hmo (fn:=Tryz.f84) (c:=fnBody Tryz.f84) (G:=[]) (by kernel_rfl) (by kernel_rfl) (by kernel_rfl) (by kernel_rfl) (by kernel_rfl) (by kernel_rfl) (fun y=>by kernel_rfl) (rs:=[.tmp 4]) (by kernel_rfl) .nil (I:=inlNone) inl_none (fun y=>by kernel_rfl)

noncomputable def glazierref11_Texel_e:Ent:=⟨115,(.cons (.val true Y7) (.cons (.val false I8) (.val false I8))),(.val true Y4),fun y=>glazierref11_Texel y.1 y.2.1 y.2.2⟩
theorem glazierref11_Texel_ok:Ent.Ok Tryz.prog (glazierref11_Texel_e):=
  Ent.of (N:=29) (U:=60) (allE_cons glazierref11_wrap_ok (allE_cons glazierref11_Right_ok allE_nil)) hmo (fn:=Tryz.f115) (c:=fnBody Tryz.f115) (G:=[]) (by kernel_rfl) (by kernel_rfl) (by kernel_rfl) (by kernel_rfl) (by kernel_rfl) (by kernel_rfl) (fun y=>by kernel_rfl) (rs:=[.cell 6 23]) (by kernel_rfl) .nil (I:=inlNone) inl_none (fun y=>by kernel_rfl)

noncomputable def glazierref11_Nearest_e (fl:Nat):Ent:=⟨85,(.cons (.val true Y7) (.cons (.val false I8) (.val false I8))),(.val true Y4),fun y=>glazierref11_Nearest fl y.1 y.2.1 y.2.2⟩
theorem glazierref11_Nearest_ok (fl:Nat):Ent.Ok Tryz.prog (glazierref11_Nearest_e fl):=
  Ent.of (N:=13) (U:=60) (allE_cons (glazierref01_Down_ok fl) (allE_cons glazierref11_Texel_ok allE_nil)) hmo (fn:=Tryz.f85) (c:=fnBody Tryz.f85) (G:=[]) (by kernel_rfl) (by kernel_rfl) (by kernel_rfl) (by kernel_rfl) (by kernel_rfl) (by kernel_rfl) (fun y=>by kernel_rfl) (rs:=[.cell 6 23]) (by kernel_rfl) .nil (I:=inlNone) inl_none (fun y=>by kernel_rfl)

@[reducible] def glazierref13_bits_l1_V:VT:=[z187,z27,z1,z2,z15]
@[reducible] def glazierref13_bits_l1_X:List (Out × VT):=[(.exit 0,[z27])]
noncomputable def glazierref13_bits_l1_f (fl n:Nat):VT.T glazierref13_bits_l1_V -> Option (XT glazierref13_bits_l1_X):=fun v=>glazierref13_bits_l1 fl n v.1 v.2.1 v.2.2.1 v.2.2.2.1 v.2.2.2.2.1
noncomputable def glazierref13_bits_l1_s (fl:Nat):Seg:=⟨glazierref13_bits_l1_V,glazierref13_bits_l1_X,glazierref13_bits_l1_f fl fl⟩
theorem glazierref13_bits_l1_ok (fl:Nat):SegOk Tryz.prog 56 (.loop (loopBody (codeAt (fnBody Tryz.f117) 250))) (glazierref13_bits_l1_s fl):=
  SegOk.loop (c0:=fnBody Tryz.f117) (p:=250) (U:=60) allE_nil hmo (me:=117) ⟨Tryz.f117,by kernel_rfl,by kernel_rfl,by kernel_rfl⟩ (G:=[]) .nil (.of (f:=400) (by kernel_rfl)) (I:=inlNone) inl_none (F:=glazierref13_bits_l1_f fl) (VT.okV (by kernel_rfl)) (VT.okX (by kernel_rfl)) (fun v=>by kernel_rfl) (fun n v=>by kernel_rfl) fl

noncomputable def glazierref13_bits_e (fl:Nat):Ent:=⟨117,(.cons (.val false I8) (.cons (.val false I8) (.val false .bool))),(.val false I8),fun y=>glazierref13_bits fl y.1 y.2.1 y.2.2⟩
theorem glazierref13_bits_ok (fl:Nat):Ent.Ok Tryz.prog (glazierref13_bits_e fl):=
  Ent.of (N:=56) (U:=60) (allE_cons glazierref13_Wrap_ok allE_nil) hmo (fn:=Tryz.f117) (c:=fnBody Tryz.f117) (G:=[(250,glazierref13_bits_l1_s fl)]) (by kernel_rfl) (by kernel_rfl) (by kernel_rfl) (by kernel_rfl) (by kernel_rfl) (by kernel_rfl) (fun y=>by kernel_rfl) (rs:=[.tmp 6]) (by kernel_rfl) (.cons (f:=400) (by kernel_rfl) (glazierref13_bits_l1_ok fl) .nil) (I:=inlNone) inl_none (fun y=>by kernel_rfl)

noncomputable def glazierref13_value_e (fl:Nat):Ent:=⟨87,(.cons (.val true (.pair U8 (.pair U8 (.pair U8 (.pair U8 I8))))) (.cons (.val false I8) (.val false I8))),(.val false I8),fun y=>glazierref13_value fl y.1 y.2.1 y.2.2⟩
theorem glazierref13_value_ok (fl:Nat):Ent.Ok Tryz.prog (glazierref13_value_e fl):=
  Ent.of (N:=75) (U:=60) (allE_cons (glazierref01_Down_ok fl) (allE_cons glazierref13_Wrap_ok (allE_cons (glazierref13_bits_ok fl) allE_nil))) hmo (fn:=Tryz.f87) (c:=fnBody Tryz.f87) (G:=[]) (by kernel_rfl) (by kernel_rfl) (by kernel_rfl) (by kernel_rfl) (by kernel_rfl) (by kernel_rfl) (fun y=>by kernel_rfl) (rs:=[.tmp 6]) (by kernel_rfl) .nil (I:=inlNone) inl_none (fun y=>by kernel_rfl)

noncomputable def glazierref02_mix_e:Ent:=⟨137,(.cons (.val false U8) (.cons (.val false U8) (.val false I8))),(.val false U8),fun y=>glazierref02_mix y.1 y.2.1 y.2.2⟩
theorem glazierref02_mix_ok:Ent.Ok Tryz.prog (glazierref02_mix_e):=
  Ent.of (N:=20) (U:=60) allE_nil hmo (fn:=Tryz.f137) (c:=fnBody Tryz.f137) (G:=[]) (by kernel_rfl) (by kernel_rfl) (by kernel_rfl) (by kernel_rfl) (by kernel_rfl) (by kernel_rfl) (fun y=>by kernel_rfl) (rs:=[.tmp 6]) (by kernel_rfl) .nil (I:=inlNone) inl_none (fun y=>by kernel_rfl)

noncomputable def glazierref02_Mix_e:Ent:=⟨116,(.cons (.val true Y4) (.cons (.val true Y4) (.val false I8))),(.val true Y4),fun y=>glazierref02_Mix y.1 y.2.1 y.2.2⟩
theorem glazierref02_Mix_ok:Ent.Ok Tryz.prog (glazierref02_Mix_e):=
  Ent.of (N:=38) (U:=60) (allE_cons glazierref02_mix_ok allE_nil) hmo (fn:=Tryz.f116) (c:=fnBody Tryz.f116) (G:=[]) (by kernel_rfl) (by kernel_rfl) (by kernel_rfl) (by kernel_rfl) (by kernel_rfl) (by kernel_rfl) (fun y=>by kernel_rfl) (rs:=[.cell 6 23]) (by kernel_rfl) .nil (I:=inlNone) inl_none (fun y=>by kernel_rfl)

noncomputable def glazierref11_Smooth_e (fl:Nat):Ent:=⟨86,(.cons (.val true Y7) (.cons (.val false I8) (.val false I8))),(.val true Y4),fun y=>glazierref11_Smooth fl y.1 y.2.1 y.2.2⟩
theorem glazierref11_Smooth_ok (fl:Nat):Ent.Ok Tryz.prog (glazierref11_Smooth_e fl):=
  Ent.of (N:=55) (U:=60) (allE_cons glazierref11_wrap_ok (allE_cons (glazierref01_Down_ok fl) (allE_cons glazierref11_Texel_ok (allE_cons glazierref02_Mix_ok allE_nil)))) hmo (fn:=Tryz.f86) (c:=fnBody Tryz.f86) (G:=[]) (by kernel_rfl) (by kernel_rfl) (by kernel_rfl) (by kernel_rfl) (by kernel_rfl) (by kernel_rfl) (fun y=>by kernel_rfl) (rs:=[.cell 6 23]) (by kernel_rfl) .nil (I:=inlNone) inl_none (fun y=>by kernel_rfl)

@[reducible] def glazierref13_Run_l1_V:VT:=[z26,z31,z32,z33,z55,z56,z34,z35,z36]
@[reducible] def glazierref13_Run_l1_X:List (Out × VT):=[(.exit 2,[z32,z33,z55,z35,z36])]
noncomputable def glazierref13_Run_l1_f (fl n:Nat):VT.T glazierref13_Run_l1_V -> Option (XT glazierref13_Run_l1_X):=fun v=>glazierref13_Run_l1 fl n v.1 v.2.1 v.2.2.1 v.2.2.2.1 v.2.2.2.2.1 v.2.2.2.2.2.1 v.2.2.2.2.2.2.1 v.2.2.2.2.2.2.2.1 v.2.2.2.2.2.2.2.2.1 v.2.2.2.2.2.2.2.2.2.1 v.2.2.2.2.2.2.2.2.2.2.1 v.2.2.2.2.2.2.2.2.2.2.2.1 v.2.2.2.2.2.2.2.2.2.2.2.2.1 v.2.2.2.2.2.2.2.2.2.2.2.2.2.1
noncomputable def glazierref13_Run_l1_s (fl:Nat):Seg:=⟨glazierref13_Run_l1_V,glazierref13_Run_l1_X,glazierref13_Run_l1_f fl fl⟩
theorem glazierref13_Run_l1_ok (fl:Nat):SegOk Tryz.prog 123 (.loop (loopBody (codeAt (fnBody Tryz.f55) 2042))) (glazierref13_Run_l1_s fl):=
  SegOk.loop (c0:=fnBody Tryz.f55) (p:=2042) (U:=60) (allE_cons glazierref12_Target_ok (allE_cons (glazierref11_Nearest_ok fl) (allE_cons (glazierref13_value_ok fl) (allE_cons (glazierref11_Smooth_ok fl) allE_nil)))) hmo (me:=55) ⟨Tryz.f55,by kernel_rfl,by kernel_rfl,by kernel_rfl⟩ (G:=[]) .nil (.of (f:=400) (by kernel_rfl)) (I:=inlNone) inl_none (F:=glazierref13_Run_l1_f fl) (VT.okV (by kernel_rfl)) (VT.okX (by kernel_rfl)) (fun v=>by kernel_rfl) (fun n v=>by kernel_rfl) fl

noncomputable def glazierref13_Run_e (fl:Nat):Ent:=⟨55,(.cons (.val false Y5) (.cons (.val true Y7) (.val true Y11))),(.cons (.val true Y11) (.cons (.val false I8) (.val false I8))),fun y=>glazierref13_Run fl y.1 y.2.1 y.2.2⟩
theorem glazierref13_Run_ok (fl:Nat):Ent.Ok Tryz.prog (glazierref13_Run_e fl):=
  Ent.of (N:=123) (U:=60) (allE_cons (glazierref12_Check_ok fl) (allE_cons (glazierref12_Samples_ok fl) (allE_cons glazierref11_Right_ok (allE_cons glazierref13_Wrap_ok (allE_cons glazierref12_Target_ok (allE_cons (glazierref11_Nearest_ok fl) (allE_cons (glazierref13_value_ok fl) (allE_cons (glazierref11_Smooth_ok fl) allE_nil)))))))) hmo (fn:=Tryz.f55) (c:=fnBody Tryz.f55) (G:=[(2042,glazierref13_Run_l1_s fl)]) (by kernel_rfl) (by kernel_rfl) (by kernel_rfl) (by kernel_rfl) (by kernel_rfl) (by kernel_rfl) (fun y=>by kernel_rfl) (rs:=[.cell 6 120,.tmp 7,.tmp 8]) (by kernel_rfl) (.cons (f:=400) (by kernel_rfl) (glazierref13_Run_l1_ok fl) .nil) (I:=inlNone) inl_none (fun y=>by kernel_rfl)

noncomputable def glazierref01_Sat_e:Ent:=⟨56,(.val false I8),(.val false U8),fun y=>glazierref01_Sat y⟩
theorem glazierref01_Sat_ok:Ent.Ok Tryz.prog (glazierref01_Sat_e):=
  Ent.of (N:=9) (U:=60) allE_nil hmo (fn:=Tryz.f56) (c:=fnBody Tryz.f56) (G:=[]) (by kernel_rfl) (by kernel_rfl) (by kernel_rfl) (by kernel_rfl) (by kernel_rfl) (by kernel_rfl) (fun y=>by kernel_rfl) (rs:=[.tmp 2]) (by kernel_rfl) .nil (I:=inlNone) inl_none (fun y=>by kernel_rfl)

noncomputable def glazierref13_Shade_e (fl:Nat):Ent:=⟨34,(.cons (.val false Y5) (.cons (.val true Y7) (.cons (.val true Y1) (.cons (.val false I8) (.val false I8))))),(.cons (.val true Y4) (.cons (.val false I8) (.val false I8))),fun y=>glazierref13_Shade fl y.1 y.2.1 y.2.2.1 y.2.2.2.1 y.2.2.2.2⟩
theorem glazierref13_Shade_ok (fl:Nat):Ent.Ok Tryz.prog (glazierref13_Shade_e fl):=
  Ent.of (N:=53) (U:=60) (allE_cons glazierref02_Pre_ok (allE_cons (glazierref13_Run_ok fl) (allE_cons glazierref01_Sat_ok allE_nil))) hmo (fn:=Tryz.f34) (c:=fnBody Tryz.f34) (G:=[]) (by kernel_rfl) (by kernel_rfl) (by kernel_rfl) (by kernel_rfl) (by kernel_rfl) (by kernel_rfl) (fun y=>by kernel_rfl) (rs:=[.cell 10 23,.tmp 11,.tmp 12]) (by kernel_rfl) .nil (I:=inlNone) inl_none (fun y=>by kernel_rfl)

noncomputable def glazierref09_Depth_e (fl:Nat):Ent:=⟨36,(.cons (.val true (.pair Y3 (.pair Y3 Y3))) (.cons (.val false I8) (.val false I8))),(.val false I8),fun y=>glazierref09_Depth fl y.1 y.2.1 y.2.2⟩
theorem glazierref09_Depth_ok (fl:Nat):Ent.Ok Tryz.prog (glazierref09_Depth_e fl):=
  Ent.of (N:=58) (U:=60) (allE_cons glazierref07_Area_ok (allE_cons glazierref06_Centre_ok (allE_cons (glazierref09_At_ok fl) allE_nil))) hmo (fn:=Tryz.f36) (c:=fnBody Tryz.f36) (G:=[]) (by kernel_rfl) (by kernel_rfl) (by kernel_rfl) (by kernel_rfl) (by kernel_rfl) (by kernel_rfl) (fun y=>by kernel_rfl) (rs:=[.tmp 6]) (by kernel_rfl) .nil (I:=inlNone) inl_none (fun y=>by kernel_rfl)

@[reducible] def glazierref22_part_l1_V:VT:=[z16,z32,z33,z188,z108,z189,z190,z56,z191,z13,z142,z180,z192,.slot 20 false [D],z170,z193,z194,z195,z196]
@[reducible] def glazierref22_part_l1_X:List (Out × VT):=[(.exit 2,[z16,z32,z33,z188,z108,z189,z190,z56,z191,z13,z142,z180,z192,z170,z193,z194,z195,z196])]
noncomputable def glazierref22_part_l1_f (fl n:Nat):VT.T glazierref22_part_l1_V -> Option (XT glazierref22_part_l1_X):=fun v=>glazierref22_part_l1 fl n v.1 v.2.1 v.2.2.1 v.2.2.2.1 v.2.2.2.2.1 v.2.2.2.2.2.1 v.2.2.2.2.2.2.1 v.2.2.2.2.2.2.2.1 v.2.2.2.2.2.2.2.2.1 v.2.2.2.2.2.2.2.2.2.1 v.2.2.2.2.2.2.2.2.2.2.1 v.2.2.2.2.2.2.2.2.2.2.2.1 v.2.2.2.2.2.2.2.2.2.2.2.2.1 v.2.2.2.2.2.2.2.2.2.2.2.2.2.1 v.2.2.2.2.2.2.2.2.2.2.2.2.2.2.1 v.2.2.2.2.2.2.2.2.2.2.2.2.2.2.2.1 v.2.2.2.2.2.2.2.2.2.2.2.2.2.2.2.2.1 v.2.2.2.2.2.2.2.2.2.2.2.2.2.2.2.2.2.1 v.2.2.2.2.2.2.2.2.2.2.2.2.2.2.2.2.2.2.1 v.2.2.2.2.2.2.2.2.2.2.2.2.2.2.2.2.2.2.2.1 v.2.2.2.2.2.2.2.2.2.2.2.2.2.2.2.2.2.2.2.2.1 v.2.2.2.2.2.2.2.2.2.2.2.2.2.2.2.2.2.2.2.2.2.1 v.2.2.2.2.2.2.2.2.2.2.2.2.2.2.2.2.2.2.2.2.2.2.1 v.2.2.2.2.2.2.2.2.2.2.2.2.2.2.2.2.2.2.2.2.2.2.2.1 v.2.2.2.2.2.2.2.2.2.2.2.2.2.2.2.2.2.2.2.2.2.2.2.2.1 v.2.2.2.2.2.2.2.2.2.2.2.2.2.2.2.2.2.2.2.2.2.2.2.2.2.1 v.2.2.2.2.2.2.2.2.2.2.2.2.2.2.2.2.2.2.2.2.2.2.2.2.2.2.1 v.2.2.2.2.2.2.2.2.2.2.2.2.2.2.2.2.2.2.2.2.2.2.2.2.2.2.2.1 v.2.2.2.2.2.2.2.2.2.2.2.2.2.2.2.2.2.2.2.2.2.2.2.2.2.2.2.2.1 v.2.2.2.2.2.2.2.2.2.2.2.2.2.2.2.2.2.2.2.2.2.2.2.2.2.2.2.2.2.1 v.2.2.2.2.2.2.2.2.2.2.2.2.2.2.2.2.2.2.2.2.2.2.2.2.2.2.2.2.2.2.1 v.2.2.2.2.2.2.2.2.2.2.2.2.2.2.2.2.2.2.2.2.2.2.2.2.2.2.2.2.2.2.2.1 v.2.2.2.2.2.2.2.2.2.2.2.2.2.2.2.2.2.2.2.2.2.2.2.2.2.2.2.2.2.2.2.2.1 v.2.2.2.2.2.2.2.2.2.2.2.2.2.2.2.2.2.2.2.2.2.2.2.2.2.2.2.2.2.2.2.2.2.1 v.2.2.2.2.2.2.2.2.2.2.2.2.2.2.2.2.2.2.2.2.2.2.2.2.2.2.2.2.2.2.2.2.2.2.1 v.2.2.2.2.2.2.2.2.2.2.2.2.2.2.2.2.2.2.2.2.2.2.2.2.2.2.2.2.2.2.2.2.2.2.2.1 v.2.2.2.2.2.2.2.2.2.2.2.2.2.2.2.2.2.2.2.2.2.2.2.2.2.2.2.2.2.2.2.2.2.2.2.2.1 v.2.2.2.2.2.2.2.2.2.2.2.2.2.2.2.2.2.2.2.2.2.2.2.2.2.2.2.2.2.2.2.2.2.2.2.2.2.1 v.2.2.2.2.2.2.2.2.2.2.2.2.2.2.2.2.2.2.2.2.2.2.2.2.2.2.2.2.2.2.2.2.2.2.2.2.2.2.1 v.2.2.2.2.2.2.2.2.2.2.2.2.2.2.2.2.2.2.2.2.2.2.2.2.2.2.2.2.2.2.2.2.2.2.2.2.2.2.2.1 v.2.2.2.2.2.2.2.2.2.2.2.2.2.2.2.2.2.2.2.2.2.2.2.2.2.2.2.2.2.2.2.2.2.2.2.2.2.2.2.2.1 v.2.2.2.2.2.2.2.2.2.2.2.2.2.2.2.2.2.2.2.2.2.2.2.2.2.2.2.2.2.2.2.2.2.2.2.2.2.2.2.2.2.1 v.2.2.2.2.2.2.2.2.2.2.2.2.2.2.2.2.2.2.2.2.2.2.2.2.2.2.2.2.2.2.2.2.2.2.2.2.2.2.2.2.2.2.1 v.2.2.2.2.2.2.2.2.2.2.2.2.2.2.2.2.2.2.2.2.2.2.2.2.2.2.2.2.2.2.2.2.2.2.2.2.2.2.2.2.2.2.2.1 v.2.2.2.2.2.2.2.2.2.2.2.2.2.2.2.2.2.2.2.2.2.2.2.2.2.2.2.2.2.2.2.2.2.2.2.2.2.2.2.2.2.2.2.2.1 v.2.2.2.2.2.2.2.2.2.2.2.2.2.2.2.2.2.2.2.2.2.2.2.2.2.2.2.2.2.2.2.2.2.2.2.2.2.2.2.2.2.2.2.2.2.1 v.2.2.2.2.2.2.2.2.2.2.2.2.2.2.2.2.2.2.2.2.2.2.2.2.2.2.2.2.2.2.2.2.2.2.2.2.2.2.2.2.2.2.2.2.2.2.1 v.2.2.2.2.2.2.2.2.2.2.2.2.2.2.2.2.2.2.2.2.2.2.2.2.2.2.2.2.2.2.2.2.2.2.2.2.2.2.2.2.2.2.2.2.2.2.2.1 v.2.2.2.2.2.2.2.2.2.2.2.2.2.2.2.2.2.2.2.2.2.2.2.2.2.2.2.2.2.2.2.2.2.2.2.2.2.2.2.2.2.2.2.2.2.2.2.2.1 v.2.2.2.2.2.2.2.2.2.2.2.2.2.2.2.2.2.2.2.2.2.2.2.2.2.2.2.2.2.2.2.2.2.2.2.2.2.2.2.2.2.2.2.2.2.2.2.2.2.1 v.2.2.2.2.2.2.2.2.2.2.2.2.2.2.2.2.2.2.2.2.2.2.2.2.2.2.2.2.2.2.2.2.2.2.2.2.2.2.2.2.2.2.2.2.2.2.2.2.2.2.1 v.2.2.2.2.2.2.2.2.2.2.2.2.2.2.2.2.2.2.2.2.2.2.2.2.2.2.2.2.2.2.2.2.2.2.2.2.2.2.2.2.2.2.2.2.2.2.2.2.2.2.2.1
noncomputable def glazierref22_part_l1_s (fl:Nat):Seg:=⟨glazierref22_part_l1_V,glazierref22_part_l1_X,glazierref22_part_l1_f fl fl⟩
theorem glazierref22_part_l1_ok (fl:Nat):SegOk Tryz.prog 124 (.loop (loopBody (codeAt (fnBody Tryz.f17) 65170))) (glazierref22_part_l1_s fl):=
  SegOk.loop (c0:=fnBody Tryz.f17) (p:=65170) (U:=60) (allE_cons (glazierref08_Mask_ok fl) (allE_cons (glazierref09_Attrs_ok fl) (allE_cons (glazierref13_Shade_ok fl) (allE_cons (glazierref09_Depth_ok fl) allE_nil)))) hmo (me:=17) ⟨Tryz.f17,by kernel_rfl,by kernel_rfl,by kernel_rfl⟩ (G:=[]) .nil (.of (f:=400) (by kernel_rfl)) (I:=inlNone) inl_none (F:=glazierref22_part_l1_f fl) (VT.okV (by kernel_rfl)) (VT.okX (by kernel_rfl)) (fun v=>by kernel_rfl) (fun n v=>by kernel_rfl) fl

@[reducible] def glazierref22_part_l2_V:VT:=[z16,z32,z33,z188,z108,z189,z190,z56,z191,z13,z142,z180,z192,z170,z193,z194,z195,z196]
@[reducible] def glazierref22_part_l2_X:List (Out × VT):=[(.exit 0,[z189,z190,z56])]
noncomputable def glazierref22_part_l2_f (fl n:Nat):VT.T glazierref22_part_l2_V -> Option (XT glazierref22_part_l2_X):=fun v=>glazierref22_part_l2 fl n v.1 v.2.1 v.2.2.1 v.2.2.2.1 v.2.2.2.2.1 v.2.2.2.2.2.1 v.2.2.2.2.2.2.1 v.2.2.2.2.2.2.2.1 v.2.2.2.2.2.2.2.2.1 v.2.2.2.2.2.2.2.2.2.1 v.2.2.2.2.2.2.2.2.2.2.1 v.2.2.2.2.2.2.2.2.2.2.2.1 v.2.2.2.2.2.2.2.2.2.2.2.2.1 v.2.2.2.2.2.2.2.2.2.2.2.2.2.1 v.2.2.2.2.2.2.2.2.2.2.2.2.2.2.1 v.2.2.2.2.2.2.2.2.2.2.2.2.2.2.2.1 v.2.2.2.2.2.2.2.2.2.2.2.2.2.2.2.2.1 v.2.2.2.2.2.2.2.2.2.2.2.2.2.2.2.2.2.1 v.2.2.2.2.2.2.2.2.2.2.2.2.2.2.2.2.2.2.1 v.2.2.2.2.2.2.2.2.2.2.2.2.2.2.2.2.2.2.2.1 v.2.2.2.2.2.2.2.2.2.2.2.2.2.2.2.2.2.2.2.2.1 v.2.2.2.2.2.2.2.2.2.2.2.2.2.2.2.2.2.2.2.2.2.1 v.2.2.2.2.2.2.2.2.2.2.2.2.2.2.2.2.2.2.2.2.2.2.1 v.2.2.2.2.2.2.2.2.2.2.2.2.2.2.2.2.2.2.2.2.2.2.2.1 v.2.2.2.2.2.2.2.2.2.2.2.2.2.2.2.2.2.2.2.2.2.2.2.2.1 v.2.2.2.2.2.2.2.2.2.2.2.2.2.2.2.2.2.2.2.2.2.2.2.2.2.1 v.2.2.2.2.2.2.2.2.2.2.2.2.2.2.2.2.2.2.2.2.2.2.2.2.2.2.1 v.2.2.2.2.2.2.2.2.2.2.2.2.2.2.2.2.2.2.2.2.2.2.2.2.2.2.2.1 v.2.2.2.2.2.2.2.2.2.2.2.2.2.2.2.2.2.2.2.2.2.2.2.2.2.2.2.2.1 v.2.2.2.2.2.2.2.2.2.2.2.2.2.2.2.2.2.2.2.2.2.2.2.2.2.2.2.2.2.1 v.2.2.2.2.2.2.2.2.2.2.2.2.2.2.2.2.2.2.2.2.2.2.2.2.2.2.2.2.2.2.1 v.2.2.2.2.2.2.2.2.2.2.2.2.2.2.2.2.2.2.2.2.2.2.2.2.2.2.2.2.2.2.2.1 v.2.2.2.2.2.2.2.2.2.2.2.2.2.2.2.2.2.2.2.2.2.2.2.2.2.2.2.2.2.2.2.2.1 v.2.2.2.2.2.2.2.2.2.2.2.2.2.2.2.2.2.2.2.2.2.2.2.2.2.2.2.2.2.2.2.2.2.1 v.2.2.2.2.2.2.2.2.2.2.2.2.2.2.2.2.2.2.2.2.2.2.2.2.2.2.2.2.2.2.2.2.2.2.1 v.2.2.2.2.2.2.2.2.2.2.2.2.2.2.2.2.2.2.2.2.2.2.2.2.2.2.2.2.2.2.2.2.2.2.2.1 v.2.2.2.2.2.2.2.2.2.2.2.2.2.2.2.2.2.2.2.2.2.2.2.2.2.2.2.2.2.2.2.2.2.2.2.2.1 v.2.2.2.2.2.2.2.2.2.2.2.2.2.2.2.2.2.2.2.2.2.2.2.2.2.2.2.2.2.2.2.2.2.2.2.2.2.1 v.2.2.2.2.2.2.2.2.2.2.2.2.2.2.2.2.2.2.2.2.2.2.2.2.2.2.2.2.2.2.2.2.2.2.2.2.2.2.1 v.2.2.2.2.2.2.2.2.2.2.2.2.2.2.2.2.2.2.2.2.2.2.2.2.2.2.2.2.2.2.2.2.2.2.2.2.2.2.2.1 v.2.2.2.2.2.2.2.2.2.2.2.2.2.2.2.2.2.2.2.2.2.2.2.2.2.2.2.2.2.2.2.2.2.2.2.2.2.2.2.2.1 v.2.2.2.2.2.2.2.2.2.2.2.2.2.2.2.2.2.2.2.2.2.2.2.2.2.2.2.2.2.2.2.2.2.2.2.2.2.2.2.2.2.1 v.2.2.2.2.2.2.2.2.2.2.2.2.2.2.2.2.2.2.2.2.2.2.2.2.2.2.2.2.2.2.2.2.2.2.2.2.2.2.2.2.2.2.1 v.2.2.2.2.2.2.2.2.2.2.2.2.2.2.2.2.2.2.2.2.2.2.2.2.2.2.2.2.2.2.2.2.2.2.2.2.2.2.2.2.2.2.2.1 v.2.2.2.2.2.2.2.2.2.2.2.2.2.2.2.2.2.2.2.2.2.2.2.2.2.2.2.2.2.2.2.2.2.2.2.2.2.2.2.2.2.2.2.2.1 v.2.2.2.2.2.2.2.2.2.2.2.2.2.2.2.2.2.2.2.2.2.2.2.2.2.2.2.2.2.2.2.2.2.2.2.2.2.2.2.2.2.2.2.2.2.1 v.2.2.2.2.2.2.2.2.2.2.2.2.2.2.2.2.2.2.2.2.2.2.2.2.2.2.2.2.2.2.2.2.2.2.2.2.2.2.2.2.2.2.2.2.2.2.1 v.2.2.2.2.2.2.2.2.2.2.2.2.2.2.2.2.2.2.2.2.2.2.2.2.2.2.2.2.2.2.2.2.2.2.2.2.2.2.2.2.2.2.2.2.2.2.2.1 v.2.2.2.2.2.2.2.2.2.2.2.2.2.2.2.2.2.2.2.2.2.2.2.2.2.2.2.2.2.2.2.2.2.2.2.2.2.2.2.2.2.2.2.2.2.2.2.2.1 v.2.2.2.2.2.2.2.2.2.2.2.2.2.2.2.2.2.2.2.2.2.2.2.2.2.2.2.2.2.2.2.2.2.2.2.2.2.2.2.2.2.2.2.2.2.2.2.2.2.1 v.2.2.2.2.2.2.2.2.2.2.2.2.2.2.2.2.2.2.2.2.2.2.2.2.2.2.2.2.2.2.2.2.2.2.2.2.2.2.2.2.2.2.2.2.2.2.2.2.2.2.1
noncomputable def glazierref22_part_l2_s (fl:Nat):Seg:=⟨glazierref22_part_l2_V,glazierref22_part_l2_X,glazierref22_part_l2_f fl fl⟩
theorem glazierref22_part_l2_ok (fl:Nat):SegOk Tryz.prog 124 (.loop (loopBody (codeAt (fnBody Tryz.f17) 1018))) (glazierref22_part_l2_s fl):=
  SegOk.loop (c0:=fnBody Tryz.f17) (p:=1018) (U:=60) (allE_cons (glazierref08_Mask_ok fl) (allE_cons (glazierref09_Attrs_ok fl) (allE_cons (glazierref13_Shade_ok fl) (allE_cons (glazierref09_Depth_ok fl) allE_nil)))) hmo (me:=17) ⟨Tryz.f17,by kernel_rfl,by kernel_rfl,by kernel_rfl⟩ (G:=[(65170,glazierref22_part_l1_s fl)]) (.cons (f:=400) (by kernel_rfl) (glazierref22_part_l1_ok fl) .nil) (.of (f:=400) (by kernel_rfl)) (I:=inlNone) inl_none (F:=glazierref22_part_l2_f fl) (VT.okV (by kernel_rfl)) (VT.okX (by kernel_rfl)) (fun v=>by kernel_rfl) (fun n v=>by kernel_rfl) fl

noncomputable def glazierref22_part_e (fl:Nat):Ent:=⟨17,(.cons (.val true (.pair I8 (.pair I8 (.pair Y4 (.pair Y9 (.pair (.list Y7) (.pair (.list Y5) Y6))))))) (.cons (.val true (.pair I8 (.pair I8 (.pair I8 (.pair .bool (.list Y1)))))) (.cons (.val false I8) (.cons (.val true Y10) (.val true Y1))))),(.cons (.own 50 Y8) (.val false I8)),fun y=>glazierref22_part fl y.1 y.2.1 y.2.2.1 y.2.2.2.1 y.2.2.2.2⟩
theorem glazierref22_part_ok (fl:Nat):Ent.Ok Tryz.prog (glazierref22_part_e fl):=
  Ent.of (N:=124) (U:=60) (allE_cons (glazierref10_Box_ok fl) (allE_cons (glazierref08_Mask_ok fl) (allE_cons (glazierref09_Attrs_ok fl) (allE_cons (glazierref13_Shade_ok fl) (allE_cons (glazierref09_Depth_ok fl) allE_nil))))) hmo (fn:=Tryz.f17) (c:=fnBody Tryz.f17) (G:=[(65170,glazierref22_part_l1_s fl),(1018,glazierref22_part_l2_s fl)]) (by kernel_rfl) (by kernel_rfl) (by kernel_rfl) (by kernel_rfl) (by kernel_rfl) (by kernel_rfl) (fun y=>by kernel_rfl) (rs:=[.tmp 10,.tmp 11]) (by kernel_rfl) (.cons (f:=400) (by kernel_rfl) (glazierref22_part_l1_ok fl) (.cons (f:=400) (by kernel_rfl) (glazierref22_part_l2_ok fl) .nil)) (I:=inlNone) inl_none (fun y=>by kernel_rfl)

@[reducible] def glazierref22_All_l1_V:VT:=[z187,z17,z31,z10,z197,z39,z15,z168,z55,.slot 14 false [.own 73 Y10],z13,z198,z199,z200]
@[reducible] def glazierref22_All_l1_X:List (Out × VT):=[(.exit 4,[z187,z17,z31,z10,z197,z39,z15,z168,z55,z198,z199,z200])]
noncomputable def glazierref22_All_l1_f (fl n:Nat):VT.T glazierref22_All_l1_V -> Option (XT glazierref22_All_l1_X):=fun v=>glazierref22_All_l1 fl n v.1 v.2.1 v.2.2.1 v.2.2.2.1 v.2.2.2.2.1 v.2.2.2.2.2.1 v.2.2.2.2.2.2.1 v.2.2.2.2.2.2.2.1 v.2.2.2.2.2.2.2.2.1 v.2.2.2.2.2.2.2.2.2.1 v.2.2.2.2.2.2.2.2.2.2.1 v.2.2.2.2.2.2.2.2.2.2.2.1 v.2.2.2.2.2.2.2.2.2.2.2.2.1 v.2.2.2.2.2.2.2.2.2.2.2.2.2.1 v.2.2.2.2.2.2.2.2.2.2.2.2.2.2.1 v.2.2.2.2.2.2.2.2.2.2.2.2.2.2.2.1 v.2.2.2.2.2.2.2.2.2.2.2.2.2.2.2.2.1 v.2.2.2.2.2.2.2.2.2.2.2.2.2.2.2.2.2.1 v.2.2.2.2.2.2.2.2.2.2.2.2.2.2.2.2.2.2.1 v.2.2.2.2.2.2.2.2.2.2.2.2.2.2.2.2.2.2.2.1 v.2.2.2.2.2.2.2.2.2.2.2.2.2.2.2.2.2.2.2.2.1 v.2.2.2.2.2.2.2.2.2.2.2.2.2.2.2.2.2.2.2.2.2.1 v.2.2.2.2.2.2.2.2.2.2.2.2.2.2.2.2.2.2.2.2.2.2.1 v.2.2.2.2.2.2.2.2.2.2.2.2.2.2.2.2.2.2.2.2.2.2.2.1 v.2.2.2.2.2.2.2.2.2.2.2.2.2.2.2.2.2.2.2.2.2.2.2.2.1 v.2.2.2.2.2.2.2.2.2.2.2.2.2.2.2.2.2.2.2.2.2.2.2.2.2.1
noncomputable def glazierref22_All_l1_s (fl:Nat):Seg:=⟨glazierref22_All_l1_V,glazierref22_All_l1_X,glazierref22_All_l1_f fl fl⟩
theorem glazierref22_All_l1_ok (fl:Nat):SegOk Tryz.prog 103 (.loop (loopBody (codeAt (fnBody Tryz.f9) 8015438))) (glazierref22_All_l1_s fl):=
  SegOk.loop (c0:=fnBody Tryz.f9) (p:=8015438) (U:=60) (allE_cons (glazierref22_part_ok fl) allE_nil) hmo (me:=9) ⟨Tryz.f9,by kernel_rfl,by kernel_rfl,by kernel_rfl⟩ (G:=[]) .nil (.of (f:=400) (by kernel_rfl)) (I:=inlNone) inl_none (F:=glazierref22_All_l1_f fl) (VT.okV (by kernel_rfl)) (VT.okX (by kernel_rfl)) (fun v=>by kernel_rfl) (fun n v=>by kernel_rfl) fl

@[reducible] def glazierref22_All_l2_V:VT:=[z187,z17,z31,z10,z197,z39,z15,z168,z55,z198,z199,z200]
@[reducible] def glazierref22_All_l2_X:List (Out × VT):=[(.exit 2,[z187,z17,z31,z10,z197,z39,z15,z198,z199])]
noncomputable def glazierref22_All_l2_f (fl n:Nat):VT.T glazierref22_All_l2_V -> Option (XT glazierref22_All_l2_X):=fun v=>glazierref22_All_l2 fl n v.1 v.2.1 v.2.2.1 v.2.2.2.1 v.2.2.2.2.1 v.2.2.2.2.2.1 v.2.2.2.2.2.2.1 v.2.2.2.2.2.2.2.1 v.2.2.2.2.2.2.2.2.1 v.2.2.2.2.2.2.2.2.2.1 v.2.2.2.2.2.2.2.2.2.2.1 v.2.2.2.2.2.2.2.2.2.2.2.1 v.2.2.2.2.2.2.2.2.2.2.2.2.1 v.2.2.2.2.2.2.2.2.2.2.2.2.2.1 v.2.2.2.2.2.2.2.2.2.2.2.2.2.2.1 v.2.2.2.2.2.2.2.2.2.2.2.2.2.2.2.1 v.2.2.2.2.2.2.2.2.2.2.2.2.2.2.2.2.1 v.2.2.2.2.2.2.2.2.2.2.2.2.2.2.2.2.2.1 v.2.2.2.2.2.2.2.2.2.2.2.2.2.2.2.2.2.2.1 v.2.2.2.2.2.2.2.2.2.2.2.2.2.2.2.2.2.2.2.1 v.2.2.2.2.2.2.2.2.2.2.2.2.2.2.2.2.2.2.2.2.1 v.2.2.2.2.2.2.2.2.2.2.2.2.2.2.2.2.2.2.2.2.2.1 v.2.2.2.2.2.2.2.2.2.2.2.2.2.2.2.2.2.2.2.2.2.2.1 v.2.2.2.2.2.2.2.2.2.2.2.2.2.2.2.2.2.2.2.2.2.2.2.1
noncomputable def glazierref22_All_l2_s (fl:Nat):Seg:=⟨glazierref22_All_l2_V,glazierref22_All_l2_X,glazierref22_All_l2_f fl fl⟩
theorem glazierref22_All_l2_ok (fl:Nat):SegOk Tryz.prog 103 (.loop (loopBody (codeAt (fnBody Tryz.f9) 31310))) (glazierref22_All_l2_s fl):=
  SegOk.loop (c0:=fnBody Tryz.f9) (p:=31310) (U:=60) (allE_cons (glazierref10_Parts_ok fl) (allE_cons (glazierref22_part_ok fl) allE_nil)) hmo (me:=9) ⟨Tryz.f9,by kernel_rfl,by kernel_rfl,by kernel_rfl⟩ (G:=[(8015438,glazierref22_All_l1_s fl)]) (.cons (f:=400) (by kernel_rfl) (glazierref22_All_l1_ok fl) .nil) (.of (f:=400) (by kernel_rfl)) (I:=inlNone) inl_none (F:=glazierref22_All_l2_f fl) (VT.okV (by kernel_rfl)) (VT.okX (by kernel_rfl)) (fun v=>by kernel_rfl) (fun n v=>by kernel_rfl) fl

@[reducible] def glazierref22_All_l3_V:VT:=[z187,z17,z31,z10,z197,z39,z15,z198,z199]
@[reducible] def glazierref22_All_l3_X:List (Out × VT):=[(.exit 0,[z10,z197,z39])]
noncomputable def glazierref22_All_l3_f (fl n:Nat):VT.T glazierref22_All_l3_V -> Option (XT glazierref22_All_l3_X):=fun v=>glazierref22_All_l3 fl n v.1 v.2.1 v.2.2.1 v.2.2.2.1 v.2.2.2.2.1 v.2.2.2.2.2.1 v.2.2.2.2.2.2.1 v.2.2.2.2.2.2.2.1 v.2.2.2.2.2.2.2.2.1 v.2.2.2.2.2.2.2.2.2.1 v.2.2.2.2.2.2.2.2.2.2.1 v.2.2.2.2.2.2.2.2.2.2.2.1 v.2.2.2.2.2.2.2.2.2.2.2.2.1 v.2.2.2.2.2.2.2.2.2.2.2.2.2.1 v.2.2.2.2.2.2.2.2.2.2.2.2.2.2.1 v.2.2.2.2.2.2.2.2.2.2.2.2.2.2.2.1 v.2.2.2.2.2.2.2.2.2.2.2.2.2.2.2.2.1 v.2.2.2.2.2.2.2.2.2.2.2.2.2.2.2.2.2.1
noncomputable def glazierref22_All_l3_s (fl:Nat):Seg:=⟨glazierref22_All_l3_V,glazierref22_All_l3_X,glazierref22_All_l3_f fl fl⟩
theorem glazierref22_All_l3_ok (fl:Nat):SegOk Tryz.prog 103 (.loop (loopBody (codeAt (fnBody Tryz.f9) 122))) (glazierref22_All_l3_s fl):=
  SegOk.loop (c0:=fnBody Tryz.f9) (p:=122) (U:=60) (allE_cons (glazierref10_Parts_ok fl) (allE_cons (glazierref22_part_ok fl) allE_nil)) hmo (me:=9) ⟨Tryz.f9,by kernel_rfl,by kernel_rfl,by kernel_rfl⟩ (G:=[(8015438,glazierref22_All_l1_s fl),(31310,glazierref22_All_l2_s fl)]) (.cons (f:=400) (by kernel_rfl) (glazierref22_All_l1_ok fl) (.cons (f:=400) (by kernel_rfl) (glazierref22_All_l2_ok fl) .nil)) (.of (f:=400) (by kernel_rfl)) (I:=inlNone) inl_none (F:=glazierref22_All_l3_f fl) (VT.okV (by kernel_rfl)) (VT.okX (by kernel_rfl)) (fun v=>by kernel_rfl) (fun n v=>by kernel_rfl) fl

noncomputable def glazierref22_All_e (fl:Nat):Ent:=⟨9,(.cons (.val true (.pair I8 (.pair I8 (.pair Y4 (.pair Y9 (.pair (.list Y7) (.pair (.list Y5) Y6))))))) (.cons (.val true Y1) (.val false .bool))),(.cons (.own 50 Y8) (.val false I8)),fun y=>glazierref22_All fl y.1 y.2.1 y.2.2⟩
theorem glazierref22_All_ok (fl:Nat):Ent.Ok Tryz.prog (glazierref22_All_e fl):=
  Ent.of (N:=103) (U:=60) (allE_cons (glazierref10_Parts_ok fl) (allE_cons (glazierref22_part_ok fl) allE_nil)) hmo (fn:=Tryz.f9) (c:=fnBody Tryz.f9) (G:=[(8015438,glazierref22_All_l1_s fl),(31310,glazierref22_All_l2_s fl),(122,glazierref22_All_l3_s fl)]) (by kernel_rfl) (by kernel_rfl) (by kernel_rfl) (by kernel_rfl) (by kernel_rfl) (by kernel_rfl) (fun y=>by kernel_rfl) (rs:=[.tmp 6,.tmp 7]) (by kernel_rfl) (.cons (f:=400) (by kernel_rfl) (glazierref22_All_l1_ok fl) (.cons (f:=400) (by kernel_rfl) (glazierref22_All_l2_ok fl) (.cons (f:=400) (by kernel_rfl) (glazierref22_All_l3_ok fl) .nil))) (I:=inlNone) inl_none (fun y=>by kernel_rfl)

@[reducible] def glazierref16_Same_l1_V:VT:=[.slot 0 false [.dat (.list Y8)],.slot 1 false [.dat (.list Y8)],.slot 5 false [D]]
@[reducible] def glazierref16_Same_l1_X:List (Out × VT):=[(.ret,[.slot 4 false [.kbool false]]),(.exit 0,[])]
noncomputable def glazierref16_Same_l1_f (fl n:Nat):VT.T glazierref16_Same_l1_V -> Option (XT glazierref16_Same_l1_X):=fun v=>glazierref16_Same_l1 fl n v.1 v.2.1 v.2.2.1
noncomputable def glazierref16_Same_l1_s (fl:Nat):Seg:=⟨glazierref16_Same_l1_V,glazierref16_Same_l1_X,glazierref16_Same_l1_f fl fl⟩
theorem glazierref16_Same_l1_ok (fl:Nat):SegOk Tryz.prog 26 (.loop (loopBody (codeAt (fnBody Tryz.f10) 58))) (glazierref16_Same_l1_s fl):=
  SegOk.loop (c0:=fnBody Tryz.f10) (p:=58) (U:=60) allE_nil hmo (me:=10) ⟨Tryz.f10,by kernel_rfl,by kernel_rfl,by kernel_rfl⟩ (G:=[]) .nil (.of (f:=400) (by kernel_rfl)) (I:=inlNone) inl_none (F:=glazierref16_Same_l1_f fl) (VT.okV (by kernel_rfl)) (VT.okX (by kernel_rfl)) (fun v=>by kernel_rfl) (fun n v=>by kernel_rfl) fl

noncomputable def glazierref16_Same_e (fl:Nat):Ent:=⟨10,(.cons (.val false (.list Y8)) (.val false (.list Y8))),(.val false .bool),fun y=>glazierref16_Same fl y.1 y.2⟩
theorem glazierref16_Same_ok (fl:Nat):Ent.Ok Tryz.prog (glazierref16_Same_e fl):=
  Ent.of (N:=26) (U:=60) allE_nil hmo (fn:=Tryz.f10) (c:=fnBody Tryz.f10) (G:=[(58,glazierref16_Same_l1_s fl)]) (by kernel_rfl) (by kernel_rfl) (by kernel_rfl) (by kernel_rfl) (by kernel_rfl) (by kernel_rfl) (fun y=>by kernel_rfl) (rs:=[.tmp 4]) (by kernel_rfl) (.cons (f:=400) (by kernel_rfl) (glazierref16_Same_l1_ok fl) .nil) (I:=inlNone) inl_none (fun y=>by kernel_rfl)

noncomputable def glazierlaw22_FragsAll_e (fl:Nat):Ent:=⟨3,(.cons (.val true (.pair I8 (.pair I8 (.pair Y4 (.pair Y9 (.pair (.list Y7) (.pair (.list Y5) Y6))))))) (.val true (.pair (.int .i8) (.pair (.int .i8) (.pair (.int .i8) (.int .i8)))))),(.val false .bool),fun y=>glazierlaw22_FragsAll fl y.1 y.2⟩
theorem glazierlaw22_FragsAll_ok (fl:Nat):Ent.Ok Tryz.prog (glazierlaw22_FragsAll_e fl):=
  have hT:=allE_cons frags_Maker__Made_ok (allE_cons frags_Maker__Steps_ok (allE_cons (glazierlaw22_shown_ok fl) (allE_cons (glazierlaw22_fit_ok fl) (allE_cons glazierlaw22_box_ok (allE_cons (glazierref22_All_ok fl) (allE_cons (glazierref16_Same_ok fl) allE_nil)))))); Ent.of (N:=104) (U:=60) hT hmo (fn:=Tryz.f3) (c:=fnBody Tryz.f3) (G:=[]) (by kernel_rfl) (by kernel_rfl) (by kernel_rfl) (by kernel_rfl) (by kernel_rfl) (by kernel_rfl) (fun y=>by kernel_rfl) (rs:=[.tmp 4]) (by kernel_rfl) .nil (I:=inlTab _ Tryz.prog [glazierlaw22_gone_m fl] [⟨6,fnBody Tryz.f6,6,60,[.tmp 2],[]⟩] 12) (inlTab_ok hT hmo (allM_cons (glazierlaw22_gone_mok fl) allM_nil) (inlL_cons ⟨⟨Tryz.f6,by kernel_rfl,by kernel_rfl,by kernel_rfl,by kernel_rfl,by kernel_rfl⟩,by kernel_rfl,.nil⟩ inlL_nil) 12) (fun y=>by kernel_rfl)


end Go.Proofs.YtkacojopcajboaaGreat.G
