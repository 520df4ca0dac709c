/- A part of the proof. -/
import Derived.Test.YtkacojopcajboaaGen
import Derived.Test.YtkacojopcajboaaMchXa
import Derived.Test.YtkacojopcajboaaProg
set_option linter.unusedVariables false
set_option maxRecDepth 100000
namespace Go.Proofs.Ytkacojopcajboaa.G
open Go Go.RowKit Go.Proofs.Ytkacojopcajboaa.M

theorem hmo:Try.prog.follows .mixedOrders = true:=by kernel_rfl

@[reducible] def I8:Ty:=.int .i64
@[reducible] def U8:Ty:=.int .u8
@[reducible] def W8:Ty:=.int .u64
@[reducible] def Y1:Ty:=.pair I8 (.pair I8 (.pair I8 I8))
@[reducible] def Y3:Ty:=.list (.pair U8 (.pair U8 (.pair U8 (.pair U8 I8))))
@[reducible] def Y4:Ty:=.pair I8 (.pair I8 (.pair I8 Y1))
@[reducible] def Y5:Ty:=.pair I8 (.pair I8 (.pair I8 (.pair .bool (.list Y1))))
@[reducible] def Y9:Ty:=.pair U8 (.pair U8 (.pair U8 U8))
@[reducible] def Y2:Ty:=.pair I8 (.pair I8 (.list Y9))
@[reducible] def Y7:Ty:=.pair I8 (.pair I8 (.pair U8 (.pair Y1 Y9)))
@[reducible] def Y10:Ty:=.list Y5
@[reducible] def Y11:Ty:=.pair I8 (.pair Y4 (.pair Y4 Y4))
@[reducible] def Y12:Ty:=.pair I8 Y4
@[reducible] def Y8:Ty:=.list Y12
@[reducible] def Y6:Ty:=.pair I8 (.pair I8 (.pair U8 (.pair U8 (.pair U8 (.pair U8 (.pair Y8 (.pair (.list Y2) (.pair (.list Y3) Y10))))))))
@[reducible] def D:CT:=.dat I8
@[reducible] def z0:It:=.slot 2 false [.dat W8]
@[reducible] def z1:It:=.slot 8 false [.dat W8]
@[reducible] def z2:It:=.slot 9 false [.dat W8]
@[reducible] def z3:It:=.slot 10 false [.dat W8]
@[reducible] def z4:It:=.slot 14 false [.dat W8]
@[reducible] def z5:It:=.slot 15 false [.dat W8]
@[reducible] def z6:It:=.slot 4 false [.nils]
@[reducible] def z7:It:=.slot 6 false [.nils]
@[reducible] def z8:It:=.slot 14 false [D]
@[reducible] def z9:It:=.slot 15 false [D]
@[reducible] def z10:It:=.slot 3 false [.ptr 3 0]
@[reducible] def z11:It:=.slot 0 false [.yld 110000]
@[reducible] def z12:It:=.slot 100004 false [.ptr 100004 0]
@[reducible] def z13:It:=.slot 100005 false [.ptr 100005 0]
@[reducible] def z14:It:=.slot 100007 false [.ptr 100007 0]
@[reducible] def z15:It:=.slot 100011 false [.fn 60 (.val true U8)]
@[reducible] def z16:It:=.slot 110000 true [.kint .i64 0,.kint .i64 35,.kint .i64 58]
@[reducible] def z17:It:=.box 100003 86 [D,D,D,D,D,D,D,D,D,D,D,D,D,D,D,D,D,D,D,D,D]
@[reducible] def z18:It:=.slot 0 false [.dat Y3]
@[reducible] def z19:It:=.slot 7 false [D]
@[reducible] def z20:It:=.slot 8 false [D]
@[reducible] def z21:It:=.slot 6 false [D]
@[reducible] def z22:It:=.slot 4 false [.ptr 4 0]
@[reducible] def z23:It:=.slot 5 false [.ptr 5 0]
@[reducible] def z24:It:=.slot 6 false [.ptr 6 0]
@[reducible] def z25:It:=.box 4 75 [D,D,.dat (.list Y9)]
@[reducible] def z26:It:=.box 5 120 [D,D,D,D,D,D,D,D]
@[reducible] def z27:It:=.box 6 120 [.kint .i64 0,.kint .i64 0,.kint .i64 0,.kint .i64 0,.kint .i64 0,.kint .i64 0,.kint .i64 0,.kint .i64 0]
@[reducible] def z28:It:=.slot 0 false [.dat U8]
@[reducible] def z29:It:=.slot 7 false [.dat (.list I8)]
@[reducible] def z30:It:=.slot 9 false [D]
@[reducible] def z31:It:=.slot 200000 false [.dat Y3]
@[reducible] def z32:It:=.slot 200004 false [.ptr 200004 0]
@[reducible] def z33:It:=.slot 200005 false [.ptr 200005 0]
@[reducible] def z34:It:=.slot 200006 false [.ptr 200006 0]
@[reducible] def z35:It:=.slot 200010 false [.ptr 200010 0]
@[reducible] def z36:It:=.slot 200012 false [D]
@[reducible] def z37:It:=.slot 200013 false [D]
@[reducible] def z38:It:=.box 200004 75 [D,D,.dat (.list Y9)]
@[reducible] def z39:It:=.box 200005 120 [D,D,D,D,D,D,D,D]
@[reducible] def z40:It:=.box 200006 120 [.kint .i64 0,.kint .i64 0,.kint .i64 0,.kint .i64 0,.kint .i64 0,.kint .i64 0,.kint .i64 0,.kint .i64 0]
@[reducible] def z41:It:=.slot 100010 false [.ptr 100010 0]
@[reducible] def z42:It:=.box 100004 75 [D,D,.dat (.list Y9)]
@[reducible] def z43:It:=.box 100005 120 [D,D,D,D,D,D,D,D]
@[reducible] def z44:It:=.box 100006 120 [.kint .i64 0,.kint .i64 0,.kint .i64 0,.kint .i64 0,.kint .i64 0,.kint .i64 0,.kint .i64 0,.kint .i64 0]
@[reducible] def z45:It:=.slot 10 false [.ptr 10 0]
@[reducible] def z46:It:=.slot 12 false [D]
@[reducible] def z47:It:=.slot 100001 false [.ptr 401192 0]
@[reducible] def z48:It:=.slot 100003 false [.ptr 401194 0]
@[reducible] def z49:It:=.slot 100004 false [.ptr 401195 0]
@[reducible] def z50:It:=.slot 100005 false [.ptr 401196 0]
@[reducible] def z51:It:=.slot 100006 false [.ptr 401197 0]
@[reducible] def z52:It:=.slot 100007 false [.ptr 300007 0]
@[reducible] def z53:It:=.slot 100009 false [.ptr 100009 0]
@[reducible] def z54:It:=.slot 100012 false [.ptr 100012 0]
@[reducible] def z55:It:=.slot 100046 false [.own 88 Y11]
@[reducible] def z56:It:=.slot 100047 false [D]
@[reducible] def z57:It:=.slot 100048 false [D]
@[reducible] def z58:It:=.slot 100082 false [.fn 34 (.cons (.val true I8) (.cons (.val true I8) (.cons (.val true I8) (.val true I8))))]
@[reducible] def z59:It:=.slot 110000 true [.kint .i64 0,.kint .i64 22,.kint .i64 482510]
@[reducible] def z60:It:=.slot 200000 false [.yld 310000]
@[reducible] def z61:It:=.slot 200003 false [D]
@[reducible] def z62:It:=.slot 200007 false [.dat Y10]
@[reducible] def z63:It:=.slot 200008 false [D]
@[reducible] def z64:It:=.slot 200009 false [D]
@[reducible] def z65:It:=.slot 200016 false [D]
@[reducible] def z66:It:=.slot 200017 false [D]
@[reducible] def z67:It:=.slot 300001 false [.ptr 401192 0]
@[reducible] def z68:It:=.slot 300002 false [.ptr 401193 0]
@[reducible] def z69:It:=.slot 300003 false [.ptr 401194 0]
@[reducible] def z70:It:=.slot 300004 false [.ptr 401195 0]
@[reducible] def z71:It:=.slot 300005 false [.ptr 401196 0]
@[reducible] def z72:It:=.slot 300006 false [.ptr 401197 0]
@[reducible] def z73:It:=.slot 300007 false [.ptr 300007 0]
@[reducible] def z74:It:=.slot 300025 false [.fn 31 (.val true Y6)]
@[reducible] def z75:It:=.slot 310000 true [.kint .i64 1,.kint .i64 22,.kint .i64 14]
@[reducible] def z76:It:=.slot 400007 false [.ptr 400007 0]
@[reducible] def z77:It:=.slot 400008 false [.ptr 400008 0]
@[reducible] def z78:It:=.slot 400009 false [.ptr 400009 0]
@[reducible] def z79:It:=.slot 400010 false [.ptr 400010 0]
@[reducible] def z80:It:=.slot 410000 true [.kint .i64 0,.kint .i64 10,.kint .i64 250]
@[reducible] def z81:It:=.box 100009 3 [D]
@[reducible] def z82:It:=.box 100010 57 [D,D,D,.dat .bool,.dat (.list Y1)]
@[reducible] def z83:It:=.box 100012 88 [D,D,D,D,D,D,D,D,D,D,D,D,D,D,D,D,D,D,D,D,D,D]
@[reducible] def z84:It:=.box 300007 78 [.yld 410000]
@[reducible] def z85:It:=.box 400007 3 [D]
@[reducible] def z86:It:=.box 400008 35 [.nils]
@[reducible] def z87:It:=.box 400009 4 [.kbool false]
@[reducible] def z88:It:=.box 400010 35 [.own 42 Y7]
@[reducible] def z89:It:=.box 401192 33 [.ptr 410002 0]
@[reducible] def z90:It:=.box 401193 4 [.dat .bool]
@[reducible] def z91:It:=.box 401194 3 [D]
@[reducible] def z92:It:=.box 401195 3 [D]
@[reducible] def z93:It:=.box 401196 3 [D]
@[reducible] def z94:It:=.box 401197 3 [D]
@[reducible] def z95:It:=.box 410002 66 [D,D,.dat U8,.dat U8,.dat U8,.dat U8,.dat Y8,.dat (.list Y2),.dat (.list Y3),.dat Y10,D,D]
@[reducible] def z96:It:=.slot 110000 true [.kint .i64 2,.kint .i64 22,.kint .i64 482510]
@[reducible] def z97:It:=.slot 410000 true [D,.kint .i64 10,.kint .i64 250]
@[reducible] def z98:It:=.slot 100000 false [.yld 210000]
@[reducible] def z99:It:=.slot 100003 false [D]
@[reducible] def z100:It:=.slot 100007 false [.dat Y10]
@[reducible] def z101:It:=.slot 100008 false [D]
@[reducible] def z102:It:=.slot 100009 false [D]
@[reducible] def z103:It:=.slot 100016 false [D]
@[reducible] def z104:It:=.slot 100017 false [D]
@[reducible] def z105:It:=.slot 200001 false [.ptr 301192 0]
@[reducible] def z106:It:=.slot 200002 false [.ptr 301193 0]
@[reducible] def z107:It:=.slot 200003 false [.ptr 301194 0]
@[reducible] def z108:It:=.slot 200004 false [.ptr 301195 0]
@[reducible] def z109:It:=.slot 200005 false [.ptr 301196 0]
@[reducible] def z110:It:=.slot 200006 false [.ptr 301197 0]
@[reducible] def z111:It:=.slot 200007 false [.ptr 200007 0]
@[reducible] def z112:It:=.slot 200025 false [.fn 31 (.val true Y6)]
@[reducible] def z113:It:=.slot 210000 true [.kint .i64 1,.kint .i64 22,.kint .i64 14]
@[reducible] def z114:It:=.slot 300008 false [.ptr 300008 0]
@[reducible] def z115:It:=.slot 300009 false [.ptr 300009 0]
@[reducible] def z116:It:=.slot 300010 false [.ptr 300010 0]
@[reducible] def z117:It:=.slot 310000 true [.kint .i64 0,.kint .i64 10,.kint .i64 250]
@[reducible] def z118:It:=.box 200007 78 [.yld 310000]
@[reducible] def z119:It:=.box 300007 3 [D]
@[reducible] def z120:It:=.box 300009 4 [.kbool false]
@[reducible] def z121:It:=.box 300010 35 [.own 42 Y7]
@[reducible] def z122:It:=.box 301192 33 [.ptr 310002 0]
@[reducible] def z123:It:=.box 301193 4 [.dat .bool]
@[reducible] def z124:It:=.box 301194 3 [D]
@[reducible] def z125:It:=.box 301195 3 [D]
@[reducible] def z126:It:=.box 301196 3 [D]
@[reducible] def z127:It:=.box 301197 3 [D]
@[reducible] def z128:It:=.box 310002 66 [D,D,.dat U8,.dat U8,.dat U8,.dat U8,.dat Y8,.dat (.list Y2),.dat (.list Y3),.dat Y10,D,D]
@[reducible] def z129:It:=.slot 7 false [.dat Y10]
@[reducible] def z130:It:=.slot 100001 false [.ptr 201192 0]
@[reducible] def z131:It:=.slot 100002 false [.ptr 201193 0]
@[reducible] def z132:It:=.slot 100003 false [.ptr 201194 0]
@[reducible] def z133:It:=.slot 100004 false [.ptr 201195 0]
@[reducible] def z134:It:=.slot 100005 false [.ptr 201196 0]
@[reducible] def z135:It:=.slot 100006 false [.ptr 201197 0]
@[reducible] def z136:It:=.slot 100025 false [.fn 31 (.val true Y6)]
@[reducible] def z137:It:=.slot 110000 true [.kint .i64 0,.kint .i64 22,.kint .i64 14]
@[reducible] def z138:It:=.slot 200008 false [.ptr 200008 0]
@[reducible] def z139:It:=.slot 200009 false [.ptr 200009 0]
@[reducible] def z140:It:=.slot 210000 true [.kint .i64 0,.kint .i64 10,.kint .i64 250]
@[reducible] def z141:It:=.box 100007 78 [.yld 210000]
@[reducible] def z142:It:=.box 200007 3 [D]
@[reducible] def z143:It:=.box 200008 35 [.nils]
@[reducible] def z144:It:=.box 200009 4 [.kbool false]
@[reducible] def z145:It:=.box 200010 35 [.own 42 Y7]
@[reducible] def z146:It:=.box 201192 33 [.ptr 210002 0]
@[reducible] def z147:It:=.box 201193 4 [.dat .bool]
@[reducible] def z148:It:=.box 201194 3 [D]
@[reducible] def z149:It:=.box 201195 3 [D]
@[reducible] def z150:It:=.box 201196 3 [D]
@[reducible] def z151:It:=.box 201197 3 [D]
@[reducible] def z152:It:=.box 210002 66 [D,D,.dat U8,.dat U8,.dat U8,.dat U8,.dat Y8,.dat (.list Y2),.dat (.list Y3),.dat Y10,D,D]
@[reducible] def z153:It:=.slot 110000 true [.kint .i64 2,.kint .i64 22,.kint .i64 14]
@[reducible] def z154:It:=.slot 210000 true [D,.kint .i64 10,.kint .i64 250]
@[reducible] def z155:It:=.slot 3 false [.kint .i64 4]
@[reducible] def z156:It:=.slot 4 false [.kint .i64 4]
@[reducible] def z157:It:=.slot 11 false [.ptr 11 0]
@[reducible] def z158:It:=.slot 36 false [.nils]
@[reducible] def z159:It:=.slot 100002 false [.ptr 100002 0]
@[reducible] def z160:It:=.slot 200001 false [.ptr 200001 0]
@[reducible] def z161:It:=.slot 200003 false [.dat .bool]
@[reducible] def z162:It:=.box 5 29 [D,D,.dat U8,.dat U8,.dat U8,.dat U8,.dat Y8,.dat (.list Y2),.dat (.list Y3),.dat Y10]
@[reducible] def z163:It:=.box 10 29 [.kint .i64 0,.kint .i64 0,.kint .u8 0,.kint .u8 0,.kint .u8 0,.kint .u8 0,.nils,.nils,.nils,.nils]
@[reducible] def z164:It:=.box 11 29 [D,D,.dat U8,.dat U8,.dat U8,.dat U8,.own 51 Y12,.nils,.nils,.nils]
@[reducible] def z165:It:=.box 100002 29 [.kint .i64 0,.kint .i64 0,.kint .u8 0,.kint .u8 0,.kint .u8 0,.kint .u8 0,.nils,.nils,.nils,.nils]
@[reducible] def z166:It:=.box 200001 29 [D,D,.dat U8,.dat U8,.dat U8,.dat U8,.dat Y8,.dat (.list Y2),.dat (.list Y3),.dat Y10]
@[reducible] def z167:It:=.box 2 75 [.kint .i64 0,.kint .i64 0,.nils]
@[reducible] def z168:It:=.box 11 29 [D,D,.dat U8,.dat U8,.dat U8,.dat U8,.own 51 Y12,.own 75 Y2,.nils,.nils]
@[reducible] def z169:It:=.slot 6 false [.own 59 (.pair U8 (.pair U8 (.pair U8 (.pair U8 I8))))]
@[reducible] def z170:It:=.slot 88 false [.nils]
@[reducible] def z171:It:=.box 11 29 [D,D,.dat U8,.dat U8,.dat U8,.dat U8,.own 51 Y12,.own 75 Y2,.own 46 Y3,.nils]
@[reducible] def z172:It:=.slot 17 false [.ptr 17 0]
@[reducible] def z173:It:=.box 16 57 [D,D,D,.dat .bool,.dat (.list Y1)]
@[reducible] def z174:It:=.box 17 57 [D,D,D,.dat .bool,.own 54 Y1]
@[reducible] def z175:It:=.box 11 29 [D,D,.dat U8,.dat U8,.dat U8,.dat U8,.own 51 Y12,.own 75 Y2,.own 46 Y3,.own 57 Y5]
@[reducible] def z176:It:=.box 4 29 [D,D,.dat U8,.dat U8,.dat U8,.dat U8,.own 51 Y12,.own 75 Y2,.own 46 Y3,.own 57 Y5]
@[reducible] def z177:It:=.box 5 29 [D,D,.dat U8,.dat U8,.dat U8,.dat U8,.dat Y8,.dat (.list Y2),.dat (.list Y3),.own 57 Y5]

noncomputable def glazierlaw22_plain_e:Ent:=⟨14,.nil,(.val true (.pair I8 (.pair I8 (.pair Y9 (.pair Y8 (.pair (.list Y2) (.pair (.list Y3) Y10))))))),fun y=>glazierlaw22_plain⟩
theorem glazierlaw22_plain_ok:Ent.Ok Try.prog (glazierlaw22_plain_e):=
  Ent.of (N:=18) (U:=60) allE_nil hmo (fn:=Try.f14) (c:=fnBody Try.f14) (G:=[]) (by kernel_rfl) (by kernel_rfl) (by kernel_rfl) (by kernel_rfl) (by kernel_rfl) (by kernel_rfl) (fun y=>by kernel_rfl) (rs:=[.cell 0 29]) (by kernel_rfl) .nil (I:=inlNone) inl_none (fun y=>by kernel_rfl)

noncomputable def scene_Each_e:Ent:=⟨23,(.val true (.pair I8 (.pair I8 (.pair Y9 (.pair Y8 (.pair (.list Y2) (.pair (.list Y3) Y10))))))),(.fn 31 (.val true Y6)),fun y=>scene_Each y⟩
theorem scene_Each_ok:Ent.Ok Try.prog (scene_Each_e):=
  Ent.of (N:=4) (U:=60) allE_nil hmo (fn:=Try.f23) (c:=fnBody Try.f23) (G:=[]) (by kernel_rfl) (by kernel_rfl) (by kernel_rfl) (by kernel_rfl) (by kernel_rfl) (by kernel_rfl) (fun y=>by kernel_rfl) (rs:=[.tmp 2]) (by kernel_rfl) .nil (I:=inlTab _ Try.prog [] [⟨31,fnBody Try.f31,27,60,[],[]⟩] 12) (inlTab_ok allE_nil hmo allM_nil (inlL_cons ⟨⟨Try.f31,by kernel_rfl,by kernel_rfl,by kernel_rfl,by kernel_rfl,by kernel_rfl⟩,by kernel_rfl,.nil⟩ inlL_nil) 12) (fun y=>by kernel_rfl)

noncomputable def clip_own_e:Ent:=⟨57,(.val false Y8),(.own 51 Y12),fun y=>clip_own y⟩
theorem clip_own_ok:Ent.Ok Try.prog (clip_own_e):=
  Ent.of (N:=11) (U:=60) allE_nil hmo (fn:=Try.f57) (c:=fnBody Try.f57) (G:=[]) (by kernel_rfl) (by kernel_rfl) (by kernel_rfl) (by kernel_rfl) (by kernel_rfl) (by kernel_rfl) (fun y=>by kernel_rfl) (rs:=[.tmp 2]) (by kernel_rfl) .nil (I:=inlNone) inl_none (fun y=>by kernel_rfl)

noncomputable def vec_Dist_e:Ent:=⟨82,(.cons (.val false I8) (.val true Y12)),(.val false I8),fun y=>vec_Dist y.1 y.2⟩
theorem vec_Dist_ok:Ent.Ok Try.prog (vec_Dist_e):=
  Ent.of (N:=39) (U:=60) allE_nil hmo (fn:=Try.f82) (c:=fnBody Try.f82) (G:=[]) (by kernel_rfl) (by kernel_rfl) (by kernel_rfl) (by kernel_rfl) (by kernel_rfl) (by kernel_rfl) (fun y=>by kernel_rfl) (rs:=[.tmp 4]) (by kernel_rfl) .nil (I:=inlNone) inl_none (fun y=>by kernel_rfl)

noncomputable def vec_row_e:Ent:=⟨98,(.val true Y12),(.val true Y12),fun y=>vec_row y⟩
theorem vec_row_ok:Ent.Ok Try.prog (vec_row_e):=
  Ent.of (N:=24) (U:=60) allE_nil hmo (fn:=Try.f98) (c:=fnBody Try.f98) (G:=[]) (by kernel_rfl) (by kernel_rfl) (by kernel_rfl) (by kernel_rfl) (by kernel_rfl) (by kernel_rfl) (fun y=>by kernel_rfl) (rs:=[.cell 2 120]) (by kernel_rfl) .nil (I:=inlNone) inl_none (fun y=>by kernel_rfl)

noncomputable def fixed_size_e:Ent:=⟨95,(.val false I8),(.val false W8),fun y=>fixed_size y⟩
theorem fixed_size_ok:Ent.Ok Try.prog (fixed_size_e):=
  Ent.of (N:=8) (U:=60) allE_nil hmo (fn:=Try.f95) (c:=fnBody Try.f95) (G:=[]) (by kernel_rfl) (by kernel_rfl) (by kernel_rfl) (by kernel_rfl) (by kernel_rfl) (by kernel_rfl) (fun y=>by kernel_rfl) (rs:=[.tmp 2]) (by kernel_rfl) .nil (I:=inlNone) inl_none (fun y=>by kernel_rfl)

noncomputable def bits_Mul64_e:Ent:=⟨94,(.cons (.val false W8) (.val false W8)),(.cons (.val false W8) (.val false W8)),fun y=>bits_Mul64 y.1 y.2⟩
theorem bits_Mul64_ok:Ent.Ok Try.prog (bits_Mul64_e):=
  Ent.of (N:=51) (U:=60) allE_nil hmo (fn:=Try.f94) (c:=fnBody Try.f94) (G:=[]) (by kernel_rfl) (by kernel_rfl) (by kernel_rfl) (by kernel_rfl) (by kernel_rfl) (by kernel_rfl) (fun y=>by kernel_rfl) (rs:=[.tmp 4,.tmp 5]) (by kernel_rfl) .nil (I:=inlNone) inl_none (fun y=>by kernel_rfl)

noncomputable def bits_LeadingZeros64_e:Ent:=⟨104,(.val false W8),(.val false I8),fun y=>bits_LeadingZeros64 y⟩
theorem bits_LeadingZeros64_ok:Ent.Ok Try.prog bits_LeadingZeros64_e:=fun y x v h=>by cases h

@[reducible] def bits_Div64_l1_V:VT:=[z0,z1,z2,z3,.slot 11 false [.dat W8],.slot 13 false [.dat W8],z4,z5,.slot 16 false [.dat W8]]
@[reducible] def bits_Div64_l1_X:List (Out × VT):=[(.exit 0,[z0,z1,z2,z3,.slot 11 false [.dat W8],.slot 13 false [.dat W8],z4,z5])]
noncomputable def bits_Div64_l1_f (fl n:Nat):VT.T bits_Div64_l1_V -> Option (XT bits_Div64_l1_X):=fun v=>bits_Div64_l1 fl n v.1 v.2.1 v.2.2.1 v.2.2.2.1 v.2.2.2.2.1 v.2.2.2.2.2.1 v.2.2.2.2.2.2.1 v.2.2.2.2.2.2.2.1 v.2.2.2.2.2.2.2.2.1
noncomputable def bits_Div64_l1_s (fl:Nat):Seg:=⟨bits_Div64_l1_V,bits_Div64_l1_X,bits_Div64_l1_f fl fl⟩
theorem bits_Div64_l1_ok (fl:Nat):SegOk Try.prog 135 (.loop (loopBody (codeAt (fnBody Try.f96) 131068))) (bits_Div64_l1_s fl):=
  SegOk.loop (c0:=fnBody Try.f96) (p:=131068) (U:=60) allE_nil hmo (me:=96) ⟨Try.f96,by kernel_rfl,by kernel_rfl,by kernel_rfl⟩ (G:=[]) .nil (.of (f:=400) (by kernel_rfl)) (I:=inlNone) inl_none (F:=bits_Div64_l1_f fl) (VT.okV (by kernel_rfl)) (VT.okX (by kernel_rfl)) (fun v=>by kernel_rfl) (fun n v=>by kernel_rfl) fl

@[reducible] def bits_Div64_l2_V:VT:=[z0,z1,z2,z3,z4,z5,.slot 16 false [.dat W8],.slot 17 false [.dat W8],.slot 18 false [.dat W8]]
@[reducible] def bits_Div64_l2_X:List (Out × VT):=[(.exit 2,[z0,z1,z4,z5,.slot 17 false [.dat W8],.slot 18 false [.dat W8]])]
noncomputable def bits_Div64_l2_f (fl n:Nat):VT.T bits_Div64_l2_V -> Option (XT bits_Div64_l2_X):=fun v=>bits_Div64_l2 fl n v.1 v.2.1 v.2.2.1 v.2.2.2.1 v.2.2.2.2.1 v.2.2.2.2.2.1 v.2.2.2.2.2.2.1 v.2.2.2.2.2.2.2.1 v.2.2.2.2.2.2.2.2.1
noncomputable def bits_Div64_l2_s (fl:Nat):Seg:=⟨bits_Div64_l2_V,bits_Div64_l2_X,bits_Div64_l2_f fl fl⟩
theorem bits_Div64_l2_ok (fl:Nat):SegOk Try.prog 135 (.loop (loopBody (codeAt (fnBody Try.f96) 2097148))) (bits_Div64_l2_s fl):=
  SegOk.loop (c0:=fnBody Try.f96) (p:=2097148) (U:=60) allE_nil hmo (me:=96) ⟨Try.f96,by kernel_rfl,by kernel_rfl,by kernel_rfl⟩ (G:=[(131068,bits_Div64_l1_s fl)]) (.cons (f:=400) (by kernel_rfl) (bits_Div64_l1_ok fl) .nil) (.of (f:=400) (by kernel_rfl)) (I:=inlNone) inl_none (F:=bits_Div64_l2_f fl) (VT.okV (by kernel_rfl)) (VT.okX (by kernel_rfl)) (fun v=>by kernel_rfl) (fun n v=>by kernel_rfl) fl

noncomputable def bits_Div64_e (fl:Nat):Ent:=⟨96,(.cons (.val false W8) (.cons (.val false W8) (.val false W8))),(.cons (.val false W8) (.val false W8)),fun y=>bits_Div64 fl y.1 y.2.1 y.2.2⟩
theorem bits_Div64_ok (fl:Nat):Ent.Ok Try.prog (bits_Div64_e fl):=
  Ent.of (N:=135) (U:=60) (allE_cons bits_LeadingZeros64_ok allE_nil) hmo (fn:=Try.f96) (c:=fnBody Try.f96) (G:=[(131068,bits_Div64_l1_s fl),(2097148,bits_Div64_l2_s fl)]) (by kernel_rfl) (by kernel_rfl) (by kernel_rfl) (by kernel_rfl) (by kernel_rfl) (by kernel_rfl) (fun y=>by kernel_rfl) (rs:=[.tmp 6,.tmp 7]) (by kernel_rfl) (.cons (f:=400) (by kernel_rfl) (bits_Div64_l1_ok fl) (.cons (f:=400) (by kernel_rfl) (bits_Div64_l2_ok fl) .nil)) (I:=inlNone) inl_none (fun y=>by kernel_rfl)

noncomputable def fixed_checked_e:Ent:=⟨105,(.cons (.val false I8) (.val false .bool)),(.cons (.val false I8) (.val false I8)),fun y=>fixed_checked y.1 y.2⟩
theorem fixed_checked_ok:Ent.Ok Try.prog (fixed_checked_e):=
  Ent.of (N:=9) (U:=60) allE_nil hmo (fn:=Try.f105) (c:=fnBody Try.f105) (G:=[]) (by kernel_rfl) (by kernel_rfl) (by kernel_rfl) (by kernel_rfl) (by kernel_rfl) (by kernel_rfl) (fun y=>by kernel_rfl) (rs:=[.tmp 4,.tmp 5]) (by kernel_rfl) .nil (I:=inlNone) inl_none (fun y=>by kernel_rfl)

noncomputable def fixed_signed_e:Ent:=⟨97,(.cons (.val false W8) (.val false .bool)),(.cons (.val false I8) (.val false I8)),fun y=>fixed_signed y.1 y.2⟩
theorem fixed_signed_ok:Ent.Ok Try.prog (fixed_signed_e):=
  Ent.of (N:=22) (U:=60) (allE_cons fixed_checked_ok allE_nil) hmo (fn:=Try.f97) (c:=fnBody Try.f97) (G:=[]) (by kernel_rfl) (by kernel_rfl) (by kernel_rfl) (by kernel_rfl) (by kernel_rfl) (by kernel_rfl) (fun y=>by kernel_rfl) (rs:=[.tmp 4,.tmp 5]) (by kernel_rfl) .nil (I:=inlNone) inl_none (fun y=>by kernel_rfl)

noncomputable def fixed_MulDiv_e (fl:Nat):Ent:=⟨81,(.cons (.val false I8) (.cons (.val false I8) (.val false I8))),(.cons (.val false I8) (.val false I8)),fun y=>fixed_MulDiv fl y.1 y.2.1 y.2.2⟩
theorem fixed_MulDiv_ok (fl:Nat):Ent.Ok Try.prog (fixed_MulDiv_e fl):=
  Ent.of (N:=58) (U:=60) (allE_cons fixed_size_ok (allE_cons bits_Mul64_ok (allE_cons (bits_Div64_ok fl) (allE_cons fixed_signed_ok allE_nil)))) hmo (fn:=Try.f81) (c:=fnBody Try.f81) (G:=[]) (by kernel_rfl) (by kernel_rfl) (by kernel_rfl) (by kernel_rfl) (by kernel_rfl) (by kernel_rfl) (fun y=>by kernel_rfl) (rs:=[.tmp 6,.tmp 7]) (by kernel_rfl) .nil (I:=inlNone) inl_none (fun y=>by kernel_rfl)

noncomputable def vec_made_e:Ent:=⟨99,(.val true Y12),(.val true Y12),fun y=>vec_made y⟩
theorem vec_made_ok:Ent.Ok Try.prog (vec_made_e):=
  Ent.of (N:=15) (U:=60) allE_nil hmo (fn:=Try.f99) (c:=fnBody Try.f99) (G:=[]) (by kernel_rfl) (by kernel_rfl) (by kernel_rfl) (by kernel_rfl) (by kernel_rfl) (by kernel_rfl) (fun y=>by kernel_rfl) (rs:=[.cell 2 51]) (by kernel_rfl) .nil (I:=inlNone) inl_none (fun y=>by kernel_rfl)

noncomputable def vec_Between_e (fl:Nat):Ent:=⟨83,(.cons (.val true Y12) (.cons (.val true Y12) (.val false I8))),(.cons (.val true Y12) (.val false .bool)),fun y=>vec_Between fl y.1 y.2.1 y.2.2⟩
theorem vec_Between_ok (fl:Nat):Ent.Ok Try.prog (vec_Between_e fl):=
  Ent.of (N:=67) (U:=60) (allE_cons vec_Dist_ok (allE_cons vec_row_ok (allE_cons (fixed_MulDiv_ok fl) (allE_cons vec_made_ok allE_nil)))) hmo (fn:=Try.f83) (c:=fnBody Try.f83) (G:=[]) (by kernel_rfl) (by kernel_rfl) (by kernel_rfl) (by kernel_rfl) (by kernel_rfl) (by kernel_rfl) (fun y=>by kernel_rfl) (rs:=[.cell 6 51,.tmp 7]) (by kernel_rfl) .nil (I:=inlNone) inl_none (fun y=>by kernel_rfl)

@[reducible] def clip_By_l1_V:VT:=[.slot 0 false [D],.slot 1 false [.dat Y8],z6,.slot 5 false [.own 51 Y12],.slot 19 false [.dat Y8],.slot 20 false [D],.slot 21 false [D]]
@[reducible] def clip_By_l1_X:List (Out × VT):=[(.exit 0,[z6,.slot 5 false [.own 51 Y12]])]
noncomputable def clip_By_l1_f (fl n:Nat):VT.T clip_By_l1_V -> Option (XT clip_By_l1_X):=fun v=>clip_By_l1 fl n v.1 v.2.1 v.2.2.1 v.2.2.2.1 v.2.2.2.2.1 v.2.2.2.2.2.1
noncomputable def clip_By_l1_s (fl:Nat):Seg:=⟨clip_By_l1_V,clip_By_l1_X,clip_By_l1_f fl fl⟩
theorem clip_By_l1_ok (fl:Nat):SegOk Try.prog 58 (.loop (loopBody (codeAt (fnBody Try.f58) 122))) (clip_By_l1_s fl):=
  SegOk.loop (c0:=fnBody Try.f58) (p:=122) (U:=60) (allE_cons vec_Dist_ok (allE_cons (vec_Between_ok fl) allE_nil)) hmo (me:=58) ⟨Try.f58,by kernel_rfl,by kernel_rfl,by kernel_rfl⟩ (G:=[]) .nil (.of (f:=400) (by kernel_rfl)) (I:=inlNone) inl_none (F:=clip_By_l1_f fl) (VT.okV (by kernel_rfl)) (VT.okX (by kernel_rfl)) (fun v=>by kernel_rfl) (fun n v=>by kernel_rfl) fl

noncomputable def clip_By_e (fl:Nat):Ent:=⟨58,(.cons (.val false I8) (.val false Y8)),(.own 51 Y12),fun y=>clip_By fl y.1 y.2⟩
theorem clip_By_ok (fl:Nat):Ent.Ok Try.prog (clip_By_e fl):=
  Ent.of (N:=58) (U:=60) (allE_cons clip_own_ok (allE_cons vec_Dist_ok (allE_cons (vec_Between_ok fl) allE_nil))) hmo (fn:=Try.f58) (c:=fnBody Try.f58) (G:=[(122,clip_By_l1_s fl)]) (by kernel_rfl) (by kernel_rfl) (by kernel_rfl) (by kernel_rfl) (by kernel_rfl) (by kernel_rfl) (fun y=>by kernel_rfl) (rs:=[.tmp 4]) (by kernel_rfl) (.cons (f:=400) (by kernel_rfl) (clip_By_l1_ok fl) .nil) (I:=inlNone) inl_none (fun y=>by kernel_rfl)

noncomputable def clip_Poly_e (fl:Nat):Ent:=⟨43,(.val false Y8),(.own 51 Y12),fun y=>clip_Poly fl y⟩
theorem clip_Poly_ok (fl:Nat):Ent.Ok Try.prog (clip_Poly_e fl):=
  Ent.of (N:=18) (U:=60) (allE_cons clip_own_ok (allE_cons (clip_By_ok fl) allE_nil)) hmo (fn:=Try.f43) (c:=fnBody Try.f43) (G:=[]) (by kernel_rfl) (by kernel_rfl) (by kernel_rfl) (by kernel_rfl) (by kernel_rfl) (by kernel_rfl) (fun y=>by kernel_rfl) (rs:=[.tmp 2]) (by kernel_rfl) .nil (I:=inlNone) inl_none (fun y=>by kernel_rfl)

noncomputable def view_Point_1_e (fl:Nat):Ent:=⟨80,(.cons (.val false I8) (.cons (.val false I8) (.dp Y12))),(.val false I8),fun y=>view_Point_1 fl y.1 y.2.1 y.2.2⟩
theorem view_Point_1_ok (fl:Nat):Ent.Ok Try.prog (view_Point_1_e fl):=
  Ent.of (N:=19) (U:=60) (allE_cons (fixed_MulDiv_ok fl) allE_nil) hmo (fn:=Try.f80) (c:=fnBody Try.f80) (G:=[]) (by kernel_rfl) (by kernel_rfl) (by kernel_rfl) (by kernel_rfl) (by kernel_rfl) (by kernel_rfl) (fun y=>by kernel_rfl) (rs:=[.tmp 5]) (by kernel_rfl) .nil (I:=inlNone) inl_none (fun y=>by kernel_rfl)

noncomputable def view_Point_e (fl:Nat):Ent:=⟨56,(.cons (.val false I8) (.cons (.val false I8) (.val true Y12))),(.cons (.val true Y4) (.val false .bool)),fun y=>view_Point fl y.1 y.2.1 y.2.2⟩
theorem view_Point_ok (fl:Nat):Ent.Ok Try.prog (view_Point_e fl):=
  Ent.of (N:=42) (U:=60) (allE_cons (view_Point_1_ok fl) allE_nil) hmo (fn:=Try.f56) (c:=fnBody Try.f56) (G:=[]) (by kernel_rfl) (by kernel_rfl) (by kernel_rfl) (by kernel_rfl) (by kernel_rfl) (by kernel_rfl) (fun y=>by kernel_rfl) (rs:=[.cell 6 85,.tmp 7]) (by kernel_rfl) .nil (I:=inlNone) inl_none (fun y=>by kernel_rfl)

@[reducible] def view_Points_l1_V:VT:=[.slot 0 false [D],.slot 1 false [D],z7,.slot 8 false [.own 85 Y4],.slot 13 false [.dat Y8],z8,z9]
@[reducible] def view_Points_l1_X:List (Out × VT):=[(.ret,[z7,.slot 7 false [.kbool false]]),(.exit 0,[z7,.slot 8 false [.own 85 Y4]])]
noncomputable def view_Points_l1_f (fl n:Nat):VT.T view_Points_l1_V -> Option (XT view_Points_l1_X):=fun v=>view_Points_l1 fl n v.1 v.2.1 v.2.2.1 v.2.2.2.1 v.2.2.2.2.1 v.2.2.2.2.2.1
noncomputable def view_Points_l1_s (fl:Nat):Seg:=⟨view_Points_l1_V,view_Points_l1_X,view_Points_l1_f fl fl⟩
theorem view_Points_l1_ok (fl:Nat):SegOk Try.prog 34 (.loop (loopBody (codeAt (fnBody Try.f42) 58))) (view_Points_l1_s fl):=
  SegOk.loop (c0:=fnBody Try.f42) (p:=58) (U:=60) (allE_cons (view_Point_ok fl) allE_nil) hmo (me:=42) ⟨Try.f42,by kernel_rfl,by kernel_rfl,by kernel_rfl⟩ (G:=[]) .nil (.of (f:=400) (by kernel_rfl)) (I:=inlNone) inl_none (F:=view_Points_l1_f fl) (VT.okV (by kernel_rfl)) (VT.okX (by kernel_rfl)) (fun v=>by kernel_rfl) (fun n v=>by kernel_rfl) fl

noncomputable def view_Points_e (fl:Nat):Ent:=⟨42,(.cons (.val false I8) (.cons (.val false I8) (.val false Y8))),(.cons (.own 85 Y4) (.val false .bool)),fun y=>view_Points fl y.1 y.2.1 y.2.2⟩
theorem view_Points_ok (fl:Nat):Ent.Ok Try.prog (view_Points_e fl):=
  Ent.of (N:=34) (U:=60) (allE_cons (view_Point_ok fl) allE_nil) hmo (fn:=Try.f42) (c:=fnBody Try.f42) (G:=[(58,view_Points_l1_s fl)]) (by kernel_rfl) (by kernel_rfl) (by kernel_rfl) (by kernel_rfl) (by kernel_rfl) (by kernel_rfl) (fun y=>by kernel_rfl) (rs:=[.tmp 6,.tmp 7]) (by kernel_rfl) (.cons (f:=400) (by kernel_rfl) (view_Points_l1_ok fl) .nil) (I:=inlNone) inl_none (fun y=>by kernel_rfl)

noncomputable def edge_Cross_e:Ent:=⟨63,(.cons (.val true Y4) (.cons (.val true Y4) (.cons (.val false I8) (.val false I8)))),(.val false I8),fun y=>edge_Cross y.1 y.2.1 y.2.2.1 y.2.2.2⟩
theorem edge_Cross_ok:Ent.Ok Try.prog (edge_Cross_e):=
  Ent.of (N:=30) (U:=60) allE_nil hmo (fn:=Try.f63) (c:=fnBody Try.f63) (G:=[]) (by kernel_rfl) (by kernel_rfl) (by kernel_rfl) (by kernel_rfl) (by kernel_rfl) (by kernel_rfl) (fun y=>by kernel_rfl) (rs:=[.tmp 8]) (by kernel_rfl) .nil (I:=inlNone) inl_none (fun y=>by kernel_rfl)

noncomputable def edge_Area_e:Ent:=⟨54,(.val true (.pair Y4 (.pair Y4 Y4))),(.val false I8),fun y=>edge_Area y⟩
theorem edge_Area_ok:Ent.Ok Try.prog (edge_Area_e):=
  Ent.of (N:=14) (U:=60) (allE_cons edge_Cross_ok allE_nil) hmo (fn:=Try.f54) (c:=fnBody Try.f54) (G:=[]) (by kernel_rfl) (by kernel_rfl) (by kernel_rfl) (by kernel_rfl) (by kernel_rfl) (by kernel_rfl) (fun y=>by kernel_rfl) (rs:=[.tmp 2]) (by kernel_rfl) .nil (I:=inlNone) inl_none (fun y=>by kernel_rfl)

noncomputable def edge_Turned_e:Ent:=⟨44,(.val true (.pair Y4 (.pair Y4 Y4))),(.cons (.val true (.pair Y4 (.pair Y4 Y4))) (.val false .bool)),fun y=>edge_Turned y⟩
theorem edge_Turned_ok:Ent.Ok Try.prog (edge_Turned_e):=
  Ent.of (N:=21) (U:=60) (allE_cons edge_Area_ok allE_nil) hmo (fn:=Try.f44) (c:=fnBody Try.f44) (G:=[]) (by kernel_rfl) (by kernel_rfl) (by kernel_rfl) (by kernel_rfl) (by kernel_rfl) (by kernel_rfl) (fun y=>by kernel_rfl) (rs:=[.cell 2 86,.tmp 3]) (by kernel_rfl) .nil (I:=inlNone) inl_none (fun y=>by kernel_rfl)

@[reducible] def setup_Parts_l1_V:VT:=[z7,.slot 7 false [.dat (.list Y4)],.slot 9 false [.own 88 Y11],.slot 10 false [D]]
@[reducible] def setup_Parts_l1_X:List (Out × VT):=[(.exit 0,[z7,.slot 9 false [.own 88 Y11]])]
noncomputable def setup_Parts_l1_f (fl n:Nat):VT.T setup_Parts_l1_V -> Option (XT setup_Parts_l1_X):=fun v=>setup_Parts_l1 fl n v.1 v.2.1 v.2.2.1
noncomputable def setup_Parts_l1_s (fl:Nat):Seg:=⟨setup_Parts_l1_V,setup_Parts_l1_X,setup_Parts_l1_f fl fl⟩
theorem setup_Parts_l1_ok (fl:Nat):SegOk Try.prog 53 (.loop (loopBody (codeAt (fnBody Try.f32) 122))) (setup_Parts_l1_s fl):=
  SegOk.loop (c0:=fnBody Try.f32) (p:=122) (U:=60) (allE_cons edge_Turned_ok allE_nil) hmo (me:=32) ⟨Try.f32,by kernel_rfl,by kernel_rfl,by kernel_rfl⟩ (G:=[]) .nil (.of (f:=400) (by kernel_rfl)) (I:=inlNone) inl_none (F:=setup_Parts_l1_f fl) (VT.okV (by kernel_rfl)) (VT.okX (by kernel_rfl)) (fun v=>by kernel_rfl) (fun n v=>by kernel_rfl) fl

noncomputable def setup_Parts_e (fl:Nat):Ent:=⟨32,(.cons (.val false I8) (.cons (.val false I8) (.val true (.pair Y12 (.pair Y12 Y12))))),(.own 88 Y11),fun y=>setup_Parts fl y.1 y.2.1 y.2.2⟩
theorem setup_Parts_ok (fl:Nat):Ent.Ok Try.prog (setup_Parts_e fl):=
  Ent.of (N:=53) (U:=60) (allE_cons (clip_Poly_ok fl) (allE_cons (view_Points_ok fl) (allE_cons edge_Turned_ok allE_nil))) hmo (fn:=Try.f32) (c:=fnBody Try.f32) (G:=[(122,setup_Parts_l1_s fl)]) (by kernel_rfl) (by kernel_rfl) (by kernel_rfl) (by kernel_rfl) (by kernel_rfl) (by kernel_rfl) (fun y=>by kernel_rfl) (rs:=[.tmp 6]) (by kernel_rfl) (.cons (f:=400) (by kernel_rfl) (setup_Parts_l1_ok fl) .nil) (I:=inlNone) inl_none (fun y=>by kernel_rfl)

noncomputable def frags_Maker__parts_e (fl:Nat):Ent:=⟨24,(.cons (.dp (.pair I8 (.pair I8 (.pair U8 (.pair U8 (.pair U8 (.pair U8 (.pair Y8 (.pair (.list Y2) (.pair (.list Y3) (.pair Y10 (.pair I8 I8)))))))))))) (.val true Y1)),(.own 88 Y11),fun y=>frags_Maker__parts fl y.1 y.2⟩
theorem frags_Maker__parts_ok (fl:Nat):Ent.Ok Try.prog (frags_Maker__parts_e fl):=
  Ent.of (N:=47) (U:=60) (allE_cons (setup_Parts_ok fl) allE_nil) hmo (fn:=Try.f24) (c:=fnBody Try.f24) (G:=[]) (by kernel_rfl) (by kernel_rfl) (by kernel_rfl) (by kernel_rfl) (by kernel_rfl) (by kernel_rfl) (fun y=>by kernel_rfl) (rs:=[.tmp 4]) (by kernel_rfl) .nil (I:=inlNone) inl_none (fun y=>by kernel_rfl)

noncomputable def fixed_Floor_e (fl:Nat):Ent:=⟨59,(.cons (.val false I8) (.val false I8)),(.cons (.val false I8) (.val false I8)),fun y=>fixed_Floor fl y.1 y.2⟩
theorem fixed_Floor_ok (fl:Nat):Ent.Ok Try.prog (fixed_Floor_e fl):=
  Ent.of (N:=11) (U:=60) (allE_cons (fixed_MulDiv_ok fl) allE_nil) hmo (fn:=Try.f59) (c:=fnBody Try.f59) (G:=[]) (by kernel_rfl) (by kernel_rfl) (by kernel_rfl) (by kernel_rfl) (by kernel_rfl) (by kernel_rfl) (fun y=>by kernel_rfl) (rs:=[.tmp 4,.tmp 5]) (by kernel_rfl) .nil (I:=inlNone) inl_none (fun y=>by kernel_rfl)

noncomputable def view_Pixel_e (fl:Nat):Ent:=⟨45,(.val false I8),(.val false I8),fun y=>view_Pixel fl y⟩
theorem view_Pixel_ok (fl:Nat):Ent.Ok Try.prog (view_Pixel_e fl):=
  Ent.of (N:=11) (U:=60) (allE_cons (fixed_Floor_ok fl) allE_nil) hmo (fn:=Try.f45) (c:=fnBody Try.f45) (G:=[]) (by kernel_rfl) (by kernel_rfl) (by kernel_rfl) (by kernel_rfl) (by kernel_rfl) (by kernel_rfl) (fun y=>by kernel_rfl) (rs:=[.tmp 2]) (by kernel_rfl) .nil (I:=inlNone) inl_none (fun y=>by kernel_rfl)

noncomputable def setup_side_e (fl:Nat):Ent:=⟨33,(.cons (.val false I8) (.cons (.val false I8) (.cons (.val false I8) (.val false I8)))),(.cons (.val false I8) (.val false I8)),fun y=>setup_side fl y.1 y.2.1 y.2.2.1 y.2.2.2⟩
theorem setup_side_ok (fl:Nat):Ent.Ok Try.prog (setup_side_e fl):=
  Ent.of (N:=24) (U:=60) (allE_cons (view_Pixel_ok fl) allE_nil) hmo (fn:=Try.f33) (c:=fnBody Try.f33) (G:=[]) (by kernel_rfl) (by kernel_rfl) (by kernel_rfl) (by kernel_rfl) (by kernel_rfl) (by kernel_rfl) (fun y=>by kernel_rfl) (rs:=[.tmp 8,.tmp 9]) (by kernel_rfl) .nil (I:=inlNone) inl_none (fun y=>by kernel_rfl)

noncomputable def setup_Box_e (fl:Nat):Ent:=⟨25,(.cons (.val false I8) (.cons (.val false I8) (.val true (.pair Y4 (.pair Y4 Y4))))),(.cons (.val false I8) (.cons (.val false I8) (.cons (.val false I8) (.val false I8)))),fun y=>setup_Box fl y.1 y.2.1 y.2.2⟩
theorem setup_Box_ok (fl:Nat):Ent.Ok Try.prog (setup_Box_e fl):=
  Ent.of (N:=42) (U:=60) (allE_cons (setup_side_ok fl) allE_nil) hmo (fn:=Try.f25) (c:=fnBody Try.f25) (G:=[]) (by kernel_rfl) (by kernel_rfl) (by kernel_rfl) (by kernel_rfl) (by kernel_rfl) (by kernel_rfl) (fun y=>by kernel_rfl) (rs:=[.tmp 6,.tmp 7,.tmp 8,.tmp 9]) (by kernel_rfl) .nil (I:=inlNone) inl_none (fun y=>by kernel_rfl)

noncomputable def setup_Pixels_e:Ent:=⟨26,(.cons (.val false I8) (.cons (.val false I8) (.cons (.val false I8) (.val false I8)))),(.fn 34 (.cons (.val true I8) (.cons (.val true I8) (.cons (.val true I8) (.val true I8))))),fun y=>setup_Pixels y.1 y.2.1 y.2.2.1 y.2.2.2⟩
theorem setup_Pixels_ok:Ent.Ok Try.prog (setup_Pixels_e):=
  Ent.of (N:=10) (U:=60) allE_nil hmo (fn:=Try.f26) (c:=fnBody Try.f26) (G:=[]) (by kernel_rfl) (by kernel_rfl) (by kernel_rfl) (by kernel_rfl) (by kernel_rfl) (by kernel_rfl) (fun y=>by kernel_rfl) (rs:=[.tmp 8]) (by kernel_rfl) .nil (I:=inlTab _ Try.prog [] [⟨34,fnBody Try.f34,25,60,[],[]⟩] 12) (inlTab_ok allE_nil hmo allM_nil (inlL_cons ⟨⟨Try.f34,by kernel_rfl,by kernel_rfl,by kernel_rfl,by kernel_rfl,by kernel_rfl⟩,by kernel_rfl,.nil⟩ inlL_nil) 12) (fun y=>by kernel_rfl)

noncomputable def cover_Bits_e:Ent:=⟨46,(.val false U8),(.fn 60 (.val true U8)),fun y=>cover_Bits y⟩
theorem cover_Bits_ok:Ent.Ok Try.prog (cover_Bits_e):=
  Ent.of (N:=4) (U:=60) allE_nil hmo (fn:=Try.f46) (c:=fnBody Try.f46) (G:=[]) (by kernel_rfl) (by kernel_rfl) (by kernel_rfl) (by kernel_rfl) (by kernel_rfl) (by kernel_rfl) (fun y=>by kernel_rfl) (rs:=[.tmp 2]) (by kernel_rfl) .nil (I:=inlTab _ Try.prog [] [⟨60,fnBody Try.f60,17,60,[],[]⟩] 12) (inlTab_ok allE_nil hmo allM_nil (inlL_cons ⟨⟨Try.f60,by kernel_rfl,by kernel_rfl,by kernel_rfl,by kernel_rfl,by kernel_rfl⟩,by kernel_rfl,.nil⟩ inlL_nil) 12) (fun y=>by kernel_rfl)

noncomputable def bits_TrailingZeros8_e:Ent:=⟨61,(.val false U8),(.val false I8),fun y=>bits_TrailingZeros8 y⟩
theorem bits_TrailingZeros8_ok:Ent.Ok Try.prog (bits_TrailingZeros8_e):=
  Ent.of (N:=6) (U:=60) allE_nil hmo (fn:=Try.f61) (c:=fnBody Try.f61) (G:=[]) (by kernel_rfl) (by kernel_rfl) (by kernel_rfl) (by kernel_rfl) (by kernel_rfl) (by kernel_rfl) (fun y=>by kernel_rfl) (rs:=[.tmp 2]) (by kernel_rfl) .nil (I:=inlNone) inl_none (fun y=>by kernel_rfl)

noncomputable def cover_places_e:Ent:=⟨62,(.val false I8),(.cons (.val false I8) (.val false I8)),fun y=>cover_places y⟩
theorem cover_places_ok:Ent.Ok Try.prog (cover_places_e):=
  Ent.of (N:=11) (U:=60) allE_nil hmo (fn:=Try.f62) (c:=fnBody Try.f62) (G:=[]) (by kernel_rfl) (by kernel_rfl) (by kernel_rfl) (by kernel_rfl) (by kernel_rfl) (by kernel_rfl) (fun y=>by kernel_rfl) (rs:=[.tmp 2,.tmp 3]) (by kernel_rfl) .nil (I:=inlNone) inl_none (fun y=>by kernel_rfl)

noncomputable def cover_Sample_e:Ent:=⟨47,(.cons (.val false I8) (.cons (.val false I8) (.val false I8))),(.cons (.val false I8) (.val false I8)),fun y=>cover_Sample y.1 y.2.1 y.2.2⟩
theorem cover_Sample_ok:Ent.Ok Try.prog (cover_Sample_e):=
  Ent.of (N:=23) (U:=60) (allE_cons cover_places_ok allE_nil) hmo (fn:=Try.f47) (c:=fnBody Try.f47) (G:=[]) (by kernel_rfl) (by kernel_rfl) (by kernel_rfl) (by kernel_rfl) (by kernel_rfl) (by kernel_rfl) (fun y=>by kernel_rfl) (rs:=[.tmp 6,.tmp 7]) (by kernel_rfl) .nil (I:=inlNone) inl_none (fun y=>by kernel_rfl)

noncomputable def edge_First_e:Ent:=⟨64,(.cons (.val true Y4) (.val true Y4)),(.val false .bool),fun y=>edge_First y.1 y.2⟩
theorem edge_First_ok:Ent.Ok Try.prog (edge_First_e):=
  Ent.of (N:=20) (U:=60) allE_nil hmo (fn:=Try.f64) (c:=fnBody Try.f64) (G:=[]) (by kernel_rfl) (by kernel_rfl) (by kernel_rfl) (by kernel_rfl) (by kernel_rfl) (by kernel_rfl) (fun y=>by kernel_rfl) (rs:=[.tmp 4]) (by kernel_rfl) .nil (I:=inlNone) inl_none (fun y=>by kernel_rfl)

@[reducible] def edge_In_l1_V:VT:=[.slot 1 false [D],.slot 2 false [D],z10,z8,.box 3 86 [D,D,D,D,D,D,D,D,D,D,D,D,D,D,D,D,D,D,D,D,D]]
@[reducible] def edge_In_l1_X:List (Out × VT):=[(.ret,[.slot 6 false [.kbool false]]),(.exit 0,[])]
noncomputable def edge_In_l1_f (fl n:Nat):VT.T edge_In_l1_V -> Option (XT edge_In_l1_X):=fun v=>edge_In_l1 fl n v.1 v.2.1 v.2.2.1 v.2.2.2.1 v.2.2.2.2.1 v.2.2.2.2.2.1 v.2.2.2.2.2.2.1 v.2.2.2.2.2.2.2.1 v.2.2.2.2.2.2.2.2.1 v.2.2.2.2.2.2.2.2.2.1 v.2.2.2.2.2.2.2.2.2.2.1 v.2.2.2.2.2.2.2.2.2.2.2.1 v.2.2.2.2.2.2.2.2.2.2.2.2.1 v.2.2.2.2.2.2.2.2.2.2.2.2.2.1 v.2.2.2.2.2.2.2.2.2.2.2.2.2.2.1 v.2.2.2.2.2.2.2.2.2.2.2.2.2.2.2.1 v.2.2.2.2.2.2.2.2.2.2.2.2.2.2.2.2.1 v.2.2.2.2.2.2.2.2.2.2.2.2.2.2.2.2.2.1 v.2.2.2.2.2.2.2.2.2.2.2.2.2.2.2.2.2.2.1 v.2.2.2.2.2.2.2.2.2.2.2.2.2.2.2.2.2.2.2.1 v.2.2.2.2.2.2.2.2.2.2.2.2.2.2.2.2.2.2.2.2.1 v.2.2.2.2.2.2.2.2.2.2.2.2.2.2.2.2.2.2.2.2.2.1 v.2.2.2.2.2.2.2.2.2.2.2.2.2.2.2.2.2.2.2.2.2.2.1 v.2.2.2.2.2.2.2.2.2.2.2.2.2.2.2.2.2.2.2.2.2.2.2.1
noncomputable def edge_In_l1_s (fl:Nat):Seg:=⟨edge_In_l1_V,edge_In_l1_X,edge_In_l1_f fl fl⟩
theorem edge_In_l1_ok (fl:Nat):SegOk Try.prog 43 (.loop (loopBody (codeAt (fnBody Try.f48) 58))) (edge_In_l1_s fl):=
  SegOk.loop (c0:=fnBody Try.f48) (p:=58) (U:=60) (allE_cons edge_Cross_ok (allE_cons edge_First_ok allE_nil)) hmo (me:=48) ⟨Try.f48,by kernel_rfl,by kernel_rfl,by kernel_rfl⟩ (G:=[]) .nil (.of (f:=400) (by kernel_rfl)) (I:=inlNone) inl_none (F:=edge_In_l1_f fl) (VT.okV (by kernel_rfl)) (VT.okX (by kernel_rfl)) (fun v=>by kernel_rfl) (fun n v=>by kernel_rfl) fl

noncomputable def edge_In_e (fl:Nat):Ent:=⟨48,(.cons (.val true (.pair Y4 (.pair Y4 Y4))) (.cons (.val false I8) (.val false I8))),(.val false .bool),fun y=>edge_In fl y.1 y.2.1 y.2.2⟩
theorem edge_In_ok (fl:Nat):Ent.Ok Try.prog (edge_In_e fl):=
  Ent.of (N:=43) (U:=60) (allE_cons edge_Cross_ok (allE_cons edge_Area_ok (allE_cons edge_First_ok allE_nil))) hmo (fn:=Try.f48) (c:=fnBody Try.f48) (G:=[(58,edge_In_l1_s fl)]) (by kernel_rfl) (by kernel_rfl) (by kernel_rfl) (by kernel_rfl) (by kernel_rfl) (by kernel_rfl) (fun y=>by kernel_rfl) (rs:=[.tmp 6]) (by kernel_rfl) (.cons (f:=400) (by kernel_rfl) (edge_In_l1_ok fl) .nil) (I:=inlNone) inl_none (fun y=>by kernel_rfl)

@[reducible] def cover_Mask_i60_l1_V:VT:=[z11,.slot 3 false [.dat U8],.slot 100003 false [.ptr 100003 0],z12,z13,z14,z15,z16,z17,.box 100004 3 [D],.box 100005 3 [D],.box 100007 5 [.dat U8]]
@[reducible] def cover_Mask_i60_l1_X:List (Out × VT):=[(.exit 0,[.slot 100003 false [.ptr 100003 0],z12,z13,z14,z15,z16,z17,.box 100004 3 [D],.box 100005 3 [D],.box 100007 5 [.dat U8]])]
noncomputable def cover_Mask_i60_l1_f (fl n:Nat):VT.T cover_Mask_i60_l1_V -> Option (XT cover_Mask_i60_l1_X):=fun v=>cover_Mask_i60_l1 fl n v.1 v.2.1 v.2.2.1 v.2.2.2.1 v.2.2.2.2.1 v.2.2.2.2.2.1 v.2.2.2.2.2.2.1 v.2.2.2.2.2.2.2.1 v.2.2.2.2.2.2.2.2.1 v.2.2.2.2.2.2.2.2.2.1 v.2.2.2.2.2.2.2.2.2.2.1 v.2.2.2.2.2.2.2.2.2.2.2.1 v.2.2.2.2.2.2.2.2.2.2.2.2.1 v.2.2.2.2.2.2.2.2.2.2.2.2.2.1 v.2.2.2.2.2.2.2.2.2.2.2.2.2.2.1 v.2.2.2.2.2.2.2.2.2.2.2.2.2.2.2.1 v.2.2.2.2.2.2.2.2.2.2.2.2.2.2.2.2.1 v.2.2.2.2.2.2.2.2.2.2.2.2.2.2.2.2.2.1 v.2.2.2.2.2.2.2.2.2.2.2.2.2.2.2.2.2.2.1 v.2.2.2.2.2.2.2.2.2.2.2.2.2.2.2.2.2.2.2.1 v.2.2.2.2.2.2.2.2.2.2.2.2.2.2.2.2.2.2.2.2.1 v.2.2.2.2.2.2.2.2.2.2.2.2.2.2.2.2.2.2.2.2.2.1 v.2.2.2.2.2.2.2.2.2.2.2.2.2.2.2.2.2.2.2.2.2.2.1 v.2.2.2.2.2.2.2.2.2.2.2.2.2.2.2.2.2.2.2.2.2.2.2.1 v.2.2.2.2.2.2.2.2.2.2.2.2.2.2.2.2.2.2.2.2.2.2.2.2.1 v.2.2.2.2.2.2.2.2.2.2.2.2.2.2.2.2.2.2.2.2.2.2.2.2.2.1
noncomputable def cover_Mask_i60_l1_s (fl:Nat):Seg:=⟨cover_Mask_i60_l1_V,cover_Mask_i60_l1_X,cover_Mask_i60_l1_f fl fl⟩
theorem cover_Mask_i60_l1_ok (fl:Nat):SegOk Try.prog 17 (.loop (loopBody (codeAt (fnBody Try.f60) 6))) (cover_Mask_i60_l1_s fl):=
  have hT:=allE_cons bits_TrailingZeros8_ok (allE_cons cover_Sample_ok (allE_cons (edge_In_ok fl) allE_nil)); SegOk.loop (c0:=fnBody Try.f60) (p:=6) (U:=60) hT hmo (me:=60) ⟨Try.f60,by kernel_rfl,by kernel_rfl,by kernel_rfl⟩ (G:=[]) .nil (.of (f:=400) (by kernel_rfl)) (I:=inlTab _ Try.prog [] [⟨35,fnBody Try.f35,29,60,[.tmp 6],[]⟩,⟨60,fnBody Try.f60,17,60,[],[]⟩] 12) (inlTab_ok hT hmo allM_nil (inlL_cons ⟨⟨Try.f35,by kernel_rfl,by kernel_rfl,by kernel_rfl,by kernel_rfl,by kernel_rfl⟩,by kernel_rfl,.nil⟩ (inlL_cons ⟨⟨Try.f60,by kernel_rfl,by kernel_rfl,by kernel_rfl,by kernel_rfl,by kernel_rfl⟩,by kernel_rfl,.nil⟩ inlL_nil)) 12) (F:=cover_Mask_i60_l1_f fl) (VT.okV (by kernel_rfl)) (VT.okX (by kernel_rfl)) (fun v=>by kernel_rfl) (fun n v=>by kernel_rfl) fl

noncomputable def cover_Mask_e (fl:Nat):Ent:=⟨35,(.cons (.val true (.pair Y4 (.pair Y4 Y4))) (.cons (.val false I8) (.val false I8))),(.val false U8),fun y=>cover_Mask fl y.1 y.2.1 y.2.2⟩
theorem cover_Mask_ok (fl:Nat):Ent.Ok Try.prog (cover_Mask_e fl):=
  have hT:=allE_cons cover_Bits_ok (allE_cons bits_TrailingZeros8_ok (allE_cons cover_Sample_ok (allE_cons (edge_In_ok fl) allE_nil))); Ent.of (N:=29) (U:=60) hT hmo (fn:=Try.f35) (c:=fnBody Try.f35) (G:=[]) (by kernel_rfl) (by kernel_rfl) (by kernel_rfl) (by kernel_rfl) (by kernel_rfl) (by kernel_rfl) (fun y=>by kernel_rfl) (rs:=[.tmp 6]) (by kernel_rfl) .nil (I:=inlTab _ Try.prog [] [⟨35,fnBody Try.f35,29,60,[.tmp 6],[]⟩,⟨60,fnBody Try.f60,17,60,[],[(6,cover_Mask_i60_l1_s fl)]⟩] 12) (inlTab_ok hT hmo allM_nil (inlL_cons ⟨⟨Try.f35,by kernel_rfl,by kernel_rfl,by kernel_rfl,by kernel_rfl,by kernel_rfl⟩,by kernel_rfl,.nil⟩ (inlL_cons ⟨⟨Try.f60,by kernel_rfl,by kernel_rfl,by kernel_rfl,by kernel_rfl,by kernel_rfl⟩,by kernel_rfl,(.cons (f:=400) (by kernel_rfl) (cover_Mask_i60_l1_ok fl) .nil)⟩ inlL_nil)) 12) (fun y=>by kernel_rfl)

noncomputable def frags_Maker__tex_e:Ent:=⟨37,(.cons (.dp (.pair I8 (.pair I8 (.pair U8 (.pair U8 (.pair U8 (.pair U8 (.pair Y8 (.pair (.list Y2) (.pair (.list Y3) (.pair Y10 (.pair I8 I8)))))))))))) (.val true Y5)),(.val true Y2),fun y=>frags_Maker__tex y.1 y.2⟩
theorem frags_Maker__tex_ok:Ent.Ok Try.prog (frags_Maker__tex_e):=
  Ent.of (N:=18) (U:=60) allE_nil hmo (fn:=Try.f37) (c:=fnBody Try.f37) (G:=[]) (by kernel_rfl) (by kernel_rfl) (by kernel_rfl) (by kernel_rfl) (by kernel_rfl) (by kernel_rfl) (fun y=>by kernel_rfl) (rs:=[.cell 4 75]) (by kernel_rfl) .nil (I:=inlNone) inl_none (fun y=>by kernel_rfl)

noncomputable def plane_Attrs_1_e:Ent:=⟨53,(.cons (.val true Y4) (.dp I8)),(.val false I8),fun y=>plane_Attrs_1 y.1 y.2⟩
theorem plane_Attrs_1_ok:Ent.Ok Try.prog (plane_Attrs_1_e):=
  Ent.of (N:=8) (U:=60) allE_nil hmo (fn:=Try.f53) (c:=fnBody Try.f53) (G:=[]) (by kernel_rfl) (by kernel_rfl) (by kernel_rfl) (by kernel_rfl) (by kernel_rfl) (by kernel_rfl) (fun y=>by kernel_rfl) (rs:=[.tmp 3]) (by kernel_rfl) .nil (I:=inlNone) inl_none (fun y=>by kernel_rfl)

noncomputable def view_Centre_e:Ent:=⟨79,(.val false I8),(.val false I8),fun y=>view_Centre y⟩
theorem view_Centre_ok:Ent.Ok Try.prog (view_Centre_e):=
  Ent.of (N:=6) (U:=60) allE_nil hmo (fn:=Try.f79) (c:=fnBody Try.f79) (G:=[]) (by kernel_rfl) (by kernel_rfl) (by kernel_rfl) (by kernel_rfl) (by kernel_rfl) (by kernel_rfl) (fun y=>by kernel_rfl) (rs:=[.tmp 2]) (by kernel_rfl) .nil (I:=inlNone) inl_none (fun y=>by kernel_rfl)

noncomputable def plane_At_e (fl:Nat):Ent:=⟨78,(.cons (.val true (.pair Y4 (.pair Y4 Y4))) (.cons (.val true (.pair I8 (.pair I8 I8))) (.cons (.val false I8) (.val false I8)))),(.val false I8),fun y=>plane_At fl y.1 y.2.1 y.2.2.1 y.2.2.2⟩
theorem plane_At_ok (fl:Nat):Ent.Ok Try.prog (plane_At_e fl):=
  Ent.of (N:=64) (U:=60) (allE_cons (fixed_MulDiv_ok fl) (allE_cons edge_Cross_ok (allE_cons edge_Area_ok allE_nil))) hmo (fn:=Try.f78) (c:=fnBody Try.f78) (G:=[]) (by kernel_rfl) (by kernel_rfl) (by kernel_rfl) (by kernel_rfl) (by kernel_rfl) (by kernel_rfl) (fun y=>by kernel_rfl) (rs:=[.tmp 8]) (by kernel_rfl) .nil (I:=inlNone) inl_none (fun y=>by kernel_rfl)

noncomputable def plane_each_e (fl:Nat):Ent:=⟨52,(.cons (.val true (.pair Y4 (.pair Y4 Y4))) (.cons (.val false I8) (.cons (.val false I8) (.fn 53 (.val true I8))))),(.val false I8),fun y=>plane_each fl y.1 y.2.1 y.2.2.1 y.2.2.2⟩
theorem plane_each_ok (fl:Nat):Ent.Ok Try.prog (plane_each_e fl):=
  Ent.of (N:=28) (U:=60) (allE_cons plane_Attrs_1_ok (allE_cons view_Centre_ok (allE_cons (plane_At_ok fl) allE_nil))) hmo (fn:=Try.f52) (c:=fnBody Try.f52) (G:=[]) (by kernel_rfl) (by kernel_rfl) (by kernel_rfl) (by kernel_rfl) (by kernel_rfl) (by kernel_rfl) (fun y=>by kernel_rfl) (rs:=[.tmp 8]) (by kernel_rfl) .nil (I:=inlNone) inl_none (fun y=>by kernel_rfl)

noncomputable def plane_Attrs_e (fl:Nat):Ent:=⟨38,(.cons (.val true (.pair Y4 (.pair Y4 Y4))) (.cons (.val false I8) (.val false I8))),(.val true Y1),fun y=>plane_Attrs fl y.1 y.2.1 y.2.2⟩
theorem plane_Attrs_ok (fl:Nat):Ent.Ok Try.prog (plane_Attrs_e fl):=
  Ent.of (N:=21) (U:=60) (allE_cons (plane_each_ok fl) allE_nil) hmo (fn:=Try.f38) (c:=fnBody Try.f38) (G:=[]) (by kernel_rfl) (by kernel_rfl) (by kernel_rfl) (by kernel_rfl) (by kernel_rfl) (by kernel_rfl) (fun y=>by kernel_rfl) (rs:=[.cell 6 38]) (by kernel_rfl) .nil (I:=inlNone) inl_none (fun y=>by kernel_rfl)

noncomputable def code_uses_e:Ent:=⟨100,(.val false U8),(.val false I8),fun y=>code_uses y⟩
theorem code_uses_ok:Ent.Ok Try.prog (code_uses_e):=
  Ent.of (N:=24) (U:=60) allE_nil hmo (fn:=Try.f100) (c:=fnBody Try.f100) (G:=[]) (by kernel_rfl) (by kernel_rfl) (by kernel_rfl) (by kernel_rfl) (by kernel_rfl) (by kernel_rfl) (fun y=>by kernel_rfl) (rs:=[.tmp 2]) (by kernel_rfl) .nil (I:=inlNone) inl_none (fun y=>by kernel_rfl)

noncomputable def code_asks_e:Ent:=⟨86,(.val true (.pair U8 (.pair U8 (.pair U8 (.pair U8 I8))))),(.val false .bool),fun y=>code_asks y⟩
theorem code_asks_ok:Ent.Ok Try.prog (code_asks_e):=
  Ent.of (N:=11) (U:=60) allE_nil hmo (fn:=Try.f86) (c:=fnBody Try.f86) (G:=[]) (by kernel_rfl) (by kernel_rfl) (by kernel_rfl) (by kernel_rfl) (by kernel_rfl) (by kernel_rfl) (fun y=>by kernel_rfl) (rs:=[.tmp 2]) (by kernel_rfl) .nil (I:=inlNone) inl_none (fun y=>by kernel_rfl)

noncomputable def code_fits_e:Ent:=⟨101,(.cons (.val false I8) (.cons (.val false I8) (.cons (.val false I8) (.val false .bool)))),(.val false .bool),fun y=>code_fits y.1 y.2.1 y.2.2.1 y.2.2.2⟩
theorem code_fits_ok:Ent.Ok Try.prog (code_fits_e):=
  Ent.of (N:=24) (U:=60) allE_nil hmo (fn:=Try.f101) (c:=fnBody Try.f101) (G:=[]) (by kernel_rfl) (by kernel_rfl) (by kernel_rfl) (by kernel_rfl) (by kernel_rfl) (by kernel_rfl) (fun y=>by kernel_rfl) (rs:=[.tmp 8]) (by kernel_rfl) .nil (I:=inlNone) inl_none (fun y=>by kernel_rfl)

noncomputable def code_One_e:Ent:=⟨84,(.cons (.val true (.pair U8 (.pair U8 (.pair U8 (.pair U8 I8))))) (.cons (.val false I8) (.val false I8))),(.val false .bool),fun y=>code_One y.1 y.2.1 y.2.2⟩
theorem code_One_ok:Ent.Ok Try.prog (code_One_e):=
  Ent.of (N:=82) (U:=60) (allE_cons code_uses_ok (allE_cons code_asks_ok (allE_cons code_fits_ok allE_nil))) hmo (fn:=Try.f84) (c:=fnBody Try.f84) (G:=[]) (by kernel_rfl) (by kernel_rfl) (by kernel_rfl) (by kernel_rfl) (by kernel_rfl) (by kernel_rfl) (fun y=>by kernel_rfl) (rs:=[.tmp 6]) (by kernel_rfl) .nil (I:=inlNone) inl_none (fun y=>by kernel_rfl)

@[reducible] def code_Check_l1_V:VT:=[z18,.slot 13 false [.dat Y3],z8,z9]
@[reducible] def code_Check_l1_X:List (Out × VT):=[(.ret,[.slot 2 false [.kint .i64 23]]),(.exit 0,[])]
noncomputable def code_Check_l1_f (fl n:Nat):VT.T code_Check_l1_V -> Option (XT code_Check_l1_X):=fun v=>code_Check_l1 fl n v.1 v.2.1 v.2.2.1 v.2.2.2.1
noncomputable def code_Check_l1_s (fl:Nat):Seg:=⟨code_Check_l1_V,code_Check_l1_X,code_Check_l1_f fl fl⟩
theorem code_Check_l1_ok (fl:Nat):SegOk Try.prog 27 (.loop (loopBody (codeAt (fnBody Try.f65) 58))) (code_Check_l1_s fl):=
  SegOk.loop (c0:=fnBody Try.f65) (p:=58) (U:=60) (allE_cons code_One_ok allE_nil) hmo (me:=65) ⟨Try.f65,by kernel_rfl,by kernel_rfl,by kernel_rfl⟩ (G:=[]) .nil (.of (f:=400) (by kernel_rfl)) (I:=inlNone) inl_none (F:=code_Check_l1_f fl) (VT.okV (by kernel_rfl)) (VT.okX (by kernel_rfl)) (fun v=>by kernel_rfl) (fun n v=>by kernel_rfl) fl

noncomputable def code_Check_e (fl:Nat):Ent:=⟨65,(.val false Y3),(.val false I8),fun y=>code_Check fl y⟩
theorem code_Check_ok (fl:Nat):Ent.Ok Try.prog (code_Check_e fl):=
  Ent.of (N:=27) (U:=60) (allE_cons code_One_ok allE_nil) hmo (fn:=Try.f65) (c:=fnBody Try.f65) (G:=[(58,code_Check_l1_s fl)]) (by kernel_rfl) (by kernel_rfl) (by kernel_rfl) (by kernel_rfl) (by kernel_rfl) (by kernel_rfl) (fun y=>by kernel_rfl) (rs:=[.tmp 2]) (by kernel_rfl) (.cons (f:=400) (by kernel_rfl) (code_Check_l1_ok fl) .nil) (I:=inlNone) inl_none (fun y=>by kernel_rfl)

@[reducible] def slices_IndexFunc_l1_V:VT:=[z18,.slot 1 false [.fn 86 .nil],z19,z20]
@[reducible] def slices_IndexFunc_l1_X:List (Out × VT):=[(.ret,[.slot 4 false [D]]),(.exit 0,[])]
noncomputable def slices_IndexFunc_l1_f (fl n:Nat):VT.T slices_IndexFunc_l1_V -> Option (XT slices_IndexFunc_l1_X):=fun v=>slices_IndexFunc_l1 fl n v.1 v.2.1 v.2.2.1 v.2.2.2.1
noncomputable def slices_IndexFunc_l1_s (fl:Nat):Seg:=⟨slices_IndexFunc_l1_V,slices_IndexFunc_l1_X,slices_IndexFunc_l1_f fl fl⟩
theorem slices_IndexFunc_l1_ok (fl:Nat):SegOk Try.prog 19 (.loop (loopBody (codeAt (fnBody Try.f102) 26))) (slices_IndexFunc_l1_s fl):=
  SegOk.loop (c0:=fnBody Try.f102) (p:=26) (U:=60) (allE_cons code_asks_ok allE_nil) hmo (me:=102) ⟨Try.f102,by kernel_rfl,by kernel_rfl,by kernel_rfl⟩ (G:=[]) .nil (.of (f:=400) (by kernel_rfl)) (I:=inlNone) inl_none (F:=slices_IndexFunc_l1_f fl) (VT.okV (by kernel_rfl)) (VT.okX (by kernel_rfl)) (fun v=>by kernel_rfl) (fun n v=>by kernel_rfl) fl

noncomputable def slices_IndexFunc_e (fl:Nat):Ent:=⟨102,(.cons (.val false Y3) (.fn 86 .nil)),(.val false I8),fun y=>slices_IndexFunc fl y.1 y.2⟩
theorem slices_IndexFunc_ok (fl:Nat):Ent.Ok Try.prog (slices_IndexFunc_e fl):=
  Ent.of (N:=19) (U:=60) (allE_cons code_asks_ok allE_nil) hmo (fn:=Try.f102) (c:=fnBody Try.f102) (G:=[(26,slices_IndexFunc_l1_s fl)]) (by kernel_rfl) (by kernel_rfl) (by kernel_rfl) (by kernel_rfl) (by kernel_rfl) (by kernel_rfl) (fun y=>by kernel_rfl) (rs:=[.tmp 4]) (by kernel_rfl) (.cons (f:=400) (by kernel_rfl) (slices_IndexFunc_l1_ok fl) .nil) (I:=inlNone) inl_none (fun y=>by kernel_rfl)

noncomputable def slices_ContainsFunc_e (fl:Nat):Ent:=⟨85,(.cons (.val false Y3) (.fn 86 .nil)),(.val false .bool),fun y=>slices_ContainsFunc fl y.1 y.2⟩
theorem slices_ContainsFunc_ok (fl:Nat):Ent.Ok Try.prog (slices_ContainsFunc_e fl):=
  Ent.of (N:=9) (U:=60) (allE_cons (slices_IndexFunc_ok fl) allE_nil) hmo (fn:=Try.f85) (c:=fnBody Try.f85) (G:=[]) (by kernel_rfl) (by kernel_rfl) (by kernel_rfl) (by kernel_rfl) (by kernel_rfl) (by kernel_rfl) (fun y=>by kernel_rfl) (rs:=[.tmp 4]) (by kernel_rfl) .nil (I:=inlNone) inl_none (fun y=>by kernel_rfl)

noncomputable def code_Samples_e (fl:Nat):Ent:=⟨66,(.val false Y3),(.val false .bool),fun y=>code_Samples fl y⟩
theorem code_Samples_ok (fl:Nat):Ent.Ok Try.prog (code_Samples_e fl):=
  Ent.of (N:=5) (U:=60) (allE_cons (slices_ContainsFunc_ok fl) allE_nil) hmo (fn:=Try.f66) (c:=fnBody Try.f66) (G:=[]) (by kernel_rfl) (by kernel_rfl) (by kernel_rfl) (by kernel_rfl) (by kernel_rfl) (by kernel_rfl) (fun y=>by kernel_rfl) (rs:=[.tmp 2]) (by kernel_rfl) .nil (I:=inlNone) inl_none (fun y=>by kernel_rfl)

@[reducible] def texture_sides_l1_V:VT:=[.slot 5 false [.dat (.list I8)],z21,z19]
@[reducible] def texture_sides_l1_X:List (Out × VT):=[(.ret,[.slot 2 false [.kbool false]]),(.exit 0,[])]
noncomputable def texture_sides_l1_f (fl n:Nat):VT.T texture_sides_l1_V -> Option (XT texture_sides_l1_X):=fun v=>texture_sides_l1 fl n v.1 v.2.1 v.2.2.1
noncomputable def texture_sides_l1_s (fl:Nat):Seg:=⟨texture_sides_l1_V,texture_sides_l1_X,texture_sides_l1_f fl fl⟩
theorem texture_sides_l1_ok (fl:Nat):SegOk Try.prog 18 (.loop (loopBody (codeAt (fnBody Try.f87) 26))) (texture_sides_l1_s fl):=
  SegOk.loop (c0:=fnBody Try.f87) (p:=26) (U:=60) allE_nil hmo (me:=87) ⟨Try.f87,by kernel_rfl,by kernel_rfl,by kernel_rfl⟩ (G:=[]) .nil (.of (f:=400) (by kernel_rfl)) (I:=inlNone) inl_none (F:=texture_sides_l1_f fl) (VT.okV (by kernel_rfl)) (VT.okX (by kernel_rfl)) (fun v=>by kernel_rfl) (fun n v=>by kernel_rfl) fl

noncomputable def texture_sides_e (fl:Nat):Ent:=⟨87,(.val false (.list I8)),(.val false .bool),fun y=>texture_sides fl y⟩
theorem texture_sides_ok (fl:Nat):Ent.Ok Try.prog (texture_sides_e fl):=
  Ent.of (N:=18) (U:=60) allE_nil hmo (fn:=Try.f87) (c:=fnBody Try.f87) (G:=[(26,texture_sides_l1_s fl)]) (by kernel_rfl) (by kernel_rfl) (by kernel_rfl) (by kernel_rfl) (by kernel_rfl) (by kernel_rfl) (fun y=>by kernel_rfl) (rs:=[.tmp 2]) (by kernel_rfl) (.cons (f:=400) (by kernel_rfl) (texture_sides_l1_ok fl) .nil) (I:=inlNone) inl_none (fun y=>by kernel_rfl)

noncomputable def texture_Right_e (fl:Nat):Ent:=⟨67,(.val true Y2),(.val false .bool),fun y=>texture_Right fl y⟩
theorem texture_Right_ok (fl:Nat):Ent.Ok Try.prog (texture_Right_e fl):=
  Ent.of (N:=20) (U:=60) (allE_cons (texture_sides_ok fl) allE_nil) hmo (fn:=Try.f67) (c:=fnBody Try.f67) (G:=[]) (by kernel_rfl) (by kernel_rfl) (by kernel_rfl) (by kernel_rfl) (by kernel_rfl) (by kernel_rfl) (fun y=>by kernel_rfl) (rs:=[.tmp 2]) (by kernel_rfl) .nil (I:=inlNone) inl_none (fun y=>by kernel_rfl)

@[reducible] def vm_Run_j1_V:VT:=[z18,z22,z23,z24,z25,z26,z27]
@[reducible] def vm_Run_j1_X:List (Out × VT):=[(.ret,[z24,.slot 7 false [.kint .i64 0],z20,z27]),(.normal,[z18,z22,z23,z24,z25,z26,z27])]
noncomputable def vm_Run_j1_s (fl:Nat):Seg:=⟨vm_Run_j1_V,vm_Run_j1_X,fun v=>vm_Run_j1 fl v.1 v.2.1 v.2.2.1 v.2.2.2.1 v.2.2.2.2.1 v.2.2.2.2.2.1 v.2.2.2.2.2.2.1 v.2.2.2.2.2.2.2.1 v.2.2.2.2.2.2.2.2.1 v.2.2.2.2.2.2.2.2.2.1 v.2.2.2.2.2.2.2.2.2.2.1 v.2.2.2.2.2.2.2.2.2.2.2.1⟩
theorem vm_Run_j1_ok (fl:Nat):SegOk Try.prog 104 (codeAt (fnBody Try.f49) 6) (vm_Run_j1_s fl):=
  have hT:=allE_cons (code_Check_ok fl) (allE_cons (code_Samples_ok fl) (allE_cons (texture_Right_ok fl) allE_nil)); SegOk.of (c0:=fnBody Try.f49) (p:=6) (U:=60) hT hmo (me:=49) ⟨Try.f49,by kernel_rfl,by kernel_rfl,by kernel_rfl⟩ (G:=[]) .nil (.of (f:=400) (by kernel_rfl)) (I:=inlTab _ Try.prog [] [⟨69,fnBody Try.f69,22,60,[],[]⟩,⟨70,fnBody Try.f70,21,60,[],[]⟩] 12) (inlTab_ok hT hmo allM_nil (inlL_cons ⟨⟨Try.f69,by kernel_rfl,by kernel_rfl,by kernel_rfl,by kernel_rfl,by kernel_rfl⟩,by kernel_rfl,.nil⟩ (inlL_cons ⟨⟨Try.f70,by kernel_rfl,by kernel_rfl,by kernel_rfl,by kernel_rfl,by kernel_rfl⟩,by kernel_rfl,.nil⟩ inlL_nil)) 12) (sg:=vm_Run_j1_s fl) (VT.okV (by kernel_rfl)) (VT.okX (by kernel_rfl)) (fun v=>by kernel_rfl)

noncomputable def vm_wrap_e:Ent:=⟨68,(.val false I8),(.val false I8),fun y=>vm_wrap y⟩
theorem vm_wrap_ok:Ent.Ok Try.prog (vm_wrap_e):=
  Ent.of (N:=6) (U:=60) allE_nil hmo (fn:=Try.f68) (c:=fnBody Try.f68) (G:=[]) (by kernel_rfl) (by kernel_rfl) (by kernel_rfl) (by kernel_rfl) (by kernel_rfl) (by kernel_rfl) (fun y=>by kernel_rfl) (rs:=[.tmp 2]) (by kernel_rfl) .nil (I:=inlNone) inl_none (fun y=>by kernel_rfl)

noncomputable def code_Target_e:Ent:=⟨71,(.cons (.val true (.pair U8 (.pair U8 (.pair U8 (.pair U8 I8))))) (.val false I8)),(.val false I8),fun y=>code_Target y.1 y.2⟩
theorem code_Target_ok:Ent.Ok Try.prog (code_Target_e):=
  Ent.of (N:=15) (U:=60) allE_nil hmo (fn:=Try.f71) (c:=fnBody Try.f71) (G:=[]) (by kernel_rfl) (by kernel_rfl) (by kernel_rfl) (by kernel_rfl) (by kernel_rfl) (by kernel_rfl) (fun y=>by kernel_rfl) (rs:=[.tmp 4]) (by kernel_rfl) .nil (I:=inlNone) inl_none (fun y=>by kernel_rfl)

noncomputable def texture_cut_e (fl:Nat):Ent:=⟨88,(.val false I8),(.cons (.val false I8) (.val false I8)),fun y=>texture_cut fl y⟩
theorem texture_cut_ok (fl:Nat):Ent.Ok Try.prog (texture_cut_e fl):=
  Ent.of (N:=16) (U:=60) (allE_cons (fixed_Floor_ok fl) allE_nil) hmo (fn:=Try.f88) (c:=fnBody Try.f88) (G:=[]) (by kernel_rfl) (by kernel_rfl) (by kernel_rfl) (by kernel_rfl) (by kernel_rfl) (by kernel_rfl) (fun y=>by kernel_rfl) (rs:=[.tmp 2,.tmp 3]) (by kernel_rfl) .nil (I:=inlNone) inl_none (fun y=>by kernel_rfl)

noncomputable def texture_Texel_e (fl:Nat):Ent:=⟨89,(.cons (.val true Y2) (.cons (.val false I8) (.val false I8))),(.val true Y9),fun y=>texture_Texel fl y.1 y.2.1 y.2.2⟩
theorem texture_Texel_ok (fl:Nat):Ent.Ok Try.prog (texture_Texel_e fl):=
  Ent.of (N:=41) (U:=60) (allE_cons (texture_Right_ok fl) allE_nil) hmo (fn:=Try.f89) (c:=fnBody Try.f89) (G:=[]) (by kernel_rfl) (by kernel_rfl) (by kernel_rfl) (by kernel_rfl) (by kernel_rfl) (by kernel_rfl) (fun y=>by kernel_rfl) (rs:=[.cell 6 23]) (by kernel_rfl) .nil (I:=inlNone) inl_none (fun y=>by kernel_rfl)

noncomputable def texture_Nearest_e (fl:Nat):Ent:=⟨72,(.cons (.val true Y2) (.cons (.val false I8) (.val false I8))),(.val true Y9),fun y=>texture_Nearest fl y.1 y.2.1 y.2.2⟩
theorem texture_Nearest_ok (fl:Nat):Ent.Ok Try.prog (texture_Nearest_e fl):=
  Ent.of (N:=25) (U:=60) (allE_cons (texture_cut_ok fl) (allE_cons (texture_Texel_ok fl) allE_nil)) hmo (fn:=Try.f72) (c:=fnBody Try.f72) (G:=[]) (by kernel_rfl) (by kernel_rfl) (by kernel_rfl) (by kernel_rfl) (by kernel_rfl) (by kernel_rfl) (fun y=>by kernel_rfl) (rs:=[.cell 6 23]) (by kernel_rfl) .nil (I:=inlNone) inl_none (fun y=>by kernel_rfl)

noncomputable def colour_Mix_1_e:Ent:=⟨103,(.cons (.val false I8) (.cons (.val false I8) (.dp I8))),(.val false I8),fun y=>colour_Mix_1 y.1 y.2.1 y.2.2⟩
theorem colour_Mix_1_ok:Ent.Ok Try.prog (colour_Mix_1_e):=
  Ent.of (N:=16) (U:=60) allE_nil hmo (fn:=Try.f103) (c:=fnBody Try.f103) (G:=[]) (by kernel_rfl) (by kernel_rfl) (by kernel_rfl) (by kernel_rfl) (by kernel_rfl) (by kernel_rfl) (fun y=>by kernel_rfl) (rs:=[.tmp 5]) (by kernel_rfl) .nil (I:=inlNone) inl_none (fun y=>by kernel_rfl)

noncomputable def fixed_Sat_e:Ent:=⟨50,(.val false I8),(.val false U8),fun y=>fixed_Sat y⟩
theorem fixed_Sat_ok:Ent.Ok Try.prog (fixed_Sat_e):=
  Ent.of (N:=7) (U:=60) allE_nil hmo (fn:=Try.f50) (c:=fnBody Try.f50) (G:=[]) (by kernel_rfl) (by kernel_rfl) (by kernel_rfl) (by kernel_rfl) (by kernel_rfl) (by kernel_rfl) (fun y=>by kernel_rfl) (rs:=[.tmp 2]) (by kernel_rfl) .nil (I:=inlNone) inl_none (fun y=>by kernel_rfl)

noncomputable def colour_each_1_e:Ent:=⟨93,(.cons (.val false U8) (.cons (.val false U8) (.dpf 103 (.val true I8)))),(.val false U8),fun y=>colour_each_1 y.1 y.2.1 y.2.2⟩
theorem colour_each_1_ok:Ent.Ok Try.prog (colour_each_1_e):=
  Ent.of (N:=13) (U:=60) (allE_cons colour_Mix_1_ok (allE_cons fixed_Sat_ok allE_nil)) hmo (fn:=Try.f93) (c:=fnBody Try.f93) (G:=[]) (by kernel_rfl) (by kernel_rfl) (by kernel_rfl) (by kernel_rfl) (by kernel_rfl) (by kernel_rfl) (fun y=>by kernel_rfl) (rs:=[.tmp 5]) (by kernel_rfl) .nil (I:=inlNone) inl_none (fun y=>by kernel_rfl)

noncomputable def colour_each_e:Ent:=⟨75,(.cons (.val true Y9) (.cons (.val true Y9) (.fn 103 (.val true I8)))),(.val true Y9),fun y=>colour_each y.1 y.2.1 y.2.2⟩
theorem colour_each_ok:Ent.Ok Try.prog (colour_each_e):=
  Ent.of (N:=34) (U:=60) (allE_cons colour_each_1_ok allE_nil) hmo (fn:=Try.f75) (c:=fnBody Try.f75) (G:=[]) (by kernel_rfl) (by kernel_rfl) (by kernel_rfl) (by kernel_rfl) (by kernel_rfl) (by kernel_rfl) (fun y=>by kernel_rfl) (rs:=[.cell 6 23]) (by kernel_rfl) .nil (I:=inlNone) inl_none (fun y=>by kernel_rfl)

noncomputable def colour_Mix_e:Ent:=⟨91,(.cons (.val true Y9) (.cons (.val true Y9) (.val false I8))),(.val true Y9),fun y=>colour_Mix y.1 y.2.1 y.2.2⟩
theorem colour_Mix_ok:Ent.Ok Try.prog (colour_Mix_e):=
  Ent.of (N:=14) (U:=60) (allE_cons colour_each_ok allE_nil) hmo (fn:=Try.f91) (c:=fnBody Try.f91) (G:=[]) (by kernel_rfl) (by kernel_rfl) (by kernel_rfl) (by kernel_rfl) (by kernel_rfl) (by kernel_rfl) (fun y=>by kernel_rfl) (rs:=[.cell 6 23]) (by kernel_rfl) .nil (I:=inlNone) inl_none (fun y=>by kernel_rfl)

noncomputable def texture_Smooth_1_e (fl:Nat):Ent:=⟨90,(.cons (.val false I8) (.cons (.dp Y2) (.cons (.dp I8) (.dp I8)))),(.val true Y9),fun y=>texture_Smooth_1 fl y.1 y.2.1 y.2.2.1 y.2.2.2⟩
theorem texture_Smooth_1_ok (fl:Nat):Ent.Ok Try.prog (texture_Smooth_1_e fl):=
  Ent.of (N:=18) (U:=60) (allE_cons (texture_Texel_ok fl) (allE_cons colour_Mix_ok allE_nil)) hmo (fn:=Try.f90) (c:=fnBody Try.f90) (G:=[]) (by kernel_rfl) (by kernel_rfl) (by kernel_rfl) (by kernel_rfl) (by kernel_rfl) (by kernel_rfl) (fun y=>by kernel_rfl) (rs:=[.cell 5 23]) (by kernel_rfl) .nil (I:=inlNone) inl_none (fun y=>by kernel_rfl)

noncomputable def texture_Smooth_e (fl:Nat):Ent:=⟨73,(.cons (.val true Y2) (.cons (.val false I8) (.val false I8))),(.val true Y9),fun y=>texture_Smooth fl y.1 y.2.1 y.2.2⟩
theorem texture_Smooth_ok (fl:Nat):Ent.Ok Try.prog (texture_Smooth_e fl):=
  Ent.of (N:=35) (U:=60) (allE_cons (texture_cut_ok fl) (allE_cons colour_Mix_ok (allE_cons (texture_Smooth_1_ok fl) allE_nil))) hmo (fn:=Try.f73) (c:=fnBody Try.f73) (G:=[]) (by kernel_rfl) (by kernel_rfl) (by kernel_rfl) (by kernel_rfl) (by kernel_rfl) (by kernel_rfl) (fun y=>by kernel_rfl) (rs:=[.cell 6 23]) (by kernel_rfl) .nil (I:=inlNone) inl_none (fun y=>by kernel_rfl)

noncomputable def vm_bit_e:Ent:=⟨92,(.val false .bool),(.val false I8),fun y=>vm_bit y⟩
theorem vm_bit_ok:Ent.Ok Try.prog (vm_bit_e):=
  Ent.of (N:=4) (U:=60) allE_nil hmo (fn:=Try.f92) (c:=fnBody Try.f92) (G:=[]) (by kernel_rfl) (by kernel_rfl) (by kernel_rfl) (by kernel_rfl) (by kernel_rfl) (by kernel_rfl) (fun y=>by kernel_rfl) (rs:=[.tmp 2]) (by kernel_rfl) .nil (I:=inlNone) inl_none (fun y=>by kernel_rfl)

noncomputable def vm_value_e:Ent:=⟨74,(.cons (.val true (.pair U8 (.pair U8 (.pair U8 (.pair U8 I8))))) (.cons (.val false I8) (.val false I8))),(.val false I8),fun y=>vm_value y.1 y.2.1 y.2.2⟩
theorem vm_value_ok:Ent.Ok Try.prog (vm_value_e):=
  Ent.of (N:=68) (U:=60) (allE_cons vm_bit_ok allE_nil) hmo (fn:=Try.f74) (c:=fnBody Try.f74) (G:=[]) (by kernel_rfl) (by kernel_rfl) (by kernel_rfl) (by kernel_rfl) (by kernel_rfl) (by kernel_rfl) (fun y=>by kernel_rfl) (rs:=[.tmp 6]) (by kernel_rfl) .nil (I:=inlNone) inl_none (fun y=>by kernel_rfl)

@[reducible] def vm_Run_i69_l1_V:VT:=[z28,.slot 2 false [.ptr 200005 0],z29,z20,z30,z31,z32,z33,z34,z35,.slot 200011 false [.clo 70 [(200010,0)]],z36,z37,.slot 200084 false [.clo 70 [(200010,0)]],.slot 200086 false [.dat U8],z38,z39,z40,.box 200010 141 [.clo 69 [(200005,0)]]]
@[reducible] def vm_Run_i69_l1_X:List (Out × VT):=[(.exit 0,[z31,z32,z33,z34,z35,.slot 200011 false [.clo 70 [(200010,0)]],z36,z37,.slot 200084 false [.clo 70 [(200010,0)]],.slot 200086 false [.dat U8],z38,z39,z40,.box 200010 141 [.clo 69 [(200005,0)]]])]
noncomputable def vm_Run_i69_l1_f (fl n:Nat):VT.T vm_Run_i69_l1_V -> Option (XT vm_Run_i69_l1_X):=fun v=>vm_Run_i69_l1 fl n v.1 v.2.1 v.2.2.1 v.2.2.2.1 v.2.2.2.2.1 v.2.2.2.2.2.1 v.2.2.2.2.2.2.1 v.2.2.2.2.2.2.2.1 v.2.2.2.2.2.2.2.2.1 v.2.2.2.2.2.2.2.2.2.1 v.2.2.2.2.2.2.2.2.2.2.1 v.2.2.2.2.2.2.2.2.2.2.2.1 v.2.2.2.2.2.2.2.2.2.2.2.2.1 v.2.2.2.2.2.2.2.2.2.2.2.2.2.1 v.2.2.2.2.2.2.2.2.2.2.2.2.2.2.1 v.2.2.2.2.2.2.2.2.2.2.2.2.2.2.2.1 v.2.2.2.2.2.2.2.2.2.2.2.2.2.2.2.2.1 v.2.2.2.2.2.2.2.2.2.2.2.2.2.2.2.2.2.1 v.2.2.2.2.2.2.2.2.2.2.2.2.2.2.2.2.2.2.1
noncomputable def vm_Run_i69_l1_s (fl:Nat):Seg:=⟨vm_Run_i69_l1_V,vm_Run_i69_l1_X,vm_Run_i69_l1_f fl fl⟩
theorem vm_Run_i69_l1_ok (fl:Nat):SegOk Try.prog 22 (.loop (loopBody (codeAt (fnBody Try.f69) 6))) (vm_Run_i69_l1_s fl):=
  have hT:=allE_cons (code_Check_ok fl) (allE_cons (code_Samples_ok fl) (allE_cons (texture_Right_ok fl) (allE_cons vm_wrap_ok allE_nil))); SegOk.loop (c0:=fnBody Try.f69) (p:=6) (U:=60) hT hmo (me:=69) ⟨Try.f69,by kernel_rfl,by kernel_rfl,by kernel_rfl⟩ (G:=[]) .nil (.of (f:=400) (by kernel_rfl)) (I:=inlTab _ Try.prog [] [⟨69,fnBody Try.f69,22,60,[],[]⟩,⟨70,fnBody Try.f70,21,60,[],[]⟩] 12) (inlTab_ok hT hmo allM_nil (inlL_cons ⟨⟨Try.f69,by kernel_rfl,by kernel_rfl,by kernel_rfl,by kernel_rfl,by kernel_rfl⟩,by kernel_rfl,.nil⟩ (inlL_cons ⟨⟨Try.f70,by kernel_rfl,by kernel_rfl,by kernel_rfl,by kernel_rfl,by kernel_rfl⟩,by kernel_rfl,.nil⟩ inlL_nil)) 12) (F:=vm_Run_i69_l1_f fl) (VT.okV (by kernel_rfl)) (VT.okX (by kernel_rfl)) (fun v=>by kernel_rfl) (fun n v=>by kernel_rfl) fl

@[reducible] def vm_Run_i69_l2_V:VT:=[z28,.slot 2 false [.ptr 200005 0],z29,z20,z30,z31,z32,z33,z34,z35,.slot 200011 false [.clo 70 [(200010,0)]],z36,z37,.slot 200094 false [.clo 70 [(200010,0)]],.slot 200096 false [.dat U8],z38,z39,z40,.box 200010 141 [.clo 69 [(200005,0)]]]
@[reducible] def vm_Run_i69_l2_X:List (Out × VT):=[(.exit 0,[z31,z32,z33,z34,z35,.slot 200011 false [.clo 70 [(200010,0)]],z36,z37,.slot 200094 false [.clo 70 [(200010,0)]],.slot 200096 false [.dat U8],z38,z39,z40,.box 200010 141 [.clo 69 [(200005,0)]]])]
noncomputable def vm_Run_i69_l2_f (fl n:Nat):VT.T vm_Run_i69_l2_V -> Option (XT vm_Run_i69_l2_X):=fun v=>vm_Run_i69_l2 fl n v.1 v.2.1 v.2.2.1 v.2.2.2.1 v.2.2.2.2.1 v.2.2.2.2.2.1 v.2.2.2.2.2.2.1 v.2.2.2.2.2.2.2.1 v.2.2.2.2.2.2.2.2.1 v.2.2.2.2.2.2.2.2.2.1 v.2.2.2.2.2.2.2.2.2.2.1 v.2.2.2.2.2.2.2.2.2.2.2.1 v.2.2.2.2.2.2.2.2.2.2.2.2.1 v.2.2.2.2.2.2.2.2.2.2.2.2.2.1 v.2.2.2.2.2.2.2.2.2.2.2.2.2.2.1 v.2.2.2.2.2.2.2.2.2.2.2.2.2.2.2.1 v.2.2.2.2.2.2.2.2.2.2.2.2.2.2.2.2.1 v.2.2.2.2.2.2.2.2.2.2.2.2.2.2.2.2.2.1 v.2.2.2.2.2.2.2.2.2.2.2.2.2.2.2.2.2.2.1
noncomputable def vm_Run_i69_l2_s (fl:Nat):Seg:=⟨vm_Run_i69_l2_V,vm_Run_i69_l2_X,vm_Run_i69_l2_f fl fl⟩
theorem vm_Run_i69_l2_ok (fl:Nat):SegOk Try.prog 22 (.loop (loopBody (codeAt (fnBody Try.f69) 6))) (vm_Run_i69_l2_s fl):=
  have hT:=allE_cons (code_Check_ok fl) (allE_cons (code_Samples_ok fl) (allE_cons (texture_Right_ok fl) (allE_cons vm_wrap_ok allE_nil))); SegOk.loop (c0:=fnBody Try.f69) (p:=6) (U:=60) hT hmo (me:=69) ⟨Try.f69,by kernel_rfl,by kernel_rfl,by kernel_rfl⟩ (G:=[(6,vm_Run_i69_l1_s fl)]) (.cons (f:=400) (by kernel_rfl) (vm_Run_i69_l1_ok fl) .nil) (.of (f:=400) (by kernel_rfl)) (I:=inlTab _ Try.prog [] [⟨69,fnBody Try.f69,22,60,[],[(6,vm_Run_i69_l1_s fl)]⟩,⟨70,fnBody Try.f70,21,60,[],[]⟩] 12) (inlTab_ok hT hmo allM_nil (inlL_cons ⟨⟨Try.f69,by kernel_rfl,by kernel_rfl,by kernel_rfl,by kernel_rfl,by kernel_rfl⟩,by kernel_rfl,(.cons (f:=400) (by kernel_rfl) (vm_Run_i69_l1_ok fl) .nil)⟩ (inlL_cons ⟨⟨Try.f70,by kernel_rfl,by kernel_rfl,by kernel_rfl,by kernel_rfl,by kernel_rfl⟩,by kernel_rfl,.nil⟩ inlL_nil)) 12) (F:=vm_Run_i69_l2_f fl) (VT.okV (by kernel_rfl)) (VT.okX (by kernel_rfl)) (fun v=>by kernel_rfl) (fun n v=>by kernel_rfl) fl

@[reducible] def vm_Run_i69_l3_V:VT:=[z28,.slot 2 false [.ptr 100005 0],z29,z20,z30,.slot 100000 false [.dat Y3],z12,z13,.slot 100006 false [.ptr 100006 0],z41,.slot 100011 false [.clo 70 [(100010,0)]],.slot 100012 false [D],.slot 100013 false [D],.slot 100065 false [.clo 69 [(100005,0)]],.slot 100067 false [.dat U8],z42,z43,z44,.box 100010 141 [.clo 69 [(100005,0)]]]
@[reducible] def vm_Run_i69_l3_X:List (Out × VT):=[(.exit 0,[.slot 100000 false [.dat Y3],z12,z13,.slot 100006 false [.ptr 100006 0],z41,.slot 100011 false [.clo 70 [(100010,0)]],.slot 100012 false [D],.slot 100013 false [D],.slot 100065 false [.clo 69 [(100005,0)]],.slot 100067 false [.dat U8],z42,z43,z44,.box 100010 141 [.clo 69 [(100005,0)]]])]
noncomputable def vm_Run_i69_l3_f (fl n:Nat):VT.T vm_Run_i69_l3_V -> Option (XT vm_Run_i69_l3_X):=fun v=>vm_Run_i69_l3 fl n v.1 v.2.1 v.2.2.1 v.2.2.2.1 v.2.2.2.2.1 v.2.2.2.2.2.1 v.2.2.2.2.2.2.1 v.2.2.2.2.2.2.2.1 v.2.2.2.2.2.2.2.2.1 v.2.2.2.2.2.2.2.2.2.1 v.2.2.2.2.2.2.2.2.2.2.1 v.2.2.2.2.2.2.2.2.2.2.2.1 v.2.2.2.2.2.2.2.2.2.2.2.2.1 v.2.2.2.2.2.2.2.2.2.2.2.2.2.1 v.2.2.2.2.2.2.2.2.2.2.2.2.2.2.1 v.2.2.2.2.2.2.2.2.2.2.2.2.2.2.2.1 v.2.2.2.2.2.2.2.2.2.2.2.2.2.2.2.2.1 v.2.2.2.2.2.2.2.2.2.2.2.2.2.2.2.2.2.1 v.2.2.2.2.2.2.2.2.2.2.2.2.2.2.2.2.2.2.1
noncomputable def vm_Run_i69_l3_s (fl:Nat):Seg:=⟨vm_Run_i69_l3_V,vm_Run_i69_l3_X,vm_Run_i69_l3_f fl fl⟩
theorem vm_Run_i69_l3_ok (fl:Nat):SegOk Try.prog 22 (.loop (loopBody (codeAt (fnBody Try.f69) 6))) (vm_Run_i69_l3_s fl):=
  have hT:=allE_cons (code_Check_ok fl) (allE_cons (code_Samples_ok fl) (allE_cons (texture_Right_ok fl) (allE_cons vm_wrap_ok allE_nil))); SegOk.loop (c0:=fnBody Try.f69) (p:=6) (U:=60) hT hmo (me:=69) ⟨Try.f69,by kernel_rfl,by kernel_rfl,by kernel_rfl⟩ (G:=[(6,vm_Run_i69_l1_s fl),(6,vm_Run_i69_l2_s fl)]) (.cons (f:=400) (by kernel_rfl) (vm_Run_i69_l1_ok fl) (.cons (f:=400) (by kernel_rfl) (vm_Run_i69_l2_ok fl) .nil)) (.of (f:=400) (by kernel_rfl)) (I:=inlTab _ Try.prog [] [⟨69,fnBody Try.f69,22,60,[],[(6,vm_Run_i69_l1_s fl),(6,vm_Run_i69_l2_s fl)]⟩,⟨70,fnBody Try.f70,21,60,[],[]⟩] 12) (inlTab_ok hT hmo allM_nil (inlL_cons ⟨⟨Try.f69,by kernel_rfl,by kernel_rfl,by kernel_rfl,by kernel_rfl,by kernel_rfl⟩,by kernel_rfl,(.cons (f:=400) (by kernel_rfl) (vm_Run_i69_l1_ok fl) (.cons (f:=400) (by kernel_rfl) (vm_Run_i69_l2_ok fl) .nil))⟩ (inlL_cons ⟨⟨Try.f70,by kernel_rfl,by kernel_rfl,by kernel_rfl,by kernel_rfl,by kernel_rfl⟩,by kernel_rfl,.nil⟩ inlL_nil)) 12) (F:=vm_Run_i69_l3_f fl) (VT.okV (by kernel_rfl)) (VT.okX (by kernel_rfl)) (fun v=>by kernel_rfl) (fun n v=>by kernel_rfl) fl

@[reducible] def vm_Run_l2_V:VT:=[z18,z22,z23,z24,z45,.slot 11 false [.clo 70 [(10,0)]],z46,.slot 13 false [D],z25,z26,z27,.box 10 141 [.clo 69 [(5,0)]]]
@[reducible] def vm_Run_l2_X:List (Out × VT):=[(.exit 3,[z23,z24,z46,z26,z27])]
noncomputable def vm_Run_l2_f (fl n:Nat):VT.T vm_Run_l2_V -> Option (XT vm_Run_l2_X):=fun v=>vm_Run_l2 fl n v.1 v.2.1 v.2.2.1 v.2.2.2.1 v.2.2.2.2.1 v.2.2.2.2.2.1 v.2.2.2.2.2.2.1 v.2.2.2.2.2.2.2.1 v.2.2.2.2.2.2.2.2.1 v.2.2.2.2.2.2.2.2.2.1 v.2.2.2.2.2.2.2.2.2.2.1 v.2.2.2.2.2.2.2.2.2.2.2.1 v.2.2.2.2.2.2.2.2.2.2.2.2.1 v.2.2.2.2.2.2.2.2.2.2.2.2.2.1
noncomputable def vm_Run_l2_s (fl:Nat):Seg:=⟨vm_Run_l2_V,vm_Run_l2_X,vm_Run_l2_f fl fl⟩
theorem vm_Run_l2_ok (fl:Nat):SegOk Try.prog 104 (.loop (loopBody (codeAt (fnBody Try.f49) 1018))) (vm_Run_l2_s fl):=
  have hT:=allE_cons (code_Check_ok fl) (allE_cons (code_Samples_ok fl) (allE_cons (texture_Right_ok fl) (allE_cons vm_wrap_ok (allE_cons code_Target_ok (allE_cons (texture_Nearest_ok fl) (allE_cons (texture_Smooth_ok fl) (allE_cons vm_value_ok allE_nil))))))); SegOk.loop (c0:=fnBody Try.f49) (p:=1018) (U:=60) hT hmo (me:=49) ⟨Try.f49,by kernel_rfl,by kernel_rfl,by kernel_rfl⟩ (G:=[(6,vm_Run_j1_s fl)]) (.cons (f:=400) (by kernel_rfl) (vm_Run_j1_ok fl) .nil) (.of (f:=400) (by kernel_rfl)) (I:=inlTab _ Try.prog [] [⟨69,fnBody Try.f69,22,60,[],[(6,vm_Run_i69_l1_s fl),(6,vm_Run_i69_l2_s fl),(6,vm_Run_i69_l3_s fl)]⟩,⟨70,fnBody Try.f70,21,60,[],[]⟩] 12) (inlTab_ok hT hmo allM_nil (inlL_cons ⟨⟨Try.f69,by kernel_rfl,by kernel_rfl,by kernel_rfl,by kernel_rfl,by kernel_rfl⟩,by kernel_rfl,(.cons (f:=400) (by kernel_rfl) (vm_Run_i69_l1_ok fl) (.cons (f:=400) (by kernel_rfl) (vm_Run_i69_l2_ok fl) (.cons (f:=400) (by kernel_rfl) (vm_Run_i69_l3_ok fl) .nil)))⟩ (inlL_cons ⟨⟨Try.f70,by kernel_rfl,by kernel_rfl,by kernel_rfl,by kernel_rfl,by kernel_rfl⟩,by kernel_rfl,.nil⟩ inlL_nil)) 12) (F:=vm_Run_l2_f fl) (VT.okV (by kernel_rfl)) (VT.okX (by kernel_rfl)) (fun v=>by kernel_rfl) (fun n v=>by kernel_rfl) fl

noncomputable def vm_Run_e (fl:Nat):Ent:=⟨49,(.cons (.val false Y3) (.cons (.val true Y2) (.val true Y12))),(.cons (.val true Y12) (.cons (.val false I8) (.val false I8))),fun y=>vm_Run fl y.1 y.2.1 y.2.2⟩
theorem vm_Run_ok (fl:Nat):Ent.Ok Try.prog (vm_Run_e fl):=
  have hT:=allE_cons (code_Check_ok fl) (allE_cons (code_Samples_ok fl) (allE_cons (texture_Right_ok fl) (allE_cons vm_wrap_ok (allE_cons code_Target_ok (allE_cons (texture_Nearest_ok fl) (allE_cons (texture_Smooth_ok fl) (allE_cons vm_value_ok allE_nil))))))); Ent.of (N:=104) (U:=60) hT hmo (fn:=Try.f49) (c:=fnBody Try.f49) (G:=[(6,vm_Run_j1_s fl),(1018,vm_Run_l2_s fl)]) (by kernel_rfl) (by kernel_rfl) (by kernel_rfl) (by kernel_rfl) (by kernel_rfl) (by kernel_rfl) (fun y=>by kernel_rfl) (rs:=[.cell 6 120,.tmp 7,.tmp 8]) (by kernel_rfl) (.cons (f:=400) (by kernel_rfl) (vm_Run_j1_ok fl) (.cons (f:=400) (by kernel_rfl) (vm_Run_l2_ok fl) .nil)) (I:=inlTab _ Try.prog [] [⟨69,fnBody Try.f69,22,60,[],[(6,vm_Run_i69_l1_s fl),(6,vm_Run_i69_l2_s fl),(6,vm_Run_i69_l3_s fl)]⟩,⟨70,fnBody Try.f70,21,60,[],[]⟩] 12) (inlTab_ok hT hmo allM_nil (inlL_cons ⟨⟨Try.f69,by kernel_rfl,by kernel_rfl,by kernel_rfl,by kernel_rfl,by kernel_rfl⟩,by kernel_rfl,(.cons (f:=400) (by kernel_rfl) (vm_Run_i69_l1_ok fl) (.cons (f:=400) (by kernel_rfl) (vm_Run_i69_l2_ok fl) (.cons (f:=400) (by kernel_rfl) (vm_Run_i69_l3_ok fl) .nil)))⟩ (inlL_cons ⟨⟨Try.f70,by kernel_rfl,by kernel_rfl,by kernel_rfl,by kernel_rfl,by kernel_rfl⟩,by kernel_rfl,.nil⟩ inlL_nil)) 12) (fun y=>by kernel_rfl)

noncomputable def fixed_Div255_e:Ent:=⟨77,(.val false I8),(.val false I8),fun y=>fixed_Div255 y⟩
theorem fixed_Div255_ok:Ent.Ok Try.prog (fixed_Div255_e):=
  Ent.of (N:=8) (U:=60) allE_nil hmo (fn:=Try.f77) (c:=fnBody Try.f77) (G:=[]) (by kernel_rfl) (by kernel_rfl) (by kernel_rfl) (by kernel_rfl) (by kernel_rfl) (by kernel_rfl) (fun y=>by kernel_rfl) (rs:=[.tmp 2]) (by kernel_rfl) .nil (I:=inlNone) inl_none (fun y=>by kernel_rfl)

noncomputable def colour_Pre_1_e:Ent:=⟨76,(.cons (.val false I8) (.cons (.val false I8) (.dp Y9))),(.val false I8),fun y=>colour_Pre_1 y.1 y.2.1 y.2.2⟩
theorem colour_Pre_1_ok:Ent.Ok Try.prog (colour_Pre_1_e):=
  Ent.of (N:=12) (U:=60) (allE_cons fixed_Div255_ok allE_nil) hmo (fn:=Try.f76) (c:=fnBody Try.f76) (G:=[]) (by kernel_rfl) (by kernel_rfl) (by kernel_rfl) (by kernel_rfl) (by kernel_rfl) (by kernel_rfl) (fun y=>by kernel_rfl) (rs:=[.tmp 5]) (by kernel_rfl) .nil (I:=inlNone) inl_none (fun y=>by kernel_rfl)

noncomputable def colour_each_1__2_e:Ent:=⟨93,(.cons (.val false U8) (.cons (.val false U8) (.dpf 76 (.val true Y9)))),(.val false U8),fun y=>colour_each_1__2 y.1 y.2.1 y.2.2⟩
theorem colour_each_1__2_ok:Ent.Ok Try.prog (colour_each_1__2_e):=
  Ent.of (N:=13) (U:=60) (allE_cons fixed_Sat_ok (allE_cons colour_Pre_1_ok allE_nil)) hmo (fn:=Try.f93) (c:=fnBody Try.f93) (G:=[]) (by kernel_rfl) (by kernel_rfl) (by kernel_rfl) (by kernel_rfl) (by kernel_rfl) (by kernel_rfl) (fun y=>by kernel_rfl) (rs:=[.tmp 5]) (by kernel_rfl) .nil (I:=inlNone) inl_none (fun y=>by kernel_rfl)

noncomputable def colour_each__2_e:Ent:=⟨75,(.cons (.val true Y9) (.cons (.val true Y9) (.fn 76 (.val true Y9)))),(.val true Y9),fun y=>colour_each__2 y.1 y.2.1 y.2.2⟩
theorem colour_each__2_ok:Ent.Ok Try.prog (colour_each__2_e):=
  Ent.of (N:=34) (U:=60) (allE_cons colour_each_1__2_ok allE_nil) hmo (fn:=Try.f75) (c:=fnBody Try.f75) (G:=[]) (by kernel_rfl) (by kernel_rfl) (by kernel_rfl) (by kernel_rfl) (by kernel_rfl) (by kernel_rfl) (fun y=>by kernel_rfl) (rs:=[.cell 6 23]) (by kernel_rfl) .nil (I:=inlNone) inl_none (fun y=>by kernel_rfl)

noncomputable def colour_Pre_e:Ent:=⟨51,(.val true Y9),(.val true Y9),fun y=>colour_Pre y⟩
theorem colour_Pre_ok:Ent.Ok Try.prog (colour_Pre_e):=
  Ent.of (N:=12) (U:=60) (allE_cons colour_each__2_ok allE_nil) hmo (fn:=Try.f51) (c:=fnBody Try.f51) (G:=[]) (by kernel_rfl) (by kernel_rfl) (by kernel_rfl) (by kernel_rfl) (by kernel_rfl) (by kernel_rfl) (fun y=>by kernel_rfl) (rs:=[.cell 2 23]) (by kernel_rfl) .nil (I:=inlNone) inl_none (fun y=>by kernel_rfl)

noncomputable def vm_Shade_e (fl:Nat):Ent:=⟨36,(.cons (.val false Y3) (.cons (.val true Y2) (.cons (.val true Y1) (.cons (.val false I8) (.val false I8))))),(.cons (.val true Y9) (.cons (.val false I8) (.val false I8))),fun y=>vm_Shade fl y.1 y.2.1 y.2.2.1 y.2.2.2.1 y.2.2.2.2⟩
theorem vm_Shade_ok (fl:Nat):Ent.Ok Try.prog (vm_Shade_e fl):=
  Ent.of (N:=55) (U:=60) (allE_cons fixed_Sat_ok (allE_cons (vm_Run_ok fl) (allE_cons colour_Pre_ok allE_nil))) hmo (fn:=Try.f36) (c:=fnBody Try.f36) (G:=[]) (by kernel_rfl) (by kernel_rfl) (by kernel_rfl) (by kernel_rfl) (by kernel_rfl) (by kernel_rfl) (fun y=>by kernel_rfl) (rs:=[.cell 10 23,.tmp 11,.tmp 12]) (by kernel_rfl) .nil (I:=inlNone) inl_none (fun y=>by kernel_rfl)

noncomputable def plane_Depth_1_e:Ent:=⟨55,(.val true Y4),(.val false I8),fun y=>plane_Depth_1 y⟩
theorem plane_Depth_1_ok:Ent.Ok Try.prog (plane_Depth_1_e):=
  Ent.of (N:=5) (U:=60) allE_nil hmo (fn:=Try.f55) (c:=fnBody Try.f55) (G:=[]) (by kernel_rfl) (by kernel_rfl) (by kernel_rfl) (by kernel_rfl) (by kernel_rfl) (by kernel_rfl) (fun y=>by kernel_rfl) (rs:=[.tmp 2]) (by kernel_rfl) .nil (I:=inlNone) inl_none (fun y=>by kernel_rfl)

noncomputable def plane_each__2_e (fl:Nat):Ent:=⟨52,(.cons (.val true (.pair Y4 (.pair Y4 Y4))) (.cons (.val false I8) (.cons (.val false I8) (.fn 55 .nil)))),(.val false I8),fun y=>plane_each__2 fl y.1 y.2.1 y.2.2.1 y.2.2.2⟩
theorem plane_each__2_ok (fl:Nat):Ent.Ok Try.prog (plane_each__2_e fl):=
  Ent.of (N:=28) (U:=60) (allE_cons view_Centre_ok (allE_cons (plane_At_ok fl) (allE_cons plane_Depth_1_ok allE_nil))) hmo (fn:=Try.f52) (c:=fnBody Try.f52) (G:=[]) (by kernel_rfl) (by kernel_rfl) (by kernel_rfl) (by kernel_rfl) (by kernel_rfl) (by kernel_rfl) (fun y=>by kernel_rfl) (rs:=[.tmp 8]) (by kernel_rfl) .nil (I:=inlNone) inl_none (fun y=>by kernel_rfl)

noncomputable def plane_Depth_e (fl:Nat):Ent:=⟨39,(.cons (.val true (.pair Y4 (.pair Y4 Y4))) (.cons (.val false I8) (.val false I8))),(.val false I8),fun y=>plane_Depth fl y.1 y.2.1 y.2.2⟩
theorem plane_Depth_ok (fl:Nat):Ent.Ok Try.prog (plane_Depth_e fl):=
  Ent.of (N:=38) (U:=60) (allE_cons edge_Area_ok (allE_cons (plane_each__2_ok fl) allE_nil)) hmo (fn:=Try.f39) (c:=fnBody Try.f39) (G:=[]) (by kernel_rfl) (by kernel_rfl) (by kernel_rfl) (by kernel_rfl) (by kernel_rfl) (by kernel_rfl) (fun y=>by kernel_rfl) (rs:=[.tmp 6]) (by kernel_rfl) .nil (I:=inlNone) inl_none (fun y=>by kernel_rfl)

noncomputable def frags_Maker__frag_m (fl:Nat):MEnt:=⟨27,66,(.pair (.pair I8 (.pair I8 (.pair Y9 (.pair Y8 (.pair (.list Y2) (.pair (.list Y3) Y10)))))) (.pair I8 I8)),(.cons (.val true Y5) (.cons (.val true Y1) (.cons (.val true Y11) (.cons (.val false I8) (.val false I8))))),(.cons (.val true Y7) (.val false .bool)),fun x y=>frags_Maker__frag fl x y.1 y.2.1 y.2.2.1 y.2.2.2.1 y.2.2.2.2⟩
theorem frags_Maker__frag_mok (fl:Nat):MEnt.Ok Try.prog (frags_Maker__frag_m fl):=
  MEnt.of (N:=82) (U:=60) (T:=[cover_Mask_e fl,frags_Maker__tex_e,plane_Attrs_e fl,vm_Shade_e fl,plane_Depth_e fl]) (allE_cons (cover_Mask_ok fl) (allE_cons frags_Maker__tex_ok (allE_cons (plane_Attrs_ok fl) (allE_cons (vm_Shade_ok fl) (allE_cons (plane_Depth_ok fl) allE_nil))))) hmo (fn:=Try.f27) (c:=fnBody Try.f27) (G:=[]) (by kernel_rfl) (by kernel_rfl) (by kernel_rfl) (by kernel_rfl) (by kernel_rfl) (by kernel_rfl) (by kernel_rfl) (fun y=>by kernel_rfl) (rs:=[.cell 12 42,.tmp 13]) (by kernel_rfl) .nil (I:=inlNone) inl_none (fun x y=>by kernel_rfl)

@[reducible] def glazierlaw22_gone_i34_l1_V:VT:=[z11,.slot 2 false [.dp I8],.slot 3 false [.dp I8],.slot 4 false [.dp I8],z21,z19,z47,z48,z49,z50,z51,z52,z53,z41,z54,z55,z56,z57,z58,z59,z60,z61,z62,z63,z64,z65,z66,z67,z68,z69,z70,z71,z72,z73,z74,z75,z76,z77,z78,z79,.slot 400027 false [.clo 22 [(401192,0),(401193,0),(401194,0),(401195,0),(401196,0),(401197,0)]],z80,z81,z82,z83,z84,z85,z86,z87,z88,z89,z90,z91,z92,z93,z94,z95]
@[reducible] def glazierlaw22_gone_i34_l1_X:List (Out × VT):=[(.ret,[z47,z48,z49,z50,z51,z52,z53,z41,z54,z55,z56,z57,z58,z96,z60,z61,z62,z63,z64,z65,z66,z67,z68,z69,z70,z71,z72,z73,z74,z75,z76,z77,z78,z79,.slot 400027 false [.clo 22 [(401192,0),(401193,0),(401194,0),(401195,0),(401196,0),(401197,0)]],z97,z81,z82,z83,z84,z85,z86,z87,z88,z89,z90,z91,z92,z93,z94,z95]),(.exit 2,[z11,.slot 2 false [.dp I8],.slot 3 false [.dp I8],.slot 4 false [.dp I8],z21,z47,z48,z49,z50,z51,z52,z53,z41,z54,z55,z56,z57,z58,z59,z60,z61,z62,z63,z64,z65,z66,z67,z68,z69,z70,z71,z72,z73,z74,z75,z76,z77,z78,z79,.slot 400027 false [.clo 22 [(401192,0),(401193,0),(401194,0),(401195,0),(401196,0),(401197,0)]],z80,z81,z82,z83,z84,z85,z86,z87,z88,z89,z90,z91,z92,z93,z94,z95])]
noncomputable def glazierlaw22_gone_i34_l1_f (fl n:Nat):VT.T glazierlaw22_gone_i34_l1_V -> Option (XT glazierlaw22_gone_i34_l1_X):=fun v=>glazierlaw22_gone_i34_l1 fl n v.1 v.2.1 v.2.2.1 v.2.2.2.1 v.2.2.2.2.1 v.2.2.2.2.2.1 v.2.2.2.2.2.2.1 v.2.2.2.2.2.2.2.1 v.2.2.2.2.2.2.2.2.1 v.2.2.2.2.2.2.2.2.2.1 v.2.2.2.2.2.2.2.2.2.2.1 v.2.2.2.2.2.2.2.2.2.2.2.1 v.2.2.2.2.2.2.2.2.2.2.2.2.1 v.2.2.2.2.2.2.2.2.2.2.2.2.2.1 v.2.2.2.2.2.2.2.2.2.2.2.2.2.2.1 v.2.2.2.2.2.2.2.2.2.2.2.2.2.2.2.1 v.2.2.2.2.2.2.2.2.2.2.2.2.2.2.2.2.1 v.2.2.2.2.2.2.2.2.2.2.2.2.2.2.2.2.2.1 v.2.2.2.2.2.2.2.2.2.2.2.2.2.2.2.2.2.2.1 v.2.2.2.2.2.2.2.2.2.2.2.2.2.2.2.2.2.2.2.1 v.2.2.2.2.2.2.2.2.2.2.2.2.2.2.2.2.2.2.2.2.1 v.2.2.2.2.2.2.2.2.2.2.2.2.2.2.2.2.2.2.2.2.2.1 v.2.2.2.2.2.2.2.2.2.2.2.2.2.2.2.2.2.2.2.2.2.2.1 v.2.2.2.2.2.2.2.2.2.2.2.2.2.2.2.2.2.2.2.2.2.2.2.1 v.2.2.2.2.2.2.2.2.2.2.2.2.2.2.2.2.2.2.2.2.2.2.2.2.1 v.2.2.2.2.2.2.2.2.2.2.2.2.2.2.2.2.2.2.2.2.2.2.2.2.2.1 v.2.2.2.2.2.2.2.2.2.2.2.2.2.2.2.2.2.2.2.2.2.2.2.2.2.2.1 v.2.2.2.2.2.2.2.2.2.2.2.2.2.2.2.2.2.2.2.2.2.2.2.2.2.2.2.1 v.2.2.2.2.2.2.2.2.2.2.2.2.2.2.2.2.2.2.2.2.2.2.2.2.2.2.2.2.1 v.2.2.2.2.2.2.2.2.2.2.2.2.2.2.2.2.2.2.2.2.2.2.2.2.2.2.2.2.2.1 v.2.2.2.2.2.2.2.2.2.2.2.2.2.2.2.2.2.2.2.2.2.2.2.2.2.2.2.2.2.2.1 v.2.2.2.2.2.2.2.2.2.2.2.2.2.2.2.2.2.2.2.2.2.2.2.2.2.2.2.2.2.2.2.1 v.2.2.2.2.2.2.2.2.2.2.2.2.2.2.2.2.2.2.2.2.2.2.2.2.2.2.2.2.2.2.2.2.1 v.2.2.2.2.2.2.2.2.2.2.2.2.2.2.2.2.2.2.2.2.2.2.2.2.2.2.2.2.2.2.2.2.2.1 v.2.2.2.2.2.2.2.2.2.2.2.2.2.2.2.2.2.2.2.2.2.2.2.2.2.2.2.2.2.2.2.2.2.2.1 v.2.2.2.2.2.2.2.2.2.2.2.2.2.2.2.2.2.2.2.2.2.2.2.2.2.2.2.2.2.2.2.2.2.2.2.1 v.2.2.2.2.2.2.2.2.2.2.2.2.2.2.2.2.2.2.2.2.2.2.2.2.2.2.2.2.2.2.2.2.2.2.2.2.1 v.2.2.2.2.2.2.2.2.2.2.2.2.2.2.2.2.2.2.2.2.2.2.2.2.2.2.2.2.2.2.2.2.2.2.2.2.2.1 v.2.2.2.2.2.2.2.2.2.2.2.2.2.2.2.2.2.2.2.2.2.2.2.2.2.2.2.2.2.2.2.2.2.2.2.2.2.2.1 v.2.2.2.2.2.2.2.2.2.2.2.2.2.2.2.2.2.2.2.2.2.2.2.2.2.2.2.2.2.2.2.2.2.2.2.2.2.2.2.1 v.2.2.2.2.2.2.2.2.2.2.2.2.2.2.2.2.2.2.2.2.2.2.2.2.2.2.2.2.2.2.2.2.2.2.2.2.2.2.2.2.1 v.2.2.2.2.2.2.2.2.2.2.2.2.2.2.2.2.2.2.2.2.2.2.2.2.2.2.2.2.2.2.2.2.2.2.2.2.2.2.2.2.2.1 v.2.2.2.2.2.2.2.2.2.2.2.2.2.2.2.2.2.2.2.2.2.2.2.2.2.2.2.2.2.2.2.2.2.2.2.2.2.2.2.2.2.2.1 v.2.2.2.2.2.2.2.2.2.2.2.2.2.2.2.2.2.2.2.2.2.2.2.2.2.2.2.2.2.2.2.2.2.2.2.2.2.2.2.2.2.2.2.1 v.2.2.2.2.2.2.2.2.2.2.2.2.2.2.2.2.2.2.2.2.2.2.2.2.2.2.2.2.2.2.2.2.2.2.2.2.2.2.2.2.2.2.2.2.1 v.2.2.2.2.2.2.2.2.2.2.2.2.2.2.2.2.2.2.2.2.2.2.2.2.2.2.2.2.2.2.2.2.2.2.2.2.2.2.2.2.2.2.2.2.2.1 v.2.2.2.2.2.2.2.2.2.2.2.2.2.2.2.2.2.2.2.2.2.2.2.2.2.2.2.2.2.2.2.2.2.2.2.2.2.2.2.2.2.2.2.2.2.2.1 v.2.2.2.2.2.2.2.2.2.2.2.2.2.2.2.2.2.2.2.2.2.2.2.2.2.2.2.2.2.2.2.2.2.2.2.2.2.2.2.2.2.2.2.2.2.2.2.1 v.2.2.2.2.2.2.2.2.2.2.2.2.2.2.2.2.2.2.2.2.2.2.2.2.2.2.2.2.2.2.2.2.2.2.2.2.2.2.2.2.2.2.2.2.2.2.2.2.1 v.2.2.2.2.2.2.2.2.2.2.2.2.2.2.2.2.2.2.2.2.2.2.2.2.2.2.2.2.2.2.2.2.2.2.2.2.2.2.2.2.2.2.2.2.2.2.2.2.2.1 v.2.2.2.2.2.2.2.2.2.2.2.2.2.2.2.2.2.2.2.2.2.2.2.2.2.2.2.2.2.2.2.2.2.2.2.2.2.2.2.2.2.2.2.2.2.2.2.2.2.2.1 v.2.2.2.2.2.2.2.2.2.2.2.2.2.2.2.2.2.2.2.2.2.2.2.2.2.2.2.2.2.2.2.2.2.2.2.2.2.2.2.2.2.2.2.2.2.2.2.2.2.2.2.1 v.2.2.2.2.2.2.2.2.2.2.2.2.2.2.2.2.2.2.2.2.2.2.2.2.2.2.2.2.2.2.2.2.2.2.2.2.2.2.2.2.2.2.2.2.2.2.2.2.2.2.2.2.1 v.2.2.2.2.2.2.2.2.2.2.2.2.2.2.2.2.2.2.2.2.2.2.2.2.2.2.2.2.2.2.2.2.2.2.2.2.2.2.2.2.2.2.2.2.2.2.2.2.2.2.2.2.2.1 v.2.2.2.2.2.2.2.2.2.2.2.2.2.2.2.2.2.2.2.2.2.2.2.2.2.2.2.2.2.2.2.2.2.2.2.2.2.2.2.2.2.2.2.2.2.2.2.2.2.2.2.2.2.2.1 v.2.2.2.2.2.2.2.2.2.2.2.2.2.2.2.2.2.2.2.2.2.2.2.2.2.2.2.2.2.2.2.2.2.2.2.2.2.2.2.2.2.2.2.2.2.2.2.2.2.2.2.2.2.2.2.1 v.2.2.2.2.2.2.2.2.2.2.2.2.2.2.2.2.2.2.2.2.2.2.2.2.2.2.2.2.2.2.2.2.2.2.2.2.2.2.2.2.2.2.2.2.2.2.2.2.2.2.2.2.2.2.2.2.1 v.2.2.2.2.2.2.2.2.2.2.2.2.2.2.2.2.2.2.2.2.2.2.2.2.2.2.2.2.2.2.2.2.2.2.2.2.2.2.2.2.2.2.2.2.2.2.2.2.2.2.2.2.2.2.2.2.2.1 v.2.2.2.2.2.2.2.2.2.2.2.2.2.2.2.2.2.2.2.2.2.2.2.2.2.2.2.2.2.2.2.2.2.2.2.2.2.2.2.2.2.2.2.2.2.2.2.2.2.2.2.2.2.2.2.2.2.2.1 v.2.2.2.2.2.2.2.2.2.2.2.2.2.2.2.2.2.2.2.2.2.2.2.2.2.2.2.2.2.2.2.2.2.2.2.2.2.2.2.2.2.2.2.2.2.2.2.2.2.2.2.2.2.2.2.2.2.2.2.1 v.2.2.2.2.2.2.2.2.2.2.2.2.2.2.2.2.2.2.2.2.2.2.2.2.2.2.2.2.2.2.2.2.2.2.2.2.2.2.2.2.2.2.2.2.2.2.2.2.2.2.2.2.2.2.2.2.2.2.2.2.1 v.2.2.2.2.2.2.2.2.2.2.2.2.2.2.2.2.2.2.2.2.2.2.2.2.2.2.2.2.2.2.2.2.2.2.2.2.2.2.2.2.2.2.2.2.2.2.2.2.2.2.2.2.2.2.2.2.2.2.2.2.2.1 v.2.2.2.2.2.2.2.2.2.2.2.2.2.2.2.2.2.2.2.2.2.2.2.2.2.2.2.2.2.2.2.2.2.2.2.2.2.2.2.2.2.2.2.2.2.2.2.2.2.2.2.2.2.2.2.2.2.2.2.2.2.2.1
noncomputable def glazierlaw22_gone_i34_l1_s (fl:Nat):Seg:=⟨glazierlaw22_gone_i34_l1_V,glazierlaw22_gone_i34_l1_X,glazierlaw22_gone_i34_l1_f fl fl⟩
theorem glazierlaw22_gone_i34_l1_ok (fl:Nat):SegOk Try.prog 25 (.loop (loopBody (codeAt (fnBody Try.f34) 402))) (glazierlaw22_gone_i34_l1_s fl):=
  SegOk.loop (c0:=fnBody Try.f34) (p:=402) (U:=60) allE_nil hmo (me:=34) ⟨Try.f34,by kernel_rfl,by kernel_rfl,by kernel_rfl⟩ (G:=[]) .nil (.of (f:=400) (by kernel_rfl)) (I:=inlTab _ Try.prog [frags_Maker__frag_m fl] [⟨10,fnBody Try.f10,41,60,[.cell 8 35,.cell 9 4],[]⟩,⟨16,fnBody Try.f16,14,60,[.tmp 12],[]⟩,⟨22,fnBody Try.f22,107,60,[],[]⟩,⟨31,fnBody Try.f31,27,60,[],[]⟩,⟨34,fnBody Try.f34,25,60,[],[]⟩] 12) (inlTab_ok allE_nil hmo (allM_cons (frags_Maker__frag_mok fl) allM_nil) (inlL_cons ⟨⟨Try.f10,by kernel_rfl,by kernel_rfl,by kernel_rfl,by kernel_rfl,by kernel_rfl⟩,by kernel_rfl,.nil⟩ (inlL_cons ⟨⟨Try.f16,by kernel_rfl,by kernel_rfl,by kernel_rfl,by kernel_rfl,by kernel_rfl⟩,by kernel_rfl,.nil⟩ (inlL_cons ⟨⟨Try.f22,by kernel_rfl,by kernel_rfl,by kernel_rfl,by kernel_rfl,by kernel_rfl⟩,by kernel_rfl,.nil⟩ (inlL_cons ⟨⟨Try.f31,by kernel_rfl,by kernel_rfl,by kernel_rfl,by kernel_rfl,by kernel_rfl⟩,by kernel_rfl,.nil⟩ (inlL_cons ⟨⟨Try.f34,by kernel_rfl,by kernel_rfl,by kernel_rfl,by kernel_rfl,by kernel_rfl⟩,by kernel_rfl,.nil⟩ inlL_nil))))) 12) (F:=glazierlaw22_gone_i34_l1_f fl) (VT.okV (by kernel_rfl)) (VT.okX (by kernel_rfl)) (fun v=>by kernel_rfl) (fun n v=>by kernel_rfl) fl

@[reducible] def glazierlaw22_gone_i34_l2_V:VT:=[z11,.slot 2 false [.dp I8],.slot 3 false [.dp I8],.slot 4 false [.dp I8],z21,z47,z48,z49,z50,z51,z52,z53,z41,z54,z55,z56,z57,z58,z59,z60,z61,z62,z63,z64,z65,z66,z67,z68,z69,z70,z71,z72,z73,z74,z75,z76,z77,z78,z79,.slot 400027 false [.clo 22 [(401192,0),(401193,0),(401194,0),(401195,0),(401196,0),(401197,0)]],z80,z81,z82,z83,z84,z85,z86,z87,z88,z89,z90,z91,z92,z93,z94,z95]
@[reducible] def glazierlaw22_gone_i34_l2_X:List (Out × VT):=[(.ret,[z47,z48,z49,z50,z51,z52,z53,z41,z54,z55,z56,z57,z58,z96,z60,z61,z62,z63,z64,z65,z66,z67,z68,z69,z70,z71,z72,z73,z74,z75,z76,z77,z78,z79,.slot 400027 false [.clo 22 [(401192,0),(401193,0),(401194,0),(401195,0),(401196,0),(401197,0)]],z97,z81,z82,z83,z84,z85,z86,z87,z88,z89,z90,z91,z92,z93,z94,z95]),(.exit 0,[z47,z48,z49,z50,z51,z52,z53,z41,z54,z55,z56,z57,z58,z59,z60,z61,z62,z63,z64,z65,z66,z67,z68,z69,z70,z71,z72,z73,z74,z75,z76,z77,z78,z79,.slot 400027 false [.clo 22 [(401192,0),(401193,0),(401194,0),(401195,0),(401196,0),(401197,0)]],z80,z81,z82,z83,z84,z85,z86,z87,z88,z89,z90,z91,z92,z93,z94,z95])]
noncomputable def glazierlaw22_gone_i34_l2_f (fl n:Nat):VT.T glazierlaw22_gone_i34_l2_V -> Option (XT glazierlaw22_gone_i34_l2_X):=fun v=>glazierlaw22_gone_i34_l2 fl n v.1 v.2.1 v.2.2.1 v.2.2.2.1 v.2.2.2.2.1 v.2.2.2.2.2.1 v.2.2.2.2.2.2.1 v.2.2.2.2.2.2.2.1 v.2.2.2.2.2.2.2.2.1 v.2.2.2.2.2.2.2.2.2.1 v.2.2.2.2.2.2.2.2.2.2.1 v.2.2.2.2.2.2.2.2.2.2.2.1 v.2.2.2.2.2.2.2.2.2.2.2.2.1 v.2.2.2.2.2.2.2.2.2.2.2.2.2.1 v.2.2.2.2.2.2.2.2.2.2.2.2.2.2.1 v.2.2.2.2.2.2.2.2.2.2.2.2.2.2.2.1 v.2.2.2.2.2.2.2.2.2.2.2.2.2.2.2.2.1 v.2.2.2.2.2.2.2.2.2.2.2.2.2.2.2.2.2.1 v.2.2.2.2.2.2.2.2.2.2.2.2.2.2.2.2.2.2.1 v.2.2.2.2.2.2.2.2.2.2.2.2.2.2.2.2.2.2.2.1 v.2.2.2.2.2.2.2.2.2.2.2.2.2.2.2.2.2.2.2.2.1 v.2.2.2.2.2.2.2.2.2.2.2.2.2.2.2.2.2.2.2.2.2.1 v.2.2.2.2.2.2.2.2.2.2.2.2.2.2.2.2.2.2.2.2.2.2.1 v.2.2.2.2.2.2.2.2.2.2.2.2.2.2.2.2.2.2.2.2.2.2.2.1 v.2.2.2.2.2.2.2.2.2.2.2.2.2.2.2.2.2.2.2.2.2.2.2.2.1 v.2.2.2.2.2.2.2.2.2.2.2.2.2.2.2.2.2.2.2.2.2.2.2.2.2.1 v.2.2.2.2.2.2.2.2.2.2.2.2.2.2.2.2.2.2.2.2.2.2.2.2.2.2.1 v.2.2.2.2.2.2.2.2.2.2.2.2.2.2.2.2.2.2.2.2.2.2.2.2.2.2.2.1 v.2.2.2.2.2.2.2.2.2.2.2.2.2.2.2.2.2.2.2.2.2.2.2.2.2.2.2.2.1 v.2.2.2.2.2.2.2.2.2.2.2.2.2.2.2.2.2.2.2.2.2.2.2.2.2.2.2.2.2.1 v.2.2.2.2.2.2.2.2.2.2.2.2.2.2.2.2.2.2.2.2.2.2.2.2.2.2.2.2.2.2.1 v.2.2.2.2.2.2.2.2.2.2.2.2.2.2.2.2.2.2.2.2.2.2.2.2.2.2.2.2.2.2.2.1 v.2.2.2.2.2.2.2.2.2.2.2.2.2.2.2.2.2.2.2.2.2.2.2.2.2.2.2.2.2.2.2.2.1 v.2.2.2.2.2.2.2.2.2.2.2.2.2.2.2.2.2.2.2.2.2.2.2.2.2.2.2.2.2.2.2.2.2.1 v.2.2.2.2.2.2.2.2.2.2.2.2.2.2.2.2.2.2.2.2.2.2.2.2.2.2.2.2.2.2.2.2.2.2.1 v.2.2.2.2.2.2.2.2.2.2.2.2.2.2.2.2.2.2.2.2.2.2.2.2.2.2.2.2.2.2.2.2.2.2.2.1 v.2.2.2.2.2.2.2.2.2.2.2.2.2.2.2.2.2.2.2.2.2.2.2.2.2.2.2.2.2.2.2.2.2.2.2.2.1 v.2.2.2.2.2.2.2.2.2.2.2.2.2.2.2.2.2.2.2.2.2.2.2.2.2.2.2.2.2.2.2.2.2.2.2.2.2.1 v.2.2.2.2.2.2.2.2.2.2.2.2.2.2.2.2.2.2.2.2.2.2.2.2.2.2.2.2.2.2.2.2.2.2.2.2.2.2.1 v.2.2.2.2.2.2.2.2.2.2.2.2.2.2.2.2.2.2.2.2.2.2.2.2.2.2.2.2.2.2.2.2.2.2.2.2.2.2.2.1 v.2.2.2.2.2.2.2.2.2.2.2.2.2.2.2.2.2.2.2.2.2.2.2.2.2.2.2.2.2.2.2.2.2.2.2.2.2.2.2.2.1 v.2.2.2.2.2.2.2.2.2.2.2.2.2.2.2.2.2.2.2.2.2.2.2.2.2.2.2.2.2.2.2.2.2.2.2.2.2.2.2.2.2.1 v.2.2.2.2.2.2.2.2.2.2.2.2.2.2.2.2.2.2.2.2.2.2.2.2.2.2.2.2.2.2.2.2.2.2.2.2.2.2.2.2.2.2.1 v.2.2.2.2.2.2.2.2.2.2.2.2.2.2.2.2.2.2.2.2.2.2.2.2.2.2.2.2.2.2.2.2.2.2.2.2.2.2.2.2.2.2.2.1 v.2.2.2.2.2.2.2.2.2.2.2.2.2.2.2.2.2.2.2.2.2.2.2.2.2.2.2.2.2.2.2.2.2.2.2.2.2.2.2.2.2.2.2.2.1 v.2.2.2.2.2.2.2.2.2.2.2.2.2.2.2.2.2.2.2.2.2.2.2.2.2.2.2.2.2.2.2.2.2.2.2.2.2.2.2.2.2.2.2.2.2.1 v.2.2.2.2.2.2.2.2.2.2.2.2.2.2.2.2.2.2.2.2.2.2.2.2.2.2.2.2.2.2.2.2.2.2.2.2.2.2.2.2.2.2.2.2.2.2.1 v.2.2.2.2.2.2.2.2.2.2.2.2.2.2.2.2.2.2.2.2.2.2.2.2.2.2.2.2.2.2.2.2.2.2.2.2.2.2.2.2.2.2.2.2.2.2.2.1 v.2.2.2.2.2.2.2.2.2.2.2.2.2.2.2.2.2.2.2.2.2.2.2.2.2.2.2.2.2.2.2.2.2.2.2.2.2.2.2.2.2.2.2.2.2.2.2.2.1 v.2.2.2.2.2.2.2.2.2.2.2.2.2.2.2.2.2.2.2.2.2.2.2.2.2.2.2.2.2.2.2.2.2.2.2.2.2.2.2.2.2.2.2.2.2.2.2.2.2.1 v.2.2.2.2.2.2.2.2.2.2.2.2.2.2.2.2.2.2.2.2.2.2.2.2.2.2.2.2.2.2.2.2.2.2.2.2.2.2.2.2.2.2.2.2.2.2.2.2.2.2.1 v.2.2.2.2.2.2.2.2.2.2.2.2.2.2.2.2.2.2.2.2.2.2.2.2.2.2.2.2.2.2.2.2.2.2.2.2.2.2.2.2.2.2.2.2.2.2.2.2.2.2.2.1 v.2.2.2.2.2.2.2.2.2.2.2.2.2.2.2.2.2.2.2.2.2.2.2.2.2.2.2.2.2.2.2.2.2.2.2.2.2.2.2.2.2.2.2.2.2.2.2.2.2.2.2.2.1 v.2.2.2.2.2.2.2.2.2.2.2.2.2.2.2.2.2.2.2.2.2.2.2.2.2.2.2.2.2.2.2.2.2.2.2.2.2.2.2.2.2.2.2.2.2.2.2.2.2.2.2.2.2.1 v.2.2.2.2.2.2.2.2.2.2.2.2.2.2.2.2.2.2.2.2.2.2.2.2.2.2.2.2.2.2.2.2.2.2.2.2.2.2.2.2.2.2.2.2.2.2.2.2.2.2.2.2.2.2.1 v.2.2.2.2.2.2.2.2.2.2.2.2.2.2.2.2.2.2.2.2.2.2.2.2.2.2.2.2.2.2.2.2.2.2.2.2.2.2.2.2.2.2.2.2.2.2.2.2.2.2.2.2.2.2.2.1 v.2.2.2.2.2.2.2.2.2.2.2.2.2.2.2.2.2.2.2.2.2.2.2.2.2.2.2.2.2.2.2.2.2.2.2.2.2.2.2.2.2.2.2.2.2.2.2.2.2.2.2.2.2.2.2.2.1 v.2.2.2.2.2.2.2.2.2.2.2.2.2.2.2.2.2.2.2.2.2.2.2.2.2.2.2.2.2.2.2.2.2.2.2.2.2.2.2.2.2.2.2.2.2.2.2.2.2.2.2.2.2.2.2.2.2.1 v.2.2.2.2.2.2.2.2.2.2.2.2.2.2.2.2.2.2.2.2.2.2.2.2.2.2.2.2.2.2.2.2.2.2.2.2.2.2.2.2.2.2.2.2.2.2.2.2.2.2.2.2.2.2.2.2.2.2.1 v.2.2.2.2.2.2.2.2.2.2.2.2.2.2.2.2.2.2.2.2.2.2.2.2.2.2.2.2.2.2.2.2.2.2.2.2.2.2.2.2.2.2.2.2.2.2.2.2.2.2.2.2.2.2.2.2.2.2.2.1 v.2.2.2.2.2.2.2.2.2.2.2.2.2.2.2.2.2.2.2.2.2.2.2.2.2.2.2.2.2.2.2.2.2.2.2.2.2.2.2.2.2.2.2.2.2.2.2.2.2.2.2.2.2.2.2.2.2.2.2.2.1 v.2.2.2.2.2.2.2.2.2.2.2.2.2.2.2.2.2.2.2.2.2.2.2.2.2.2.2.2.2.2.2.2.2.2.2.2.2.2.2.2.2.2.2.2.2.2.2.2.2.2.2.2.2.2.2.2.2.2.2.2.2.1
noncomputable def glazierlaw22_gone_i34_l2_s (fl:Nat):Seg:=⟨glazierlaw22_gone_i34_l2_V,glazierlaw22_gone_i34_l2_X,glazierlaw22_gone_i34_l2_f fl fl⟩
theorem glazierlaw22_gone_i34_l2_ok (fl:Nat):SegOk Try.prog 25 (.loop (loopBody (codeAt (fnBody Try.f34) 6))) (glazierlaw22_gone_i34_l2_s fl):=
  SegOk.loop (c0:=fnBody Try.f34) (p:=6) (U:=60) allE_nil hmo (me:=34) ⟨Try.f34,by kernel_rfl,by kernel_rfl,by kernel_rfl⟩ (G:=[(402,glazierlaw22_gone_i34_l1_s fl)]) (.cons (f:=400) (by kernel_rfl) (glazierlaw22_gone_i34_l1_ok fl) .nil) (.of (f:=400) (by kernel_rfl)) (I:=inlTab _ Try.prog [frags_Maker__frag_m fl] [⟨10,fnBody Try.f10,41,60,[.cell 8 35,.cell 9 4],[]⟩,⟨16,fnBody Try.f16,14,60,[.tmp 12],[]⟩,⟨22,fnBody Try.f22,107,60,[],[]⟩,⟨31,fnBody Try.f31,27,60,[],[]⟩,⟨34,fnBody Try.f34,25,60,[],[(402,glazierlaw22_gone_i34_l1_s fl)]⟩] 12) (inlTab_ok allE_nil hmo (allM_cons (frags_Maker__frag_mok fl) allM_nil) (inlL_cons ⟨⟨Try.f10,by kernel_rfl,by kernel_rfl,by kernel_rfl,by kernel_rfl,by kernel_rfl⟩,by kernel_rfl,.nil⟩ (inlL_cons ⟨⟨Try.f16,by kernel_rfl,by kernel_rfl,by kernel_rfl,by kernel_rfl,by kernel_rfl⟩,by kernel_rfl,.nil⟩ (inlL_cons ⟨⟨Try.f22,by kernel_rfl,by kernel_rfl,by kernel_rfl,by kernel_rfl,by kernel_rfl⟩,by kernel_rfl,.nil⟩ (inlL_cons ⟨⟨Try.f31,by kernel_rfl,by kernel_rfl,by kernel_rfl,by kernel_rfl,by kernel_rfl⟩,by kernel_rfl,.nil⟩ (inlL_cons ⟨⟨Try.f34,by kernel_rfl,by kernel_rfl,by kernel_rfl,by kernel_rfl,by kernel_rfl⟩,by kernel_rfl,(.cons (f:=400) (by kernel_rfl) (glazierlaw22_gone_i34_l1_ok fl) .nil)⟩ inlL_nil))))) 12) (F:=glazierlaw22_gone_i34_l2_f fl) (VT.okV (by kernel_rfl)) (VT.okX (by kernel_rfl)) (fun v=>by kernel_rfl) (fun n v=>by kernel_rfl) fl

@[reducible] def glazierlaw22_gone_i22_l1_V:VT:=[.slot 1 false [.ptr 301192 0],.slot 3 false [.ptr 301194 0],.slot 4 false [.ptr 301195 0],.slot 5 false [.ptr 301196 0],.slot 6 false [.ptr 301197 0],.slot 7 false [.ptr 200007 0],.slot 9 false [.ptr 9 0],z45,.slot 46 false [.own 88 Y11],.slot 47 false [D],.slot 48 false [D],z98,z99,z100,z101,z102,z103,z104,z105,z106,z107,z108,z109,z110,z111,z112,z113,z73,z114,z115,z116,.slot 300027 false [.clo 22 [(301192,0),(301193,0),(301194,0),(301195,0),(301196,0),(301197,0)]],z117,.box 9 3 [D],.box 10 57 [D,D,D,.dat .bool,.dat (.list Y1)],z118,z119,.box 300008 35 [.nils],z120,z121,z122,z123,z124,z125,z126,z127,z128]
@[reducible] def glazierlaw22_gone_i22_l1_X:List (Out × VT):=[(.ret,[z98,z99,z100,z101,z102,z103,z104,z105,z106,z107,z108,z109,z110,z111,z112,z113,z73,z114,z115,z116,.slot 300027 false [.clo 22 [(301192,0),(301193,0),(301194,0),(301195,0),(301196,0),(301197,0)]],.slot 310000 true [D,.kint .i64 10,.kint .i64 250],z118,z119,.box 300008 35 [.nils],z120,z121,z122,z123,z124,z125,z126,z127,z128]),(.exit 2,[z98,z99,z100,z101,z102,z103,z104,z105,z106,z107,z108,z109,z110,z111,z112,z113,z73,z114,z115,z116,.slot 300027 false [.clo 22 [(301192,0),(301193,0),(301194,0),(301195,0),(301196,0),(301197,0)]],z117,z118,z119,.box 300008 35 [.nils],z120,z121,z122,z123,z124,z125,z126,z127,z128])]
noncomputable def glazierlaw22_gone_i22_l1_f (fl n:Nat):VT.T glazierlaw22_gone_i22_l1_V -> Option (XT glazierlaw22_gone_i22_l1_X):=fun v=>glazierlaw22_gone_i22_l1 fl n v.1 v.2.1 v.2.2.1 v.2.2.2.1 v.2.2.2.2.1 v.2.2.2.2.2.1 v.2.2.2.2.2.2.1 v.2.2.2.2.2.2.2.1 v.2.2.2.2.2.2.2.2.1 v.2.2.2.2.2.2.2.2.2.1 v.2.2.2.2.2.2.2.2.2.2.1 v.2.2.2.2.2.2.2.2.2.2.2.1 v.2.2.2.2.2.2.2.2.2.2.2.2.1 v.2.2.2.2.2.2.2.2.2.2.2.2.2.1 v.2.2.2.2.2.2.2.2.2.2.2.2.2.2.1 v.2.2.2.2.2.2.2.2.2.2.2.2.2.2.2.1 v.2.2.2.2.2.2.2.2.2.2.2.2.2.2.2.2.1 v.2.2.2.2.2.2.2.2.2.2.2.2.2.2.2.2.2.1 v.2.2.2.2.2.2.2.2.2.2.2.2.2.2.2.2.2.2.1 v.2.2.2.2.2.2.2.2.2.2.2.2.2.2.2.2.2.2.2.1 v.2.2.2.2.2.2.2.2.2.2.2.2.2.2.2.2.2.2.2.2.1 v.2.2.2.2.2.2.2.2.2.2.2.2.2.2.2.2.2.2.2.2.2.1 v.2.2.2.2.2.2.2.2.2.2.2.2.2.2.2.2.2.2.2.2.2.2.1 v.2.2.2.2.2.2.2.2.2.2.2.2.2.2.2.2.2.2.2.2.2.2.2.1 v.2.2.2.2.2.2.2.2.2.2.2.2.2.2.2.2.2.2.2.2.2.2.2.2.1 v.2.2.2.2.2.2.2.2.2.2.2.2.2.2.2.2.2.2.2.2.2.2.2.2.2.1 v.2.2.2.2.2.2.2.2.2.2.2.2.2.2.2.2.2.2.2.2.2.2.2.2.2.2.1 v.2.2.2.2.2.2.2.2.2.2.2.2.2.2.2.2.2.2.2.2.2.2.2.2.2.2.2.1 v.2.2.2.2.2.2.2.2.2.2.2.2.2.2.2.2.2.2.2.2.2.2.2.2.2.2.2.2.1 v.2.2.2.2.2.2.2.2.2.2.2.2.2.2.2.2.2.2.2.2.2.2.2.2.2.2.2.2.2.1 v.2.2.2.2.2.2.2.2.2.2.2.2.2.2.2.2.2.2.2.2.2.2.2.2.2.2.2.2.2.2.1 v.2.2.2.2.2.2.2.2.2.2.2.2.2.2.2.2.2.2.2.2.2.2.2.2.2.2.2.2.2.2.2.1 v.2.2.2.2.2.2.2.2.2.2.2.2.2.2.2.2.2.2.2.2.2.2.2.2.2.2.2.2.2.2.2.2.1 v.2.2.2.2.2.2.2.2.2.2.2.2.2.2.2.2.2.2.2.2.2.2.2.2.2.2.2.2.2.2.2.2.2.1 v.2.2.2.2.2.2.2.2.2.2.2.2.2.2.2.2.2.2.2.2.2.2.2.2.2.2.2.2.2.2.2.2.2.2.1
noncomputable def glazierlaw22_gone_i22_l1_s (fl:Nat):Seg:=⟨glazierlaw22_gone_i22_l1_V,glazierlaw22_gone_i22_l1_X,glazierlaw22_gone_i22_l1_f fl fl⟩
theorem glazierlaw22_gone_i22_l1_ok (fl:Nat):SegOk Try.prog 107 (.loop (loopBody (codeAt (fnBody Try.f22) 942))) (glazierlaw22_gone_i22_l1_s fl):=
  have hT:=allE_cons (setup_Box_ok fl) (allE_cons setup_Pixels_ok allE_nil); SegOk.loop (c0:=fnBody Try.f22) (p:=942) (U:=60) hT hmo (me:=22) ⟨Try.f22,by kernel_rfl,by kernel_rfl,by kernel_rfl⟩ (G:=[]) .nil (.of (f:=400) (by kernel_rfl)) (I:=inlTab _ Try.prog [frags_Maker__frag_m fl] [⟨10,fnBody Try.f10,41,60,[.cell 8 35,.cell 9 4],[]⟩,⟨16,fnBody Try.f16,14,60,[.tmp 12],[]⟩,⟨22,fnBody Try.f22,107,60,[],[]⟩,⟨31,fnBody Try.f31,27,60,[],[]⟩,⟨34,fnBody Try.f34,25,60,[],[(402,glazierlaw22_gone_i34_l1_s fl),(6,glazierlaw22_gone_i34_l2_s fl)]⟩] 12) (inlTab_ok hT hmo (allM_cons (frags_Maker__frag_mok fl) allM_nil) (inlL_cons ⟨⟨Try.f10,by kernel_rfl,by kernel_rfl,by kernel_rfl,by kernel_rfl,by kernel_rfl⟩,by kernel_rfl,.nil⟩ (inlL_cons ⟨⟨Try.f16,by kernel_rfl,by kernel_rfl,by kernel_rfl,by kernel_rfl,by kernel_rfl⟩,by kernel_rfl,.nil⟩ (inlL_cons ⟨⟨Try.f22,by kernel_rfl,by kernel_rfl,by kernel_rfl,by kernel_rfl,by kernel_rfl⟩,by kernel_rfl,.nil⟩ (inlL_cons ⟨⟨Try.f31,by kernel_rfl,by kernel_rfl,by kernel_rfl,by kernel_rfl,by kernel_rfl⟩,by kernel_rfl,.nil⟩ (inlL_cons ⟨⟨Try.f34,by kernel_rfl,by kernel_rfl,by kernel_rfl,by kernel_rfl,by kernel_rfl⟩,by kernel_rfl,(.cons (f:=400) (by kernel_rfl) (glazierlaw22_gone_i34_l1_ok fl) (.cons (f:=400) (by kernel_rfl) (glazierlaw22_gone_i34_l2_ok fl) .nil))⟩ inlL_nil))))) 12) (F:=glazierlaw22_gone_i22_l1_f fl) (VT.okV (by kernel_rfl)) (VT.okX (by kernel_rfl)) (fun v=>by kernel_rfl) (fun n v=>by kernel_rfl) fl

@[reducible] def glazierlaw22_gone_i31_l1_V:VT:=[z11,.slot 3 false [D],z129,z20,z30,.slot 16 false [D],.slot 17 false [D],z130,z131,z132,z133,z134,z135,z14,z136,z137,z111,z138,z139,z35,.slot 200027 false [.clo 22 [(201192,0),(201193,0),(201194,0),(201195,0),(201196,0),(201197,0)]],z140,z141,z142,z143,z144,z145,z146,z147,z148,z149,z150,z151,z152]
@[reducible] def glazierlaw22_gone_i31_l1_X:List (Out × VT):=[(.ret,[z130,z131,z132,z133,z134,z135,z14,z136,z153,z111,z138,z139,z35,.slot 200027 false [.clo 22 [(201192,0),(201193,0),(201194,0),(201195,0),(201196,0),(201197,0)]],z154,z141,z142,z143,z144,z145,z146,z147,z148,z149,z150,z151,z152]),(.exit 2,[z11,z129,z20,z30,z130,z131,z132,z133,z134,z135,z14,z136,z137,z111,z138,z139,z35,.slot 200027 false [.clo 22 [(201192,0),(201193,0),(201194,0),(201195,0),(201196,0),(201197,0)]],z140,z141,z142,z143,z144,z145,z146,z147,z148,z149,z150,z151,z152])]
noncomputable def glazierlaw22_gone_i31_l1_f (fl n:Nat):VT.T glazierlaw22_gone_i31_l1_V -> Option (XT glazierlaw22_gone_i31_l1_X):=fun v=>glazierlaw22_gone_i31_l1 fl n v.1 v.2.1 v.2.2.1 v.2.2.2.1 v.2.2.2.2.1 v.2.2.2.2.2.1 v.2.2.2.2.2.2.1 v.2.2.2.2.2.2.2.1 v.2.2.2.2.2.2.2.2.1 v.2.2.2.2.2.2.2.2.2.1 v.2.2.2.2.2.2.2.2.2.2.1 v.2.2.2.2.2.2.2.2.2.2.2.1 v.2.2.2.2.2.2.2.2.2.2.2.2.1 v.2.2.2.2.2.2.2.2.2.2.2.2.2.1 v.2.2.2.2.2.2.2.2.2.2.2.2.2.2.1 v.2.2.2.2.2.2.2.2.2.2.2.2.2.2.2.1 v.2.2.2.2.2.2.2.2.2.2.2.2.2.2.2.2.1 v.2.2.2.2.2.2.2.2.2.2.2.2.2.2.2.2.2.1 v.2.2.2.2.2.2.2.2.2.2.2.2.2.2.2.2.2.2.1 v.2.2.2.2.2.2.2.2.2.2.2.2.2.2.2.2.2.2.2.1 v.2.2.2.2.2.2.2.2.2.2.2.2.2.2.2.2.2.2.2.2.1 v.2.2.2.2.2.2.2.2.2.2.2.2.2.2.2.2.2.2.2.2.2.1 v.2.2.2.2.2.2.2.2.2.2.2.2.2.2.2.2.2.2.2.2.2.2.1 v.2.2.2.2.2.2.2.2.2.2.2.2.2.2.2.2.2.2.2.2.2.2.2.1 v.2.2.2.2.2.2.2.2.2.2.2.2.2.2.2.2.2.2.2.2.2.2.2.2.1 v.2.2.2.2.2.2.2.2.2.2.2.2.2.2.2.2.2.2.2.2.2.2.2.2.2.1
noncomputable def glazierlaw22_gone_i31_l1_s (fl:Nat):Seg:=⟨glazierlaw22_gone_i31_l1_V,glazierlaw22_gone_i31_l1_X,glazierlaw22_gone_i31_l1_f fl fl⟩
theorem glazierlaw22_gone_i31_l1_ok (fl:Nat):SegOk Try.prog 27 (.loop (loopBody (codeAt (fnBody Try.f31) 1638))) (glazierlaw22_gone_i31_l1_s fl):=
  have hT:=allE_cons (frags_Maker__parts_ok fl) (allE_cons (setup_Box_ok fl) (allE_cons setup_Pixels_ok allE_nil)); SegOk.loop (c0:=fnBody Try.f31) (p:=1638) (U:=60) hT hmo (me:=31) ⟨Try.f31,by kernel_rfl,by kernel_rfl,by kernel_rfl⟩ (G:=[]) .nil (.of (f:=400) (by kernel_rfl)) (I:=inlTab _ Try.prog [frags_Maker__frag_m fl] [⟨10,fnBody Try.f10,41,60,[.cell 8 35,.cell 9 4],[]⟩,⟨16,fnBody Try.f16,14,60,[.tmp 12],[]⟩,⟨22,fnBody Try.f22,107,60,[],[(942,glazierlaw22_gone_i22_l1_s fl)]⟩,⟨31,fnBody Try.f31,27,60,[],[]⟩,⟨34,fnBody Try.f34,25,60,[],[(402,glazierlaw22_gone_i34_l1_s fl),(6,glazierlaw22_gone_i34_l2_s fl)]⟩] 12) (inlTab_ok hT hmo (allM_cons (frags_Maker__frag_mok fl) allM_nil) (inlL_cons ⟨⟨Try.f10,by kernel_rfl,by kernel_rfl,by kernel_rfl,by kernel_rfl,by kernel_rfl⟩,by kernel_rfl,.nil⟩ (inlL_cons ⟨⟨Try.f16,by kernel_rfl,by kernel_rfl,by kernel_rfl,by kernel_rfl,by kernel_rfl⟩,by kernel_rfl,.nil⟩ (inlL_cons ⟨⟨Try.f22,by kernel_rfl,by kernel_rfl,by kernel_rfl,by kernel_rfl,by kernel_rfl⟩,by kernel_rfl,(.cons (f:=400) (by kernel_rfl) (glazierlaw22_gone_i22_l1_ok fl) .nil)⟩ (inlL_cons ⟨⟨Try.f31,by kernel_rfl,by kernel_rfl,by kernel_rfl,by kernel_rfl,by kernel_rfl⟩,by kernel_rfl,.nil⟩ (inlL_cons ⟨⟨Try.f34,by kernel_rfl,by kernel_rfl,by kernel_rfl,by kernel_rfl,by kernel_rfl⟩,by kernel_rfl,(.cons (f:=400) (by kernel_rfl) (glazierlaw22_gone_i34_l1_ok fl) (.cons (f:=400) (by kernel_rfl) (glazierlaw22_gone_i34_l2_ok fl) .nil))⟩ inlL_nil))))) 12) (F:=glazierlaw22_gone_i31_l1_f fl) (VT.okV (by kernel_rfl)) (VT.okX (by kernel_rfl)) (fun v=>by kernel_rfl) (fun n v=>by kernel_rfl) fl

@[reducible] def glazierlaw22_gone_i31_l2_V:VT:=[z11,z129,z20,z30,z130,z131,z132,z133,z134,z135,z14,z136,z137,z111,z138,z139,z35,.slot 200027 false [.clo 22 [(201192,0),(201193,0),(201194,0),(201195,0),(201196,0),(201197,0)]],z140,z141,z142,z143,z144,z145,z146,z147,z148,z149,z150,z151,z152]
@[reducible] def glazierlaw22_gone_i31_l2_X:List (Out × VT):=[(.ret,[z130,z131,z132,z133,z134,z135,z14,z136,z153,z111,z138,z139,z35,.slot 200027 false [.clo 22 [(201192,0),(201193,0),(201194,0),(201195,0),(201196,0),(201197,0)]],z154,z141,z142,z143,z144,z145,z146,z147,z148,z149,z150,z151,z152]),(.exit 0,[z130,z131,z132,z133,z134,z135,z14,z136,z137,z111,z138,z139,z35,.slot 200027 false [.clo 22 [(201192,0),(201193,0),(201194,0),(201195,0),(201196,0),(201197,0)]],z140,z141,z142,z143,z144,z145,z146,z147,z148,z149,z150,z151,z152])]
noncomputable def glazierlaw22_gone_i31_l2_f (fl n:Nat):VT.T glazierlaw22_gone_i31_l2_V -> Option (XT glazierlaw22_gone_i31_l2_X):=fun v=>glazierlaw22_gone_i31_l2 fl n v.1 v.2.1 v.2.2.1 v.2.2.2.1 v.2.2.2.2.1 v.2.2.2.2.2.1 v.2.2.2.2.2.2.1 v.2.2.2.2.2.2.2.1 v.2.2.2.2.2.2.2.2.1 v.2.2.2.2.2.2.2.2.2.1 v.2.2.2.2.2.2.2.2.2.2.1 v.2.2.2.2.2.2.2.2.2.2.2.1 v.2.2.2.2.2.2.2.2.2.2.2.2.1 v.2.2.2.2.2.2.2.2.2.2.2.2.2.1 v.2.2.2.2.2.2.2.2.2.2.2.2.2.2.1 v.2.2.2.2.2.2.2.2.2.2.2.2.2.2.2.1 v.2.2.2.2.2.2.2.2.2.2.2.2.2.2.2.2.1 v.2.2.2.2.2.2.2.2.2.2.2.2.2.2.2.2.2.1 v.2.2.2.2.2.2.2.2.2.2.2.2.2.2.2.2.2.2.1 v.2.2.2.2.2.2.2.2.2.2.2.2.2.2.2.2.2.2.2.1 v.2.2.2.2.2.2.2.2.2.2.2.2.2.2.2.2.2.2.2.2.1 v.2.2.2.2.2.2.2.2.2.2.2.2.2.2.2.2.2.2.2.2.2.1 v.2.2.2.2.2.2.2.2.2.2.2.2.2.2.2.2.2.2.2.2.2.2.1
noncomputable def glazierlaw22_gone_i31_l2_s (fl:Nat):Seg:=⟨glazierlaw22_gone_i31_l2_V,glazierlaw22_gone_i31_l2_X,glazierlaw22_gone_i31_l2_f fl fl⟩
theorem glazierlaw22_gone_i31_l2_ok (fl:Nat):SegOk Try.prog 27 (.loop (loopBody (codeAt (fnBody Try.f31) 6))) (glazierlaw22_gone_i31_l2_s fl):=
  have hT:=allE_cons (frags_Maker__parts_ok fl) (allE_cons (setup_Box_ok fl) (allE_cons setup_Pixels_ok allE_nil)); SegOk.loop (c0:=fnBody Try.f31) (p:=6) (U:=60) hT hmo (me:=31) ⟨Try.f31,by kernel_rfl,by kernel_rfl,by kernel_rfl⟩ (G:=[(1638,glazierlaw22_gone_i31_l1_s fl)]) (.cons (f:=400) (by kernel_rfl) (glazierlaw22_gone_i31_l1_ok fl) .nil) (.of (f:=400) (by kernel_rfl)) (I:=inlTab _ Try.prog [frags_Maker__frag_m fl] [⟨10,fnBody Try.f10,41,60,[.cell 8 35,.cell 9 4],[]⟩,⟨16,fnBody Try.f16,14,60,[.tmp 12],[]⟩,⟨22,fnBody Try.f22,107,60,[],[(942,glazierlaw22_gone_i22_l1_s fl)]⟩,⟨31,fnBody Try.f31,27,60,[],[(1638,glazierlaw22_gone_i31_l1_s fl)]⟩,⟨34,fnBody Try.f34,25,60,[],[(402,glazierlaw22_gone_i34_l1_s fl),(6,glazierlaw22_gone_i34_l2_s fl)]⟩] 12) (inlTab_ok hT hmo (allM_cons (frags_Maker__frag_mok fl) allM_nil) (inlL_cons ⟨⟨Try.f10,by kernel_rfl,by kernel_rfl,by kernel_rfl,by kernel_rfl,by kernel_rfl⟩,by kernel_rfl,.nil⟩ (inlL_cons ⟨⟨Try.f16,by kernel_rfl,by kernel_rfl,by kernel_rfl,by kernel_rfl,by kernel_rfl⟩,by kernel_rfl,.nil⟩ (inlL_cons ⟨⟨Try.f22,by kernel_rfl,by kernel_rfl,by kernel_rfl,by kernel_rfl,by kernel_rfl⟩,by kernel_rfl,(.cons (f:=400) (by kernel_rfl) (glazierlaw22_gone_i22_l1_ok fl) .nil)⟩ (inlL_cons ⟨⟨Try.f31,by kernel_rfl,by kernel_rfl,by kernel_rfl,by kernel_rfl,by kernel_rfl⟩,by kernel_rfl,(.cons (f:=400) (by kernel_rfl) (glazierlaw22_gone_i31_l1_ok fl) .nil)⟩ (inlL_cons ⟨⟨Try.f34,by kernel_rfl,by kernel_rfl,by kernel_rfl,by kernel_rfl,by kernel_rfl⟩,by kernel_rfl,(.cons (f:=400) (by kernel_rfl) (glazierlaw22_gone_i34_l1_ok fl) (.cons (f:=400) (by kernel_rfl) (glazierlaw22_gone_i34_l2_ok fl) .nil))⟩ inlL_nil))))) 12) (F:=glazierlaw22_gone_i31_l2_f fl) (VT.okV (by kernel_rfl)) (VT.okX (by kernel_rfl)) (fun v=>by kernel_rfl) (fun n v=>by kernel_rfl) fl

noncomputable def glazierlaw22_gone_m (fl:Nat):MEnt:=⟨10,66,(.pair (.pair I8 (.pair I8 (.pair Y9 (.pair Y8 (.pair (.list Y2) (.pair (.list Y3) Y10)))))) (.pair I8 I8)),(.cons (.val true Y1) (.cons (.val false .bool) (.val false I8))),(.cons (.val false (.list Y7)) (.val false .bool)),fun x y=>glazierlaw22_gone fl x y.1 y.2.1 y.2.2⟩
theorem glazierlaw22_gone_mok (fl:Nat):MEnt.Ok Try.prog (glazierlaw22_gone_m fl):=
  MEnt.of (N:=41) (U:=60) (T:=[scene_Each_e,frags_Maker__parts_e fl,setup_Box_e fl,setup_Pixels_e]) (allE_cons scene_Each_ok (allE_cons (frags_Maker__parts_ok fl) (allE_cons (setup_Box_ok fl) (allE_cons setup_Pixels_ok allE_nil)))) hmo (fn:=Try.f10) (c:=fnBody Try.f10) (G:=[]) (by kernel_rfl) (by kernel_rfl) (by kernel_rfl) (by kernel_rfl) (by kernel_rfl) (by kernel_rfl) (by kernel_rfl) (fun y=>by kernel_rfl) (rs:=[.cell 8 35,.cell 9 4]) (by kernel_rfl) .nil (I:=inlTab [scene_Each_e,frags_Maker__parts_e fl,setup_Box_e fl,setup_Pixels_e] Try.prog [frags_Maker__frag_m fl] [⟨10,fnBody Try.f10,41,60,[.cell 8 35,.cell 9 4],[]⟩,⟨16,fnBody Try.f16,14,60,[.tmp 12],[]⟩,⟨22,fnBody Try.f22,107,60,[],[(942,glazierlaw22_gone_i22_l1_s fl)]⟩,⟨31,fnBody Try.f31,27,60,[],[(1638,glazierlaw22_gone_i31_l1_s fl),(6,glazierlaw22_gone_i31_l2_s fl)]⟩,⟨34,fnBody Try.f34,25,60,[],[(402,glazierlaw22_gone_i34_l1_s fl),(6,glazierlaw22_gone_i34_l2_s fl)]⟩] 12) (inlTab_ok (allE_cons scene_Each_ok (allE_cons (frags_Maker__parts_ok fl) (allE_cons (setup_Box_ok fl) (allE_cons setup_Pixels_ok allE_nil)))) hmo (allM_cons (frags_Maker__frag_mok fl) allM_nil) (inlL_cons ⟨⟨Try.f10,by kernel_rfl,by kernel_rfl,by kernel_rfl,by kernel_rfl,by kernel_rfl⟩,by kernel_rfl,.nil⟩ (inlL_cons ⟨⟨Try.f16,by kernel_rfl,by kernel_rfl,by kernel_rfl,by kernel_rfl,by kernel_rfl⟩,by kernel_rfl,.nil⟩ (inlL_cons ⟨⟨Try.f22,by kernel_rfl,by kernel_rfl,by kernel_rfl,by kernel_rfl,by kernel_rfl⟩,by kernel_rfl,(.cons (f:=400) (by kernel_rfl) (glazierlaw22_gone_i22_l1_ok fl) .nil)⟩ (inlL_cons ⟨⟨Try.f31,by kernel_rfl,by kernel_rfl,by kernel_rfl,by kernel_rfl,by kernel_rfl⟩,by kernel_rfl,(.cons (f:=400) (by kernel_rfl) (glazierlaw22_gone_i31_l1_ok fl) (.cons (f:=400) (by kernel_rfl) (glazierlaw22_gone_i31_l2_ok fl) .nil))⟩ (inlL_cons ⟨⟨Try.f34,by kernel_rfl,by kernel_rfl,by kernel_rfl,by kernel_rfl,by kernel_rfl⟩,by kernel_rfl,(.cons (f:=400) (by kernel_rfl) (glazierlaw22_gone_i34_l1_ok fl) (.cons (f:=400) (by kernel_rfl) (glazierlaw22_gone_i34_l2_ok fl) .nil))⟩ inlL_nil))))) 12) (fun x y=>by kernel_rfl)

noncomputable def frags_Maker__Made_e:Ent:=⟨11,(.dp (.pair I8 (.pair I8 (.pair U8 (.pair U8 (.pair U8 (.pair U8 (.pair Y8 (.pair (.list Y2) (.pair (.list Y3) (.pair Y10 (.pair I8 I8)))))))))))),(.val false I8),fun y=>frags_Maker__Made y⟩
theorem frags_Maker__Made_ok:Ent.Ok Try.prog (frags_Maker__Made_e):=
  Ent.of (N:=7) (U:=60) allE_nil hmo (fn:=Try.f11) (c:=fnBody Try.f11) (G:=[]) (by kernel_rfl) (by kernel_rfl) (by kernel_rfl) (by kernel_rfl) (by kernel_rfl) (by kernel_rfl) (fun y=>by kernel_rfl) (rs:=[.tmp 2]) (by kernel_rfl) .nil (I:=inlNone) inl_none (fun y=>by kernel_rfl)

noncomputable def frags_Maker__Steps_e:Ent:=⟨13,(.dp (.pair I8 (.pair I8 (.pair U8 (.pair U8 (.pair U8 (.pair U8 (.pair Y8 (.pair (.list Y2) (.pair (.list Y3) (.pair Y10 (.pair I8 I8)))))))))))),(.val false I8),fun y=>frags_Maker__Steps y⟩
theorem frags_Maker__Steps_ok:Ent.Ok Try.prog (frags_Maker__Steps_e):=
  Ent.of (N:=7) (U:=60) allE_nil hmo (fn:=Try.f13) (c:=fnBody Try.f13) (G:=[]) (by kernel_rfl) (by kernel_rfl) (by kernel_rfl) (by kernel_rfl) (by kernel_rfl) (by kernel_rfl) (fun y=>by kernel_rfl) (rs:=[.tmp 2]) (by kernel_rfl) .nil (I:=inlNone) inl_none (fun y=>by kernel_rfl)

noncomputable def glazierlaw22_shown_e (fl:Nat):Ent:=⟨7,.nil,(.val false .bool),fun y=>glazierlaw22_shown fl⟩
theorem glazierlaw22_shown_ok (fl:Nat):Ent.Ok Try.prog (glazierlaw22_shown_e fl):=
  have hT:=allE_cons glazierlaw22_plain_ok (allE_cons frags_Maker__Made_ok (allE_cons frags_Maker__Steps_ok allE_nil)); Ent.of (N:=51) (U:=60) hT hmo (fn:=Try.f7) (c:=fnBody Try.f7) (G:=[]) (by kernel_rfl) (by kernel_rfl) (by kernel_rfl) (by kernel_rfl) (by kernel_rfl) (by kernel_rfl) (fun y=>by kernel_rfl) (rs:=[.tmp 0]) (by kernel_rfl) .nil (I:=inlTab _ Try.prog [glazierlaw22_gone_m fl] [⟨9,fnBody Try.f9,6,60,[.tmp 2],[]⟩] 12) (inlTab_ok hT hmo (allM_cons (glazierlaw22_gone_mok fl) allM_nil) (inlL_cons ⟨⟨Try.f9,by kernel_rfl,by kernel_rfl,by kernel_rfl,by kernel_rfl,by kernel_rfl⟩,by kernel_rfl,.nil⟩ inlL_nil) 12) (fun y=>by kernel_rfl)

noncomputable def glazierref14_mod_e:Ent:=⟨17,(.cons (.val false I8) (.val false I8)),(.val false I8),fun y=>glazierref14_mod y.1 y.2⟩
theorem glazierref14_mod_ok:Ent.Ok Try.prog (glazierref14_mod_e):=
  Ent.of (N:=15) (U:=60) allE_nil hmo (fn:=Try.f17) (c:=fnBody Try.f17) (G:=[]) (by kernel_rfl) (by kernel_rfl) (by kernel_rfl) (by kernel_rfl) (by kernel_rfl) (by kernel_rfl) (fun y=>by kernel_rfl) (rs:=[.tmp 4]) (by kernel_rfl) .nil (I:=inlNone) inl_none (fun y=>by kernel_rfl)

noncomputable def glazierref01_Div255_e:Ent:=⟨40,(.val false I8),(.val false I8),fun y=>glazierref01_Div255 y⟩
theorem glazierref01_Div255_ok:Ent.Ok Try.prog (glazierref01_Div255_e):=
  Ent.of (N:=11) (U:=60) allE_nil hmo (fn:=Try.f40) (c:=fnBody Try.f40) (G:=[]) (by kernel_rfl) (by kernel_rfl) (by kernel_rfl) (by kernel_rfl) (by kernel_rfl) (by kernel_rfl) (fun y=>by kernel_rfl) (rs:=[.tmp 2]) (by kernel_rfl) .nil (I:=inlNone) inl_none (fun y=>by kernel_rfl)

noncomputable def glazierref02_part_e:Ent:=⟨28,(.cons (.val false U8) (.val false U8)),(.val false U8),fun y=>glazierref02_part y.1 y.2⟩
theorem glazierref02_part_ok:Ent.Ok Try.prog (glazierref02_part_e):=
  Ent.of (N:=12) (U:=60) (allE_cons glazierref01_Div255_ok allE_nil) hmo (fn:=Try.f28) (c:=fnBody Try.f28) (G:=[]) (by kernel_rfl) (by kernel_rfl) (by kernel_rfl) (by kernel_rfl) (by kernel_rfl) (by kernel_rfl) (fun y=>by kernel_rfl) (rs:=[.tmp 4]) (by kernel_rfl) .nil (I:=inlNone) inl_none (fun y=>by kernel_rfl)

noncomputable def glazierref02_Pre_e:Ent:=⟨18,(.val true Y9),(.val true Y9),fun y=>glazierref02_Pre y⟩
theorem glazierref02_Pre_ok:Ent.Ok Try.prog (glazierref02_Pre_e):=
  Ent.of (N:=21) (U:=60) (allE_cons glazierref02_part_ok allE_nil) hmo (fn:=Try.f18) (c:=fnBody Try.f18) (G:=[]) (by kernel_rfl) (by kernel_rfl) (by kernel_rfl) (by kernel_rfl) (by kernel_rfl) (by kernel_rfl) (fun y=>by kernel_rfl) (rs:=[.cell 2 23]) (by kernel_rfl) .nil (I:=inlNone) inl_none (fun y=>by kernel_rfl)

noncomputable def glazierref04_Fit_e:Ent:=⟨19,(.val true Y12),(.val true Y12),fun y=>glazierref04_Fit y⟩
theorem glazierref04_Fit_ok:Ent.Ok Try.prog (glazierref04_Fit_e):=
  Ent.of (N:=42) (U:=60) allE_nil hmo (fn:=Try.f19) (c:=fnBody Try.f19) (G:=[]) (by kernel_rfl) (by kernel_rfl) (by kernel_rfl) (by kernel_rfl) (by kernel_rfl) (by kernel_rfl) (fun y=>by kernel_rfl) (rs:=[.cell 2 51]) (by kernel_rfl) .nil (I:=inlNone) inl_none (fun y=>by kernel_rfl)

@[reducible] def glazierlaw22_FragsKinds_i15_l1_V:VT:=[.slot 2 false [.kint .i64 9],z155,z156,z23,z45,z157,z46,z158,z159,z160,z161,z162,z163,z164,z165,z166]
@[reducible] def glazierlaw22_FragsKinds_i15_l1_X:List (Out × VT):=[(.exit 0,[z155,z156,z23,z45,z157,z158,z159,z160,z161,z162,z163,z164,z165,z166])]
noncomputable def glazierlaw22_FragsKinds_i15_l1_f (fl n:Nat):VT.T glazierlaw22_FragsKinds_i15_l1_V -> Option (XT glazierlaw22_FragsKinds_i15_l1_X):=fun v=>glazierlaw22_FragsKinds_i15_l1 fl n v.1 v.2.1 v.2.2.1 v.2.2.2.1 v.2.2.2.2.1 v.2.2.2.2.2.1 v.2.2.2.2.2.2.1 v.2.2.2.2.2.2.2.1 v.2.2.2.2.2.2.2.2.1 v.2.2.2.2.2.2.2.2.2.1 v.2.2.2.2.2.2.2.2.2.2.1 v.2.2.2.2.2.2.2.2.2.2.2.1 v.2.2.2.2.2.2.2.2.2.2.2.2.1 v.2.2.2.2.2.2.2.2.2.2.2.2.2.1 v.2.2.2.2.2.2.2.2.2.2.2.2.2.2.1 v.2.2.2.2.2.2.2.2.2.2.2.2.2.2.2.1 v.2.2.2.2.2.2.2.2.2.2.2.2.2.2.2.2.1 v.2.2.2.2.2.2.2.2.2.2.2.2.2.2.2.2.2.1 v.2.2.2.2.2.2.2.2.2.2.2.2.2.2.2.2.2.2.1 v.2.2.2.2.2.2.2.2.2.2.2.2.2.2.2.2.2.2.2.1 v.2.2.2.2.2.2.2.2.2.2.2.2.2.2.2.2.2.2.2.2.1 v.2.2.2.2.2.2.2.2.2.2.2.2.2.2.2.2.2.2.2.2.2.1 v.2.2.2.2.2.2.2.2.2.2.2.2.2.2.2.2.2.2.2.2.2.2.1 v.2.2.2.2.2.2.2.2.2.2.2.2.2.2.2.2.2.2.2.2.2.2.2.1 v.2.2.2.2.2.2.2.2.2.2.2.2.2.2.2.2.2.2.2.2.2.2.2.2.1 v.2.2.2.2.2.2.2.2.2.2.2.2.2.2.2.2.2.2.2.2.2.2.2.2.2.1 v.2.2.2.2.2.2.2.2.2.2.2.2.2.2.2.2.2.2.2.2.2.2.2.2.2.2.1 v.2.2.2.2.2.2.2.2.2.2.2.2.2.2.2.2.2.2.2.2.2.2.2.2.2.2.2.1 v.2.2.2.2.2.2.2.2.2.2.2.2.2.2.2.2.2.2.2.2.2.2.2.2.2.2.2.2.1
noncomputable def glazierlaw22_FragsKinds_i15_l1_s (fl:Nat):Seg:=⟨glazierlaw22_FragsKinds_i15_l1_V,glazierlaw22_FragsKinds_i15_l1_X,glazierlaw22_FragsKinds_i15_l1_f fl fl⟩
theorem glazierlaw22_FragsKinds_i15_l1_ok (fl:Nat):SegOk Try.prog 222 (.loop (loopBody (codeAt (fnBody Try.f15) 122))) (glazierlaw22_FragsKinds_i15_l1_s fl):=
  SegOk.loop (c0:=fnBody Try.f15) (p:=122) (U:=60) (allE_cons glazierref04_Fit_ok allE_nil) hmo (me:=15) ⟨Try.f15,by kernel_rfl,by kernel_rfl,by kernel_rfl⟩ (G:=[]) .nil (.of (f:=400) (by kernel_rfl)) (I:=Inl.mvd (inlTab _ Try.prog [] [⟨8,fnBody Try.f8,5,1060,[.cell 2 29],[]⟩,⟨9,fnBody Try.f9,6,60,[.tmp 2],[]⟩,⟨15,fnBody Try.f15,222,1060,[.cell 10 29],[]⟩] 12) true) (InlsOk.mvd (inlTab_ok (allE_cons glazierref04_Fit_ok allE_nil) hmo allM_nil (inlL_cons ⟨⟨Try.f8,by kernel_rfl,by kernel_rfl,by kernel_rfl,by kernel_rfl,by kernel_rfl⟩,by kernel_rfl,.nil⟩ (inlL_cons ⟨⟨Try.f9,by kernel_rfl,by kernel_rfl,by kernel_rfl,by kernel_rfl,by kernel_rfl⟩,by kernel_rfl,.nil⟩ (inlL_cons ⟨⟨Try.f15,by kernel_rfl,by kernel_rfl,by kernel_rfl,by kernel_rfl,by kernel_rfl⟩,by kernel_rfl,.nil⟩ inlL_nil))) 12) true) (F:=glazierlaw22_FragsKinds_i15_l1_f fl) (VT.okV (by kernel_rfl)) (VT.okX (by kernel_rfl)) (fun v=>by kernel_rfl) (fun n v=>by kernel_rfl) fl

noncomputable def glazierref11_wrap_e:Ent:=⟨29,(.cons (.val false I8) (.val false I8)),(.val false I8),fun y=>glazierref11_wrap y.1 y.2⟩
theorem glazierref11_wrap_ok:Ent.Ok Try.prog (glazierref11_wrap_e):=
  Ent.of (N:=15) (U:=60) allE_nil hmo (fn:=Try.f29) (c:=fnBody Try.f29) (G:=[]) (by kernel_rfl) (by kernel_rfl) (by kernel_rfl) (by kernel_rfl) (by kernel_rfl) (by kernel_rfl) (fun y=>by kernel_rfl) (rs:=[.tmp 4]) (by kernel_rfl) .nil (I:=inlNone) inl_none (fun y=>by kernel_rfl)

@[reducible] def glazierref11_Fit_l1_V:VT:=[.slot 1 false [.ptr 1 0],.slot 2 false [.ptr 2 0],z10,.slot 4 false [D],.box 1 75 [D,D,.dat (.list Y9)],z167,.box 3 75 [D,D,.own 23 Y9]]
@[reducible] def glazierref11_Fit_l1_X:List (Out × VT):=[(.exit 0,[.slot 2 false [.ptr 2 0],z10,z167,.box 3 75 [D,D,.own 23 Y9]])]
noncomputable def glazierref11_Fit_l1_f (fl n:Nat):VT.T glazierref11_Fit_l1_V -> Option (XT glazierref11_Fit_l1_X):=fun v=>glazierref11_Fit_l1 fl n v.1 v.2.1 v.2.2.1 v.2.2.2.1 v.2.2.2.2.1 v.2.2.2.2.2.1 v.2.2.2.2.2.2.1
noncomputable def glazierref11_Fit_l1_s (fl:Nat):Seg:=⟨glazierref11_Fit_l1_V,glazierref11_Fit_l1_X,glazierref11_Fit_l1_f fl fl⟩
theorem glazierref11_Fit_l1_ok (fl:Nat):SegOk Try.prog 47 (.loop (loopBody (codeAt (fnBody Try.f20) 58))) (glazierref11_Fit_l1_s fl):=
  SegOk.loop (c0:=fnBody Try.f20) (p:=58) (U:=60) allE_nil hmo (me:=20) ⟨Try.f20,by kernel_rfl,by kernel_rfl,by kernel_rfl⟩ (G:=[]) .nil (.of (f:=400) (by kernel_rfl)) (I:=inlNone) inl_none (F:=glazierref11_Fit_l1_f fl) (VT.okV (by kernel_rfl)) (VT.okX (by kernel_rfl)) (fun v=>by kernel_rfl) (fun n v=>by kernel_rfl) fl

noncomputable def glazierref11_Fit_e (fl:Nat):Ent:=⟨20,(.val true Y2),(.val true Y2),fun y=>glazierref11_Fit fl y⟩
theorem glazierref11_Fit_ok (fl:Nat):Ent.Ok Try.prog (glazierref11_Fit_e fl):=
  Ent.of (N:=47) (U:=60) (allE_cons glazierref11_wrap_ok allE_nil) hmo (fn:=Try.f20) (c:=fnBody Try.f20) (G:=[(58,glazierref11_Fit_l1_s fl)]) (by kernel_rfl) (by kernel_rfl) (by kernel_rfl) (by kernel_rfl) (by kernel_rfl) (by kernel_rfl) (fun y=>by kernel_rfl) (rs:=[.cell 2 75]) (by kernel_rfl) (.cons (f:=400) (by kernel_rfl) (glazierref11_Fit_l1_ok fl) .nil) (I:=inlNone) inl_none (fun y=>by kernel_rfl)

@[reducible] def glazierlaw22_FragsKinds_i15_l2_V:VT:=[z155,z156,z23,z45,z157,.slot 13 false [D],z158,z159,z160,z161,z162,z163,z168,z165,z166]
@[reducible] def glazierlaw22_FragsKinds_i15_l2_X:List (Out × VT):=[(.exit 2,[z155,z156,z23,z45,z157,z158,z159,z160,z161,z162,z163,z168,z165,z166])]
noncomputable def glazierlaw22_FragsKinds_i15_l2_f (fl n:Nat):VT.T glazierlaw22_FragsKinds_i15_l2_V -> Option (XT glazierlaw22_FragsKinds_i15_l2_X):=fun v=>glazierlaw22_FragsKinds_i15_l2 fl n v.1 v.2.1 v.2.2.1 v.2.2.2.1 v.2.2.2.2.1 v.2.2.2.2.2.1 v.2.2.2.2.2.2.1 v.2.2.2.2.2.2.2.1 v.2.2.2.2.2.2.2.2.1 v.2.2.2.2.2.2.2.2.2.1 v.2.2.2.2.2.2.2.2.2.2.1 v.2.2.2.2.2.2.2.2.2.2.2.1 v.2.2.2.2.2.2.2.2.2.2.2.2.1 v.2.2.2.2.2.2.2.2.2.2.2.2.2.1 v.2.2.2.2.2.2.2.2.2.2.2.2.2.2.1 v.2.2.2.2.2.2.2.2.2.2.2.2.2.2.2.1 v.2.2.2.2.2.2.2.2.2.2.2.2.2.2.2.2.1 v.2.2.2.2.2.2.2.2.2.2.2.2.2.2.2.2.2.1 v.2.2.2.2.2.2.2.2.2.2.2.2.2.2.2.2.2.2.1 v.2.2.2.2.2.2.2.2.2.2.2.2.2.2.2.2.2.2.2.1 v.2.2.2.2.2.2.2.2.2.2.2.2.2.2.2.2.2.2.2.2.1 v.2.2.2.2.2.2.2.2.2.2.2.2.2.2.2.2.2.2.2.2.2.1 v.2.2.2.2.2.2.2.2.2.2.2.2.2.2.2.2.2.2.2.2.2.2.1 v.2.2.2.2.2.2.2.2.2.2.2.2.2.2.2.2.2.2.2.2.2.2.2.1 v.2.2.2.2.2.2.2.2.2.2.2.2.2.2.2.2.2.2.2.2.2.2.2.2.1 v.2.2.2.2.2.2.2.2.2.2.2.2.2.2.2.2.2.2.2.2.2.2.2.2.2.1 v.2.2.2.2.2.2.2.2.2.2.2.2.2.2.2.2.2.2.2.2.2.2.2.2.2.2.1 v.2.2.2.2.2.2.2.2.2.2.2.2.2.2.2.2.2.2.2.2.2.2.2.2.2.2.2.1 v.2.2.2.2.2.2.2.2.2.2.2.2.2.2.2.2.2.2.2.2.2.2.2.2.2.2.2.2.1 v.2.2.2.2.2.2.2.2.2.2.2.2.2.2.2.2.2.2.2.2.2.2.2.2.2.2.2.2.2.1
noncomputable def glazierlaw22_FragsKinds_i15_l2_s (fl:Nat):Seg:=⟨glazierlaw22_FragsKinds_i15_l2_V,glazierlaw22_FragsKinds_i15_l2_X,glazierlaw22_FragsKinds_i15_l2_f fl fl⟩
theorem glazierlaw22_FragsKinds_i15_l2_ok (fl:Nat):SegOk Try.prog 222 (.loop (loopBody (codeAt (fnBody Try.f15) 250))) (glazierlaw22_FragsKinds_i15_l2_s fl):=
  have hT:=allE_cons glazierref04_Fit_ok (allE_cons (glazierref11_Fit_ok fl) allE_nil); SegOk.loop (c0:=fnBody Try.f15) (p:=250) (U:=60) hT hmo (me:=15) ⟨Try.f15,by kernel_rfl,by kernel_rfl,by kernel_rfl⟩ (G:=[(122,glazierlaw22_FragsKinds_i15_l1_s fl)]) (.cons (f:=400) (by kernel_rfl) (glazierlaw22_FragsKinds_i15_l1_ok fl) .nil) (.of (f:=400) (by kernel_rfl)) (I:=Inl.mvd (inlTab _ Try.prog [] [⟨8,fnBody Try.f8,5,1060,[.cell 2 29],[]⟩,⟨9,fnBody Try.f9,6,60,[.tmp 2],[]⟩,⟨15,fnBody Try.f15,222,1060,[.cell 10 29],[(122,glazierlaw22_FragsKinds_i15_l1_s fl)]⟩] 12) true) (InlsOk.mvd (inlTab_ok hT hmo allM_nil (inlL_cons ⟨⟨Try.f8,by kernel_rfl,by kernel_rfl,by kernel_rfl,by kernel_rfl,by kernel_rfl⟩,by kernel_rfl,.nil⟩ (inlL_cons ⟨⟨Try.f9,by kernel_rfl,by kernel_rfl,by kernel_rfl,by kernel_rfl,by kernel_rfl⟩,by kernel_rfl,.nil⟩ (inlL_cons ⟨⟨Try.f15,by kernel_rfl,by kernel_rfl,by kernel_rfl,by kernel_rfl,by kernel_rfl⟩,by kernel_rfl,(.cons (f:=400) (by kernel_rfl) (glazierlaw22_FragsKinds_i15_l1_ok fl) .nil)⟩ inlL_nil))) 12) true) (F:=glazierlaw22_FragsKinds_i15_l2_f fl) (VT.okV (by kernel_rfl)) (VT.okX (by kernel_rfl)) (fun v=>by kernel_rfl) (fun n v=>by kernel_rfl) fl

noncomputable def glazierref12_mod_e:Ent:=⟨41,(.cons (.val false I8) (.val false I8)),(.val false I8),fun y=>glazierref12_mod y.1 y.2⟩
theorem glazierref12_mod_ok:Ent.Ok Try.prog (glazierref12_mod_e):=
  Ent.of (N:=15) (U:=60) allE_nil hmo (fn:=Try.f41) (c:=fnBody Try.f41) (G:=[]) (by kernel_rfl) (by kernel_rfl) (by kernel_rfl) (by kernel_rfl) (by kernel_rfl) (by kernel_rfl) (fun y=>by kernel_rfl) (rs:=[.tmp 4]) (by kernel_rfl) .nil (I:=inlNone) inl_none (fun y=>by kernel_rfl)

noncomputable def glazierref12_fit_e:Ent:=⟨30,(.cons (.val true (.pair U8 (.pair U8 (.pair U8 (.pair U8 I8))))) (.cons (.val false I8) (.cons (.val false I8) (.val false .bool)))),(.val true (.pair U8 (.pair U8 (.pair U8 (.pair U8 I8))))),fun y=>glazierref12_fit y.1 y.2.1 y.2.2.1 y.2.2.2⟩
theorem glazierref12_fit_ok:Ent.Ok Try.prog (glazierref12_fit_e):=
  Ent.of (N:=70) (U:=60) (allE_cons glazierref12_mod_ok allE_nil) hmo (fn:=Try.f30) (c:=fnBody Try.f30) (G:=[]) (by kernel_rfl) (by kernel_rfl) (by kernel_rfl) (by kernel_rfl) (by kernel_rfl) (by kernel_rfl) (fun y=>by kernel_rfl) (rs:=[.cell 8 59]) (by kernel_rfl) .nil (I:=inlNone) inl_none (fun y=>by kernel_rfl)

@[reducible] def glazierref12_Fit_l1_V:VT:=[z18,.slot 1 false [.dat .bool],z6,.slot 5 false [D],z169,z19]
@[reducible] def glazierref12_Fit_l1_X:List (Out × VT):=[(.exit 0,[z6,z169])]
noncomputable def glazierref12_Fit_l1_f (fl n:Nat):VT.T glazierref12_Fit_l1_V -> Option (XT glazierref12_Fit_l1_X):=fun v=>glazierref12_Fit_l1 fl n v.1 v.2.1 v.2.2.1 v.2.2.2.1 v.2.2.2.2.1
noncomputable def glazierref12_Fit_l1_s (fl:Nat):Seg:=⟨glazierref12_Fit_l1_V,glazierref12_Fit_l1_X,glazierref12_Fit_l1_f fl fl⟩
theorem glazierref12_Fit_l1_ok (fl:Nat):SegOk Try.prog 34 (.loop (loopBody (codeAt (fnBody Try.f21) 250))) (glazierref12_Fit_l1_s fl):=
  SegOk.loop (c0:=fnBody Try.f21) (p:=250) (U:=60) (allE_cons glazierref12_fit_ok allE_nil) hmo (me:=21) ⟨Try.f21,by kernel_rfl,by kernel_rfl,by kernel_rfl⟩ (G:=[]) .nil (.of (f:=400) (by kernel_rfl)) (I:=inlNone) inl_none (F:=glazierref12_Fit_l1_f fl) (VT.okV (by kernel_rfl)) (VT.okX (by kernel_rfl)) (fun v=>by kernel_rfl) (fun n v=>by kernel_rfl) fl

noncomputable def glazierref12_Fit_e (fl:Nat):Ent:=⟨21,(.cons (.val false Y3) (.val false .bool)),(.own 59 (.pair U8 (.pair U8 (.pair U8 (.pair U8 I8))))),fun y=>glazierref12_Fit fl y.1 y.2⟩
theorem glazierref12_Fit_ok (fl:Nat):Ent.Ok Try.prog (glazierref12_Fit_e fl):=
  Ent.of (N:=34) (U:=60) (allE_cons glazierref12_fit_ok allE_nil) hmo (fn:=Try.f21) (c:=fnBody Try.f21) (G:=[(250,glazierref12_Fit_l1_s fl)]) (by kernel_rfl) (by kernel_rfl) (by kernel_rfl) (by kernel_rfl) (by kernel_rfl) (by kernel_rfl) (fun y=>by kernel_rfl) (rs:=[.tmp 4]) (by kernel_rfl) (.cons (f:=400) (by kernel_rfl) (glazierref12_Fit_l1_ok fl) .nil) (I:=inlNone) inl_none (fun y=>by kernel_rfl)

@[reducible] def glazierlaw22_FragsKinds_i15_l3_V:VT:=[z155,z156,z23,z45,z157,z8,z158,z170,z159,z160,z161,z162,z163,z171,z165,z166]
@[reducible] def glazierlaw22_FragsKinds_i15_l3_X:List (Out × VT):=[(.exit 4,[z155,z156,z23,z45,z157,z158,z170,z159,z160,z161,z162,z163,z171,z165,z166])]
noncomputable def glazierlaw22_FragsKinds_i15_l3_f (fl n:Nat):VT.T glazierlaw22_FragsKinds_i15_l3_V -> Option (XT glazierlaw22_FragsKinds_i15_l3_X):=fun v=>glazierlaw22_FragsKinds_i15_l3 fl n v.1 v.2.1 v.2.2.1 v.2.2.2.1 v.2.2.2.2.1 v.2.2.2.2.2.1 v.2.2.2.2.2.2.1 v.2.2.2.2.2.2.2.1 v.2.2.2.2.2.2.2.2.1 v.2.2.2.2.2.2.2.2.2.1 v.2.2.2.2.2.2.2.2.2.2.1 v.2.2.2.2.2.2.2.2.2.2.2.1 v.2.2.2.2.2.2.2.2.2.2.2.2.1 v.2.2.2.2.2.2.2.2.2.2.2.2.2.1 v.2.2.2.2.2.2.2.2.2.2.2.2.2.2.1 v.2.2.2.2.2.2.2.2.2.2.2.2.2.2.2.1 v.2.2.2.2.2.2.2.2.2.2.2.2.2.2.2.2.1 v.2.2.2.2.2.2.2.2.2.2.2.2.2.2.2.2.2.1 v.2.2.2.2.2.2.2.2.2.2.2.2.2.2.2.2.2.2.1 v.2.2.2.2.2.2.2.2.2.2.2.2.2.2.2.2.2.2.2.1 v.2.2.2.2.2.2.2.2.2.2.2.2.2.2.2.2.2.2.2.2.1 v.2.2.2.2.2.2.2.2.2.2.2.2.2.2.2.2.2.2.2.2.2.1 v.2.2.2.2.2.2.2.2.2.2.2.2.2.2.2.2.2.2.2.2.2.2.1 v.2.2.2.2.2.2.2.2.2.2.2.2.2.2.2.2.2.2.2.2.2.2.2.1 v.2.2.2.2.2.2.2.2.2.2.2.2.2.2.2.2.2.2.2.2.2.2.2.2.1 v.2.2.2.2.2.2.2.2.2.2.2.2.2.2.2.2.2.2.2.2.2.2.2.2.2.1 v.2.2.2.2.2.2.2.2.2.2.2.2.2.2.2.2.2.2.2.2.2.2.2.2.2.2.1 v.2.2.2.2.2.2.2.2.2.2.2.2.2.2.2.2.2.2.2.2.2.2.2.2.2.2.2.1 v.2.2.2.2.2.2.2.2.2.2.2.2.2.2.2.2.2.2.2.2.2.2.2.2.2.2.2.2.1 v.2.2.2.2.2.2.2.2.2.2.2.2.2.2.2.2.2.2.2.2.2.2.2.2.2.2.2.2.2.1 v.2.2.2.2.2.2.2.2.2.2.2.2.2.2.2.2.2.2.2.2.2.2.2.2.2.2.2.2.2.2.1
noncomputable def glazierlaw22_FragsKinds_i15_l3_s (fl:Nat):Seg:=⟨glazierlaw22_FragsKinds_i15_l3_V,glazierlaw22_FragsKinds_i15_l3_X,glazierlaw22_FragsKinds_i15_l3_f fl fl⟩
theorem glazierlaw22_FragsKinds_i15_l3_ok (fl:Nat):SegOk Try.prog 222 (.loop (loopBody (codeAt (fnBody Try.f15) 1018))) (glazierlaw22_FragsKinds_i15_l3_s fl):=
  have hT:=allE_cons glazierref04_Fit_ok (allE_cons (glazierref11_Fit_ok fl) (allE_cons (glazierref12_Fit_ok fl) allE_nil)); SegOk.loop (c0:=fnBody Try.f15) (p:=1018) (U:=60) hT hmo (me:=15) ⟨Try.f15,by kernel_rfl,by kernel_rfl,by kernel_rfl⟩ (G:=[(122,glazierlaw22_FragsKinds_i15_l1_s fl),(250,glazierlaw22_FragsKinds_i15_l2_s fl)]) (.cons (f:=400) (by kernel_rfl) (glazierlaw22_FragsKinds_i15_l1_ok fl) (.cons (f:=400) (by kernel_rfl) (glazierlaw22_FragsKinds_i15_l2_ok fl) .nil)) (.of (f:=400) (by kernel_rfl)) (I:=Inl.mvd (inlTab _ Try.prog [] [⟨8,fnBody Try.f8,5,1060,[.cell 2 29],[]⟩,⟨9,fnBody Try.f9,6,60,[.tmp 2],[]⟩,⟨15,fnBody Try.f15,222,1060,[.cell 10 29],[(122,glazierlaw22_FragsKinds_i15_l1_s fl),(250,glazierlaw22_FragsKinds_i15_l2_s fl)]⟩] 12) true) (InlsOk.mvd (inlTab_ok hT hmo allM_nil (inlL_cons ⟨⟨Try.f8,by kernel_rfl,by kernel_rfl,by kernel_rfl,by kernel_rfl,by kernel_rfl⟩,by kernel_rfl,.nil⟩ (inlL_cons ⟨⟨Try.f9,by kernel_rfl,by kernel_rfl,by kernel_rfl,by kernel_rfl,by kernel_rfl⟩,by kernel_rfl,.nil⟩ (inlL_cons ⟨⟨Try.f15,by kernel_rfl,by kernel_rfl,by kernel_rfl,by kernel_rfl,by kernel_rfl⟩,by kernel_rfl,(.cons (f:=400) (by kernel_rfl) (glazierlaw22_FragsKinds_i15_l1_ok fl) (.cons (f:=400) (by kernel_rfl) (glazierlaw22_FragsKinds_i15_l2_ok fl) .nil))⟩ inlL_nil))) 12) true) (F:=glazierlaw22_FragsKinds_i15_l3_f fl) (VT.okV (by kernel_rfl)) (VT.okX (by kernel_rfl)) (fun v=>by kernel_rfl) (fun n v=>by kernel_rfl) fl

@[reducible] def glazierlaw22_FragsKinds_i15_l4_V:VT:=[z155,z156,z23,z45,z157,z9,.slot 16 false [.ptr 16 0],z172,.slot 18 false [D],z158,z170,z159,z160,z161,z162,z163,z171,z173,z174,z165,z166]
@[reducible] def glazierlaw22_FragsKinds_i15_l4_X:List (Out × VT):=[(.exit 8,[z155,z156,z23,z45,z157,z9,z172,z158,z170,z159,z160,z161,z162,z163,z171,z174,z165,z166])]
noncomputable def glazierlaw22_FragsKinds_i15_l4_f (fl n:Nat):VT.T glazierlaw22_FragsKinds_i15_l4_V -> Option (XT glazierlaw22_FragsKinds_i15_l4_X):=fun v=>glazierlaw22_FragsKinds_i15_l4 fl n v.1 v.2.1 v.2.2.1 v.2.2.2.1 v.2.2.2.2.1 v.2.2.2.2.2.1 v.2.2.2.2.2.2.1 v.2.2.2.2.2.2.2.1 v.2.2.2.2.2.2.2.2.1 v.2.2.2.2.2.2.2.2.2.1 v.2.2.2.2.2.2.2.2.2.2.1 v.2.2.2.2.2.2.2.2.2.2.2.1 v.2.2.2.2.2.2.2.2.2.2.2.2.1 v.2.2.2.2.2.2.2.2.2.2.2.2.2.1 v.2.2.2.2.2.2.2.2.2.2.2.2.2.2.1 v.2.2.2.2.2.2.2.2.2.2.2.2.2.2.2.1 v.2.2.2.2.2.2.2.2.2.2.2.2.2.2.2.2.1 v.2.2.2.2.2.2.2.2.2.2.2.2.2.2.2.2.2.1 v.2.2.2.2.2.2.2.2.2.2.2.2.2.2.2.2.2.2.1 v.2.2.2.2.2.2.2.2.2.2.2.2.2.2.2.2.2.2.2.1 v.2.2.2.2.2.2.2.2.2.2.2.2.2.2.2.2.2.2.2.2.1 v.2.2.2.2.2.2.2.2.2.2.2.2.2.2.2.2.2.2.2.2.2.1 v.2.2.2.2.2.2.2.2.2.2.2.2.2.2.2.2.2.2.2.2.2.2.1 v.2.2.2.2.2.2.2.2.2.2.2.2.2.2.2.2.2.2.2.2.2.2.2.1 v.2.2.2.2.2.2.2.2.2.2.2.2.2.2.2.2.2.2.2.2.2.2.2.2.1 v.2.2.2.2.2.2.2.2.2.2.2.2.2.2.2.2.2.2.2.2.2.2.2.2.2.1 v.2.2.2.2.2.2.2.2.2.2.2.2.2.2.2.2.2.2.2.2.2.2.2.2.2.2.1 v.2.2.2.2.2.2.2.2.2.2.2.2.2.2.2.2.2.2.2.2.2.2.2.2.2.2.2.1 v.2.2.2.2.2.2.2.2.2.2.2.2.2.2.2.2.2.2.2.2.2.2.2.2.2.2.2.2.1 v.2.2.2.2.2.2.2.2.2.2.2.2.2.2.2.2.2.2.2.2.2.2.2.2.2.2.2.2.2.1 v.2.2.2.2.2.2.2.2.2.2.2.2.2.2.2.2.2.2.2.2.2.2.2.2.2.2.2.2.2.2.1 v.2.2.2.2.2.2.2.2.2.2.2.2.2.2.2.2.2.2.2.2.2.2.2.2.2.2.2.2.2.2.2.1 v.2.2.2.2.2.2.2.2.2.2.2.2.2.2.2.2.2.2.2.2.2.2.2.2.2.2.2.2.2.2.2.2.1 v.2.2.2.2.2.2.2.2.2.2.2.2.2.2.2.2.2.2.2.2.2.2.2.2.2.2.2.2.2.2.2.2.2.1 v.2.2.2.2.2.2.2.2.2.2.2.2.2.2.2.2.2.2.2.2.2.2.2.2.2.2.2.2.2.2.2.2.2.2.1 v.2.2.2.2.2.2.2.2.2.2.2.2.2.2.2.2.2.2.2.2.2.2.2.2.2.2.2.2.2.2.2.2.2.2.2.1 v.2.2.2.2.2.2.2.2.2.2.2.2.2.2.2.2.2.2.2.2.2.2.2.2.2.2.2.2.2.2.2.2.2.2.2.2.1 v.2.2.2.2.2.2.2.2.2.2.2.2.2.2.2.2.2.2.2.2.2.2.2.2.2.2.2.2.2.2.2.2.2.2.2.2.2.1 v.2.2.2.2.2.2.2.2.2.2.2.2.2.2.2.2.2.2.2.2.2.2.2.2.2.2.2.2.2.2.2.2.2.2.2.2.2.2.1 v.2.2.2.2.2.2.2.2.2.2.2.2.2.2.2.2.2.2.2.2.2.2.2.2.2.2.2.2.2.2.2.2.2.2.2.2.2.2.2.1 v.2.2.2.2.2.2.2.2.2.2.2.2.2.2.2.2.2.2.2.2.2.2.2.2.2.2.2.2.2.2.2.2.2.2.2.2.2.2.2.2.1 v.2.2.2.2.2.2.2.2.2.2.2.2.2.2.2.2.2.2.2.2.2.2.2.2.2.2.2.2.2.2.2.2.2.2.2.2.2.2.2.2.2.1
noncomputable def glazierlaw22_FragsKinds_i15_l4_s (fl:Nat):Seg:=⟨glazierlaw22_FragsKinds_i15_l4_V,glazierlaw22_FragsKinds_i15_l4_X,glazierlaw22_FragsKinds_i15_l4_f fl fl⟩
theorem glazierlaw22_FragsKinds_i15_l4_ok (fl:Nat):SegOk Try.prog 222 (.loop (loopBody (codeAt (fnBody Try.f15) 2091322))) (glazierlaw22_FragsKinds_i15_l4_s fl):=
  have hT:=allE_cons glazierref14_mod_ok (allE_cons glazierref04_Fit_ok (allE_cons (glazierref11_Fit_ok fl) (allE_cons (glazierref12_Fit_ok fl) allE_nil))); SegOk.loop (c0:=fnBody Try.f15) (p:=2091322) (U:=60) hT hmo (me:=15) ⟨Try.f15,by kernel_rfl,by kernel_rfl,by kernel_rfl⟩ (G:=[(122,glazierlaw22_FragsKinds_i15_l1_s fl),(250,glazierlaw22_FragsKinds_i15_l2_s fl),(1018,glazierlaw22_FragsKinds_i15_l3_s fl)]) (.cons (f:=400) (by kernel_rfl) (glazierlaw22_FragsKinds_i15_l1_ok fl) (.cons (f:=400) (by kernel_rfl) (glazierlaw22_FragsKinds_i15_l2_ok fl) (.cons (f:=400) (by kernel_rfl) (glazierlaw22_FragsKinds_i15_l3_ok fl) .nil))) (.of (f:=400) (by kernel_rfl)) (I:=Inl.mvd (inlTab _ Try.prog [] [⟨8,fnBody Try.f8,5,1060,[.cell 2 29],[]⟩,⟨9,fnBody Try.f9,6,60,[.tmp 2],[]⟩,⟨15,fnBody Try.f15,222,1060,[.cell 10 29],[(122,glazierlaw22_FragsKinds_i15_l1_s fl),(250,glazierlaw22_FragsKinds_i15_l2_s fl),(1018,glazierlaw22_FragsKinds_i15_l3_s fl)]⟩] 12) true) (InlsOk.mvd (inlTab_ok hT hmo allM_nil (inlL_cons ⟨⟨Try.f8,by kernel_rfl,by kernel_rfl,by kernel_rfl,by kernel_rfl,by kernel_rfl⟩,by kernel_rfl,.nil⟩ (inlL_cons ⟨⟨Try.f9,by kernel_rfl,by kernel_rfl,by kernel_rfl,by kernel_rfl,by kernel_rfl⟩,by kernel_rfl,.nil⟩ (inlL_cons ⟨⟨Try.f15,by kernel_rfl,by kernel_rfl,by kernel_rfl,by kernel_rfl,by kernel_rfl⟩,by kernel_rfl,(.cons (f:=400) (by kernel_rfl) (glazierlaw22_FragsKinds_i15_l1_ok fl) (.cons (f:=400) (by kernel_rfl) (glazierlaw22_FragsKinds_i15_l2_ok fl) (.cons (f:=400) (by kernel_rfl) (glazierlaw22_FragsKinds_i15_l3_ok fl) .nil)))⟩ inlL_nil))) 12) true) (F:=glazierlaw22_FragsKinds_i15_l4_f fl) (VT.okV (by kernel_rfl)) (VT.okX (by kernel_rfl)) (fun v=>by kernel_rfl) (fun n v=>by kernel_rfl) fl


end Go.Proofs.Ytkacojopcajboaa.G
