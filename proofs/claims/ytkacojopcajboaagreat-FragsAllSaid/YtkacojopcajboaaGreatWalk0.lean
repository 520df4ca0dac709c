/- A part of the proof. -/
import Derived.Test.YtkacojopcajboaaGreatGen
import Derived.Test.YtkacojopcajboaaGreatMchXa
import Derived.Test.YtkacojopcajboaaGreatProg
set_option linter.unusedVariables false
namespace Go.Proofs.YtkacojopcajboaaGreat.G
open Go Go.RowKit Go.Proofs.YtkacojopcajboaaGreat.M

theorem hmo:Tryz.prog.follows .mixedOrders = true:=by kernel_rfl

@[reducible] def I8:Ty:=.int .i64
@[reducible] def U8:Ty:=.int .u8
@[reducible] def W8:Ty:=.int .u64
@[reducible] def Y1:Ty:=.pair I8 (.pair I8 (.pair I8 I8))
@[reducible] def Y3:Ty:=.pair I8 (.pair I8 (.pair I8 Y1))
@[reducible] def Y4:Ty:=.pair U8 (.pair U8 (.pair U8 U8))
@[reducible] def Y5:Ty:=.list (.pair U8 (.pair U8 (.pair U8 (.pair U8 I8))))
@[reducible] def Y6:Ty:=.list (.pair I8 (.pair I8 (.pair I8 (.pair .bool (.list Y1)))))
@[reducible] def Y7:Ty:=.pair I8 (.pair I8 (.list Y4))
@[reducible] def Y8:Ty:=.pair I8 (.pair I8 (.pair U8 (.pair Y1 Y4)))
@[reducible] def Y10:Ty:=.pair I8 (.pair Y3 (.pair Y3 Y3))
@[reducible] def Y11:Ty:=.pair I8 Y3
@[reducible] def Y9:Ty:=.list Y11
@[reducible] def Y2:Ty:=.pair I8 (.pair I8 (.pair U8 (.pair U8 (.pair U8 (.pair U8 (.pair Y9 (.pair (.list Y7) (.pair (.list Y5) Y6))))))))
@[reducible] def D:CT:=.dat I8
@[reducible] def z0:It:=.slot 2 false [.dat W8]
@[reducible] def z1:It:=.slot 8 false [.dat W8]
@[reducible] def z2:It:=.slot 9 false [.dat W8]
@[reducible] def z3:It:=.slot 10 false [.dat W8]
@[reducible] def z4:It:=.slot 14 false [.dat W8]
@[reducible] def z5:It:=.slot 15 false [.dat W8]
@[reducible] def z6:It:=.slot 0 false [D]
@[reducible] def z7:It:=.slot 4 false [.nils]
@[reducible] def z8:It:=.slot 5 false [.own 66 Y11]
@[reducible] def z9:It:=.slot 1 false [D]
@[reducible] def z10:It:=.slot 6 false [.nils]
@[reducible] def z11:It:=.slot 8 false [.own 70 Y3]
@[reducible] def z12:It:=.slot 14 false [D]
@[reducible] def z13:It:=.slot 15 false [D]
@[reducible] def z14:It:=.slot 9 false [.own 73 Y10]
@[reducible] def z15:It:=.slot 10 false [D]
@[reducible] def z16:It:=.slot 2 false [D]
@[reducible] def z17:It:=.slot 3 false [.ptr 3 0]
@[reducible] def z18:It:=.box 3 71 [D,D,D,D,D,D,D,D,D,D,D,D,D,D,D,D,D,D,D,D,D]
@[reducible] def z19:It:=.slot 0 false [.yld 110000]
@[reducible] def z20:It:=.slot 100004 false [.ptr 100004 0]
@[reducible] def z21:It:=.slot 100005 false [.ptr 100005 0]
@[reducible] def z22:It:=.slot 100007 false [.ptr 100007 0]
@[reducible] def z23:It:=.slot 100011 false [.fn 93 (.val true U8)]
@[reducible] def z24:It:=.slot 110000 true [.kint .i64 0,.kint .i64 44,.kint .i64 58]
@[reducible] def z25:It:=.box 100003 71 [D,D,D,D,D,D,D,D,D,D,D,D,D,D,D,D,D,D,D,D,D]
@[reducible] def z26:It:=.slot 0 false [.dat Y5]
@[reducible] def z27:It:=.slot 7 false [D]
@[reducible] def z28:It:=.slot 8 false [D]
@[reducible] def z29:It:=.slot 4 false [D]
@[reducible] def z30:It:=.slot 6 false [D]
@[reducible] def z31:It:=.slot 4 false [.ptr 4 0]
@[reducible] def z32:It:=.slot 5 false [.ptr 5 0]
@[reducible] def z33:It:=.slot 6 false [.ptr 6 0]
@[reducible] def z34:It:=.box 4 82 [D,D,.dat (.list Y4)]
@[reducible] def z35:It:=.box 5 120 [D,D,D,D,D,D,D,D]
@[reducible] def z36:It:=.box 6 120 [.kint .i64 0,.kint .i64 0,.kint .i64 0,.kint .i64 0,.kint .i64 0,.kint .i64 0,.kint .i64 0,.kint .i64 0]
@[reducible] def z37:It:=.slot 0 false [.dat U8]
@[reducible] def z38:It:=.slot 7 false [.dat (.list I8)]
@[reducible] def z39:It:=.slot 9 false [D]
@[reducible] def z40:It:=.slot 200000 false [.dat Y5]
@[reducible] def z41:It:=.slot 200004 false [.ptr 200004 0]
@[reducible] def z42:It:=.slot 200005 false [.ptr 200005 0]
@[reducible] def z43:It:=.slot 200006 false [.ptr 200006 0]
@[reducible] def z44:It:=.slot 200010 false [.ptr 200010 0]
@[reducible] def z45:It:=.slot 200012 false [D]
@[reducible] def z46:It:=.slot 200013 false [D]
@[reducible] def z47:It:=.box 200004 82 [D,D,.dat (.list Y4)]
@[reducible] def z48:It:=.box 200005 120 [D,D,D,D,D,D,D,D]
@[reducible] def z49:It:=.box 200006 120 [.kint .i64 0,.kint .i64 0,.kint .i64 0,.kint .i64 0,.kint .i64 0,.kint .i64 0,.kint .i64 0,.kint .i64 0]
@[reducible] def z50:It:=.slot 100010 false [.ptr 100010 0]
@[reducible] def z51:It:=.box 100004 82 [D,D,.dat (.list Y4)]
@[reducible] def z52:It:=.box 100005 120 [D,D,D,D,D,D,D,D]
@[reducible] def z53:It:=.box 100006 120 [.kint .i64 0,.kint .i64 0,.kint .i64 0,.kint .i64 0,.kint .i64 0,.kint .i64 0,.kint .i64 0,.kint .i64 0]
@[reducible] def z54:It:=.slot 10 false [.ptr 10 0]
@[reducible] def z55:It:=.slot 12 false [D]
@[reducible] def z56:It:=.slot 13 false [D]
@[reducible] def z57:It:=.slot 100001 false [.ptr 401192 0]
@[reducible] def z58:It:=.slot 100003 false [.ptr 401194 0]
@[reducible] def z59:It:=.slot 100004 false [.ptr 401195 0]
@[reducible] def z60:It:=.slot 100005 false [.ptr 401196 0]
@[reducible] def z61:It:=.slot 100006 false [.ptr 401197 0]
@[reducible] def z62:It:=.slot 100007 false [.ptr 300007 0]
@[reducible] def z63:It:=.slot 100009 false [.ptr 100009 0]
@[reducible] def z64:It:=.slot 100012 false [.ptr 100012 0]
@[reducible] def z65:It:=.slot 100046 false [.own 73 Y10]
@[reducible] def z66:It:=.slot 100047 false [D]
@[reducible] def z67:It:=.slot 100048 false [D]
@[reducible] def z68:It:=.slot 100082 false [.fn 43 (.cons (.val true I8) (.cons (.val true I8) (.cons (.val true I8) (.val true I8))))]
@[reducible] def z69:It:=.slot 110000 true [.kint .i64 0,.kint .i64 23,.kint .i64 482510]
@[reducible] def z70:It:=.slot 200000 false [.yld 310000]
@[reducible] def z71:It:=.slot 200003 false [D]
@[reducible] def z72:It:=.slot 200007 false [.dat Y6]
@[reducible] def z73:It:=.slot 200008 false [D]
@[reducible] def z74:It:=.slot 200009 false [D]
@[reducible] def z75:It:=.slot 200016 false [D]
@[reducible] def z76:It:=.slot 200017 false [D]
@[reducible] def z77:It:=.slot 300001 false [.ptr 401192 0]
@[reducible] def z78:It:=.slot 300002 false [.ptr 401193 0]
@[reducible] def z79:It:=.slot 300003 false [.ptr 401194 0]
@[reducible] def z80:It:=.slot 300004 false [.ptr 401195 0]
@[reducible] def z81:It:=.slot 300005 false [.ptr 401196 0]
@[reducible] def z82:It:=.slot 300006 false [.ptr 401197 0]
@[reducible] def z83:It:=.slot 300007 false [.ptr 300007 0]
@[reducible] def z84:It:=.slot 300025 false [.fn 40 (.val true Y2)]
@[reducible] def z85:It:=.slot 310000 true [.kint .i64 1,.kint .i64 23,.kint .i64 14]
@[reducible] def z86:It:=.slot 400007 false [.ptr 400007 0]
@[reducible] def z87:It:=.slot 400008 false [.ptr 400008 0]
@[reducible] def z88:It:=.slot 400009 false [.ptr 400009 0]
@[reducible] def z89:It:=.slot 400010 false [.ptr 400010 0]
@[reducible] def z90:It:=.slot 410000 true [.kint .i64 0,.kint .i64 7,.kint .i64 250]
@[reducible] def z91:It:=.box 100009 3 [D]
@[reducible] def z92:It:=.box 100010 59 [D,D,D,.dat .bool,.dat (.list Y1)]
@[reducible] def z93:It:=.box 100012 73 [D,D,D,D,D,D,D,D,D,D,D,D,D,D,D,D,D,D,D,D,D,D]
@[reducible] def z94:It:=.box 300007 85 [.yld 410000]
@[reducible] def z95:It:=.box 400007 3 [D]
@[reducible] def z96:It:=.box 400008 36 [.nils]
@[reducible] def z97:It:=.box 400009 4 [.kbool false]
@[reducible] def z98:It:=.box 400010 36 [.own 50 Y8]
@[reducible] def z99:It:=.box 401192 34 [.ptr 410002 0]
@[reducible] def z100:It:=.box 401193 4 [.dat .bool]
@[reducible] def z101:It:=.box 401194 3 [D]
@[reducible] def z102:It:=.box 401195 3 [D]
@[reducible] def z103:It:=.box 401196 3 [D]
@[reducible] def z104:It:=.box 401197 3 [D]
@[reducible] def z105:It:=.box 410002 53 [D,D,.dat U8,.dat U8,.dat U8,.dat U8,.dat Y9,.dat (.list Y7),.dat (.list Y5),.dat Y6,D,D]
@[reducible] def z106:It:=.slot 110000 true [.kint .i64 2,.kint .i64 23,.kint .i64 482510]
@[reducible] def z107:It:=.slot 410000 true [D,.kint .i64 7,.kint .i64 250]
@[reducible] def z108:It:=.slot 9 false [.ptr 9 0]
@[reducible] def z109:It:=.slot 100000 false [.yld 210000]
@[reducible] def z110:It:=.slot 100003 false [D]
@[reducible] def z111:It:=.slot 100007 false [.dat Y6]
@[reducible] def z112:It:=.slot 100008 false [D]
@[reducible] def z113:It:=.slot 100009 false [D]
@[reducible] def z114:It:=.slot 100016 false [D]
@[reducible] def z115:It:=.slot 100017 false [D]
@[reducible] def z116:It:=.slot 200001 false [.ptr 301192 0]
@[reducible] def z117:It:=.slot 200002 false [.ptr 301193 0]
@[reducible] def z118:It:=.slot 200003 false [.ptr 301194 0]
@[reducible] def z119:It:=.slot 200004 false [.ptr 301195 0]
@[reducible] def z120:It:=.slot 200005 false [.ptr 301196 0]
@[reducible] def z121:It:=.slot 200006 false [.ptr 301197 0]
@[reducible] def z122:It:=.slot 200007 false [.ptr 200007 0]
@[reducible] def z123:It:=.slot 200025 false [.fn 40 (.val true Y2)]
@[reducible] def z124:It:=.slot 210000 true [.kint .i64 1,.kint .i64 23,.kint .i64 14]
@[reducible] def z125:It:=.slot 300008 false [.ptr 300008 0]
@[reducible] def z126:It:=.slot 300009 false [.ptr 300009 0]
@[reducible] def z127:It:=.slot 300010 false [.ptr 300010 0]
@[reducible] def z128:It:=.slot 310000 true [.kint .i64 0,.kint .i64 7,.kint .i64 250]
@[reducible] def z129:It:=.box 200007 85 [.yld 310000]
@[reducible] def z130:It:=.box 300007 3 [D]
@[reducible] def z131:It:=.box 300009 4 [.kbool false]
@[reducible] def z132:It:=.box 300010 36 [.own 50 Y8]
@[reducible] def z133:It:=.box 301192 34 [.ptr 310002 0]
@[reducible] def z134:It:=.box 301193 4 [.dat .bool]
@[reducible] def z135:It:=.box 301194 3 [D]
@[reducible] def z136:It:=.box 301195 3 [D]
@[reducible] def z137:It:=.box 301196 3 [D]
@[reducible] def z138:It:=.box 301197 3 [D]
@[reducible] def z139:It:=.box 310002 53 [D,D,.dat U8,.dat U8,.dat U8,.dat U8,.dat Y9,.dat (.list Y7),.dat (.list Y5),.dat Y6,D,D]
@[reducible] def z140:It:=.slot 3 false [D]
@[reducible] def z141:It:=.slot 7 false [.dat Y6]
@[reducible] def z142:It:=.slot 17 false [D]
@[reducible] def z143:It:=.slot 100001 false [.ptr 201192 0]
@[reducible] def z144:It:=.slot 100002 false [.ptr 201193 0]
@[reducible] def z145:It:=.slot 100003 false [.ptr 201194 0]
@[reducible] def z146:It:=.slot 100004 false [.ptr 201195 0]
@[reducible] def z147:It:=.slot 100005 false [.ptr 201196 0]
@[reducible] def z148:It:=.slot 100006 false [.ptr 201197 0]
@[reducible] def z149:It:=.slot 100025 false [.fn 40 (.val true Y2)]
@[reducible] def z150:It:=.slot 110000 true [.kint .i64 0,.kint .i64 23,.kint .i64 14]
@[reducible] def z151:It:=.slot 200008 false [.ptr 200008 0]
@[reducible] def z152:It:=.slot 200009 false [.ptr 200009 0]
@[reducible] def z153:It:=.slot 210000 true [.kint .i64 0,.kint .i64 7,.kint .i64 250]
@[reducible] def z154:It:=.box 100007 85 [.yld 210000]
@[reducible] def z155:It:=.box 200007 3 [D]
@[reducible] def z156:It:=.box 200008 36 [.nils]
@[reducible] def z157:It:=.box 200009 4 [.kbool false]
@[reducible] def z158:It:=.box 200010 36 [.own 50 Y8]
@[reducible] def z159:It:=.box 201192 34 [.ptr 210002 0]
@[reducible] def z160:It:=.box 201193 4 [.dat .bool]
@[reducible] def z161:It:=.box 201194 3 [D]
@[reducible] def z162:It:=.box 201195 3 [D]
@[reducible] def z163:It:=.box 201196 3 [D]
@[reducible] def z164:It:=.box 201197 3 [D]
@[reducible] def z165:It:=.box 210002 53 [D,D,.dat U8,.dat U8,.dat U8,.dat U8,.dat Y9,.dat (.list Y7),.dat (.list Y5),.dat Y6,D,D]
@[reducible] def z166:It:=.slot 110000 true [.kint .i64 2,.kint .i64 23,.kint .i64 14]
@[reducible] def z167:It:=.slot 210000 true [D,.kint .i64 7,.kint .i64 250]
@[reducible] def z168:It:=.slot 11 false [.ptr 11 0]
@[reducible] def z169:It:=.slot 36 false [.nils]
@[reducible] def z170:It:=.box 5 29 [D,D,.dat U8,.dat U8,.dat U8,.dat U8,.dat Y9,.dat (.list Y7),.dat (.list Y5),.dat Y6]
@[reducible] def z171:It:=.box 10 29 [.kint .i64 0,.kint .i64 0,.kint .u8 0,.kint .u8 0,.kint .u8 0,.kint .u8 0,.nils,.nils,.nils,.nils]
@[reducible] def z172:It:=.box 11 29 [D,D,.dat U8,.dat U8,.dat U8,.dat U8,.own 66 Y11,.nils,.nils,.nils]
@[reducible] def z173:It:=.slot 2 false [.ptr 2 0]
@[reducible] def z174:It:=.box 2 82 [.kint .i64 0,.kint .i64 0,.nils]
@[reducible] def z175:It:=.box 11 29 [D,D,.dat U8,.dat U8,.dat U8,.dat U8,.own 66 Y11,.own 82 Y7,.nils,.nils]
@[reducible] def z176:It:=.slot 6 false [.own 75 (.pair U8 (.pair U8 (.pair U8 (.pair U8 I8))))]
@[reducible] def z177:It:=.slot 88 false [.nils]
@[reducible] def z178:It:=.box 11 29 [D,D,.dat U8,.dat U8,.dat U8,.dat U8,.own 66 Y11,.own 82 Y7,.own 76 Y5,.nils]
@[reducible] def z179:It:=.slot 17 false [.ptr 17 0]
@[reducible] def z180:It:=.slot 18 false [D]
@[reducible] def z181:It:=.box 16 59 [D,D,D,.dat .bool,.dat (.list Y1)]
@[reducible] def z182:It:=.box 17 59 [D,D,D,.dat .bool,.own 62 Y1]
@[reducible] def z183:It:=.box 11 29 [D,D,.dat U8,.dat U8,.dat U8,.dat U8,.own 66 Y11,.own 82 Y7,.own 76 Y5,.own 59 (.pair I8 (.pair I8 (.pair I8 (.pair .bool (.list Y1)))))]
@[reducible] def z184:It:=.slot 7 false [.dat W8]
@[reducible] def z185:It:=.box 4 156 [.kint .u64 0,.kint .u64 0,.kbool false]
@[reducible] def z186:It:=.slot 7 false [.dat U8]
@[reducible] def z187:It:=.slot 2 false [.dat .bool]
@[reducible] def z188:It:=.slot 8 false [.ptr 8 0]
@[reducible] def z189:It:=.slot 10 false [.nils]
@[reducible] def z190:It:=.slot 12 false [.own 50 Y8]
@[reducible] def z191:It:=.slot 14 false [.ptr 14 0]
@[reducible] def z192:It:=.slot 19 false [D]
@[reducible] def z193:It:=.box 6 59 [D,D,D,.dat .bool,.dat (.list Y1)]
@[reducible] def z194:It:=.box 8 73 [D,D,D,D,D,D,D,D,D,D,D,D,D,D,D,D,D,D,D,D,D,D]
@[reducible] def z195:It:=.box 9 39 [D,D,D,D]
@[reducible] def z196:It:=.box 14 82 [D,D,.dat (.list Y4)]
@[reducible] def z197:It:=.slot 8 false [.own 50 Y8]
@[reducible] def z198:It:=.box 3 29 [D,D,.dat U8,.dat U8,.dat U8,.dat U8,.dat Y9,.dat (.list Y7),.dat (.list Y5),.dat Y6]
@[reducible] def z199:It:=.box 4 39 [D,D,D,D]
@[reducible] def z200:It:=.box 11 59 [D,D,D,.dat .bool,.dat (.list Y1)]

noncomputable def glazierlaw22_plain_e:Ent:=⟨13,.nil,(.val true (.pair I8 (.pair I8 (.pair Y4 (.pair Y9 (.pair (.list Y7) (.pair (.list Y5) Y6))))))),fun y=>glazierlaw22_plain⟩
theorem glazierlaw22_plain_ok:Ent.Ok Tryz.prog (glazierlaw22_plain_e):=
  Ent.of (N:=18) (U:=60) allE_nil hmo (fn:=Tryz.f13) (c:=fnBody Tryz.f13) (G:=[]) (by kernel_rfl) (by kernel_rfl) (by kernel_rfl) (by kernel_rfl) (by kernel_rfl) (by kernel_rfl) (fun y=>by kernel_rfl) (rs:=[.cell 0 29]) (by kernel_rfl) .nil (I:=inlNone) inl_none (fun y=>by kernel_rfl)

noncomputable def scene_Each_e:Ent:=⟨24,(.val true (.pair I8 (.pair I8 (.pair Y4 (.pair Y9 (.pair (.list Y7) (.pair (.list Y5) Y6))))))),(.fn 40 (.val true Y2)),fun y=>scene_Each y⟩
theorem scene_Each_ok:Ent.Ok Tryz.prog (scene_Each_e):=
  Ent.of (N:=4) (U:=60) allE_nil hmo (fn:=Tryz.f24) (c:=fnBody Tryz.f24) (G:=[]) (by kernel_rfl) (by kernel_rfl) (by kernel_rfl) (by kernel_rfl) (by kernel_rfl) (by kernel_rfl) (fun y=>by kernel_rfl) (rs:=[.tmp 2]) (by kernel_rfl) .nil (I:=inlTab _ Tryz.prog [] [⟨40,fnBody Tryz.f40,27,60,[],[]⟩] 12) (inlTab_ok allE_nil hmo allM_nil (inlL_cons ⟨⟨Tryz.f40,by kernel_rfl,by kernel_rfl,by kernel_rfl,by kernel_rfl,by kernel_rfl⟩,by kernel_rfl,.nil⟩ inlL_nil) 12) (fun y=>by kernel_rfl)

noncomputable def clip_own_e:Ent:=⟨90,(.val false Y9),(.own 66 Y11),fun y=>clip_own y⟩
theorem clip_own_ok:Ent.Ok Tryz.prog (clip_own_e):=
  Ent.of (N:=11) (U:=60) allE_nil hmo (fn:=Tryz.f90) (c:=fnBody Tryz.f90) (G:=[]) (by kernel_rfl) (by kernel_rfl) (by kernel_rfl) (by kernel_rfl) (by kernel_rfl) (by kernel_rfl) (fun y=>by kernel_rfl) (rs:=[.tmp 2]) (by kernel_rfl) .nil (I:=inlNone) inl_none (fun y=>by kernel_rfl)

noncomputable def vec_Dist_e:Ent:=⟨124,(.cons (.val false I8) (.val true Y11)),(.val false I8),fun y=>vec_Dist y.1 y.2⟩
theorem vec_Dist_ok:Ent.Ok Tryz.prog (vec_Dist_e):=
  Ent.of (N:=39) (U:=60) allE_nil hmo (fn:=Tryz.f124) (c:=fnBody Tryz.f124) (G:=[]) (by kernel_rfl) (by kernel_rfl) (by kernel_rfl) (by kernel_rfl) (by kernel_rfl) (by kernel_rfl) (fun y=>by kernel_rfl) (rs:=[.tmp 4]) (by kernel_rfl) .nil (I:=inlNone) inl_none (fun y=>by kernel_rfl)

noncomputable def vec_row_e:Ent:=⟨142,(.val true Y11),(.val true Y11),fun y=>vec_row y⟩
theorem vec_row_ok:Ent.Ok Tryz.prog (vec_row_e):=
  Ent.of (N:=24) (U:=60) allE_nil hmo (fn:=Tryz.f142) (c:=fnBody Tryz.f142) (G:=[]) (by kernel_rfl) (by kernel_rfl) (by kernel_rfl) (by kernel_rfl) (by kernel_rfl) (by kernel_rfl) (fun y=>by kernel_rfl) (rs:=[.cell 2 120]) (by kernel_rfl) .nil (I:=inlNone) inl_none (fun y=>by kernel_rfl)

noncomputable def fixed_size_e:Ent:=⟨139,(.val false I8),(.val false W8),fun y=>fixed_size y⟩
theorem fixed_size_ok:Ent.Ok Tryz.prog (fixed_size_e):=
  Ent.of (N:=8) (U:=60) allE_nil hmo (fn:=Tryz.f139) (c:=fnBody Tryz.f139) (G:=[]) (by kernel_rfl) (by kernel_rfl) (by kernel_rfl) (by kernel_rfl) (by kernel_rfl) (by kernel_rfl) (fun y=>by kernel_rfl) (rs:=[.tmp 2]) (by kernel_rfl) .nil (I:=inlNone) inl_none (fun y=>by kernel_rfl)

noncomputable def bits_Mul64_e:Ent:=⟨138,(.cons (.val false W8) (.val false W8)),(.cons (.val false W8) (.val false W8)),fun y=>bits_Mul64 y.1 y.2⟩
theorem bits_Mul64_ok:Ent.Ok Tryz.prog (bits_Mul64_e):=
  Ent.of (N:=51) (U:=60) allE_nil hmo (fn:=Tryz.f138) (c:=fnBody Tryz.f138) (G:=[]) (by kernel_rfl) (by kernel_rfl) (by kernel_rfl) (by kernel_rfl) (by kernel_rfl) (by kernel_rfl) (fun y=>by kernel_rfl) (rs:=[.tmp 4,.tmp 5]) (by kernel_rfl) .nil (I:=inlNone) inl_none (fun y=>by kernel_rfl)

noncomputable def bits_LeadingZeros64_e:Ent:=⟨148,(.val false W8),(.val false I8),fun y=>bits_LeadingZeros64 y⟩
theorem bits_LeadingZeros64_ok:Ent.Ok Tryz.prog bits_LeadingZeros64_e:=fun y x v h=>by cases h

@[reducible] def bits_Div64_l1_V:VT:=[z0,z1,z2,z3,.slot 11 false [.dat W8],.slot 13 false [.dat W8],z4,z5,.slot 16 false [.dat W8]]
@[reducible] def bits_Div64_l1_X:List (Out × VT):=[(.exit 0,[z0,z1,z2,z3,.slot 11 false [.dat W8],.slot 13 false [.dat W8],z4,z5])]
noncomputable def bits_Div64_l1_f (fl n:Nat):VT.T bits_Div64_l1_V -> Option (XT bits_Div64_l1_X):=fun v=>bits_Div64_l1 fl n v.1 v.2.1 v.2.2.1 v.2.2.2.1 v.2.2.2.2.1 v.2.2.2.2.2.1 v.2.2.2.2.2.2.1 v.2.2.2.2.2.2.2.1 v.2.2.2.2.2.2.2.2.1
noncomputable def bits_Div64_l1_s (fl:Nat):Seg:=⟨bits_Div64_l1_V,bits_Div64_l1_X,bits_Div64_l1_f fl fl⟩
theorem bits_Div64_l1_ok (fl:Nat):SegOk Tryz.prog 135 (.loop (loopBody (codeAt (fnBody Tryz.f140) 131068))) (bits_Div64_l1_s fl):=
  SegOk.loop (c0:=fnBody Tryz.f140) (p:=131068) (U:=60) allE_nil hmo (me:=140) ⟨Tryz.f140,by kernel_rfl,by kernel_rfl,by kernel_rfl⟩ (G:=[]) .nil (.of (f:=400) (by kernel_rfl)) (I:=inlNone) inl_none (F:=bits_Div64_l1_f fl) (VT.okV (by kernel_rfl)) (VT.okX (by kernel_rfl)) (fun v=>by kernel_rfl) (fun n v=>by kernel_rfl) fl

@[reducible] def bits_Div64_l2_V:VT:=[z0,z1,z2,z3,z4,z5,.slot 16 false [.dat W8],.slot 17 false [.dat W8],.slot 18 false [.dat W8]]
@[reducible] def bits_Div64_l2_X:List (Out × VT):=[(.exit 2,[z0,z1,z4,z5,.slot 17 false [.dat W8],.slot 18 false [.dat W8]])]
noncomputable def bits_Div64_l2_f (fl n:Nat):VT.T bits_Div64_l2_V -> Option (XT bits_Div64_l2_X):=fun v=>bits_Div64_l2 fl n v.1 v.2.1 v.2.2.1 v.2.2.2.1 v.2.2.2.2.1 v.2.2.2.2.2.1 v.2.2.2.2.2.2.1 v.2.2.2.2.2.2.2.1 v.2.2.2.2.2.2.2.2.1
noncomputable def bits_Div64_l2_s (fl:Nat):Seg:=⟨bits_Div64_l2_V,bits_Div64_l2_X,bits_Div64_l2_f fl fl⟩
theorem bits_Div64_l2_ok (fl:Nat):SegOk Tryz.prog 135 (.loop (loopBody (codeAt (fnBody Tryz.f140) 2097148))) (bits_Div64_l2_s fl):=
  SegOk.loop (c0:=fnBody Tryz.f140) (p:=2097148) (U:=60) allE_nil hmo (me:=140) ⟨Tryz.f140,by kernel_rfl,by kernel_rfl,by kernel_rfl⟩ (G:=[(131068,bits_Div64_l1_s fl)]) (.cons (f:=400) (by kernel_rfl) (bits_Div64_l1_ok fl) .nil) (.of (f:=400) (by kernel_rfl)) (I:=inlNone) inl_none (F:=bits_Div64_l2_f fl) (VT.okV (by kernel_rfl)) (VT.okX (by kernel_rfl)) (fun v=>by kernel_rfl) (fun n v=>by kernel_rfl) fl

noncomputable def bits_Div64_e (fl:Nat):Ent:=⟨140,(.cons (.val false W8) (.cons (.val false W8) (.val false W8))),(.cons (.val false W8) (.val false W8)),fun y=>bits_Div64 fl y.1 y.2.1 y.2.2⟩
theorem bits_Div64_ok (fl:Nat):Ent.Ok Tryz.prog (bits_Div64_e fl):=
  Ent.of (N:=135) (U:=60) (allE_cons bits_LeadingZeros64_ok allE_nil) hmo (fn:=Tryz.f140) (c:=fnBody Tryz.f140) (G:=[(131068,bits_Div64_l1_s fl),(2097148,bits_Div64_l2_s fl)]) (by kernel_rfl) (by kernel_rfl) (by kernel_rfl) (by kernel_rfl) (by kernel_rfl) (by kernel_rfl) (fun y=>by kernel_rfl) (rs:=[.tmp 6,.tmp 7]) (by kernel_rfl) (.cons (f:=400) (by kernel_rfl) (bits_Div64_l1_ok fl) (.cons (f:=400) (by kernel_rfl) (bits_Div64_l2_ok fl) .nil)) (I:=inlNone) inl_none (fun y=>by kernel_rfl)

noncomputable def fixed_checked_e:Ent:=⟨149,(.cons (.val false I8) (.val false .bool)),(.cons (.val false I8) (.val false I8)),fun y=>fixed_checked y.1 y.2⟩
theorem fixed_checked_ok:Ent.Ok Tryz.prog (fixed_checked_e):=
  Ent.of (N:=9) (U:=60) allE_nil hmo (fn:=Tryz.f149) (c:=fnBody Tryz.f149) (G:=[]) (by kernel_rfl) (by kernel_rfl) (by kernel_rfl) (by kernel_rfl) (by kernel_rfl) (by kernel_rfl) (fun y=>by kernel_rfl) (rs:=[.tmp 4,.tmp 5]) (by kernel_rfl) .nil (I:=inlNone) inl_none (fun y=>by kernel_rfl)

noncomputable def fixed_signed_e:Ent:=⟨141,(.cons (.val false W8) (.val false .bool)),(.cons (.val false I8) (.val false I8)),fun y=>fixed_signed y.1 y.2⟩
theorem fixed_signed_ok:Ent.Ok Tryz.prog (fixed_signed_e):=
  Ent.of (N:=22) (U:=60) (allE_cons fixed_checked_ok allE_nil) hmo (fn:=Tryz.f141) (c:=fnBody Tryz.f141) (G:=[]) (by kernel_rfl) (by kernel_rfl) (by kernel_rfl) (by kernel_rfl) (by kernel_rfl) (by kernel_rfl) (fun y=>by kernel_rfl) (rs:=[.tmp 4,.tmp 5]) (by kernel_rfl) .nil (I:=inlNone) inl_none (fun y=>by kernel_rfl)

noncomputable def fixed_MulDiv_e (fl:Nat):Ent:=⟨123,(.cons (.val false I8) (.cons (.val false I8) (.val false I8))),(.cons (.val false I8) (.val false I8)),fun y=>fixed_MulDiv fl y.1 y.2.1 y.2.2⟩
theorem fixed_MulDiv_ok (fl:Nat):Ent.Ok Tryz.prog (fixed_MulDiv_e fl):=
  Ent.of (N:=58) (U:=60) (allE_cons fixed_size_ok (allE_cons bits_Mul64_ok (allE_cons (bits_Div64_ok fl) (allE_cons fixed_signed_ok allE_nil)))) hmo (fn:=Tryz.f123) (c:=fnBody Tryz.f123) (G:=[]) (by kernel_rfl) (by kernel_rfl) (by kernel_rfl) (by kernel_rfl) (by kernel_rfl) (by kernel_rfl) (fun y=>by kernel_rfl) (rs:=[.tmp 6,.tmp 7]) (by kernel_rfl) .nil (I:=inlNone) inl_none (fun y=>by kernel_rfl)

noncomputable def vec_made_e:Ent:=⟨143,(.val true Y11),(.val true Y11),fun y=>vec_made y⟩
theorem vec_made_ok:Ent.Ok Tryz.prog (vec_made_e):=
  Ent.of (N:=15) (U:=60) allE_nil hmo (fn:=Tryz.f143) (c:=fnBody Tryz.f143) (G:=[]) (by kernel_rfl) (by kernel_rfl) (by kernel_rfl) (by kernel_rfl) (by kernel_rfl) (by kernel_rfl) (fun y=>by kernel_rfl) (rs:=[.cell 2 66]) (by kernel_rfl) .nil (I:=inlNone) inl_none (fun y=>by kernel_rfl)

noncomputable def vec_Between_e (fl:Nat):Ent:=⟨125,(.cons (.val true Y11) (.cons (.val true Y11) (.val false I8))),(.cons (.val true Y11) (.val false .bool)),fun y=>vec_Between fl y.1 y.2.1 y.2.2⟩
theorem vec_Between_ok (fl:Nat):Ent.Ok Tryz.prog (vec_Between_e fl):=
  Ent.of (N:=67) (U:=60) (allE_cons vec_Dist_ok (allE_cons vec_row_ok (allE_cons (fixed_MulDiv_ok fl) (allE_cons vec_made_ok allE_nil)))) hmo (fn:=Tryz.f125) (c:=fnBody Tryz.f125) (G:=[]) (by kernel_rfl) (by kernel_rfl) (by kernel_rfl) (by kernel_rfl) (by kernel_rfl) (by kernel_rfl) (fun y=>by kernel_rfl) (rs:=[.cell 6 66,.tmp 7]) (by kernel_rfl) .nil (I:=inlNone) inl_none (fun y=>by kernel_rfl)

@[reducible] def clip_By_l1_V:VT:=[z6,.slot 1 false [.dat Y9],z7,z8,.slot 19 false [.dat Y9],.slot 20 false [D],.slot 21 false [D]]
@[reducible] def clip_By_l1_X:List (Out × VT):=[(.exit 0,[z7,z8])]
noncomputable def clip_By_l1_f (fl n:Nat):VT.T clip_By_l1_V -> Option (XT clip_By_l1_X):=fun v=>clip_By_l1 fl n v.1 v.2.1 v.2.2.1 v.2.2.2.1 v.2.2.2.2.1 v.2.2.2.2.2.1
noncomputable def clip_By_l1_s (fl:Nat):Seg:=⟨clip_By_l1_V,clip_By_l1_X,clip_By_l1_f fl fl⟩
theorem clip_By_l1_ok (fl:Nat):SegOk Tryz.prog 58 (.loop (loopBody (codeAt (fnBody Tryz.f91) 122))) (clip_By_l1_s fl):=
  SegOk.loop (c0:=fnBody Tryz.f91) (p:=122) (U:=60) (allE_cons vec_Dist_ok (allE_cons (vec_Between_ok fl) allE_nil)) hmo (me:=91) ⟨Tryz.f91,by kernel_rfl,by kernel_rfl,by kernel_rfl⟩ (G:=[]) .nil (.of (f:=400) (by kernel_rfl)) (I:=inlNone) inl_none (F:=clip_By_l1_f fl) (VT.okV (by kernel_rfl)) (VT.okX (by kernel_rfl)) (fun v=>by kernel_rfl) (fun n v=>by kernel_rfl) fl

noncomputable def clip_By_e (fl:Nat):Ent:=⟨91,(.cons (.val false I8) (.val false Y9)),(.own 66 Y11),fun y=>clip_By fl y.1 y.2⟩
theorem clip_By_ok (fl:Nat):Ent.Ok Tryz.prog (clip_By_e fl):=
  Ent.of (N:=58) (U:=60) (allE_cons clip_own_ok (allE_cons vec_Dist_ok (allE_cons (vec_Between_ok fl) allE_nil))) hmo (fn:=Tryz.f91) (c:=fnBody Tryz.f91) (G:=[(122,clip_By_l1_s fl)]) (by kernel_rfl) (by kernel_rfl) (by kernel_rfl) (by kernel_rfl) (by kernel_rfl) (by kernel_rfl) (fun y=>by kernel_rfl) (rs:=[.tmp 4]) (by kernel_rfl) (.cons (f:=400) (by kernel_rfl) (clip_By_l1_ok fl) .nil) (I:=inlNone) inl_none (fun y=>by kernel_rfl)

noncomputable def clip_Poly_e (fl:Nat):Ent:=⟨62,(.val false Y9),(.own 66 Y11),fun y=>clip_Poly fl y⟩
theorem clip_Poly_ok (fl:Nat):Ent.Ok Tryz.prog (clip_Poly_e fl):=
  Ent.of (N:=18) (U:=60) (allE_cons clip_own_ok (allE_cons (clip_By_ok fl) allE_nil)) hmo (fn:=Tryz.f62) (c:=fnBody Tryz.f62) (G:=[]) (by kernel_rfl) (by kernel_rfl) (by kernel_rfl) (by kernel_rfl) (by kernel_rfl) (by kernel_rfl) (fun y=>by kernel_rfl) (rs:=[.tmp 2]) (by kernel_rfl) .nil (I:=inlNone) inl_none (fun y=>by kernel_rfl)

noncomputable def view_Point_1_e (fl:Nat):Ent:=⟨122,(.cons (.val false I8) (.cons (.val false I8) (.dp Y11))),(.val false I8),fun y=>view_Point_1 fl y.1 y.2.1 y.2.2⟩
theorem view_Point_1_ok (fl:Nat):Ent.Ok Tryz.prog (view_Point_1_e fl):=
  Ent.of (N:=19) (U:=60) (allE_cons (fixed_MulDiv_ok fl) allE_nil) hmo (fn:=Tryz.f122) (c:=fnBody Tryz.f122) (G:=[]) (by kernel_rfl) (by kernel_rfl) (by kernel_rfl) (by kernel_rfl) (by kernel_rfl) (by kernel_rfl) (fun y=>by kernel_rfl) (rs:=[.tmp 5]) (by kernel_rfl) .nil (I:=inlNone) inl_none (fun y=>by kernel_rfl)

noncomputable def view_Point_e (fl:Nat):Ent:=⟨89,(.cons (.val false I8) (.cons (.val false I8) (.val true Y11))),(.cons (.val true Y3) (.val false .bool)),fun y=>view_Point fl y.1 y.2.1 y.2.2⟩
theorem view_Point_ok (fl:Nat):Ent.Ok Tryz.prog (view_Point_e fl):=
  Ent.of (N:=42) (U:=60) (allE_cons (view_Point_1_ok fl) allE_nil) hmo (fn:=Tryz.f89) (c:=fnBody Tryz.f89) (G:=[]) (by kernel_rfl) (by kernel_rfl) (by kernel_rfl) (by kernel_rfl) (by kernel_rfl) (by kernel_rfl) (fun y=>by kernel_rfl) (rs:=[.cell 6 70,.tmp 7]) (by kernel_rfl) .nil (I:=inlNone) inl_none (fun y=>by kernel_rfl)

@[reducible] def view_Points_l1_V:VT:=[z6,z9,z10,z11,.slot 13 false [.dat Y9],z12,z13]
@[reducible] def view_Points_l1_X:List (Out × VT):=[(.ret,[z10,.slot 7 false [.kbool false]]),(.exit 0,[z10,z11])]
noncomputable def view_Points_l1_f (fl n:Nat):VT.T view_Points_l1_V -> Option (XT view_Points_l1_X):=fun v=>view_Points_l1 fl n v.1 v.2.1 v.2.2.1 v.2.2.2.1 v.2.2.2.2.1 v.2.2.2.2.2.1
noncomputable def view_Points_l1_s (fl:Nat):Seg:=⟨view_Points_l1_V,view_Points_l1_X,view_Points_l1_f fl fl⟩
theorem view_Points_l1_ok (fl:Nat):SegOk Tryz.prog 34 (.loop (loopBody (codeAt (fnBody Tryz.f61) 58))) (view_Points_l1_s fl):=
  SegOk.loop (c0:=fnBody Tryz.f61) (p:=58) (U:=60) (allE_cons (view_Point_ok fl) allE_nil) hmo (me:=61) ⟨Tryz.f61,by kernel_rfl,by kernel_rfl,by kernel_rfl⟩ (G:=[]) .nil (.of (f:=400) (by kernel_rfl)) (I:=inlNone) inl_none (F:=view_Points_l1_f fl) (VT.okV (by kernel_rfl)) (VT.okX (by kernel_rfl)) (fun v=>by kernel_rfl) (fun n v=>by kernel_rfl) fl

noncomputable def view_Points_e (fl:Nat):Ent:=⟨61,(.cons (.val false I8) (.cons (.val false I8) (.val false Y9))),(.cons (.own 70 Y3) (.val false .bool)),fun y=>view_Points fl y.1 y.2.1 y.2.2⟩
theorem view_Points_ok (fl:Nat):Ent.Ok Tryz.prog (view_Points_e fl):=
  Ent.of (N:=34) (U:=60) (allE_cons (view_Point_ok fl) allE_nil) hmo (fn:=Tryz.f61) (c:=fnBody Tryz.f61) (G:=[(58,view_Points_l1_s fl)]) (by kernel_rfl) (by kernel_rfl) (by kernel_rfl) (by kernel_rfl) (by kernel_rfl) (by kernel_rfl) (fun y=>by kernel_rfl) (rs:=[.tmp 6,.tmp 7]) (by kernel_rfl) (.cons (f:=400) (by kernel_rfl) (view_Points_l1_ok fl) .nil) (I:=inlNone) inl_none (fun y=>by kernel_rfl)

noncomputable def edge_Cross_e:Ent:=⟨96,(.cons (.val true Y3) (.cons (.val true Y3) (.cons (.val false I8) (.val false I8)))),(.val false I8),fun y=>edge_Cross y.1 y.2.1 y.2.2.1 y.2.2.2⟩
theorem edge_Cross_ok:Ent.Ok Tryz.prog (edge_Cross_e):=
  Ent.of (N:=30) (U:=60) allE_nil hmo (fn:=Tryz.f96) (c:=fnBody Tryz.f96) (G:=[]) (by kernel_rfl) (by kernel_rfl) (by kernel_rfl) (by kernel_rfl) (by kernel_rfl) (by kernel_rfl) (fun y=>by kernel_rfl) (rs:=[.tmp 8]) (by kernel_rfl) .nil (I:=inlNone) inl_none (fun y=>by kernel_rfl)

noncomputable def edge_Area_e:Ent:=⟨73,(.val true (.pair Y3 (.pair Y3 Y3))),(.val false I8),fun y=>edge_Area y⟩
theorem edge_Area_ok:Ent.Ok Tryz.prog (edge_Area_e):=
  Ent.of (N:=14) (U:=60) (allE_cons edge_Cross_ok allE_nil) hmo (fn:=Tryz.f73) (c:=fnBody Tryz.f73) (G:=[]) (by kernel_rfl) (by kernel_rfl) (by kernel_rfl) (by kernel_rfl) (by kernel_rfl) (by kernel_rfl) (fun y=>by kernel_rfl) (rs:=[.tmp 2]) (by kernel_rfl) .nil (I:=inlNone) inl_none (fun y=>by kernel_rfl)

noncomputable def edge_Turned_e:Ent:=⟨63,(.val true (.pair Y3 (.pair Y3 Y3))),(.cons (.val true (.pair Y3 (.pair Y3 Y3))) (.val false .bool)),fun y=>edge_Turned y⟩
theorem edge_Turned_ok:Ent.Ok Tryz.prog (edge_Turned_e):=
  Ent.of (N:=21) (U:=60) (allE_cons edge_Area_ok allE_nil) hmo (fn:=Tryz.f63) (c:=fnBody Tryz.f63) (G:=[]) (by kernel_rfl) (by kernel_rfl) (by kernel_rfl) (by kernel_rfl) (by kernel_rfl) (by kernel_rfl) (fun y=>by kernel_rfl) (rs:=[.cell 2 71,.tmp 3]) (by kernel_rfl) .nil (I:=inlNone) inl_none (fun y=>by kernel_rfl)

@[reducible] def setup_Parts_l1_V:VT:=[z10,.slot 7 false [.dat (.list Y3)],z14,z15]
@[reducible] def setup_Parts_l1_X:List (Out × VT):=[(.exit 0,[z10,z14])]
noncomputable def setup_Parts_l1_f (fl n:Nat):VT.T setup_Parts_l1_V -> Option (XT setup_Parts_l1_X):=fun v=>setup_Parts_l1 fl n v.1 v.2.1 v.2.2.1
noncomputable def setup_Parts_l1_s (fl:Nat):Seg:=⟨setup_Parts_l1_V,setup_Parts_l1_X,setup_Parts_l1_f fl fl⟩
theorem setup_Parts_l1_ok (fl:Nat):SegOk Tryz.prog 53 (.loop (loopBody (codeAt (fnBody Tryz.f41) 122))) (setup_Parts_l1_s fl):=
  SegOk.loop (c0:=fnBody Tryz.f41) (p:=122) (U:=60) (allE_cons edge_Turned_ok allE_nil) hmo (me:=41) ⟨Tryz.f41,by kernel_rfl,by kernel_rfl,by kernel_rfl⟩ (G:=[]) .nil (.of (f:=400) (by kernel_rfl)) (I:=inlNone) inl_none (F:=setup_Parts_l1_f fl) (VT.okV (by kernel_rfl)) (VT.okX (by kernel_rfl)) (fun v=>by kernel_rfl) (fun n v=>by kernel_rfl) fl

noncomputable def setup_Parts_e (fl:Nat):Ent:=⟨41,(.cons (.val false I8) (.cons (.val false I8) (.val true (.pair Y11 (.pair Y11 Y11))))),(.own 73 Y10),fun y=>setup_Parts fl y.1 y.2.1 y.2.2⟩
theorem setup_Parts_ok (fl:Nat):Ent.Ok Tryz.prog (setup_Parts_e fl):=
  Ent.of (N:=53) (U:=60) (allE_cons (clip_Poly_ok fl) (allE_cons (view_Points_ok fl) (allE_cons edge_Turned_ok allE_nil))) hmo (fn:=Tryz.f41) (c:=fnBody Tryz.f41) (G:=[(122,setup_Parts_l1_s fl)]) (by kernel_rfl) (by kernel_rfl) (by kernel_rfl) (by kernel_rfl) (by kernel_rfl) (by kernel_rfl) (fun y=>by kernel_rfl) (rs:=[.tmp 6]) (by kernel_rfl) (.cons (f:=400) (by kernel_rfl) (setup_Parts_l1_ok fl) .nil) (I:=inlNone) inl_none (fun y=>by kernel_rfl)

noncomputable def frags_Maker__parts_e (fl:Nat):Ent:=⟨25,(.cons (.dp (.pair I8 (.pair I8 (.pair U8 (.pair U8 (.pair U8 (.pair U8 (.pair Y9 (.pair (.list Y7) (.pair (.list Y5) (.pair Y6 (.pair I8 I8)))))))))))) (.val true Y1)),(.own 73 Y10),fun y=>frags_Maker__parts fl y.1 y.2⟩
theorem frags_Maker__parts_ok (fl:Nat):Ent.Ok Tryz.prog (frags_Maker__parts_e fl):=
  Ent.of (N:=47) (U:=60) (allE_cons (setup_Parts_ok fl) allE_nil) hmo (fn:=Tryz.f25) (c:=fnBody Tryz.f25) (G:=[]) (by kernel_rfl) (by kernel_rfl) (by kernel_rfl) (by kernel_rfl) (by kernel_rfl) (by kernel_rfl) (fun y=>by kernel_rfl) (rs:=[.tmp 4]) (by kernel_rfl) .nil (I:=inlNone) inl_none (fun y=>by kernel_rfl)

noncomputable def fixed_Floor_e (fl:Nat):Ent:=⟨92,(.cons (.val false I8) (.val false I8)),(.cons (.val false I8) (.val false I8)),fun y=>fixed_Floor fl y.1 y.2⟩
theorem fixed_Floor_ok (fl:Nat):Ent.Ok Tryz.prog (fixed_Floor_e fl):=
  Ent.of (N:=11) (U:=60) (allE_cons (fixed_MulDiv_ok fl) allE_nil) hmo (fn:=Tryz.f92) (c:=fnBody Tryz.f92) (G:=[]) (by kernel_rfl) (by kernel_rfl) (by kernel_rfl) (by kernel_rfl) (by kernel_rfl) (by kernel_rfl) (fun y=>by kernel_rfl) (rs:=[.tmp 4,.tmp 5]) (by kernel_rfl) .nil (I:=inlNone) inl_none (fun y=>by kernel_rfl)

noncomputable def view_Pixel_e (fl:Nat):Ent:=⟨64,(.val false I8),(.val false I8),fun y=>view_Pixel fl y⟩
theorem view_Pixel_ok (fl:Nat):Ent.Ok Tryz.prog (view_Pixel_e fl):=
  Ent.of (N:=11) (U:=60) (allE_cons (fixed_Floor_ok fl) allE_nil) hmo (fn:=Tryz.f64) (c:=fnBody Tryz.f64) (G:=[]) (by kernel_rfl) (by kernel_rfl) (by kernel_rfl) (by kernel_rfl) (by kernel_rfl) (by kernel_rfl) (fun y=>by kernel_rfl) (rs:=[.tmp 2]) (by kernel_rfl) .nil (I:=inlNone) inl_none (fun y=>by kernel_rfl)

noncomputable def setup_side_e (fl:Nat):Ent:=⟨42,(.cons (.val false I8) (.cons (.val false I8) (.cons (.val false I8) (.val false I8)))),(.cons (.val false I8) (.val false I8)),fun y=>setup_side fl y.1 y.2.1 y.2.2.1 y.2.2.2⟩
theorem setup_side_ok (fl:Nat):Ent.Ok Tryz.prog (setup_side_e fl):=
  Ent.of (N:=24) (U:=60) (allE_cons (view_Pixel_ok fl) allE_nil) hmo (fn:=Tryz.f42) (c:=fnBody Tryz.f42) (G:=[]) (by kernel_rfl) (by kernel_rfl) (by kernel_rfl) (by kernel_rfl) (by kernel_rfl) (by kernel_rfl) (fun y=>by kernel_rfl) (rs:=[.tmp 8,.tmp 9]) (by kernel_rfl) .nil (I:=inlNone) inl_none (fun y=>by kernel_rfl)

noncomputable def setup_Box_e (fl:Nat):Ent:=⟨26,(.cons (.val false I8) (.cons (.val false I8) (.val true (.pair Y3 (.pair Y3 Y3))))),(.cons (.val false I8) (.cons (.val false I8) (.cons (.val false I8) (.val false I8)))),fun y=>setup_Box fl y.1 y.2.1 y.2.2⟩
theorem setup_Box_ok (fl:Nat):Ent.Ok Tryz.prog (setup_Box_e fl):=
  Ent.of (N:=42) (U:=60) (allE_cons (setup_side_ok fl) allE_nil) hmo (fn:=Tryz.f26) (c:=fnBody Tryz.f26) (G:=[]) (by kernel_rfl) (by kernel_rfl) (by kernel_rfl) (by kernel_rfl) (by kernel_rfl) (by kernel_rfl) (fun y=>by kernel_rfl) (rs:=[.tmp 6,.tmp 7,.tmp 8,.tmp 9]) (by kernel_rfl) .nil (I:=inlNone) inl_none (fun y=>by kernel_rfl)

noncomputable def setup_Pixels_e:Ent:=⟨27,(.cons (.val false I8) (.cons (.val false I8) (.cons (.val false I8) (.val false I8)))),(.fn 43 (.cons (.val true I8) (.cons (.val true I8) (.cons (.val true I8) (.val true I8))))),fun y=>setup_Pixels y.1 y.2.1 y.2.2.1 y.2.2.2⟩
theorem setup_Pixels_ok:Ent.Ok Tryz.prog (setup_Pixels_e):=
  Ent.of (N:=10) (U:=60) allE_nil hmo (fn:=Tryz.f27) (c:=fnBody Tryz.f27) (G:=[]) (by kernel_rfl) (by kernel_rfl) (by kernel_rfl) (by kernel_rfl) (by kernel_rfl) (by kernel_rfl) (fun y=>by kernel_rfl) (rs:=[.tmp 8]) (by kernel_rfl) .nil (I:=inlTab _ Tryz.prog [] [⟨43,fnBody Tryz.f43,25,60,[],[]⟩] 12) (inlTab_ok allE_nil hmo allM_nil (inlL_cons ⟨⟨Tryz.f43,by kernel_rfl,by kernel_rfl,by kernel_rfl,by kernel_rfl,by kernel_rfl⟩,by kernel_rfl,.nil⟩ inlL_nil) 12) (fun y=>by kernel_rfl)

noncomputable def cover_Bits_e:Ent:=⟨65,(.val false U8),(.fn 93 (.val true U8)),fun y=>cover_Bits y⟩
theorem cover_Bits_ok:Ent.Ok Tryz.prog (cover_Bits_e):=
  Ent.of (N:=4) (U:=60) allE_nil hmo (fn:=Tryz.f65) (c:=fnBody Tryz.f65) (G:=[]) (by kernel_rfl) (by kernel_rfl) (by kernel_rfl) (by kernel_rfl) (by kernel_rfl) (by kernel_rfl) (fun y=>by kernel_rfl) (rs:=[.tmp 2]) (by kernel_rfl) .nil (I:=inlTab _ Tryz.prog [] [⟨93,fnBody Tryz.f93,17,60,[],[]⟩] 12) (inlTab_ok allE_nil hmo allM_nil (inlL_cons ⟨⟨Tryz.f93,by kernel_rfl,by kernel_rfl,by kernel_rfl,by kernel_rfl,by kernel_rfl⟩,by kernel_rfl,.nil⟩ inlL_nil) 12) (fun y=>by kernel_rfl)

noncomputable def bits_TrailingZeros8_e:Ent:=⟨94,(.val false U8),(.val false I8),fun y=>bits_TrailingZeros8 y⟩
theorem bits_TrailingZeros8_ok:Ent.Ok Tryz.prog (bits_TrailingZeros8_e):=
  Ent.of (N:=6) (U:=60) allE_nil hmo (fn:=Tryz.f94) (c:=fnBody Tryz.f94) (G:=[]) (by kernel_rfl) (by kernel_rfl) (by kernel_rfl) (by kernel_rfl) (by kernel_rfl) (by kernel_rfl) (fun y=>by kernel_rfl) (rs:=[.tmp 2]) (by kernel_rfl) .nil (I:=inlNone) inl_none (fun y=>by kernel_rfl)

noncomputable def cover_places_e:Ent:=⟨95,(.val false I8),(.cons (.val false I8) (.val false I8)),fun y=>cover_places y⟩
theorem cover_places_ok:Ent.Ok Tryz.prog (cover_places_e):=
  Ent.of (N:=11) (U:=60) allE_nil hmo (fn:=Tryz.f95) (c:=fnBody Tryz.f95) (G:=[]) (by kernel_rfl) (by kernel_rfl) (by kernel_rfl) (by kernel_rfl) (by kernel_rfl) (by kernel_rfl) (fun y=>by kernel_rfl) (rs:=[.tmp 2,.tmp 3]) (by kernel_rfl) .nil (I:=inlNone) inl_none (fun y=>by kernel_rfl)

noncomputable def cover_Sample_e:Ent:=⟨66,(.cons (.val false I8) (.cons (.val false I8) (.val false I8))),(.cons (.val false I8) (.val false I8)),fun y=>cover_Sample y.1 y.2.1 y.2.2⟩
theorem cover_Sample_ok:Ent.Ok Tryz.prog (cover_Sample_e):=
  Ent.of (N:=23) (U:=60) (allE_cons cover_places_ok allE_nil) hmo (fn:=Tryz.f66) (c:=fnBody Tryz.f66) (G:=[]) (by kernel_rfl) (by kernel_rfl) (by kernel_rfl) (by kernel_rfl) (by kernel_rfl) (by kernel_rfl) (fun y=>by kernel_rfl) (rs:=[.tmp 6,.tmp 7]) (by kernel_rfl) .nil (I:=inlNone) inl_none (fun y=>by kernel_rfl)

noncomputable def edge_First_e:Ent:=⟨97,(.cons (.val true Y3) (.val true Y3)),(.val false .bool),fun y=>edge_First y.1 y.2⟩
theorem edge_First_ok:Ent.Ok Tryz.prog (edge_First_e):=
  Ent.of (N:=20) (U:=60) allE_nil hmo (fn:=Tryz.f97) (c:=fnBody Tryz.f97) (G:=[]) (by kernel_rfl) (by kernel_rfl) (by kernel_rfl) (by kernel_rfl) (by kernel_rfl) (by kernel_rfl) (fun y=>by kernel_rfl) (rs:=[.tmp 4]) (by kernel_rfl) .nil (I:=inlNone) inl_none (fun y=>by kernel_rfl)

@[reducible] def edge_In_l1_V:VT:=[z9,z16,z17,z12,z18]
@[reducible] def edge_In_l1_X:List (Out × VT):=[(.ret,[.slot 6 false [.kbool false]]),(.exit 0,[])]
noncomputable def edge_In_l1_f (fl n:Nat):VT.T edge_In_l1_V -> Option (XT edge_In_l1_X):=fun v=>edge_In_l1 fl n v.1 v.2.1 v.2.2.1 v.2.2.2.1 v.2.2.2.2.1 v.2.2.2.2.2.1 v.2.2.2.2.2.2.1 v.2.2.2.2.2.2.2.1 v.2.2.2.2.2.2.2.2.1 v.2.2.2.2.2.2.2.2.2.1 v.2.2.2.2.2.2.2.2.2.2.1 v.2.2.2.2.2.2.2.2.2.2.2.1 v.2.2.2.2.2.2.2.2.2.2.2.2.1 v.2.2.2.2.2.2.2.2.2.2.2.2.2.1 v.2.2.2.2.2.2.2.2.2.2.2.2.2.2.1 v.2.2.2.2.2.2.2.2.2.2.2.2.2.2.2.1 v.2.2.2.2.2.2.2.2.2.2.2.2.2.2.2.2.1 v.2.2.2.2.2.2.2.2.2.2.2.2.2.2.2.2.2.1 v.2.2.2.2.2.2.2.2.2.2.2.2.2.2.2.2.2.2.1 v.2.2.2.2.2.2.2.2.2.2.2.2.2.2.2.2.2.2.2.1 v.2.2.2.2.2.2.2.2.2.2.2.2.2.2.2.2.2.2.2.2.1 v.2.2.2.2.2.2.2.2.2.2.2.2.2.2.2.2.2.2.2.2.2.1 v.2.2.2.2.2.2.2.2.2.2.2.2.2.2.2.2.2.2.2.2.2.2.1 v.2.2.2.2.2.2.2.2.2.2.2.2.2.2.2.2.2.2.2.2.2.2.2.1
noncomputable def edge_In_l1_s (fl:Nat):Seg:=⟨edge_In_l1_V,edge_In_l1_X,edge_In_l1_f fl fl⟩
theorem edge_In_l1_ok (fl:Nat):SegOk Tryz.prog 43 (.loop (loopBody (codeAt (fnBody Tryz.f67) 58))) (edge_In_l1_s fl):=
  SegOk.loop (c0:=fnBody Tryz.f67) (p:=58) (U:=60) (allE_cons edge_Cross_ok (allE_cons edge_First_ok allE_nil)) hmo (me:=67) ⟨Tryz.f67,by kernel_rfl,by kernel_rfl,by kernel_rfl⟩ (G:=[]) .nil (.of (f:=400) (by kernel_rfl)) (I:=inlNone) inl_none (F:=edge_In_l1_f fl) (VT.okV (by kernel_rfl)) (VT.okX (by kernel_rfl)) (fun v=>by kernel_rfl) (fun n v=>by kernel_rfl) fl

noncomputable def edge_In_e (fl:Nat):Ent:=⟨67,(.cons (.val true (.pair Y3 (.pair Y3 Y3))) (.cons (.val false I8) (.val false I8))),(.val false .bool),fun y=>edge_In fl y.1 y.2.1 y.2.2⟩
theorem edge_In_ok (fl:Nat):Ent.Ok Tryz.prog (edge_In_e fl):=
  Ent.of (N:=43) (U:=60) (allE_cons edge_Cross_ok (allE_cons edge_Area_ok (allE_cons edge_First_ok allE_nil))) hmo (fn:=Tryz.f67) (c:=fnBody Tryz.f67) (G:=[(58,edge_In_l1_s fl)]) (by kernel_rfl) (by kernel_rfl) (by kernel_rfl) (by kernel_rfl) (by kernel_rfl) (by kernel_rfl) (fun y=>by kernel_rfl) (rs:=[.tmp 6]) (by kernel_rfl) (.cons (f:=400) (by kernel_rfl) (edge_In_l1_ok fl) .nil) (I:=inlNone) inl_none (fun y=>by kernel_rfl)

@[reducible] def cover_Mask_i93_l1_V:VT:=[z19,.slot 3 false [.dat U8],.slot 100003 false [.ptr 100003 0],z20,z21,z22,z23,z24,z25,.box 100004 3 [D],.box 100005 3 [D],.box 100007 5 [.dat U8]]
@[reducible] def cover_Mask_i93_l1_X:List (Out × VT):=[(.exit 0,[.slot 100003 false [.ptr 100003 0],z20,z21,z22,z23,z24,z25,.box 100004 3 [D],.box 100005 3 [D],.box 100007 5 [.dat U8]])]
noncomputable def cover_Mask_i93_l1_f (fl n:Nat):VT.T cover_Mask_i93_l1_V -> Option (XT cover_Mask_i93_l1_X):=fun v=>cover_Mask_i93_l1 fl n v.1 v.2.1 v.2.2.1 v.2.2.2.1 v.2.2.2.2.1 v.2.2.2.2.2.1 v.2.2.2.2.2.2.1 v.2.2.2.2.2.2.2.1 v.2.2.2.2.2.2.2.2.1 v.2.2.2.2.2.2.2.2.2.1 v.2.2.2.2.2.2.2.2.2.2.1 v.2.2.2.2.2.2.2.2.2.2.2.1 v.2.2.2.2.2.2.2.2.2.2.2.2.1 v.2.2.2.2.2.2.2.2.2.2.2.2.2.1 v.2.2.2.2.2.2.2.2.2.2.2.2.2.2.1 v.2.2.2.2.2.2.2.2.2.2.2.2.2.2.2.1 v.2.2.2.2.2.2.2.2.2.2.2.2.2.2.2.2.1 v.2.2.2.2.2.2.2.2.2.2.2.2.2.2.2.2.2.1 v.2.2.2.2.2.2.2.2.2.2.2.2.2.2.2.2.2.2.1 v.2.2.2.2.2.2.2.2.2.2.2.2.2.2.2.2.2.2.2.1 v.2.2.2.2.2.2.2.2.2.2.2.2.2.2.2.2.2.2.2.2.1 v.2.2.2.2.2.2.2.2.2.2.2.2.2.2.2.2.2.2.2.2.2.1 v.2.2.2.2.2.2.2.2.2.2.2.2.2.2.2.2.2.2.2.2.2.2.1 v.2.2.2.2.2.2.2.2.2.2.2.2.2.2.2.2.2.2.2.2.2.2.2.1 v.2.2.2.2.2.2.2.2.2.2.2.2.2.2.2.2.2.2.2.2.2.2.2.2.1 v.2.2.2.2.2.2.2.2.2.2.2.2.2.2.2.2.2.2.2.2.2.2.2.2.2.1
noncomputable def cover_Mask_i93_l1_s (fl:Nat):Seg:=⟨cover_Mask_i93_l1_V,cover_Mask_i93_l1_X,cover_Mask_i93_l1_f fl fl⟩
theorem cover_Mask_i93_l1_ok (fl:Nat):SegOk Tryz.prog 17 (.loop (loopBody (codeAt (fnBody Tryz.f93) 6))) (cover_Mask_i93_l1_s fl):=
  have hT:=allE_cons bits_TrailingZeros8_ok (allE_cons cover_Sample_ok (allE_cons (edge_In_ok fl) allE_nil)); SegOk.loop (c0:=fnBody Tryz.f93) (p:=6) (U:=60) hT hmo (me:=93) ⟨Tryz.f93,by kernel_rfl,by kernel_rfl,by kernel_rfl⟩ (G:=[]) .nil (.of (f:=400) (by kernel_rfl)) (I:=inlTab _ Tryz.prog [] [⟨44,fnBody Tryz.f44,29,60,[.tmp 6],[]⟩,⟨93,fnBody Tryz.f93,17,60,[],[]⟩] 12) (inlTab_ok hT hmo allM_nil (inlL_cons ⟨⟨Tryz.f44,by kernel_rfl,by kernel_rfl,by kernel_rfl,by kernel_rfl,by kernel_rfl⟩,by kernel_rfl,.nil⟩ (inlL_cons ⟨⟨Tryz.f93,by kernel_rfl,by kernel_rfl,by kernel_rfl,by kernel_rfl,by kernel_rfl⟩,by kernel_rfl,.nil⟩ inlL_nil)) 12) (F:=cover_Mask_i93_l1_f fl) (VT.okV (by kernel_rfl)) (VT.okX (by kernel_rfl)) (fun v=>by kernel_rfl) (fun n v=>by kernel_rfl) fl

noncomputable def cover_Mask_e (fl:Nat):Ent:=⟨44,(.cons (.val true (.pair Y3 (.pair Y3 Y3))) (.cons (.val false I8) (.val false I8))),(.val false U8),fun y=>cover_Mask fl y.1 y.2.1 y.2.2⟩
theorem cover_Mask_ok (fl:Nat):Ent.Ok Tryz.prog (cover_Mask_e fl):=
  have hT:=allE_cons cover_Bits_ok (allE_cons bits_TrailingZeros8_ok (allE_cons cover_Sample_ok (allE_cons (edge_In_ok fl) allE_nil))); Ent.of (N:=29) (U:=60) hT hmo (fn:=Tryz.f44) (c:=fnBody Tryz.f44) (G:=[]) (by kernel_rfl) (by kernel_rfl) (by kernel_rfl) (by kernel_rfl) (by kernel_rfl) (by kernel_rfl) (fun y=>by kernel_rfl) (rs:=[.tmp 6]) (by kernel_rfl) .nil (I:=inlTab _ Tryz.prog [] [⟨44,fnBody Tryz.f44,29,60,[.tmp 6],[]⟩,⟨93,fnBody Tryz.f93,17,60,[],[(6,cover_Mask_i93_l1_s fl)]⟩] 12) (inlTab_ok hT hmo allM_nil (inlL_cons ⟨⟨Tryz.f44,by kernel_rfl,by kernel_rfl,by kernel_rfl,by kernel_rfl,by kernel_rfl⟩,by kernel_rfl,.nil⟩ (inlL_cons ⟨⟨Tryz.f93,by kernel_rfl,by kernel_rfl,by kernel_rfl,by kernel_rfl,by kernel_rfl⟩,by kernel_rfl,(.cons (f:=400) (by kernel_rfl) (cover_Mask_i93_l1_ok fl) .nil)⟩ inlL_nil)) 12) (fun y=>by kernel_rfl)

noncomputable def frags_Maker__tex_e:Ent:=⟨46,(.cons (.dp (.pair I8 (.pair I8 (.pair U8 (.pair U8 (.pair U8 (.pair U8 (.pair Y9 (.pair (.list Y7) (.pair (.list Y5) (.pair Y6 (.pair I8 I8)))))))))))) (.val true (.pair I8 (.pair I8 (.pair I8 (.pair .bool (.list Y1))))))),(.val true Y7),fun y=>frags_Maker__tex y.1 y.2⟩
theorem frags_Maker__tex_ok:Ent.Ok Tryz.prog (frags_Maker__tex_e):=
  Ent.of (N:=18) (U:=60) allE_nil hmo (fn:=Tryz.f46) (c:=fnBody Tryz.f46) (G:=[]) (by kernel_rfl) (by kernel_rfl) (by kernel_rfl) (by kernel_rfl) (by kernel_rfl) (by kernel_rfl) (fun y=>by kernel_rfl) (rs:=[.cell 4 82]) (by kernel_rfl) .nil (I:=inlNone) inl_none (fun y=>by kernel_rfl)

noncomputable def plane_Attrs_1_e:Ent:=⟨72,(.cons (.val true Y3) (.dp I8)),(.val false I8),fun y=>plane_Attrs_1 y.1 y.2⟩
theorem plane_Attrs_1_ok:Ent.Ok Tryz.prog (plane_Attrs_1_e):=
  Ent.of (N:=8) (U:=60) allE_nil hmo (fn:=Tryz.f72) (c:=fnBody Tryz.f72) (G:=[]) (by kernel_rfl) (by kernel_rfl) (by kernel_rfl) (by kernel_rfl) (by kernel_rfl) (by kernel_rfl) (fun y=>by kernel_rfl) (rs:=[.tmp 3]) (by kernel_rfl) .nil (I:=inlNone) inl_none (fun y=>by kernel_rfl)

noncomputable def view_Centre_e:Ent:=⟨112,(.val false I8),(.val false I8),fun y=>view_Centre y⟩
theorem view_Centre_ok:Ent.Ok Tryz.prog (view_Centre_e):=
  Ent.of (N:=6) (U:=60) allE_nil hmo (fn:=Tryz.f112) (c:=fnBody Tryz.f112) (G:=[]) (by kernel_rfl) (by kernel_rfl) (by kernel_rfl) (by kernel_rfl) (by kernel_rfl) (by kernel_rfl) (fun y=>by kernel_rfl) (rs:=[.tmp 2]) (by kernel_rfl) .nil (I:=inlNone) inl_none (fun y=>by kernel_rfl)

noncomputable def plane_At_e (fl:Nat):Ent:=⟨111,(.cons (.val true (.pair Y3 (.pair Y3 Y3))) (.cons (.val true (.pair I8 (.pair I8 I8))) (.cons (.val false I8) (.val false I8)))),(.val false I8),fun y=>plane_At fl y.1 y.2.1 y.2.2.1 y.2.2.2⟩
theorem plane_At_ok (fl:Nat):Ent.Ok Tryz.prog (plane_At_e fl):=
  Ent.of (N:=64) (U:=60) (allE_cons (fixed_MulDiv_ok fl) (allE_cons edge_Cross_ok (allE_cons edge_Area_ok allE_nil))) hmo (fn:=Tryz.f111) (c:=fnBody Tryz.f111) (G:=[]) (by kernel_rfl) (by kernel_rfl) (by kernel_rfl) (by kernel_rfl) (by kernel_rfl) (by kernel_rfl) (fun y=>by kernel_rfl) (rs:=[.tmp 8]) (by kernel_rfl) .nil (I:=inlNone) inl_none (fun y=>by kernel_rfl)

noncomputable def plane_each_e (fl:Nat):Ent:=⟨71,(.cons (.val true (.pair Y3 (.pair Y3 Y3))) (.cons (.val false I8) (.cons (.val false I8) (.fn 72 (.val true I8))))),(.val false I8),fun y=>plane_each fl y.1 y.2.1 y.2.2.1 y.2.2.2⟩
theorem plane_each_ok (fl:Nat):Ent.Ok Tryz.prog (plane_each_e fl):=
  Ent.of (N:=28) (U:=60) (allE_cons plane_Attrs_1_ok (allE_cons view_Centre_ok (allE_cons (plane_At_ok fl) allE_nil))) hmo (fn:=Tryz.f71) (c:=fnBody Tryz.f71) (G:=[]) (by kernel_rfl) (by kernel_rfl) (by kernel_rfl) (by kernel_rfl) (by kernel_rfl) (by kernel_rfl) (fun y=>by kernel_rfl) (rs:=[.tmp 8]) (by kernel_rfl) .nil (I:=inlNone) inl_none (fun y=>by kernel_rfl)

noncomputable def plane_Attrs_e (fl:Nat):Ent:=⟨47,(.cons (.val true (.pair Y3 (.pair Y3 Y3))) (.cons (.val false I8) (.val false I8))),(.val true Y1),fun y=>plane_Attrs fl y.1 y.2.1 y.2.2⟩
theorem plane_Attrs_ok (fl:Nat):Ent.Ok Tryz.prog (plane_Attrs_e fl):=
  Ent.of (N:=21) (U:=60) (allE_cons (plane_each_ok fl) allE_nil) hmo (fn:=Tryz.f47) (c:=fnBody Tryz.f47) (G:=[]) (by kernel_rfl) (by kernel_rfl) (by kernel_rfl) (by kernel_rfl) (by kernel_rfl) (by kernel_rfl) (fun y=>by kernel_rfl) (rs:=[.cell 6 39]) (by kernel_rfl) .nil (I:=inlNone) inl_none (fun y=>by kernel_rfl)

noncomputable def code_uses_e:Ent:=⟨144,(.val false U8),(.val false I8),fun y=>code_uses y⟩
theorem code_uses_ok:Ent.Ok Tryz.prog (code_uses_e):=
  Ent.of (N:=24) (U:=60) allE_nil hmo (fn:=Tryz.f144) (c:=fnBody Tryz.f144) (G:=[]) (by kernel_rfl) (by kernel_rfl) (by kernel_rfl) (by kernel_rfl) (by kernel_rfl) (by kernel_rfl) (fun y=>by kernel_rfl) (rs:=[.tmp 2]) (by kernel_rfl) .nil (I:=inlNone) inl_none (fun y=>by kernel_rfl)

noncomputable def code_asks_e:Ent:=⟨128,(.val true (.pair U8 (.pair U8 (.pair U8 (.pair U8 I8))))),(.val false .bool),fun y=>code_asks y⟩
theorem code_asks_ok:Ent.Ok Tryz.prog (code_asks_e):=
  Ent.of (N:=11) (U:=60) allE_nil hmo (fn:=Tryz.f128) (c:=fnBody Tryz.f128) (G:=[]) (by kernel_rfl) (by kernel_rfl) (by kernel_rfl) (by kernel_rfl) (by kernel_rfl) (by kernel_rfl) (fun y=>by kernel_rfl) (rs:=[.tmp 2]) (by kernel_rfl) .nil (I:=inlNone) inl_none (fun y=>by kernel_rfl)

noncomputable def code_fits_e:Ent:=⟨145,(.cons (.val false I8) (.cons (.val false I8) (.cons (.val false I8) (.val false .bool)))),(.val false .bool),fun y=>code_fits y.1 y.2.1 y.2.2.1 y.2.2.2⟩
theorem code_fits_ok:Ent.Ok Tryz.prog (code_fits_e):=
  Ent.of (N:=24) (U:=60) allE_nil hmo (fn:=Tryz.f145) (c:=fnBody Tryz.f145) (G:=[]) (by kernel_rfl) (by kernel_rfl) (by kernel_rfl) (by kernel_rfl) (by kernel_rfl) (by kernel_rfl) (fun y=>by kernel_rfl) (rs:=[.tmp 8]) (by kernel_rfl) .nil (I:=inlNone) inl_none (fun y=>by kernel_rfl)

noncomputable def code_One_e:Ent:=⟨126,(.cons (.val true (.pair U8 (.pair U8 (.pair U8 (.pair U8 I8))))) (.cons (.val false I8) (.val false I8))),(.val false .bool),fun y=>code_One y.1 y.2.1 y.2.2⟩
theorem code_One_ok:Ent.Ok Tryz.prog (code_One_e):=
  Ent.of (N:=82) (U:=60) (allE_cons code_uses_ok (allE_cons code_asks_ok (allE_cons code_fits_ok allE_nil))) hmo (fn:=Tryz.f126) (c:=fnBody Tryz.f126) (G:=[]) (by kernel_rfl) (by kernel_rfl) (by kernel_rfl) (by kernel_rfl) (by kernel_rfl) (by kernel_rfl) (fun y=>by kernel_rfl) (rs:=[.tmp 6]) (by kernel_rfl) .nil (I:=inlNone) inl_none (fun y=>by kernel_rfl)

@[reducible] def code_Check_l1_V:VT:=[z26,.slot 13 false [.dat Y5],z12,z13]
@[reducible] def code_Check_l1_X:List (Out × VT):=[(.ret,[.slot 2 false [.kint .i64 23]]),(.exit 0,[])]
noncomputable def code_Check_l1_f (fl n:Nat):VT.T code_Check_l1_V -> Option (XT code_Check_l1_X):=fun v=>code_Check_l1 fl n v.1 v.2.1 v.2.2.1 v.2.2.2.1
noncomputable def code_Check_l1_s (fl:Nat):Seg:=⟨code_Check_l1_V,code_Check_l1_X,code_Check_l1_f fl fl⟩
theorem code_Check_l1_ok (fl:Nat):SegOk Tryz.prog 27 (.loop (loopBody (codeAt (fnBody Tryz.f98) 58))) (code_Check_l1_s fl):=
  SegOk.loop (c0:=fnBody Tryz.f98) (p:=58) (U:=60) (allE_cons code_One_ok allE_nil) hmo (me:=98) ⟨Tryz.f98,by kernel_rfl,by kernel_rfl,by kernel_rfl⟩ (G:=[]) .nil (.of (f:=400) (by kernel_rfl)) (I:=inlNone) inl_none (F:=code_Check_l1_f fl) (VT.okV (by kernel_rfl)) (VT.okX (by kernel_rfl)) (fun v=>by kernel_rfl) (fun n v=>by kernel_rfl) fl

noncomputable def code_Check_e (fl:Nat):Ent:=⟨98,(.val false Y5),(.val false I8),fun y=>code_Check fl y⟩
theorem code_Check_ok (fl:Nat):Ent.Ok Tryz.prog (code_Check_e fl):=
  Ent.of (N:=27) (U:=60) (allE_cons code_One_ok allE_nil) hmo (fn:=Tryz.f98) (c:=fnBody Tryz.f98) (G:=[(58,code_Check_l1_s fl)]) (by kernel_rfl) (by kernel_rfl) (by kernel_rfl) (by kernel_rfl) (by kernel_rfl) (by kernel_rfl) (fun y=>by kernel_rfl) (rs:=[.tmp 2]) (by kernel_rfl) (.cons (f:=400) (by kernel_rfl) (code_Check_l1_ok fl) .nil) (I:=inlNone) inl_none (fun y=>by kernel_rfl)

@[reducible] def slices_IndexFunc_l1_V:VT:=[z26,.slot 1 false [.fn 128 .nil],z27,z28]
@[reducible] def slices_IndexFunc_l1_X:List (Out × VT):=[(.ret,[z29]),(.exit 0,[])]
noncomputable def slices_IndexFunc_l1_f (fl n:Nat):VT.T slices_IndexFunc_l1_V -> Option (XT slices_IndexFunc_l1_X):=fun v=>slices_IndexFunc_l1 fl n v.1 v.2.1 v.2.2.1 v.2.2.2.1
noncomputable def slices_IndexFunc_l1_s (fl:Nat):Seg:=⟨slices_IndexFunc_l1_V,slices_IndexFunc_l1_X,slices_IndexFunc_l1_f fl fl⟩
theorem slices_IndexFunc_l1_ok (fl:Nat):SegOk Tryz.prog 19 (.loop (loopBody (codeAt (fnBody Tryz.f146) 26))) (slices_IndexFunc_l1_s fl):=
  SegOk.loop (c0:=fnBody Tryz.f146) (p:=26) (U:=60) (allE_cons code_asks_ok allE_nil) hmo (me:=146) ⟨Tryz.f146,by kernel_rfl,by kernel_rfl,by kernel_rfl⟩ (G:=[]) .nil (.of (f:=400) (by kernel_rfl)) (I:=inlNone) inl_none (F:=slices_IndexFunc_l1_f fl) (VT.okV (by kernel_rfl)) (VT.okX (by kernel_rfl)) (fun v=>by kernel_rfl) (fun n v=>by kernel_rfl) fl

noncomputable def slices_IndexFunc_e (fl:Nat):Ent:=⟨146,(.cons (.val false Y5) (.fn 128 .nil)),(.val false I8),fun y=>slices_IndexFunc fl y.1 y.2⟩
theorem slices_IndexFunc_ok (fl:Nat):Ent.Ok Tryz.prog (slices_IndexFunc_e fl):=
  Ent.of (N:=19) (U:=60) (allE_cons code_asks_ok allE_nil) hmo (fn:=Tryz.f146) (c:=fnBody Tryz.f146) (G:=[(26,slices_IndexFunc_l1_s fl)]) (by kernel_rfl) (by kernel_rfl) (by kernel_rfl) (by kernel_rfl) (by kernel_rfl) (by kernel_rfl) (fun y=>by kernel_rfl) (rs:=[.tmp 4]) (by kernel_rfl) (.cons (f:=400) (by kernel_rfl) (slices_IndexFunc_l1_ok fl) .nil) (I:=inlNone) inl_none (fun y=>by kernel_rfl)

noncomputable def slices_ContainsFunc_e (fl:Nat):Ent:=⟨127,(.cons (.val false Y5) (.fn 128 .nil)),(.val false .bool),fun y=>slices_ContainsFunc fl y.1 y.2⟩
theorem slices_ContainsFunc_ok (fl:Nat):Ent.Ok Tryz.prog (slices_ContainsFunc_e fl):=
  Ent.of (N:=9) (U:=60) (allE_cons (slices_IndexFunc_ok fl) allE_nil) hmo (fn:=Tryz.f127) (c:=fnBody Tryz.f127) (G:=[]) (by kernel_rfl) (by kernel_rfl) (by kernel_rfl) (by kernel_rfl) (by kernel_rfl) (by kernel_rfl) (fun y=>by kernel_rfl) (rs:=[.tmp 4]) (by kernel_rfl) .nil (I:=inlNone) inl_none (fun y=>by kernel_rfl)

noncomputable def code_Samples_e (fl:Nat):Ent:=⟨99,(.val false Y5),(.val false .bool),fun y=>code_Samples fl y⟩
theorem code_Samples_ok (fl:Nat):Ent.Ok Tryz.prog (code_Samples_e fl):=
  Ent.of (N:=5) (U:=60) (allE_cons (slices_ContainsFunc_ok fl) allE_nil) hmo (fn:=Tryz.f99) (c:=fnBody Tryz.f99) (G:=[]) (by kernel_rfl) (by kernel_rfl) (by kernel_rfl) (by kernel_rfl) (by kernel_rfl) (by kernel_rfl) (fun y=>by kernel_rfl) (rs:=[.tmp 2]) (by kernel_rfl) .nil (I:=inlNone) inl_none (fun y=>by kernel_rfl)

@[reducible] def texture_sides_l1_V:VT:=[.slot 5 false [.dat (.list I8)],z30,z27]
@[reducible] def texture_sides_l1_X:List (Out × VT):=[(.ret,[.slot 2 false [.kbool false]]),(.exit 0,[])]
noncomputable def texture_sides_l1_f (fl n:Nat):VT.T texture_sides_l1_V -> Option (XT texture_sides_l1_X):=fun v=>texture_sides_l1 fl n v.1 v.2.1 v.2.2.1
noncomputable def texture_sides_l1_s (fl:Nat):Seg:=⟨texture_sides_l1_V,texture_sides_l1_X,texture_sides_l1_f fl fl⟩
theorem texture_sides_l1_ok (fl:Nat):SegOk Tryz.prog 18 (.loop (loopBody (codeAt (fnBody Tryz.f129) 26))) (texture_sides_l1_s fl):=
  SegOk.loop (c0:=fnBody Tryz.f129) (p:=26) (U:=60) allE_nil hmo (me:=129) ⟨Tryz.f129,by kernel_rfl,by kernel_rfl,by kernel_rfl⟩ (G:=[]) .nil (.of (f:=400) (by kernel_rfl)) (I:=inlNone) inl_none (F:=texture_sides_l1_f fl) (VT.okV (by kernel_rfl)) (VT.okX (by kernel_rfl)) (fun v=>by kernel_rfl) (fun n v=>by kernel_rfl) fl

noncomputable def texture_sides_e (fl:Nat):Ent:=⟨129,(.val false (.list I8)),(.val false .bool),fun y=>texture_sides fl y⟩
theorem texture_sides_ok (fl:Nat):Ent.Ok Tryz.prog (texture_sides_e fl):=
  Ent.of (N:=18) (U:=60) allE_nil hmo (fn:=Tryz.f129) (c:=fnBody Tryz.f129) (G:=[(26,texture_sides_l1_s fl)]) (by kernel_rfl) (by kernel_rfl) (by kernel_rfl) (by kernel_rfl) (by kernel_rfl) (by kernel_rfl) (fun y=>by kernel_rfl) (rs:=[.tmp 2]) (by kernel_rfl) (.cons (f:=400) (by kernel_rfl) (texture_sides_l1_ok fl) .nil) (I:=inlNone) inl_none (fun y=>by kernel_rfl)

noncomputable def texture_Right_e (fl:Nat):Ent:=⟨100,(.val true Y7),(.val false .bool),fun y=>texture_Right fl y⟩
theorem texture_Right_ok (fl:Nat):Ent.Ok Tryz.prog (texture_Right_e fl):=
  Ent.of (N:=20) (U:=60) (allE_cons (texture_sides_ok fl) allE_nil) hmo (fn:=Tryz.f100) (c:=fnBody Tryz.f100) (G:=[]) (by kernel_rfl) (by kernel_rfl) (by kernel_rfl) (by kernel_rfl) (by kernel_rfl) (by kernel_rfl) (fun y=>by kernel_rfl) (rs:=[.tmp 2]) (by kernel_rfl) .nil (I:=inlNone) inl_none (fun y=>by kernel_rfl)

@[reducible] def vm_Run_j1_V:VT:=[z26,z31,z32,z33,z34,z35,z36]
@[reducible] def vm_Run_j1_X:List (Out × VT):=[(.ret,[z33,.slot 7 false [.kint .i64 0],z28,z36]),(.normal,[z26,z31,z32,z33,z34,z35,z36])]
noncomputable def vm_Run_j1_s (fl:Nat):Seg:=⟨vm_Run_j1_V,vm_Run_j1_X,fun v=>vm_Run_j1 fl v.1 v.2.1 v.2.2.1 v.2.2.2.1 v.2.2.2.2.1 v.2.2.2.2.2.1 v.2.2.2.2.2.2.1 v.2.2.2.2.2.2.2.1 v.2.2.2.2.2.2.2.2.1 v.2.2.2.2.2.2.2.2.2.1 v.2.2.2.2.2.2.2.2.2.2.1 v.2.2.2.2.2.2.2.2.2.2.2.1⟩
theorem vm_Run_j1_ok (fl:Nat):SegOk Tryz.prog 104 (codeAt (fnBody Tryz.f68) 6) (vm_Run_j1_s fl):=
  have hT:=allE_cons (code_Check_ok fl) (allE_cons (code_Samples_ok fl) (allE_cons (texture_Right_ok fl) allE_nil)); SegOk.of (c0:=fnBody Tryz.f68) (p:=6) (U:=60) hT hmo (me:=68) ⟨Tryz.f68,by kernel_rfl,by kernel_rfl,by kernel_rfl⟩ (G:=[]) .nil (.of (f:=400) (by kernel_rfl)) (I:=inlTab _ Tryz.prog [] [⟨102,fnBody Tryz.f102,22,60,[],[]⟩,⟨103,fnBody Tryz.f103,21,60,[],[]⟩] 12) (inlTab_ok hT hmo allM_nil (inlL_cons ⟨⟨Tryz.f102,by kernel_rfl,by kernel_rfl,by kernel_rfl,by kernel_rfl,by kernel_rfl⟩,by kernel_rfl,.nil⟩ (inlL_cons ⟨⟨Tryz.f103,by kernel_rfl,by kernel_rfl,by kernel_rfl,by kernel_rfl,by kernel_rfl⟩,by kernel_rfl,.nil⟩ inlL_nil)) 12) (sg:=vm_Run_j1_s fl) (VT.okV (by kernel_rfl)) (VT.okX (by kernel_rfl)) (fun v=>by kernel_rfl)

noncomputable def vm_wrap_e:Ent:=⟨101,(.val false I8),(.val false I8),fun y=>vm_wrap y⟩
theorem vm_wrap_ok:Ent.Ok Tryz.prog (vm_wrap_e):=
  Ent.of (N:=6) (U:=60) allE_nil hmo (fn:=Tryz.f101) (c:=fnBody Tryz.f101) (G:=[]) (by kernel_rfl) (by kernel_rfl) (by kernel_rfl) (by kernel_rfl) (by kernel_rfl) (by kernel_rfl) (fun y=>by kernel_rfl) (rs:=[.tmp 2]) (by kernel_rfl) .nil (I:=inlNone) inl_none (fun y=>by kernel_rfl)

noncomputable def code_Target_e:Ent:=⟨104,(.cons (.val true (.pair U8 (.pair U8 (.pair U8 (.pair U8 I8))))) (.val false I8)),(.val false I8),fun y=>code_Target y.1 y.2⟩
theorem code_Target_ok:Ent.Ok Tryz.prog (code_Target_e):=
  Ent.of (N:=15) (U:=60) allE_nil hmo (fn:=Tryz.f104) (c:=fnBody Tryz.f104) (G:=[]) (by kernel_rfl) (by kernel_rfl) (by kernel_rfl) (by kernel_rfl) (by kernel_rfl) (by kernel_rfl) (fun y=>by kernel_rfl) (rs:=[.tmp 4]) (by kernel_rfl) .nil (I:=inlNone) inl_none (fun y=>by kernel_rfl)

noncomputable def texture_cut_e (fl:Nat):Ent:=⟨130,(.val false I8),(.cons (.val false I8) (.val false I8)),fun y=>texture_cut fl y⟩
theorem texture_cut_ok (fl:Nat):Ent.Ok Tryz.prog (texture_cut_e fl):=
  Ent.of (N:=16) (U:=60) (allE_cons (fixed_Floor_ok fl) allE_nil) hmo (fn:=Tryz.f130) (c:=fnBody Tryz.f130) (G:=[]) (by kernel_rfl) (by kernel_rfl) (by kernel_rfl) (by kernel_rfl) (by kernel_rfl) (by kernel_rfl) (fun y=>by kernel_rfl) (rs:=[.tmp 2,.tmp 3]) (by kernel_rfl) .nil (I:=inlNone) inl_none (fun y=>by kernel_rfl)

noncomputable def texture_Texel_e (fl:Nat):Ent:=⟨131,(.cons (.val true Y7) (.cons (.val false I8) (.val false I8))),(.val true Y4),fun y=>texture_Texel fl y.1 y.2.1 y.2.2⟩
theorem texture_Texel_ok (fl:Nat):Ent.Ok Tryz.prog (texture_Texel_e fl):=
  Ent.of (N:=41) (U:=60) (allE_cons (texture_Right_ok fl) allE_nil) hmo (fn:=Tryz.f131) (c:=fnBody Tryz.f131) (G:=[]) (by kernel_rfl) (by kernel_rfl) (by kernel_rfl) (by kernel_rfl) (by kernel_rfl) (by kernel_rfl) (fun y=>by kernel_rfl) (rs:=[.cell 6 23]) (by kernel_rfl) .nil (I:=inlNone) inl_none (fun y=>by kernel_rfl)

noncomputable def texture_Nearest_e (fl:Nat):Ent:=⟨105,(.cons (.val true Y7) (.cons (.val false I8) (.val false I8))),(.val true Y4),fun y=>texture_Nearest fl y.1 y.2.1 y.2.2⟩
theorem texture_Nearest_ok (fl:Nat):Ent.Ok Tryz.prog (texture_Nearest_e fl):=
  Ent.of (N:=25) (U:=60) (allE_cons (texture_cut_ok fl) (allE_cons (texture_Texel_ok fl) allE_nil)) hmo (fn:=Tryz.f105) (c:=fnBody Tryz.f105) (G:=[]) (by kernel_rfl) (by kernel_rfl) (by kernel_rfl) (by kernel_rfl) (by kernel_rfl) (by kernel_rfl) (fun y=>by kernel_rfl) (rs:=[.cell 6 23]) (by kernel_rfl) .nil (I:=inlNone) inl_none (fun y=>by kernel_rfl)

noncomputable def colour_Mix_1_e:Ent:=⟨147,(.cons (.val false I8) (.cons (.val false I8) (.dp I8))),(.val false I8),fun y=>colour_Mix_1 y.1 y.2.1 y.2.2⟩
theorem colour_Mix_1_ok:Ent.Ok Tryz.prog (colour_Mix_1_e):=
  Ent.of (N:=16) (U:=60) allE_nil hmo (fn:=Tryz.f147) (c:=fnBody Tryz.f147) (G:=[]) (by kernel_rfl) (by kernel_rfl) (by kernel_rfl) (by kernel_rfl) (by kernel_rfl) (by kernel_rfl) (fun y=>by kernel_rfl) (rs:=[.tmp 5]) (by kernel_rfl) .nil (I:=inlNone) inl_none (fun y=>by kernel_rfl)

noncomputable def fixed_Sat_e:Ent:=⟨69,(.val false I8),(.val false U8),fun y=>fixed_Sat y⟩
theorem fixed_Sat_ok:Ent.Ok Tryz.prog (fixed_Sat_e):=
  Ent.of (N:=7) (U:=60) allE_nil hmo (fn:=Tryz.f69) (c:=fnBody Tryz.f69) (G:=[]) (by kernel_rfl) (by kernel_rfl) (by kernel_rfl) (by kernel_rfl) (by kernel_rfl) (by kernel_rfl) (fun y=>by kernel_rfl) (rs:=[.tmp 2]) (by kernel_rfl) .nil (I:=inlNone) inl_none (fun y=>by kernel_rfl)

noncomputable def colour_each_1_e:Ent:=⟨135,(.cons (.val false U8) (.cons (.val false U8) (.dpf 147 (.val true I8)))),(.val false U8),fun y=>colour_each_1 y.1 y.2.1 y.2.2⟩
theorem colour_each_1_ok:Ent.Ok Tryz.prog (colour_each_1_e):=
  Ent.of (N:=13) (U:=60) (allE_cons colour_Mix_1_ok (allE_cons fixed_Sat_ok allE_nil)) hmo (fn:=Tryz.f135) (c:=fnBody Tryz.f135) (G:=[]) (by kernel_rfl) (by kernel_rfl) (by kernel_rfl) (by kernel_rfl) (by kernel_rfl) (by kernel_rfl) (fun y=>by kernel_rfl) (rs:=[.tmp 5]) (by kernel_rfl) .nil (I:=inlNone) inl_none (fun y=>by kernel_rfl)

noncomputable def colour_each_e:Ent:=⟨108,(.cons (.val true Y4) (.cons (.val true Y4) (.fn 147 (.val true I8)))),(.val true Y4),fun y=>colour_each y.1 y.2.1 y.2.2⟩
theorem colour_each_ok:Ent.Ok Tryz.prog (colour_each_e):=
  Ent.of (N:=34) (U:=60) (allE_cons colour_each_1_ok allE_nil) hmo (fn:=Tryz.f108) (c:=fnBody Tryz.f108) (G:=[]) (by kernel_rfl) (by kernel_rfl) (by kernel_rfl) (by kernel_rfl) (by kernel_rfl) (by kernel_rfl) (fun y=>by kernel_rfl) (rs:=[.cell 6 23]) (by kernel_rfl) .nil (I:=inlNone) inl_none (fun y=>by kernel_rfl)

noncomputable def colour_Mix_e:Ent:=⟨133,(.cons (.val true Y4) (.cons (.val true Y4) (.val false I8))),(.val true Y4),fun y=>colour_Mix y.1 y.2.1 y.2.2⟩
theorem colour_Mix_ok:Ent.Ok Tryz.prog (colour_Mix_e):=
  Ent.of (N:=14) (U:=60) (allE_cons colour_each_ok allE_nil) hmo (fn:=Tryz.f133) (c:=fnBody Tryz.f133) (G:=[]) (by kernel_rfl) (by kernel_rfl) (by kernel_rfl) (by kernel_rfl) (by kernel_rfl) (by kernel_rfl) (fun y=>by kernel_rfl) (rs:=[.cell 6 23]) (by kernel_rfl) .nil (I:=inlNone) inl_none (fun y=>by kernel_rfl)

noncomputable def texture_Smooth_1_e (fl:Nat):Ent:=⟨132,(.cons (.val false I8) (.cons (.dp Y7) (.cons (.dp I8) (.dp I8)))),(.val true Y4),fun y=>texture_Smooth_1 fl y.1 y.2.1 y.2.2.1 y.2.2.2⟩
theorem texture_Smooth_1_ok (fl:Nat):Ent.Ok Tryz.prog (texture_Smooth_1_e fl):=
  Ent.of (N:=18) (U:=60) (allE_cons (texture_Texel_ok fl) (allE_cons colour_Mix_ok allE_nil)) hmo (fn:=Tryz.f132) (c:=fnBody Tryz.f132) (G:=[]) (by kernel_rfl) (by kernel_rfl) (by kernel_rfl) (by kernel_rfl) (by kernel_rfl) (by kernel_rfl) (fun y=>by kernel_rfl) (rs:=[.cell 5 23]) (by kernel_rfl) .nil (I:=inlNone) inl_none (fun y=>by kernel_rfl)

noncomputable def texture_Smooth_e (fl:Nat):Ent:=⟨106,(.cons (.val true Y7) (.cons (.val false I8) (.val false I8))),(.val true Y4),fun y=>texture_Smooth fl y.1 y.2.1 y.2.2⟩
theorem texture_Smooth_ok (fl:Nat):Ent.Ok Tryz.prog (texture_Smooth_e fl):=
  Ent.of (N:=35) (U:=60) (allE_cons (texture_cut_ok fl) (allE_cons colour_Mix_ok (allE_cons (texture_Smooth_1_ok fl) allE_nil))) hmo (fn:=Tryz.f106) (c:=fnBody Tryz.f106) (G:=[]) (by kernel_rfl) (by kernel_rfl) (by kernel_rfl) (by kernel_rfl) (by kernel_rfl) (by kernel_rfl) (fun y=>by kernel_rfl) (rs:=[.cell 6 23]) (by kernel_rfl) .nil (I:=inlNone) inl_none (fun y=>by kernel_rfl)

noncomputable def vm_bit_e:Ent:=⟨134,(.val false .bool),(.val false I8),fun y=>vm_bit y⟩
theorem vm_bit_ok:Ent.Ok Tryz.prog (vm_bit_e):=
  Ent.of (N:=4) (U:=60) allE_nil hmo (fn:=Tryz.f134) (c:=fnBody Tryz.f134) (G:=[]) (by kernel_rfl) (by kernel_rfl) (by kernel_rfl) (by kernel_rfl) (by kernel_rfl) (by kernel_rfl) (fun y=>by kernel_rfl) (rs:=[.tmp 2]) (by kernel_rfl) .nil (I:=inlNone) inl_none (fun y=>by kernel_rfl)

noncomputable def vm_value_e:Ent:=⟨107,(.cons (.val true (.pair U8 (.pair U8 (.pair U8 (.pair U8 I8))))) (.cons (.val false I8) (.val false I8))),(.val false I8),fun y=>vm_value y.1 y.2.1 y.2.2⟩
theorem vm_value_ok:Ent.Ok Tryz.prog (vm_value_e):=
  Ent.of (N:=68) (U:=60) (allE_cons vm_bit_ok allE_nil) hmo (fn:=Tryz.f107) (c:=fnBody Tryz.f107) (G:=[]) (by kernel_rfl) (by kernel_rfl) (by kernel_rfl) (by kernel_rfl) (by kernel_rfl) (by kernel_rfl) (fun y=>by kernel_rfl) (rs:=[.tmp 6]) (by kernel_rfl) .nil (I:=inlNone) inl_none (fun y=>by kernel_rfl)

@[reducible] def vm_Run_i102_l1_V:VT:=[z37,.slot 2 false [.ptr 200005 0],z38,z28,z39,z40,z41,z42,z43,z44,.slot 200011 false [.clo 103 [(200010,0)]],z45,z46,.slot 200084 false [.clo 103 [(200010,0)]],.slot 200086 false [.dat U8],z47,z48,z49,.box 200010 148 [.clo 102 [(200005,0)]]]
@[reducible] def vm_Run_i102_l1_X:List (Out × VT):=[(.exit 0,[z40,z41,z42,z43,z44,.slot 200011 false [.clo 103 [(200010,0)]],z45,z46,.slot 200084 false [.clo 103 [(200010,0)]],.slot 200086 false [.dat U8],z47,z48,z49,.box 200010 148 [.clo 102 [(200005,0)]]])]
noncomputable def vm_Run_i102_l1_f (fl n:Nat):VT.T vm_Run_i102_l1_V -> Option (XT vm_Run_i102_l1_X):=fun v=>vm_Run_i102_l1 fl n v.1 v.2.1 v.2.2.1 v.2.2.2.1 v.2.2.2.2.1 v.2.2.2.2.2.1 v.2.2.2.2.2.2.1 v.2.2.2.2.2.2.2.1 v.2.2.2.2.2.2.2.2.1 v.2.2.2.2.2.2.2.2.2.1 v.2.2.2.2.2.2.2.2.2.2.1 v.2.2.2.2.2.2.2.2.2.2.2.1 v.2.2.2.2.2.2.2.2.2.2.2.2.1 v.2.2.2.2.2.2.2.2.2.2.2.2.2.1 v.2.2.2.2.2.2.2.2.2.2.2.2.2.2.1 v.2.2.2.2.2.2.2.2.2.2.2.2.2.2.2.1 v.2.2.2.2.2.2.2.2.2.2.2.2.2.2.2.2.1 v.2.2.2.2.2.2.2.2.2.2.2.2.2.2.2.2.2.1 v.2.2.2.2.2.2.2.2.2.2.2.2.2.2.2.2.2.2.1
noncomputable def vm_Run_i102_l1_s (fl:Nat):Seg:=⟨vm_Run_i102_l1_V,vm_Run_i102_l1_X,vm_Run_i102_l1_f fl fl⟩
theorem vm_Run_i102_l1_ok (fl:Nat):SegOk Tryz.prog 22 (.loop (loopBody (codeAt (fnBody Tryz.f102) 6))) (vm_Run_i102_l1_s fl):=
  have hT:=allE_cons (code_Check_ok fl) (allE_cons (code_Samples_ok fl) (allE_cons (texture_Right_ok fl) (allE_cons vm_wrap_ok allE_nil))); SegOk.loop (c0:=fnBody Tryz.f102) (p:=6) (U:=60) hT hmo (me:=102) ⟨Tryz.f102,by kernel_rfl,by kernel_rfl,by kernel_rfl⟩ (G:=[]) .nil (.of (f:=400) (by kernel_rfl)) (I:=inlTab _ Tryz.prog [] [⟨102,fnBody Tryz.f102,22,60,[],[]⟩,⟨103,fnBody Tryz.f103,21,60,[],[]⟩] 12) (inlTab_ok hT hmo allM_nil (inlL_cons ⟨⟨Tryz.f102,by kernel_rfl,by kernel_rfl,by kernel_rfl,by kernel_rfl,by kernel_rfl⟩,by kernel_rfl,.nil⟩ (inlL_cons ⟨⟨Tryz.f103,by kernel_rfl,by kernel_rfl,by kernel_rfl,by kernel_rfl,by kernel_rfl⟩,by kernel_rfl,.nil⟩ inlL_nil)) 12) (F:=vm_Run_i102_l1_f fl) (VT.okV (by kernel_rfl)) (VT.okX (by kernel_rfl)) (fun v=>by kernel_rfl) (fun n v=>by kernel_rfl) fl

@[reducible] def vm_Run_i102_l2_V:VT:=[z37,.slot 2 false [.ptr 200005 0],z38,z28,z39,z40,z41,z42,z43,z44,.slot 200011 false [.clo 103 [(200010,0)]],z45,z46,.slot 200094 false [.clo 103 [(200010,0)]],.slot 200096 false [.dat U8],z47,z48,z49,.box 200010 148 [.clo 102 [(200005,0)]]]
@[reducible] def vm_Run_i102_l2_X:List (Out × VT):=[(.exit 0,[z40,z41,z42,z43,z44,.slot 200011 false [.clo 103 [(200010,0)]],z45,z46,.slot 200094 false [.clo 103 [(200010,0)]],.slot 200096 false [.dat U8],z47,z48,z49,.box 200010 148 [.clo 102 [(200005,0)]]])]
noncomputable def vm_Run_i102_l2_f (fl n:Nat):VT.T vm_Run_i102_l2_V -> Option (XT vm_Run_i102_l2_X):=fun v=>vm_Run_i102_l2 fl n v.1 v.2.1 v.2.2.1 v.2.2.2.1 v.2.2.2.2.1 v.2.2.2.2.2.1 v.2.2.2.2.2.2.1 v.2.2.2.2.2.2.2.1 v.2.2.2.2.2.2.2.2.1 v.2.2.2.2.2.2.2.2.2.1 v.2.2.2.2.2.2.2.2.2.2.1 v.2.2.2.2.2.2.2.2.2.2.2.1 v.2.2.2.2.2.2.2.2.2.2.2.2.1 v.2.2.2.2.2.2.2.2.2.2.2.2.2.1 v.2.2.2.2.2.2.2.2.2.2.2.2.2.2.1 v.2.2.2.2.2.2.2.2.2.2.2.2.2.2.2.1 v.2.2.2.2.2.2.2.2.2.2.2.2.2.2.2.2.1 v.2.2.2.2.2.2.2.2.2.2.2.2.2.2.2.2.2.1 v.2.2.2.2.2.2.2.2.2.2.2.2.2.2.2.2.2.2.1
noncomputable def vm_Run_i102_l2_s (fl:Nat):Seg:=⟨vm_Run_i102_l2_V,vm_Run_i102_l2_X,vm_Run_i102_l2_f fl fl⟩
theorem vm_Run_i102_l2_ok (fl:Nat):SegOk Tryz.prog 22 (.loop (loopBody (codeAt (fnBody Tryz.f102) 6))) (vm_Run_i102_l2_s fl):=
  have hT:=allE_cons (code_Check_ok fl) (allE_cons (code_Samples_ok fl) (allE_cons (texture_Right_ok fl) (allE_cons vm_wrap_ok allE_nil))); SegOk.loop (c0:=fnBody Tryz.f102) (p:=6) (U:=60) hT hmo (me:=102) ⟨Tryz.f102,by kernel_rfl,by kernel_rfl,by kernel_rfl⟩ (G:=[(6,vm_Run_i102_l1_s fl)]) (.cons (f:=400) (by kernel_rfl) (vm_Run_i102_l1_ok fl) .nil) (.of (f:=400) (by kernel_rfl)) (I:=inlTab _ Tryz.prog [] [⟨102,fnBody Tryz.f102,22,60,[],[(6,vm_Run_i102_l1_s fl)]⟩,⟨103,fnBody Tryz.f103,21,60,[],[]⟩] 12) (inlTab_ok hT hmo allM_nil (inlL_cons ⟨⟨Tryz.f102,by kernel_rfl,by kernel_rfl,by kernel_rfl,by kernel_rfl,by kernel_rfl⟩,by kernel_rfl,(.cons (f:=400) (by kernel_rfl) (vm_Run_i102_l1_ok fl) .nil)⟩ (inlL_cons ⟨⟨Tryz.f103,by kernel_rfl,by kernel_rfl,by kernel_rfl,by kernel_rfl,by kernel_rfl⟩,by kernel_rfl,.nil⟩ inlL_nil)) 12) (F:=vm_Run_i102_l2_f fl) (VT.okV (by kernel_rfl)) (VT.okX (by kernel_rfl)) (fun v=>by kernel_rfl) (fun n v=>by kernel_rfl) fl

@[reducible] def vm_Run_i102_l3_V:VT:=[z37,.slot 2 false [.ptr 100005 0],z38,z28,z39,.slot 100000 false [.dat Y5],z20,z21,.slot 100006 false [.ptr 100006 0],z50,.slot 100011 false [.clo 103 [(100010,0)]],.slot 100012 false [D],.slot 100013 false [D],.slot 100065 false [.clo 102 [(100005,0)]],.slot 100067 false [.dat U8],z51,z52,z53,.box 100010 148 [.clo 102 [(100005,0)]]]
@[reducible] def vm_Run_i102_l3_X:List (Out × VT):=[(.exit 0,[.slot 100000 false [.dat Y5],z20,z21,.slot 100006 false [.ptr 100006 0],z50,.slot 100011 false [.clo 103 [(100010,0)]],.slot 100012 false [D],.slot 100013 false [D],.slot 100065 false [.clo 102 [(100005,0)]],.slot 100067 false [.dat U8],z51,z52,z53,.box 100010 148 [.clo 102 [(100005,0)]]])]
noncomputable def vm_Run_i102_l3_f (fl n:Nat):VT.T vm_Run_i102_l3_V -> Option (XT vm_Run_i102_l3_X):=fun v=>vm_Run_i102_l3 fl n v.1 v.2.1 v.2.2.1 v.2.2.2.1 v.2.2.2.2.1 v.2.2.2.2.2.1 v.2.2.2.2.2.2.1 v.2.2.2.2.2.2.2.1 v.2.2.2.2.2.2.2.2.1 v.2.2.2.2.2.2.2.2.2.1 v.2.2.2.2.2.2.2.2.2.2.1 v.2.2.2.2.2.2.2.2.2.2.2.1 v.2.2.2.2.2.2.2.2.2.2.2.2.1 v.2.2.2.2.2.2.2.2.2.2.2.2.2.1 v.2.2.2.2.2.2.2.2.2.2.2.2.2.2.1 v.2.2.2.2.2.2.2.2.2.2.2.2.2.2.2.1 v.2.2.2.2.2.2.2.2.2.2.2.2.2.2.2.2.1 v.2.2.2.2.2.2.2.2.2.2.2.2.2.2.2.2.2.1 v.2.2.2.2.2.2.2.2.2.2.2.2.2.2.2.2.2.2.1
noncomputable def vm_Run_i102_l3_s (fl:Nat):Seg:=⟨vm_Run_i102_l3_V,vm_Run_i102_l3_X,vm_Run_i102_l3_f fl fl⟩
theorem vm_Run_i102_l3_ok (fl:Nat):SegOk Tryz.prog 22 (.loop (loopBody (codeAt (fnBody Tryz.f102) 6))) (vm_Run_i102_l3_s fl):=
  have hT:=allE_cons (code_Check_ok fl) (allE_cons (code_Samples_ok fl) (allE_cons (texture_Right_ok fl) (allE_cons vm_wrap_ok allE_nil))); SegOk.loop (c0:=fnBody Tryz.f102) (p:=6) (U:=60) hT hmo (me:=102) ⟨Tryz.f102,by kernel_rfl,by kernel_rfl,by kernel_rfl⟩ (G:=[(6,vm_Run_i102_l1_s fl),(6,vm_Run_i102_l2_s fl)]) (.cons (f:=400) (by kernel_rfl) (vm_Run_i102_l1_ok fl) (.cons (f:=400) (by kernel_rfl) (vm_Run_i102_l2_ok fl) .nil)) (.of (f:=400) (by kernel_rfl)) (I:=inlTab _ Tryz.prog [] [⟨102,fnBody Tryz.f102,22,60,[],[(6,vm_Run_i102_l1_s fl),(6,vm_Run_i102_l2_s fl)]⟩,⟨103,fnBody Tryz.f103,21,60,[],[]⟩] 12) (inlTab_ok hT hmo allM_nil (inlL_cons ⟨⟨Tryz.f102,by kernel_rfl,by kernel_rfl,by kernel_rfl,by kernel_rfl,by kernel_rfl⟩,by kernel_rfl,(.cons (f:=400) (by kernel_rfl) (vm_Run_i102_l1_ok fl) (.cons (f:=400) (by kernel_rfl) (vm_Run_i102_l2_ok fl) .nil))⟩ (inlL_cons ⟨⟨Tryz.f103,by kernel_rfl,by kernel_rfl,by kernel_rfl,by kernel_rfl,by kernel_rfl⟩,by kernel_rfl,.nil⟩ inlL_nil)) 12) (F:=vm_Run_i102_l3_f fl) (VT.okV (by kernel_rfl)) (VT.okX (by kernel_rfl)) (fun v=>by kernel_rfl) (fun n v=>by kernel_rfl) fl

@[reducible] def vm_Run_l2_V:VT:=[z26,z31,z32,z33,z54,.slot 11 false [.clo 103 [(10,0)]],z55,z56,z34,z35,z36,.box 10 148 [.clo 102 [(5,0)]]]
@[reducible] def vm_Run_l2_X:List (Out × VT):=[(.exit 3,[z32,z33,z55,z35,z36])]
noncomputable def vm_Run_l2_f (fl n:Nat):VT.T vm_Run_l2_V -> Option (XT vm_Run_l2_X):=fun v=>vm_Run_l2 fl n v.1 v.2.1 v.2.2.1 v.2.2.2.1 v.2.2.2.2.1 v.2.2.2.2.2.1 v.2.2.2.2.2.2.1 v.2.2.2.2.2.2.2.1 v.2.2.2.2.2.2.2.2.1 v.2.2.2.2.2.2.2.2.2.1 v.2.2.2.2.2.2.2.2.2.2.1 v.2.2.2.2.2.2.2.2.2.2.2.1 v.2.2.2.2.2.2.2.2.2.2.2.2.1 v.2.2.2.2.2.2.2.2.2.2.2.2.2.1
noncomputable def vm_Run_l2_s (fl:Nat):Seg:=⟨vm_Run_l2_V,vm_Run_l2_X,vm_Run_l2_f fl fl⟩
theorem vm_Run_l2_ok (fl:Nat):SegOk Tryz.prog 104 (.loop (loopBody (codeAt (fnBody Tryz.f68) 1018))) (vm_Run_l2_s fl):=
  have hT:=allE_cons (code_Check_ok fl) (allE_cons (code_Samples_ok fl) (allE_cons (texture_Right_ok fl) (allE_cons vm_wrap_ok (allE_cons code_Target_ok (allE_cons (texture_Nearest_ok fl) (allE_cons (texture_Smooth_ok fl) (allE_cons vm_value_ok allE_nil))))))); SegOk.loop (c0:=fnBody Tryz.f68) (p:=1018) (U:=60) hT hmo (me:=68) ⟨Tryz.f68,by kernel_rfl,by kernel_rfl,by kernel_rfl⟩ (G:=[(6,vm_Run_j1_s fl)]) (.cons (f:=400) (by kernel_rfl) (vm_Run_j1_ok fl) .nil) (.of (f:=400) (by kernel_rfl)) (I:=inlTab _ Tryz.prog [] [⟨102,fnBody Tryz.f102,22,60,[],[(6,vm_Run_i102_l1_s fl),(6,vm_Run_i102_l2_s fl),(6,vm_Run_i102_l3_s fl)]⟩,⟨103,fnBody Tryz.f103,21,60,[],[]⟩] 12) (inlTab_ok hT hmo allM_nil (inlL_cons ⟨⟨Tryz.f102,by kernel_rfl,by kernel_rfl,by kernel_rfl,by kernel_rfl,by kernel_rfl⟩,by kernel_rfl,(.cons (f:=400) (by kernel_rfl) (vm_Run_i102_l1_ok fl) (.cons (f:=400) (by kernel_rfl) (vm_Run_i102_l2_ok fl) (.cons (f:=400) (by kernel_rfl) (vm_Run_i102_l3_ok fl) .nil)))⟩ (inlL_cons ⟨⟨Tryz.f103,by kernel_rfl,by kernel_rfl,by kernel_rfl,by kernel_rfl,by kernel_rfl⟩,by kernel_rfl,.nil⟩ inlL_nil)) 12) (F:=vm_Run_l2_f fl) (VT.okV (by kernel_rfl)) (VT.okX (by kernel_rfl)) (fun v=>by kernel_rfl) (fun n v=>by kernel_rfl) fl

noncomputable def vm_Run_e (fl:Nat):Ent:=⟨68,(.cons (.val false Y5) (.cons (.val true Y7) (.val true Y11))),(.cons (.val true Y11) (.cons (.val false I8) (.val false I8))),fun y=>vm_Run fl y.1 y.2.1 y.2.2⟩
theorem vm_Run_ok (fl:Nat):Ent.Ok Tryz.prog (vm_Run_e fl):=
  have hT:=allE_cons (code_Check_ok fl) (allE_cons (code_Samples_ok fl) (allE_cons (texture_Right_ok fl) (allE_cons vm_wrap_ok (allE_cons code_Target_ok (allE_cons (texture_Nearest_ok fl) (allE_cons (texture_Smooth_ok fl) (allE_cons vm_value_ok allE_nil))))))); Ent.of (N:=104) (U:=60) hT hmo (fn:=Tryz.f68) (c:=fnBody Tryz.f68) (G:=[(6,vm_Run_j1_s fl),(1018,vm_Run_l2_s fl)]) (by kernel_rfl) (by kernel_rfl) (by kernel_rfl) (by kernel_rfl) (by kernel_rfl) (by kernel_rfl) (fun y=>by kernel_rfl) (rs:=[.cell 6 120,.tmp 7,.tmp 8]) (by kernel_rfl) (.cons (f:=400) (by kernel_rfl) (vm_Run_j1_ok fl) (.cons (f:=400) (by kernel_rfl) (vm_Run_l2_ok fl) .nil)) (I:=inlTab _ Tryz.prog [] [⟨102,fnBody Tryz.f102,22,60,[],[(6,vm_Run_i102_l1_s fl),(6,vm_Run_i102_l2_s fl),(6,vm_Run_i102_l3_s fl)]⟩,⟨103,fnBody Tryz.f103,21,60,[],[]⟩] 12) (inlTab_ok hT hmo allM_nil (inlL_cons ⟨⟨Tryz.f102,by kernel_rfl,by kernel_rfl,by kernel_rfl,by kernel_rfl,by kernel_rfl⟩,by kernel_rfl,(.cons (f:=400) (by kernel_rfl) (vm_Run_i102_l1_ok fl) (.cons (f:=400) (by kernel_rfl) (vm_Run_i102_l2_ok fl) (.cons (f:=400) (by kernel_rfl) (vm_Run_i102_l3_ok fl) .nil)))⟩ (inlL_cons ⟨⟨Tryz.f103,by kernel_rfl,by kernel_rfl,by kernel_rfl,by kernel_rfl,by kernel_rfl⟩,by kernel_rfl,.nil⟩ inlL_nil)) 12) (fun y=>by kernel_rfl)

noncomputable def fixed_Div255_e:Ent:=⟨110,(.val false I8),(.val false I8),fun y=>fixed_Div255 y⟩
theorem fixed_Div255_ok:Ent.Ok Tryz.prog (fixed_Div255_e):=
  Ent.of (N:=8) (U:=60) allE_nil hmo (fn:=Tryz.f110) (c:=fnBody Tryz.f110) (G:=[]) (by kernel_rfl) (by kernel_rfl) (by kernel_rfl) (by kernel_rfl) (by kernel_rfl) (by kernel_rfl) (fun y=>by kernel_rfl) (rs:=[.tmp 2]) (by kernel_rfl) .nil (I:=inlNone) inl_none (fun y=>by kernel_rfl)

noncomputable def colour_Pre_1_e:Ent:=⟨109,(.cons (.val false I8) (.cons (.val false I8) (.dp Y4))),(.val false I8),fun y=>colour_Pre_1 y.1 y.2.1 y.2.2⟩
theorem colour_Pre_1_ok:Ent.Ok Tryz.prog (colour_Pre_1_e):=
  Ent.of (N:=12) (U:=60) (allE_cons fixed_Div255_ok allE_nil) hmo (fn:=Tryz.f109) (c:=fnBody Tryz.f109) (G:=[]) (by kernel_rfl) (by kernel_rfl) (by kernel_rfl) (by kernel_rfl) (by kernel_rfl) (by kernel_rfl) (fun y=>by kernel_rfl) (rs:=[.tmp 5]) (by kernel_rfl) .nil (I:=inlNone) inl_none (fun y=>by kernel_rfl)

noncomputable def colour_each_1__2_e:Ent:=⟨135,(.cons (.val false U8) (.cons (.val false U8) (.dpf 109 (.val true Y4)))),(.val false U8),fun y=>colour_each_1__2 y.1 y.2.1 y.2.2⟩
theorem colour_each_1__2_ok:Ent.Ok Tryz.prog (colour_each_1__2_e):=
  Ent.of (N:=13) (U:=60) (allE_cons fixed_Sat_ok (allE_cons colour_Pre_1_ok allE_nil)) hmo (fn:=Tryz.f135) (c:=fnBody Tryz.f135) (G:=[]) (by kernel_rfl) (by kernel_rfl) (by kernel_rfl) (by kernel_rfl) (by kernel_rfl) (by kernel_rfl) (fun y=>by kernel_rfl) (rs:=[.tmp 5]) (by kernel_rfl) .nil (I:=inlNone) inl_none (fun y=>by kernel_rfl)

noncomputable def colour_each__2_e:Ent:=⟨108,(.cons (.val true Y4) (.cons (.val true Y4) (.fn 109 (.val true Y4)))),(.val true Y4),fun y=>colour_each__2 y.1 y.2.1 y.2.2⟩
theorem colour_each__2_ok:Ent.Ok Tryz.prog (colour_each__2_e):=
  Ent.of (N:=34) (U:=60) (allE_cons colour_each_1__2_ok allE_nil) hmo (fn:=Tryz.f108) (c:=fnBody Tryz.f108) (G:=[]) (by kernel_rfl) (by kernel_rfl) (by kernel_rfl) (by kernel_rfl) (by kernel_rfl) (by kernel_rfl) (fun y=>by kernel_rfl) (rs:=[.cell 6 23]) (by kernel_rfl) .nil (I:=inlNone) inl_none (fun y=>by kernel_rfl)

noncomputable def colour_Pre_e:Ent:=⟨70,(.val true Y4),(.val true Y4),fun y=>colour_Pre y⟩
theorem colour_Pre_ok:Ent.Ok Tryz.prog (colour_Pre_e):=
  Ent.of (N:=12) (U:=60) (allE_cons colour_each__2_ok allE_nil) hmo (fn:=Tryz.f70) (c:=fnBody Tryz.f70) (G:=[]) (by kernel_rfl) (by kernel_rfl) (by kernel_rfl) (by kernel_rfl) (by kernel_rfl) (by kernel_rfl) (fun y=>by kernel_rfl) (rs:=[.cell 2 23]) (by kernel_rfl) .nil (I:=inlNone) inl_none (fun y=>by kernel_rfl)

noncomputable def vm_Shade_e (fl:Nat):Ent:=⟨45,(.cons (.val false Y5) (.cons (.val true Y7) (.cons (.val true Y1) (.cons (.val false I8) (.val false I8))))),(.cons (.val true Y4) (.cons (.val false I8) (.val false I8))),fun y=>vm_Shade fl y.1 y.2.1 y.2.2.1 y.2.2.2.1 y.2.2.2.2⟩
theorem vm_Shade_ok (fl:Nat):Ent.Ok Tryz.prog (vm_Shade_e fl):=
  Ent.of (N:=55) (U:=60) (allE_cons fixed_Sat_ok (allE_cons (vm_Run_ok fl) (allE_cons colour_Pre_ok allE_nil))) hmo (fn:=Tryz.f45) (c:=fnBody Tryz.f45) (G:=[]) (by kernel_rfl) (by kernel_rfl) (by kernel_rfl) (by kernel_rfl) (by kernel_rfl) (by kernel_rfl) (fun y=>by kernel_rfl) (rs:=[.cell 10 23,.tmp 11,.tmp 12]) (by kernel_rfl) .nil (I:=inlNone) inl_none (fun y=>by kernel_rfl)

noncomputable def plane_Depth_1_e:Ent:=⟨74,(.val true Y3),(.val false I8),fun y=>plane_Depth_1 y⟩
theorem plane_Depth_1_ok:Ent.Ok Tryz.prog (plane_Depth_1_e):=
  Ent.of (N:=5) (U:=60) allE_nil hmo (fn:=Tryz.f74) (c:=fnBody Tryz.f74) (G:=[]) (by kernel_rfl) (by kernel_rfl) (by kernel_rfl) (by kernel_rfl) (by kernel_rfl) (by kernel_rfl) (fun y=>by kernel_rfl) (rs:=[.tmp 2]) (by kernel_rfl) .nil (I:=inlNone) inl_none (fun y=>by kernel_rfl)

noncomputable def plane_each__2_e (fl:Nat):Ent:=⟨71,(.cons (.val true (.pair Y3 (.pair Y3 Y3))) (.cons (.val false I8) (.cons (.val false I8) (.fn 74 .nil)))),(.val false I8),fun y=>plane_each__2 fl y.1 y.2.1 y.2.2.1 y.2.2.2⟩
theorem plane_each__2_ok (fl:Nat):Ent.Ok Tryz.prog (plane_each__2_e fl):=
  Ent.of (N:=28) (U:=60) (allE_cons view_Centre_ok (allE_cons (plane_At_ok fl) (allE_cons plane_Depth_1_ok allE_nil))) hmo (fn:=Tryz.f71) (c:=fnBody Tryz.f71) (G:=[]) (by kernel_rfl) (by kernel_rfl) (by kernel_rfl) (by kernel_rfl) (by kernel_rfl) (by kernel_rfl) (fun y=>by kernel_rfl) (rs:=[.tmp 8]) (by kernel_rfl) .nil (I:=inlNone) inl_none (fun y=>by kernel_rfl)

noncomputable def plane_Depth_e (fl:Nat):Ent:=⟨48,(.cons (.val true (.pair Y3 (.pair Y3 Y3))) (.cons (.val false I8) (.val false I8))),(.val false I8),fun y=>plane_Depth fl y.1 y.2.1 y.2.2⟩
theorem plane_Depth_ok (fl:Nat):Ent.Ok Tryz.prog (plane_Depth_e fl):=
  Ent.of (N:=38) (U:=60) (allE_cons edge_Area_ok (allE_cons (plane_each__2_ok fl) allE_nil)) hmo (fn:=Tryz.f48) (c:=fnBody Tryz.f48) (G:=[]) (by kernel_rfl) (by kernel_rfl) (by kernel_rfl) (by kernel_rfl) (by kernel_rfl) (by kernel_rfl) (fun y=>by kernel_rfl) (rs:=[.tmp 6]) (by kernel_rfl) .nil (I:=inlNone) inl_none (fun y=>by kernel_rfl)

noncomputable def frags_Maker__frag_m (fl:Nat):MEnt:=⟨28,53,(.pair (.pair I8 (.pair I8 (.pair Y4 (.pair Y9 (.pair (.list Y7) (.pair (.list Y5) Y6)))))) (.pair I8 I8)),(.cons (.val true (.pair I8 (.pair I8 (.pair I8 (.pair .bool (.list Y1)))))) (.cons (.val true Y1) (.cons (.val true Y10) (.cons (.val false I8) (.val false I8))))),(.cons (.val true Y8) (.val false .bool)),fun x y=>frags_Maker__frag fl x y.1 y.2.1 y.2.2.1 y.2.2.2.1 y.2.2.2.2⟩
theorem frags_Maker__frag_mok (fl:Nat):MEnt.Ok Tryz.prog (frags_Maker__frag_m fl):=
  MEnt.of (N:=82) (U:=60) (T:=[cover_Mask_e fl,frags_Maker__tex_e,plane_Attrs_e fl,vm_Shade_e fl,plane_Depth_e fl]) (allE_cons (cover_Mask_ok fl) (allE_cons frags_Maker__tex_ok (allE_cons (plane_Attrs_ok fl) (allE_cons (vm_Shade_ok fl) (allE_cons (plane_Depth_ok fl) allE_nil))))) hmo (fn:=Tryz.f28) (c:=fnBody Tryz.f28) (G:=[]) (by kernel_rfl) (by kernel_rfl) (by kernel_rfl) (by kernel_rfl) (by kernel_rfl) (by kernel_rfl) (by kernel_rfl) (fun y=>by kernel_rfl) (rs:=[.cell 12 50,.tmp 13]) (by kernel_rfl) .nil (I:=inlNone) inl_none (fun x y=>by kernel_rfl)

@[reducible] def glazierlaw22_gone_i43_l1_V:VT:=[z19,.slot 2 false [.dp I8],.slot 3 false [.dp I8],.slot 4 false [.dp I8],z30,z27,z57,z58,z59,z60,z61,z62,z63,z50,z64,z65,z66,z67,z68,z69,z70,z71,z72,z73,z74,z75,z76,z77,z78,z79,z80,z81,z82,z83,z84,z85,z86,z87,z88,z89,.slot 400027 false [.clo 23 [(401192,0),(401193,0),(401194,0),(401195,0),(401196,0),(401197,0)]],z90,z91,z92,z93,z94,z95,z96,z97,z98,z99,z100,z101,z102,z103,z104,z105]
@[reducible] def glazierlaw22_gone_i43_l1_X:List (Out × VT):=[(.ret,[z57,z58,z59,z60,z61,z62,z63,z50,z64,z65,z66,z67,z68,z106,z70,z71,z72,z73,z74,z75,z76,z77,z78,z79,z80,z81,z82,z83,z84,z85,z86,z87,z88,z89,.slot 400027 false [.clo 23 [(401192,0),(401193,0),(401194,0),(401195,0),(401196,0),(401197,0)]],z107,z91,z92,z93,z94,z95,z96,z97,z98,z99,z100,z101,z102,z103,z104,z105]),(.exit 2,[z19,.slot 2 false [.dp I8],.slot 3 false [.dp I8],.slot 4 false [.dp I8],z30,z57,z58,z59,z60,z61,z62,z63,z50,z64,z65,z66,z67,z68,z69,z70,z71,z72,z73,z74,z75,z76,z77,z78,z79,z80,z81,z82,z83,z84,z85,z86,z87,z88,z89,.slot 400027 false [.clo 23 [(401192,0),(401193,0),(401194,0),(401195,0),(401196,0),(401197,0)]],z90,z91,z92,z93,z94,z95,z96,z97,z98,z99,z100,z101,z102,z103,z104,z105])]
noncomputable def glazierlaw22_gone_i43_l1_f (fl n:Nat):VT.T glazierlaw22_gone_i43_l1_V -> Option (XT glazierlaw22_gone_i43_l1_X):=fun v=>glazierlaw22_gone_i43_l1 fl n v.1 v.2.1 v.2.2.1 v.2.2.2.1 v.2.2.2.2.1 v.2.2.2.2.2.1 v.2.2.2.2.2.2.1 v.2.2.2.2.2.2.2.1 v.2.2.2.2.2.2.2.2.1 v.2.2.2.2.2.2.2.2.2.1 v.2.2.2.2.2.2.2.2.2.2.1 v.2.2.2.2.2.2.2.2.2.2.2.1 v.2.2.2.2.2.2.2.2.2.2.2.2.1 v.2.2.2.2.2.2.2.2.2.2.2.2.2.1 v.2.2.2.2.2.2.2.2.2.2.2.2.2.2.1 v.2.2.2.2.2.2.2.2.2.2.2.2.2.2.2.1 v.2.2.2.2.2.2.2.2.2.2.2.2.2.2.2.2.1 v.2.2.2.2.2.2.2.2.2.2.2.2.2.2.2.2.2.1 v.2.2.2.2.2.2.2.2.2.2.2.2.2.2.2.2.2.2.1 v.2.2.2.2.2.2.2.2.2.2.2.2.2.2.2.2.2.2.2.1 v.2.2.2.2.2.2.2.2.2.2.2.2.2.2.2.2.2.2.2.2.1 v.2.2.2.2.2.2.2.2.2.2.2.2.2.2.2.2.2.2.2.2.2.1 v.2.2.2.2.2.2.2.2.2.2.2.2.2.2.2.2.2.2.2.2.2.2.1 v.2.2.2.2.2.2.2.2.2.2.2.2.2.2.2.2.2.2.2.2.2.2.2.1 v.2.2.2.2.2.2.2.2.2.2.2.2.2.2.2.2.2.2.2.2.2.2.2.2.1 v.2.2.2.2.2.2.2.2.2.2.2.2.2.2.2.2.2.2.2.2.2.2.2.2.2.1 v.2.2.2.2.2.2.2.2.2.2.2.2.2.2.2.2.2.2.2.2.2.2.2.2.2.2.1 v.2.2.2.2.2.2.2.2.2.2.2.2.2.2.2.2.2.2.2.2.2.2.2.2.2.2.2.1 v.2.2.2.2.2.2.2.2.2.2.2.2.2.2.2.2.2.2.2.2.2.2.2.2.2.2.2.2.1 v.2.2.2.2.2.2.2.2.2.2.2.2.2.2.2.2.2.2.2.2.2.2.2.2.2.2.2.2.2.1 v.2.2.2.2.2.2.2.2.2.2.2.2.2.2.2.2.2.2.2.2.2.2.2.2.2.2.2.2.2.2.1 v.2.2.2.2.2.2.2.2.2.2.2.2.2.2.2.2.2.2.2.2.2.2.2.2.2.2.2.2.2.2.2.1 v.2.2.2.2.2.2.2.2.2.2.2.2.2.2.2.2.2.2.2.2.2.2.2.2.2.2.2.2.2.2.2.2.1 v.2.2.2.2.2.2.2.2.2.2.2.2.2.2.2.2.2.2.2.2.2.2.2.2.2.2.2.2.2.2.2.2.2.1 v.2.2.2.2.2.2.2.2.2.2.2.2.2.2.2.2.2.2.2.2.2.2.2.2.2.2.2.2.2.2.2.2.2.2.1 v.2.2.2.2.2.2.2.2.2.2.2.2.2.2.2.2.2.2.2.2.2.2.2.2.2.2.2.2.2.2.2.2.2.2.2.1 v.2.2.2.2.2.2.2.2.2.2.2.2.2.2.2.2.2.2.2.2.2.2.2.2.2.2.2.2.2.2.2.2.2.2.2.2.1 v.2.2.2.2.2.2.2.2.2.2.2.2.2.2.2.2.2.2.2.2.2.2.2.2.2.2.2.2.2.2.2.2.2.2.2.2.2.1 v.2.2.2.2.2.2.2.2.2.2.2.2.2.2.2.2.2.2.2.2.2.2.2.2.2.2.2.2.2.2.2.2.2.2.2.2.2.2.1 v.2.2.2.2.2.2.2.2.2.2.2.2.2.2.2.2.2.2.2.2.2.2.2.2.2.2.2.2.2.2.2.2.2.2.2.2.2.2.2.1 v.2.2.2.2.2.2.2.2.2.2.2.2.2.2.2.2.2.2.2.2.2.2.2.2.2.2.2.2.2.2.2.2.2.2.2.2.2.2.2.2.1 v.2.2.2.2.2.2.2.2.2.2.2.2.2.2.2.2.2.2.2.2.2.2.2.2.2.2.2.2.2.2.2.2.2.2.2.2.2.2.2.2.2.1 v.2.2.2.2.2.2.2.2.2.2.2.2.2.2.2.2.2.2.2.2.2.2.2.2.2.2.2.2.2.2.2.2.2.2.2.2.2.2.2.2.2.2.1 v.2.2.2.2.2.2.2.2.2.2.2.2.2.2.2.2.2.2.2.2.2.2.2.2.2.2.2.2.2.2.2.2.2.2.2.2.2.2.2.2.2.2.2.1 v.2.2.2.2.2.2.2.2.2.2.2.2.2.2.2.2.2.2.2.2.2.2.2.2.2.2.2.2.2.2.2.2.2.2.2.2.2.2.2.2.2.2.2.2.1 v.2.2.2.2.2.2.2.2.2.2.2.2.2.2.2.2.2.2.2.2.2.2.2.2.2.2.2.2.2.2.2.2.2.2.2.2.2.2.2.2.2.2.2.2.2.1 v.2.2.2.2.2.2.2.2.2.2.2.2.2.2.2.2.2.2.2.2.2.2.2.2.2.2.2.2.2.2.2.2.2.2.2.2.2.2.2.2.2.2.2.2.2.2.1 v.2.2.2.2.2.2.2.2.2.2.2.2.2.2.2.2.2.2.2.2.2.2.2.2.2.2.2.2.2.2.2.2.2.2.2.2.2.2.2.2.2.2.2.2.2.2.2.1 v.2.2.2.2.2.2.2.2.2.2.2.2.2.2.2.2.2.2.2.2.2.2.2.2.2.2.2.2.2.2.2.2.2.2.2.2.2.2.2.2.2.2.2.2.2.2.2.2.1 v.2.2.2.2.2.2.2.2.2.2.2.2.2.2.2.2.2.2.2.2.2.2.2.2.2.2.2.2.2.2.2.2.2.2.2.2.2.2.2.2.2.2.2.2.2.2.2.2.2.1 v.2.2.2.2.2.2.2.2.2.2.2.2.2.2.2.2.2.2.2.2.2.2.2.2.2.2.2.2.2.2.2.2.2.2.2.2.2.2.2.2.2.2.2.2.2.2.2.2.2.2.1 v.2.2.2.2.2.2.2.2.2.2.2.2.2.2.2.2.2.2.2.2.2.2.2.2.2.2.2.2.2.2.2.2.2.2.2.2.2.2.2.2.2.2.2.2.2.2.2.2.2.2.2.1 v.2.2.2.2.2.2.2.2.2.2.2.2.2.2.2.2.2.2.2.2.2.2.2.2.2.2.2.2.2.2.2.2.2.2.2.2.2.2.2.2.2.2.2.2.2.2.2.2.2.2.2.2.1 v.2.2.2.2.2.2.2.2.2.2.2.2.2.2.2.2.2.2.2.2.2.2.2.2.2.2.2.2.2.2.2.2.2.2.2.2.2.2.2.2.2.2.2.2.2.2.2.2.2.2.2.2.2.1 v.2.2.2.2.2.2.2.2.2.2.2.2.2.2.2.2.2.2.2.2.2.2.2.2.2.2.2.2.2.2.2.2.2.2.2.2.2.2.2.2.2.2.2.2.2.2.2.2.2.2.2.2.2.2.1 v.2.2.2.2.2.2.2.2.2.2.2.2.2.2.2.2.2.2.2.2.2.2.2.2.2.2.2.2.2.2.2.2.2.2.2.2.2.2.2.2.2.2.2.2.2.2.2.2.2.2.2.2.2.2.2.1 v.2.2.2.2.2.2.2.2.2.2.2.2.2.2.2.2.2.2.2.2.2.2.2.2.2.2.2.2.2.2.2.2.2.2.2.2.2.2.2.2.2.2.2.2.2.2.2.2.2.2.2.2.2.2.2.2.1 v.2.2.2.2.2.2.2.2.2.2.2.2.2.2.2.2.2.2.2.2.2.2.2.2.2.2.2.2.2.2.2.2.2.2.2.2.2.2.2.2.2.2.2.2.2.2.2.2.2.2.2.2.2.2.2.2.2.1 v.2.2.2.2.2.2.2.2.2.2.2.2.2.2.2.2.2.2.2.2.2.2.2.2.2.2.2.2.2.2.2.2.2.2.2.2.2.2.2.2.2.2.2.2.2.2.2.2.2.2.2.2.2.2.2.2.2.2.1 v.2.2.2.2.2.2.2.2.2.2.2.2.2.2.2.2.2.2.2.2.2.2.2.2.2.2.2.2.2.2.2.2.2.2.2.2.2.2.2.2.2.2.2.2.2.2.2.2.2.2.2.2.2.2.2.2.2.2.2.1 v.2.2.2.2.2.2.2.2.2.2.2.2.2.2.2.2.2.2.2.2.2.2.2.2.2.2.2.2.2.2.2.2.2.2.2.2.2.2.2.2.2.2.2.2.2.2.2.2.2.2.2.2.2.2.2.2.2.2.2.2.1 v.2.2.2.2.2.2.2.2.2.2.2.2.2.2.2.2.2.2.2.2.2.2.2.2.2.2.2.2.2.2.2.2.2.2.2.2.2.2.2.2.2.2.2.2.2.2.2.2.2.2.2.2.2.2.2.2.2.2.2.2.2.1 v.2.2.2.2.2.2.2.2.2.2.2.2.2.2.2.2.2.2.2.2.2.2.2.2.2.2.2.2.2.2.2.2.2.2.2.2.2.2.2.2.2.2.2.2.2.2.2.2.2.2.2.2.2.2.2.2.2.2.2.2.2.2.1
noncomputable def glazierlaw22_gone_i43_l1_s (fl:Nat):Seg:=⟨glazierlaw22_gone_i43_l1_V,glazierlaw22_gone_i43_l1_X,glazierlaw22_gone_i43_l1_f fl fl⟩
theorem glazierlaw22_gone_i43_l1_ok (fl:Nat):SegOk Tryz.prog 25 (.loop (loopBody (codeAt (fnBody Tryz.f43) 402))) (glazierlaw22_gone_i43_l1_s fl):=
  SegOk.loop (c0:=fnBody Tryz.f43) (p:=402) (U:=60) allE_nil hmo (me:=43) ⟨Tryz.f43,by kernel_rfl,by kernel_rfl,by kernel_rfl⟩ (G:=[]) .nil (.of (f:=400) (by kernel_rfl)) (I:=inlTab _ Tryz.prog [frags_Maker__frag_m fl] [⟨7,fnBody Tryz.f7,41,60,[.cell 8 36,.cell 9 4],[]⟩,⟨15,fnBody Tryz.f15,14,60,[.tmp 12],[]⟩,⟨23,fnBody Tryz.f23,107,60,[],[]⟩,⟨40,fnBody Tryz.f40,27,60,[],[]⟩,⟨43,fnBody Tryz.f43,25,60,[],[]⟩] 12) (inlTab_ok allE_nil hmo (allM_cons (frags_Maker__frag_mok fl) allM_nil) (inlL_cons ⟨⟨Tryz.f7,by kernel_rfl,by kernel_rfl,by kernel_rfl,by kernel_rfl,by kernel_rfl⟩,by kernel_rfl,.nil⟩ (inlL_cons ⟨⟨Tryz.f15,by kernel_rfl,by kernel_rfl,by kernel_rfl,by kernel_rfl,by kernel_rfl⟩,by kernel_rfl,.nil⟩ (inlL_cons ⟨⟨Tryz.f23,by kernel_rfl,by kernel_rfl,by kernel_rfl,by kernel_rfl,by kernel_rfl⟩,by kernel_rfl,.nil⟩ (inlL_cons ⟨⟨Tryz.f40,by kernel_rfl,by kernel_rfl,by kernel_rfl,by kernel_rfl,by kernel_rfl⟩,by kernel_rfl,.nil⟩ (inlL_cons ⟨⟨Tryz.f43,by kernel_rfl,by kernel_rfl,by kernel_rfl,by kernel_rfl,by kernel_rfl⟩,by kernel_rfl,.nil⟩ inlL_nil))))) 12) (F:=glazierlaw22_gone_i43_l1_f fl) (VT.okV (by kernel_rfl)) (VT.okX (by kernel_rfl)) (fun v=>by kernel_rfl) (fun n v=>by kernel_rfl) fl

@[reducible] def glazierlaw22_gone_i43_l2_V:VT:=[z19,.slot 2 false [.dp I8],.slot 3 false [.dp I8],.slot 4 false [.dp I8],z30,z57,z58,z59,z60,z61,z62,z63,z50,z64,z65,z66,z67,z68,z69,z70,z71,z72,z73,z74,z75,z76,z77,z78,z79,z80,z81,z82,z83,z84,z85,z86,z87,z88,z89,.slot 400027 false [.clo 23 [(401192,0),(401193,0),(401194,0),(401195,0),(401196,0),(401197,0)]],z90,z91,z92,z93,z94,z95,z96,z97,z98,z99,z100,z101,z102,z103,z104,z105]
@[reducible] def glazierlaw22_gone_i43_l2_X:List (Out × VT):=[(.ret,[z57,z58,z59,z60,z61,z62,z63,z50,z64,z65,z66,z67,z68,z106,z70,z71,z72,z73,z74,z75,z76,z77,z78,z79,z80,z81,z82,z83,z84,z85,z86,z87,z88,z89,.slot 400027 false [.clo 23 [(401192,0),(401193,0),(401194,0),(401195,0),(401196,0),(401197,0)]],z107,z91,z92,z93,z94,z95,z96,z97,z98,z99,z100,z101,z102,z103,z104,z105]),(.exit 0,[z57,z58,z59,z60,z61,z62,z63,z50,z64,z65,z66,z67,z68,z69,z70,z71,z72,z73,z74,z75,z76,z77,z78,z79,z80,z81,z82,z83,z84,z85,z86,z87,z88,z89,.slot 400027 false [.clo 23 [(401192,0),(401193,0),(401194,0),(401195,0),(401196,0),(401197,0)]],z90,z91,z92,z93,z94,z95,z96,z97,z98,z99,z100,z101,z102,z103,z104,z105])]
noncomputable def glazierlaw22_gone_i43_l2_f (fl n:Nat):VT.T glazierlaw22_gone_i43_l2_V -> Option (XT glazierlaw22_gone_i43_l2_X):=fun v=>glazierlaw22_gone_i43_l2 fl n v.1 v.2.1 v.2.2.1 v.2.2.2.1 v.2.2.2.2.1 v.2.2.2.2.2.1 v.2.2.2.2.2.2.1 v.2.2.2.2.2.2.2.1 v.2.2.2.2.2.2.2.2.1 v.2.2.2.2.2.2.2.2.2.1 v.2.2.2.2.2.2.2.2.2.2.1 v.2.2.2.2.2.2.2.2.2.2.2.1 v.2.2.2.2.2.2.2.2.2.2.2.2.1 v.2.2.2.2.2.2.2.2.2.2.2.2.2.1 v.2.2.2.2.2.2.2.2.2.2.2.2.2.2.1 v.2.2.2.2.2.2.2.2.2.2.2.2.2.2.2.1 v.2.2.2.2.2.2.2.2.2.2.2.2.2.2.2.2.1 v.2.2.2.2.2.2.2.2.2.2.2.2.2.2.2.2.2.1 v.2.2.2.2.2.2.2.2.2.2.2.2.2.2.2.2.2.2.1 v.2.2.2.2.2.2.2.2.2.2.2.2.2.2.2.2.2.2.2.1 v.2.2.2.2.2.2.2.2.2.2.2.2.2.2.2.2.2.2.2.2.1 v.2.2.2.2.2.2.2.2.2.2.2.2.2.2.2.2.2.2.2.2.2.1 v.2.2.2.2.2.2.2.2.2.2.2.2.2.2.2.2.2.2.2.2.2.2.1 v.2.2.2.2.2.2.2.2.2.2.2.2.2.2.2.2.2.2.2.2.2.2.2.1 v.2.2.2.2.2.2.2.2.2.2.2.2.2.2.2.2.2.2.2.2.2.2.2.2.1 v.2.2.2.2.2.2.2.2.2.2.2.2.2.2.2.2.2.2.2.2.2.2.2.2.2.1 v.2.2.2.2.2.2.2.2.2.2.2.2.2.2.2.2.2.2.2.2.2.2.2.2.2.2.1 v.2.2.2.2.2.2.2.2.2.2.2.2.2.2.2.2.2.2.2.2.2.2.2.2.2.2.2.1 v.2.2.2.2.2.2.2.2.2.2.2.2.2.2.2.2.2.2.2.2.2.2.2.2.2.2.2.2.1 v.2.2.2.2.2.2.2.2.2.2.2.2.2.2.2.2.2.2.2.2.2.2.2.2.2.2.2.2.2.1 v.2.2.2.2.2.2.2.2.2.2.2.2.2.2.2.2.2.2.2.2.2.2.2.2.2.2.2.2.2.2.1 v.2.2.2.2.2.2.2.2.2.2.2.2.2.2.2.2.2.2.2.2.2.2.2.2.2.2.2.2.2.2.2.1 v.2.2.2.2.2.2.2.2.2.2.2.2.2.2.2.2.2.2.2.2.2.2.2.2.2.2.2.2.2.2.2.2.1 v.2.2.2.2.2.2.2.2.2.2.2.2.2.2.2.2.2.2.2.2.2.2.2.2.2.2.2.2.2.2.2.2.2.1 v.2.2.2.2.2.2.2.2.2.2.2.2.2.2.2.2.2.2.2.2.2.2.2.2.2.2.2.2.2.2.2.2.2.2.1 v.2.2.2.2.2.2.2.2.2.2.2.2.2.2.2.2.2.2.2.2.2.2.2.2.2.2.2.2.2.2.2.2.2.2.2.1 v.2.2.2.2.2.2.2.2.2.2.2.2.2.2.2.2.2.2.2.2.2.2.2.2.2.2.2.2.2.2.2.2.2.2.2.2.1 v.2.2.2.2.2.2.2.2.2.2.2.2.2.2.2.2.2.2.2.2.2.2.2.2.2.2.2.2.2.2.2.2.2.2.2.2.2.1 v.2.2.2.2.2.2.2.2.2.2.2.2.2.2.2.2.2.2.2.2.2.2.2.2.2.2.2.2.2.2.2.2.2.2.2.2.2.2.1 v.2.2.2.2.2.2.2.2.2.2.2.2.2.2.2.2.2.2.2.2.2.2.2.2.2.2.2.2.2.2.2.2.2.2.2.2.2.2.2.1 v.2.2.2.2.2.2.2.2.2.2.2.2.2.2.2.2.2.2.2.2.2.2.2.2.2.2.2.2.2.2.2.2.2.2.2.2.2.2.2.2.1 v.2.2.2.2.2.2.2.2.2.2.2.2.2.2.2.2.2.2.2.2.2.2.2.2.2.2.2.2.2.2.2.2.2.2.2.2.2.2.2.2.2.1 v.2.2.2.2.2.2.2.2.2.2.2.2.2.2.2.2.2.2.2.2.2.2.2.2.2.2.2.2.2.2.2.2.2.2.2.2.2.2.2.2.2.2.1 v.2.2.2.2.2.2.2.2.2.2.2.2.2.2.2.2.2.2.2.2.2.2.2.2.2.2.2.2.2.2.2.2.2.2.2.2.2.2.2.2.2.2.2.1 v.2.2.2.2.2.2.2.2.2.2.2.2.2.2.2.2.2.2.2.2.2.2.2.2.2.2.2.2.2.2.2.2.2.2.2.2.2.2.2.2.2.2.2.2.1 v.2.2.2.2.2.2.2.2.2.2.2.2.2.2.2.2.2.2.2.2.2.2.2.2.2.2.2.2.2.2.2.2.2.2.2.2.2.2.2.2.2.2.2.2.2.1 v.2.2.2.2.2.2.2.2.2.2.2.2.2.2.2.2.2.2.2.2.2.2.2.2.2.2.2.2.2.2.2.2.2.2.2.2.2.2.2.2.2.2.2.2.2.2.1 v.2.2.2.2.2.2.2.2.2.2.2.2.2.2.2.2.2.2.2.2.2.2.2.2.2.2.2.2.2.2.2.2.2.2.2.2.2.2.2.2.2.2.2.2.2.2.2.1 v.2.2.2.2.2.2.2.2.2.2.2.2.2.2.2.2.2.2.2.2.2.2.2.2.2.2.2.2.2.2.2.2.2.2.2.2.2.2.2.2.2.2.2.2.2.2.2.2.1 v.2.2.2.2.2.2.2.2.2.2.2.2.2.2.2.2.2.2.2.2.2.2.2.2.2.2.2.2.2.2.2.2.2.2.2.2.2.2.2.2.2.2.2.2.2.2.2.2.2.1 v.2.2.2.2.2.2.2.2.2.2.2.2.2.2.2.2.2.2.2.2.2.2.2.2.2.2.2.2.2.2.2.2.2.2.2.2.2.2.2.2.2.2.2.2.2.2.2.2.2.2.1 v.2.2.2.2.2.2.2.2.2.2.2.2.2.2.2.2.2.2.2.2.2.2.2.2.2.2.2.2.2.2.2.2.2.2.2.2.2.2.2.2.2.2.2.2.2.2.2.2.2.2.2.1 v.2.2.2.2.2.2.2.2.2.2.2.2.2.2.2.2.2.2.2.2.2.2.2.2.2.2.2.2.2.2.2.2.2.2.2.2.2.2.2.2.2.2.2.2.2.2.2.2.2.2.2.2.1 v.2.2.2.2.2.2.2.2.2.2.2.2.2.2.2.2.2.2.2.2.2.2.2.2.2.2.2.2.2.2.2.2.2.2.2.2.2.2.2.2.2.2.2.2.2.2.2.2.2.2.2.2.2.1 v.2.2.2.2.2.2.2.2.2.2.2.2.2.2.2.2.2.2.2.2.2.2.2.2.2.2.2.2.2.2.2.2.2.2.2.2.2.2.2.2.2.2.2.2.2.2.2.2.2.2.2.2.2.2.1 v.2.2.2.2.2.2.2.2.2.2.2.2.2.2.2.2.2.2.2.2.2.2.2.2.2.2.2.2.2.2.2.2.2.2.2.2.2.2.2.2.2.2.2.2.2.2.2.2.2.2.2.2.2.2.2.1 v.2.2.2.2.2.2.2.2.2.2.2.2.2.2.2.2.2.2.2.2.2.2.2.2.2.2.2.2.2.2.2.2.2.2.2.2.2.2.2.2.2.2.2.2.2.2.2.2.2.2.2.2.2.2.2.2.1 v.2.2.2.2.2.2.2.2.2.2.2.2.2.2.2.2.2.2.2.2.2.2.2.2.2.2.2.2.2.2.2.2.2.2.2.2.2.2.2.2.2.2.2.2.2.2.2.2.2.2.2.2.2.2.2.2.2.1 v.2.2.2.2.2.2.2.2.2.2.2.2.2.2.2.2.2.2.2.2.2.2.2.2.2.2.2.2.2.2.2.2.2.2.2.2.2.2.2.2.2.2.2.2.2.2.2.2.2.2.2.2.2.2.2.2.2.2.1 v.2.2.2.2.2.2.2.2.2.2.2.2.2.2.2.2.2.2.2.2.2.2.2.2.2.2.2.2.2.2.2.2.2.2.2.2.2.2.2.2.2.2.2.2.2.2.2.2.2.2.2.2.2.2.2.2.2.2.2.1 v.2.2.2.2.2.2.2.2.2.2.2.2.2.2.2.2.2.2.2.2.2.2.2.2.2.2.2.2.2.2.2.2.2.2.2.2.2.2.2.2.2.2.2.2.2.2.2.2.2.2.2.2.2.2.2.2.2.2.2.2.1 v.2.2.2.2.2.2.2.2.2.2.2.2.2.2.2.2.2.2.2.2.2.2.2.2.2.2.2.2.2.2.2.2.2.2.2.2.2.2.2.2.2.2.2.2.2.2.2.2.2.2.2.2.2.2.2.2.2.2.2.2.2.1
noncomputable def glazierlaw22_gone_i43_l2_s (fl:Nat):Seg:=⟨glazierlaw22_gone_i43_l2_V,glazierlaw22_gone_i43_l2_X,glazierlaw22_gone_i43_l2_f fl fl⟩
theorem glazierlaw22_gone_i43_l2_ok (fl:Nat):SegOk Tryz.prog 25 (.loop (loopBody (codeAt (fnBody Tryz.f43) 6))) (glazierlaw22_gone_i43_l2_s fl):=
  SegOk.loop (c0:=fnBody Tryz.f43) (p:=6) (U:=60) allE_nil hmo (me:=43) ⟨Tryz.f43,by kernel_rfl,by kernel_rfl,by kernel_rfl⟩ (G:=[(402,glazierlaw22_gone_i43_l1_s fl)]) (.cons (f:=400) (by kernel_rfl) (glazierlaw22_gone_i43_l1_ok fl) .nil) (.of (f:=400) (by kernel_rfl)) (I:=inlTab _ Tryz.prog [frags_Maker__frag_m fl] [⟨7,fnBody Tryz.f7,41,60,[.cell 8 36,.cell 9 4],[]⟩,⟨15,fnBody Tryz.f15,14,60,[.tmp 12],[]⟩,⟨23,fnBody Tryz.f23,107,60,[],[]⟩,⟨40,fnBody Tryz.f40,27,60,[],[]⟩,⟨43,fnBody Tryz.f43,25,60,[],[(402,glazierlaw22_gone_i43_l1_s fl)]⟩] 12) (inlTab_ok allE_nil hmo (allM_cons (frags_Maker__frag_mok fl) allM_nil) (inlL_cons ⟨⟨Tryz.f7,by kernel_rfl,by kernel_rfl,by kernel_rfl,by kernel_rfl,by kernel_rfl⟩,by kernel_rfl,.nil⟩ (inlL_cons ⟨⟨Tryz.f15,by kernel_rfl,by kernel_rfl,by kernel_rfl,by kernel_rfl,by kernel_rfl⟩,by kernel_rfl,.nil⟩ (inlL_cons ⟨⟨Tryz.f23,by kernel_rfl,by kernel_rfl,by kernel_rfl,by kernel_rfl,by kernel_rfl⟩,by kernel_rfl,.nil⟩ (inlL_cons ⟨⟨Tryz.f40,by kernel_rfl,by kernel_rfl,by kernel_rfl,by kernel_rfl,by kernel_rfl⟩,by kernel_rfl,.nil⟩ (inlL_cons ⟨⟨Tryz.f43,by kernel_rfl,by kernel_rfl,by kernel_rfl,by kernel_rfl,by kernel_rfl⟩,by kernel_rfl,(.cons (f:=400) (by kernel_rfl) (glazierlaw22_gone_i43_l1_ok fl) .nil)⟩ inlL_nil))))) 12) (F:=glazierlaw22_gone_i43_l2_f fl) (VT.okV (by kernel_rfl)) (VT.okX (by kernel_rfl)) (fun v=>by kernel_rfl) (fun n v=>by kernel_rfl) fl

@[reducible] def glazierlaw22_gone_i23_l1_V:VT:=[.slot 1 false [.ptr 301192 0],.slot 3 false [.ptr 301194 0],.slot 4 false [.ptr 301195 0],.slot 5 false [.ptr 301196 0],.slot 6 false [.ptr 301197 0],.slot 7 false [.ptr 200007 0],z108,z54,.slot 46 false [.own 73 Y10],.slot 47 false [D],.slot 48 false [D],z109,z110,z111,z112,z113,z114,z115,z116,z117,z118,z119,z120,z121,z122,z123,z124,z83,z125,z126,z127,.slot 300027 false [.clo 23 [(301192,0),(301193,0),(301194,0),(301195,0),(301196,0),(301197,0)]],z128,.box 9 3 [D],.box 10 59 [D,D,D,.dat .bool,.dat (.list Y1)],z129,z130,.box 300008 36 [.nils],z131,z132,z133,z134,z135,z136,z137,z138,z139]
@[reducible] def glazierlaw22_gone_i23_l1_X:List (Out × VT):=[(.ret,[z109,z110,z111,z112,z113,z114,z115,z116,z117,z118,z119,z120,z121,z122,z123,z124,z83,z125,z126,z127,.slot 300027 false [.clo 23 [(301192,0),(301193,0),(301194,0),(301195,0),(301196,0),(301197,0)]],.slot 310000 true [D,.kint .i64 7,.kint .i64 250],z129,z130,.box 300008 36 [.nils],z131,z132,z133,z134,z135,z136,z137,z138,z139]),(.exit 2,[z109,z110,z111,z112,z113,z114,z115,z116,z117,z118,z119,z120,z121,z122,z123,z124,z83,z125,z126,z127,.slot 300027 false [.clo 23 [(301192,0),(301193,0),(301194,0),(301195,0),(301196,0),(301197,0)]],z128,z129,z130,.box 300008 36 [.nils],z131,z132,z133,z134,z135,z136,z137,z138,z139])]
noncomputable def glazierlaw22_gone_i23_l1_f (fl n:Nat):VT.T glazierlaw22_gone_i23_l1_V -> Option (XT glazierlaw22_gone_i23_l1_X):=fun v=>glazierlaw22_gone_i23_l1 fl n v.1 v.2.1 v.2.2.1 v.2.2.2.1 v.2.2.2.2.1 v.2.2.2.2.2.1 v.2.2.2.2.2.2.1 v.2.2.2.2.2.2.2.1 v.2.2.2.2.2.2.2.2.1 v.2.2.2.2.2.2.2.2.2.1 v.2.2.2.2.2.2.2.2.2.2.1 v.2.2.2.2.2.2.2.2.2.2.2.1 v.2.2.2.2.2.2.2.2.2.2.2.2.1 v.2.2.2.2.2.2.2.2.2.2.2.2.2.1 v.2.2.2.2.2.2.2.2.2.2.2.2.2.2.1 v.2.2.2.2.2.2.2.2.2.2.2.2.2.2.2.1 v.2.2.2.2.2.2.2.2.2.2.2.2.2.2.2.2.1 v.2.2.2.2.2.2.2.2.2.2.2.2.2.2.2.2.2.1 v.2.2.2.2.2.2.2.2.2.2.2.2.2.2.2.2.2.2.1 v.2.2.2.2.2.2.2.2.2.2.2.2.2.2.2.2.2.2.2.1 v.2.2.2.2.2.2.2.2.2.2.2.2.2.2.2.2.2.2.2.2.1 v.2.2.2.2.2.2.2.2.2.2.2.2.2.2.2.2.2.2.2.2.2.1 v.2.2.2.2.2.2.2.2.2.2.2.2.2.2.2.2.2.2.2.2.2.2.1 v.2.2.2.2.2.2.2.2.2.2.2.2.2.2.2.2.2.2.2.2.2.2.2.1 v.2.2.2.2.2.2.2.2.2.2.2.2.2.2.2.2.2.2.2.2.2.2.2.2.1 v.2.2.2.2.2.2.2.2.2.2.2.2.2.2.2.2.2.2.2.2.2.2.2.2.2.1 v.2.2.2.2.2.2.2.2.2.2.2.2.2.2.2.2.2.2.2.2.2.2.2.2.2.2.1 v.2.2.2.2.2.2.2.2.2.2.2.2.2.2.2.2.2.2.2.2.2.2.2.2.2.2.2.1 v.2.2.2.2.2.2.2.2.2.2.2.2.2.2.2.2.2.2.2.2.2.2.2.2.2.2.2.2.1 v.2.2.2.2.2.2.2.2.2.2.2.2.2.2.2.2.2.2.2.2.2.2.2.2.2.2.2.2.2.1 v.2.2.2.2.2.2.2.2.2.2.2.2.2.2.2.2.2.2.2.2.2.2.2.2.2.2.2.2.2.2.1 v.2.2.2.2.2.2.2.2.2.2.2.2.2.2.2.2.2.2.2.2.2.2.2.2.2.2.2.2.2.2.2.1 v.2.2.2.2.2.2.2.2.2.2.2.2.2.2.2.2.2.2.2.2.2.2.2.2.2.2.2.2.2.2.2.2.1 v.2.2.2.2.2.2.2.2.2.2.2.2.2.2.2.2.2.2.2.2.2.2.2.2.2.2.2.2.2.2.2.2.2.1 v.2.2.2.2.2.2.2.2.2.2.2.2.2.2.2.2.2.2.2.2.2.2.2.2.2.2.2.2.2.2.2.2.2.2.1
noncomputable def glazierlaw22_gone_i23_l1_s (fl:Nat):Seg:=⟨glazierlaw22_gone_i23_l1_V,glazierlaw22_gone_i23_l1_X,glazierlaw22_gone_i23_l1_f fl fl⟩
theorem glazierlaw22_gone_i23_l1_ok (fl:Nat):SegOk Tryz.prog 107 (.loop (loopBody (codeAt (fnBody Tryz.f23) 942))) (glazierlaw22_gone_i23_l1_s fl):=
  have hT:=allE_cons (setup_Box_ok fl) (allE_cons setup_Pixels_ok allE_nil); SegOk.loop (c0:=fnBody Tryz.f23) (p:=942) (U:=60) hT hmo (me:=23) ⟨Tryz.f23,by kernel_rfl,by kernel_rfl,by kernel_rfl⟩ (G:=[]) .nil (.of (f:=400) (by kernel_rfl)) (I:=inlTab _ Tryz.prog [frags_Maker__frag_m fl] [⟨7,fnBody Tryz.f7,41,60,[.cell 8 36,.cell 9 4],[]⟩,⟨15,fnBody Tryz.f15,14,60,[.tmp 12],[]⟩,⟨23,fnBody Tryz.f23,107,60,[],[]⟩,⟨40,fnBody Tryz.f40,27,60,[],[]⟩,⟨43,fnBody Tryz.f43,25,60,[],[(402,glazierlaw22_gone_i43_l1_s fl),(6,glazierlaw22_gone_i43_l2_s fl)]⟩] 12) (inlTab_ok hT hmo (allM_cons (frags_Maker__frag_mok fl) allM_nil) (inlL_cons ⟨⟨Tryz.f7,by kernel_rfl,by kernel_rfl,by kernel_rfl,by kernel_rfl,by kernel_rfl⟩,by kernel_rfl,.nil⟩ (inlL_cons ⟨⟨Tryz.f15,by kernel_rfl,by kernel_rfl,by kernel_rfl,by kernel_rfl,by kernel_rfl⟩,by kernel_rfl,.nil⟩ (inlL_cons ⟨⟨Tryz.f23,by kernel_rfl,by kernel_rfl,by kernel_rfl,by kernel_rfl,by kernel_rfl⟩,by kernel_rfl,.nil⟩ (inlL_cons ⟨⟨Tryz.f40,by kernel_rfl,by kernel_rfl,by kernel_rfl,by kernel_rfl,by kernel_rfl⟩,by kernel_rfl,.nil⟩ (inlL_cons ⟨⟨Tryz.f43,by kernel_rfl,by kernel_rfl,by kernel_rfl,by kernel_rfl,by kernel_rfl⟩,by kernel_rfl,(.cons (f:=400) (by kernel_rfl) (glazierlaw22_gone_i43_l1_ok fl) (.cons (f:=400) (by kernel_rfl) (glazierlaw22_gone_i43_l2_ok fl) .nil))⟩ inlL_nil))))) 12) (F:=glazierlaw22_gone_i23_l1_f fl) (VT.okV (by kernel_rfl)) (VT.okX (by kernel_rfl)) (fun v=>by kernel_rfl) (fun n v=>by kernel_rfl) fl

@[reducible] def glazierlaw22_gone_i40_l1_V:VT:=[z19,z140,z141,z28,z39,.slot 16 false [D],z142,z143,z144,z145,z146,z147,z148,z22,z149,z150,z122,z151,z152,z44,.slot 200027 false [.clo 23 [(201192,0),(201193,0),(201194,0),(201195,0),(201196,0),(201197,0)]],z153,z154,z155,z156,z157,z158,z159,z160,z161,z162,z163,z164,z165]
@[reducible] def glazierlaw22_gone_i40_l1_X:List (Out × VT):=[(.ret,[z143,z144,z145,z146,z147,z148,z22,z149,z166,z122,z151,z152,z44,.slot 200027 false [.clo 23 [(201192,0),(201193,0),(201194,0),(201195,0),(201196,0),(201197,0)]],z167,z154,z155,z156,z157,z158,z159,z160,z161,z162,z163,z164,z165]),(.exit 2,[z19,z141,z28,z39,z143,z144,z145,z146,z147,z148,z22,z149,z150,z122,z151,z152,z44,.slot 200027 false [.clo 23 [(201192,0),(201193,0),(201194,0),(201195,0),(201196,0),(201197,0)]],z153,z154,z155,z156,z157,z158,z159,z160,z161,z162,z163,z164,z165])]
noncomputable def glazierlaw22_gone_i40_l1_f (fl n:Nat):VT.T glazierlaw22_gone_i40_l1_V -> Option (XT glazierlaw22_gone_i40_l1_X):=fun v=>glazierlaw22_gone_i40_l1 fl n v.1 v.2.1 v.2.2.1 v.2.2.2.1 v.2.2.2.2.1 v.2.2.2.2.2.1 v.2.2.2.2.2.2.1 v.2.2.2.2.2.2.2.1 v.2.2.2.2.2.2.2.2.1 v.2.2.2.2.2.2.2.2.2.1 v.2.2.2.2.2.2.2.2.2.2.1 v.2.2.2.2.2.2.2.2.2.2.2.1 v.2.2.2.2.2.2.2.2.2.2.2.2.1 v.2.2.2.2.2.2.2.2.2.2.2.2.2.1 v.2.2.2.2.2.2.2.2.2.2.2.2.2.2.1 v.2.2.2.2.2.2.2.2.2.2.2.2.2.2.2.1 v.2.2.2.2.2.2.2.2.2.2.2.2.2.2.2.2.1 v.2.2.2.2.2.2.2.2.2.2.2.2.2.2.2.2.2.1 v.2.2.2.2.2.2.2.2.2.2.2.2.2.2.2.2.2.2.1 v.2.2.2.2.2.2.2.2.2.2.2.2.2.2.2.2.2.2.2.1 v.2.2.2.2.2.2.2.2.2.2.2.2.2.2.2.2.2.2.2.2.1 v.2.2.2.2.2.2.2.2.2.2.2.2.2.2.2.2.2.2.2.2.2.1 v.2.2.2.2.2.2.2.2.2.2.2.2.2.2.2.2.2.2.2.2.2.2.1 v.2.2.2.2.2.2.2.2.2.2.2.2.2.2.2.2.2.2.2.2.2.2.2.1 v.2.2.2.2.2.2.2.2.2.2.2.2.2.2.2.2.2.2.2.2.2.2.2.2.1 v.2.2.2.2.2.2.2.2.2.2.2.2.2.2.2.2.2.2.2.2.2.2.2.2.2.1
noncomputable def glazierlaw22_gone_i40_l1_s (fl:Nat):Seg:=⟨glazierlaw22_gone_i40_l1_V,glazierlaw22_gone_i40_l1_X,glazierlaw22_gone_i40_l1_f fl fl⟩
theorem glazierlaw22_gone_i40_l1_ok (fl:Nat):SegOk Tryz.prog 27 (.loop (loopBody (codeAt (fnBody Tryz.f40) 1638))) (glazierlaw22_gone_i40_l1_s fl):=
  have hT:=allE_cons (frags_Maker__parts_ok fl) (allE_cons (setup_Box_ok fl) (allE_cons setup_Pixels_ok allE_nil)); SegOk.loop (c0:=fnBody Tryz.f40) (p:=1638) (U:=60) hT hmo (me:=40) ⟨Tryz.f40,by kernel_rfl,by kernel_rfl,by kernel_rfl⟩ (G:=[]) .nil (.of (f:=400) (by kernel_rfl)) (I:=inlTab _ Tryz.prog [frags_Maker__frag_m fl] [⟨7,fnBody Tryz.f7,41,60,[.cell 8 36,.cell 9 4],[]⟩,⟨15,fnBody Tryz.f15,14,60,[.tmp 12],[]⟩,⟨23,fnBody Tryz.f23,107,60,[],[(942,glazierlaw22_gone_i23_l1_s fl)]⟩,⟨40,fnBody Tryz.f40,27,60,[],[]⟩,⟨43,fnBody Tryz.f43,25,60,[],[(402,glazierlaw22_gone_i43_l1_s fl),(6,glazierlaw22_gone_i43_l2_s fl)]⟩] 12) (inlTab_ok hT hmo (allM_cons (frags_Maker__frag_mok fl) allM_nil) (inlL_cons ⟨⟨Tryz.f7,by kernel_rfl,by kernel_rfl,by kernel_rfl,by kernel_rfl,by kernel_rfl⟩,by kernel_rfl,.nil⟩ (inlL_cons ⟨⟨Tryz.f15,by kernel_rfl,by kernel_rfl,by kernel_rfl,by kernel_rfl,by kernel_rfl⟩,by kernel_rfl,.nil⟩ (inlL_cons ⟨⟨Tryz.f23,by kernel_rfl,by kernel_rfl,by kernel_rfl,by kernel_rfl,by kernel_rfl⟩,by kernel_rfl,(.cons (f:=400) (by kernel_rfl) (glazierlaw22_gone_i23_l1_ok fl) .nil)⟩ (inlL_cons ⟨⟨Tryz.f40,by kernel_rfl,by kernel_rfl,by kernel_rfl,by kernel_rfl,by kernel_rfl⟩,by kernel_rfl,.nil⟩ (inlL_cons ⟨⟨Tryz.f43,by kernel_rfl,by kernel_rfl,by kernel_rfl,by kernel_rfl,by kernel_rfl⟩,by kernel_rfl,(.cons (f:=400) (by kernel_rfl) (glazierlaw22_gone_i43_l1_ok fl) (.cons (f:=400) (by kernel_rfl) (glazierlaw22_gone_i43_l2_ok fl) .nil))⟩ inlL_nil))))) 12) (F:=glazierlaw22_gone_i40_l1_f fl) (VT.okV (by kernel_rfl)) (VT.okX (by kernel_rfl)) (fun v=>by kernel_rfl) (fun n v=>by kernel_rfl) fl

@[reducible] def glazierlaw22_gone_i40_l2_V:VT:=[z19,z141,z28,z39,z143,z144,z145,z146,z147,z148,z22,z149,z150,z122,z151,z152,z44,.slot 200027 false [.clo 23 [(201192,0),(201193,0),(201194,0),(201195,0),(201196,0),(201197,0)]],z153,z154,z155,z156,z157,z158,z159,z160,z161,z162,z163,z164,z165]
@[reducible] def glazierlaw22_gone_i40_l2_X:List (Out × VT):=[(.ret,[z143,z144,z145,z146,z147,z148,z22,z149,z166,z122,z151,z152,z44,.slot 200027 false [.clo 23 [(201192,0),(201193,0),(201194,0),(201195,0),(201196,0),(201197,0)]],z167,z154,z155,z156,z157,z158,z159,z160,z161,z162,z163,z164,z165]),(.exit 0,[z143,z144,z145,z146,z147,z148,z22,z149,z150,z122,z151,z152,z44,.slot 200027 false [.clo 23 [(201192,0),(201193,0),(201194,0),(201195,0),(201196,0),(201197,0)]],z153,z154,z155,z156,z157,z158,z159,z160,z161,z162,z163,z164,z165])]
noncomputable def glazierlaw22_gone_i40_l2_f (fl n:Nat):VT.T glazierlaw22_gone_i40_l2_V -> Option (XT glazierlaw22_gone_i40_l2_X):=fun v=>glazierlaw22_gone_i40_l2 fl n v.1 v.2.1 v.2.2.1 v.2.2.2.1 v.2.2.2.2.1 v.2.2.2.2.2.1 v.2.2.2.2.2.2.1 v.2.2.2.2.2.2.2.1 v.2.2.2.2.2.2.2.2.1 v.2.2.2.2.2.2.2.2.2.1 v.2.2.2.2.2.2.2.2.2.2.1 v.2.2.2.2.2.2.2.2.2.2.2.1 v.2.2.2.2.2.2.2.2.2.2.2.2.1 v.2.2.2.2.2.2.2.2.2.2.2.2.2.1 v.2.2.2.2.2.2.2.2.2.2.2.2.2.2.1 v.2.2.2.2.2.2.2.2.2.2.2.2.2.2.2.1 v.2.2.2.2.2.2.2.2.2.2.2.2.2.2.2.2.1 v.2.2.2.2.2.2.2.2.2.2.2.2.2.2.2.2.2.1 v.2.2.2.2.2.2.2.2.2.2.2.2.2.2.2.2.2.2.1 v.2.2.2.2.2.2.2.2.2.2.2.2.2.2.2.2.2.2.2.1 v.2.2.2.2.2.2.2.2.2.2.2.2.2.2.2.2.2.2.2.2.1 v.2.2.2.2.2.2.2.2.2.2.2.2.2.2.2.2.2.2.2.2.2.1 v.2.2.2.2.2.2.2.2.2.2.2.2.2.2.2.2.2.2.2.2.2.2.1
noncomputable def glazierlaw22_gone_i40_l2_s (fl:Nat):Seg:=⟨glazierlaw22_gone_i40_l2_V,glazierlaw22_gone_i40_l2_X,glazierlaw22_gone_i40_l2_f fl fl⟩
theorem glazierlaw22_gone_i40_l2_ok (fl:Nat):SegOk Tryz.prog 27 (.loop (loopBody (codeAt (fnBody Tryz.f40) 6))) (glazierlaw22_gone_i40_l2_s fl):=
  have hT:=allE_cons (frags_Maker__parts_ok fl) (allE_cons (setup_Box_ok fl) (allE_cons setup_Pixels_ok allE_nil)); SegOk.loop (c0:=fnBody Tryz.f40) (p:=6) (U:=60) hT hmo (me:=40) ⟨Tryz.f40,by kernel_rfl,by kernel_rfl,by kernel_rfl⟩ (G:=[(1638,glazierlaw22_gone_i40_l1_s fl)]) (.cons (f:=400) (by kernel_rfl) (glazierlaw22_gone_i40_l1_ok fl) .nil) (.of (f:=400) (by kernel_rfl)) (I:=inlTab _ Tryz.prog [frags_Maker__frag_m fl] [⟨7,fnBody Tryz.f7,41,60,[.cell 8 36,.cell 9 4],[]⟩,⟨15,fnBody Tryz.f15,14,60,[.tmp 12],[]⟩,⟨23,fnBody Tryz.f23,107,60,[],[(942,glazierlaw22_gone_i23_l1_s fl)]⟩,⟨40,fnBody Tryz.f40,27,60,[],[(1638,glazierlaw22_gone_i40_l1_s fl)]⟩,⟨43,fnBody Tryz.f43,25,60,[],[(402,glazierlaw22_gone_i43_l1_s fl),(6,glazierlaw22_gone_i43_l2_s fl)]⟩] 12) (inlTab_ok hT hmo (allM_cons (frags_Maker__frag_mok fl) allM_nil) (inlL_cons ⟨⟨Tryz.f7,by kernel_rfl,by kernel_rfl,by kernel_rfl,by kernel_rfl,by kernel_rfl⟩,by kernel_rfl,.nil⟩ (inlL_cons ⟨⟨Tryz.f15,by kernel_rfl,by kernel_rfl,by kernel_rfl,by kernel_rfl,by kernel_rfl⟩,by kernel_rfl,.nil⟩ (inlL_cons ⟨⟨Tryz.f23,by kernel_rfl,by kernel_rfl,by kernel_rfl,by kernel_rfl,by kernel_rfl⟩,by kernel_rfl,(.cons (f:=400) (by kernel_rfl) (glazierlaw22_gone_i23_l1_ok fl) .nil)⟩ (inlL_cons ⟨⟨Tryz.f40,by kernel_rfl,by kernel_rfl,by kernel_rfl,by kernel_rfl,by kernel_rfl⟩,by kernel_rfl,(.cons (f:=400) (by kernel_rfl) (glazierlaw22_gone_i40_l1_ok fl) .nil)⟩ (inlL_cons ⟨⟨Tryz.f43,by kernel_rfl,by kernel_rfl,by kernel_rfl,by kernel_rfl,by kernel_rfl⟩,by kernel_rfl,(.cons (f:=400) (by kernel_rfl) (glazierlaw22_gone_i43_l1_ok fl) (.cons (f:=400) (by kernel_rfl) (glazierlaw22_gone_i43_l2_ok fl) .nil))⟩ inlL_nil))))) 12) (F:=glazierlaw22_gone_i40_l2_f fl) (VT.okV (by kernel_rfl)) (VT.okX (by kernel_rfl)) (fun v=>by kernel_rfl) (fun n v=>by kernel_rfl) fl

noncomputable def glazierlaw22_gone_m (fl:Nat):MEnt:=⟨7,53,(.pair (.pair I8 (.pair I8 (.pair Y4 (.pair Y9 (.pair (.list Y7) (.pair (.list Y5) Y6)))))) (.pair I8 I8)),(.cons (.val true Y1) (.cons (.val false .bool) (.val false I8))),(.cons (.val false (.list Y8)) (.val false .bool)),fun x y=>glazierlaw22_gone fl x y.1 y.2.1 y.2.2⟩
theorem glazierlaw22_gone_mok (fl:Nat):MEnt.Ok Tryz.prog (glazierlaw22_gone_m fl):=
  MEnt.of (N:=41) (U:=60) (T:=[scene_Each_e,frags_Maker__parts_e fl,setup_Box_e fl,setup_Pixels_e]) (allE_cons scene_Each_ok (allE_cons (frags_Maker__parts_ok fl) (allE_cons (setup_Box_ok fl) (allE_cons setup_Pixels_ok allE_nil)))) hmo (fn:=Tryz.f7) (c:=fnBody Tryz.f7) (G:=[]) (by kernel_rfl) (by kernel_rfl) (by kernel_rfl) (by kernel_rfl) (by kernel_rfl) (by kernel_rfl) (by kernel_rfl) (fun y=>by kernel_rfl) (rs:=[.cell 8 36,.cell 9 4]) (by kernel_rfl) .nil (I:=inlTab [scene_Each_e,frags_Maker__parts_e fl,setup_Box_e fl,setup_Pixels_e] Tryz.prog [frags_Maker__frag_m fl] [⟨7,fnBody Tryz.f7,41,60,[.cell 8 36,.cell 9 4],[]⟩,⟨15,fnBody Tryz.f15,14,60,[.tmp 12],[]⟩,⟨23,fnBody Tryz.f23,107,60,[],[(942,glazierlaw22_gone_i23_l1_s fl)]⟩,⟨40,fnBody Tryz.f40,27,60,[],[(1638,glazierlaw22_gone_i40_l1_s fl),(6,glazierlaw22_gone_i40_l2_s fl)]⟩,⟨43,fnBody Tryz.f43,25,60,[],[(402,glazierlaw22_gone_i43_l1_s fl),(6,glazierlaw22_gone_i43_l2_s fl)]⟩] 12) (inlTab_ok (allE_cons scene_Each_ok (allE_cons (frags_Maker__parts_ok fl) (allE_cons (setup_Box_ok fl) (allE_cons setup_Pixels_ok allE_nil)))) hmo (allM_cons (frags_Maker__frag_mok fl) allM_nil) (inlL_cons ⟨⟨Tryz.f7,by kernel_rfl,by kernel_rfl,by kernel_rfl,by kernel_rfl,by kernel_rfl⟩,by kernel_rfl,.nil⟩ (inlL_cons ⟨⟨Tryz.f15,by kernel_rfl,by kernel_rfl,by kernel_rfl,by kernel_rfl,by kernel_rfl⟩,by kernel_rfl,.nil⟩ (inlL_cons ⟨⟨Tryz.f23,by kernel_rfl,by kernel_rfl,by kernel_rfl,by kernel_rfl,by kernel_rfl⟩,by kernel_rfl,(.cons (f:=400) (by kernel_rfl) (glazierlaw22_gone_i23_l1_ok fl) .nil)⟩ (inlL_cons ⟨⟨Tryz.f40,by kernel_rfl,by kernel_rfl,by kernel_rfl,by kernel_rfl,by kernel_rfl⟩,by kernel_rfl,(.cons (f:=400) (by kernel_rfl) (glazierlaw22_gone_i40_l1_ok fl) (.cons (f:=400) (by kernel_rfl) (glazierlaw22_gone_i40_l2_ok fl) .nil))⟩ (inlL_cons ⟨⟨Tryz.f43,by kernel_rfl,by kernel_rfl,by kernel_rfl,by kernel_rfl,by kernel_rfl⟩,by kernel_rfl,(.cons (f:=400) (by kernel_rfl) (glazierlaw22_gone_i43_l1_ok fl) (.cons (f:=400) (by kernel_rfl) (glazierlaw22_gone_i43_l2_ok fl) .nil))⟩ inlL_nil))))) 12) (fun x y=>by kernel_rfl)

noncomputable def frags_Maker__Made_e:Ent:=⟨11,(.dp (.pair I8 (.pair I8 (.pair U8 (.pair U8 (.pair U8 (.pair U8 (.pair Y9 (.pair (.list Y7) (.pair (.list Y5) (.pair Y6 (.pair I8 I8)))))))))))),(.val false I8),fun y=>frags_Maker__Made y⟩
theorem frags_Maker__Made_ok:Ent.Ok Tryz.prog (frags_Maker__Made_e):=
  Ent.of (N:=7) (U:=60) allE_nil hmo (fn:=Tryz.f11) (c:=fnBody Tryz.f11) (G:=[]) (by kernel_rfl) (by kernel_rfl) (by kernel_rfl) (by kernel_rfl) (by kernel_rfl) (by kernel_rfl) (fun y=>by kernel_rfl) (rs:=[.tmp 2]) (by kernel_rfl) .nil (I:=inlNone) inl_none (fun y=>by kernel_rfl)

noncomputable def frags_Maker__Steps_e:Ent:=⟨12,(.dp (.pair I8 (.pair I8 (.pair U8 (.pair U8 (.pair U8 (.pair U8 (.pair Y9 (.pair (.list Y7) (.pair (.list Y5) (.pair Y6 (.pair I8 I8)))))))))))),(.val false I8),fun y=>frags_Maker__Steps y⟩
theorem frags_Maker__Steps_ok:Ent.Ok Tryz.prog (frags_Maker__Steps_e):=
  Ent.of (N:=7) (U:=60) allE_nil hmo (fn:=Tryz.f12) (c:=fnBody Tryz.f12) (G:=[]) (by kernel_rfl) (by kernel_rfl) (by kernel_rfl) (by kernel_rfl) (by kernel_rfl) (by kernel_rfl) (fun y=>by kernel_rfl) (rs:=[.tmp 2]) (by kernel_rfl) .nil (I:=inlNone) inl_none (fun y=>by kernel_rfl)

noncomputable def glazierlaw22_shown_e (fl:Nat):Ent:=⟨4,.nil,(.val false .bool),fun y=>glazierlaw22_shown fl⟩
theorem glazierlaw22_shown_ok (fl:Nat):Ent.Ok Tryz.prog (glazierlaw22_shown_e fl):=
  have hT:=allE_cons glazierlaw22_plain_ok (allE_cons frags_Maker__Made_ok (allE_cons frags_Maker__Steps_ok allE_nil)); Ent.of (N:=51) (U:=60) hT hmo (fn:=Tryz.f4) (c:=fnBody Tryz.f4) (G:=[]) (by kernel_rfl) (by kernel_rfl) (by kernel_rfl) (by kernel_rfl) (by kernel_rfl) (by kernel_rfl) (fun y=>by kernel_rfl) (rs:=[.tmp 0]) (by kernel_rfl) .nil (I:=inlTab _ Tryz.prog [glazierlaw22_gone_m fl] [⟨6,fnBody Tryz.f6,6,60,[.tmp 2],[]⟩] 12) (inlTab_ok hT hmo (allM_cons (glazierlaw22_gone_mok fl) allM_nil) (inlL_cons ⟨⟨Tryz.f6,by kernel_rfl,by kernel_rfl,by kernel_rfl,by kernel_rfl,by kernel_rfl⟩,by kernel_rfl,.nil⟩ inlL_nil) 12) (fun y=>by kernel_rfl)

noncomputable def glazierref14_mod_e:Ent:=⟨18,(.cons (.val false I8) (.val false I8)),(.val false I8),fun y=>glazierref14_mod y.1 y.2⟩
theorem glazierref14_mod_ok:Ent.Ok Tryz.prog (glazierref14_mod_e):=
  Ent.of (N:=15) (U:=60) allE_nil hmo (fn:=Tryz.f18) (c:=fnBody Tryz.f18) (G:=[]) (by kernel_rfl) (by kernel_rfl) (by kernel_rfl) (by kernel_rfl) (by kernel_rfl) (by kernel_rfl) (fun y=>by kernel_rfl) (rs:=[.tmp 4]) (by kernel_rfl) .nil (I:=inlNone) inl_none (fun y=>by kernel_rfl)

noncomputable def glazierref01_Div255_e:Ent:=⟨59,(.val false I8),(.val false I8),fun y=>glazierref01_Div255 y⟩
theorem glazierref01_Div255_ok:Ent.Ok Tryz.prog (glazierref01_Div255_e):=
  Ent.of (N:=11) (U:=60) allE_nil hmo (fn:=Tryz.f59) (c:=fnBody Tryz.f59) (G:=[]) (by kernel_rfl) (by kernel_rfl) (by kernel_rfl) (by kernel_rfl) (by kernel_rfl) (by kernel_rfl) (fun y=>by kernel_rfl) (rs:=[.tmp 2]) (by kernel_rfl) .nil (I:=inlNone) inl_none (fun y=>by kernel_rfl)

noncomputable def glazierref02_part_e:Ent:=⟨37,(.cons (.val false U8) (.val false U8)),(.val false U8),fun y=>glazierref02_part y.1 y.2⟩
theorem glazierref02_part_ok:Ent.Ok Tryz.prog (glazierref02_part_e):=
  Ent.of (N:=12) (U:=60) (allE_cons glazierref01_Div255_ok allE_nil) hmo (fn:=Tryz.f37) (c:=fnBody Tryz.f37) (G:=[]) (by kernel_rfl) (by kernel_rfl) (by kernel_rfl) (by kernel_rfl) (by kernel_rfl) (by kernel_rfl) (fun y=>by kernel_rfl) (rs:=[.tmp 4]) (by kernel_rfl) .nil (I:=inlNone) inl_none (fun y=>by kernel_rfl)

noncomputable def glazierref02_Pre_e:Ent:=⟨19,(.val true Y4),(.val true Y4),fun y=>glazierref02_Pre y⟩
theorem glazierref02_Pre_ok:Ent.Ok Tryz.prog (glazierref02_Pre_e):=
  Ent.of (N:=21) (U:=60) (allE_cons glazierref02_part_ok allE_nil) hmo (fn:=Tryz.f19) (c:=fnBody Tryz.f19) (G:=[]) (by kernel_rfl) (by kernel_rfl) (by kernel_rfl) (by kernel_rfl) (by kernel_rfl) (by kernel_rfl) (fun y=>by kernel_rfl) (rs:=[.cell 2 23]) (by kernel_rfl) .nil (I:=inlNone) inl_none (fun y=>by kernel_rfl)

noncomputable def glazierref04_Fit_e:Ent:=⟨20,(.val true Y11),(.val true Y11),fun y=>glazierref04_Fit y⟩
theorem glazierref04_Fit_ok:Ent.Ok Tryz.prog (glazierref04_Fit_e):=
  Ent.of (N:=42) (U:=60) allE_nil hmo (fn:=Tryz.f20) (c:=fnBody Tryz.f20) (G:=[]) (by kernel_rfl) (by kernel_rfl) (by kernel_rfl) (by kernel_rfl) (by kernel_rfl) (by kernel_rfl) (fun y=>by kernel_rfl) (rs:=[.cell 2 66]) (by kernel_rfl) .nil (I:=inlNone) inl_none (fun y=>by kernel_rfl)

@[reducible] def glazierref14_Fit_l1_V:VT:=[z16,z140,z29,z32,z54,z168,z55,z169,z170,z171,z172]
@[reducible] def glazierref14_Fit_l1_X:List (Out × VT):=[(.exit 0,[z140,z29,z32,z54,z168,z169,z170,z171,z172])]
noncomputable def glazierref14_Fit_l1_f (fl n:Nat):VT.T glazierref14_Fit_l1_V -> Option (XT glazierref14_Fit_l1_X):=fun v=>glazierref14_Fit_l1 fl n v.1 v.2.1 v.2.2.1 v.2.2.2.1 v.2.2.2.2.1 v.2.2.2.2.2.1 v.2.2.2.2.2.2.1 v.2.2.2.2.2.2.2.1 v.2.2.2.2.2.2.2.2.1 v.2.2.2.2.2.2.2.2.2.1 v.2.2.2.2.2.2.2.2.2.2.1 v.2.2.2.2.2.2.2.2.2.2.2.1 v.2.2.2.2.2.2.2.2.2.2.2.2.1 v.2.2.2.2.2.2.2.2.2.2.2.2.2.1 v.2.2.2.2.2.2.2.2.2.2.2.2.2.2.1 v.2.2.2.2.2.2.2.2.2.2.2.2.2.2.2.1 v.2.2.2.2.2.2.2.2.2.2.2.2.2.2.2.2.1 v.2.2.2.2.2.2.2.2.2.2.2.2.2.2.2.2.2.1 v.2.2.2.2.2.2.2.2.2.2.2.2.2.2.2.2.2.2.1 v.2.2.2.2.2.2.2.2.2.2.2.2.2.2.2.2.2.2.2.1 v.2.2.2.2.2.2.2.2.2.2.2.2.2.2.2.2.2.2.2.2.1
noncomputable def glazierref14_Fit_l1_s (fl:Nat):Seg:=⟨glazierref14_Fit_l1_V,glazierref14_Fit_l1_X,glazierref14_Fit_l1_f fl fl⟩
theorem glazierref14_Fit_l1_ok (fl:Nat):SegOk Tryz.prog 222 (.loop (loopBody (codeAt (fnBody Tryz.f14) 122))) (glazierref14_Fit_l1_s fl):=
  SegOk.loop (c0:=fnBody Tryz.f14) (p:=122) (U:=60) (allE_cons glazierref04_Fit_ok allE_nil) hmo (me:=14) ⟨Tryz.f14,by kernel_rfl,by kernel_rfl,by kernel_rfl⟩ (G:=[]) .nil (.of (f:=400) (by kernel_rfl)) (I:=inlNone) inl_none (F:=glazierref14_Fit_l1_f fl) (VT.okV (by kernel_rfl)) (VT.okX (by kernel_rfl)) (fun v=>by kernel_rfl) (fun n v=>by kernel_rfl) fl

noncomputable def glazierref11_wrap_e:Ent:=⟨38,(.cons (.val false I8) (.val false I8)),(.val false I8),fun y=>glazierref11_wrap y.1 y.2⟩
theorem glazierref11_wrap_ok:Ent.Ok Tryz.prog (glazierref11_wrap_e):=
  Ent.of (N:=15) (U:=60) allE_nil hmo (fn:=Tryz.f38) (c:=fnBody Tryz.f38) (G:=[]) (by kernel_rfl) (by kernel_rfl) (by kernel_rfl) (by kernel_rfl) (by kernel_rfl) (by kernel_rfl) (fun y=>by kernel_rfl) (rs:=[.tmp 4]) (by kernel_rfl) .nil (I:=inlNone) inl_none (fun y=>by kernel_rfl)

@[reducible] def glazierref11_Fit_l1_V:VT:=[.slot 1 false [.ptr 1 0],z173,z17,z29,.box 1 82 [D,D,.dat (.list Y4)],z174,.box 3 82 [D,D,.own 23 Y4]]
@[reducible] def glazierref11_Fit_l1_X:List (Out × VT):=[(.exit 0,[z173,z17,z174,.box 3 82 [D,D,.own 23 Y4]])]
noncomputable def glazierref11_Fit_l1_f (fl n:Nat):VT.T glazierref11_Fit_l1_V -> Option (XT glazierref11_Fit_l1_X):=fun v=>glazierref11_Fit_l1 fl n v.1 v.2.1 v.2.2.1 v.2.2.2.1 v.2.2.2.2.1 v.2.2.2.2.2.1 v.2.2.2.2.2.2.1
noncomputable def glazierref11_Fit_l1_s (fl:Nat):Seg:=⟨glazierref11_Fit_l1_V,glazierref11_Fit_l1_X,glazierref11_Fit_l1_f fl fl⟩
theorem glazierref11_Fit_l1_ok (fl:Nat):SegOk Tryz.prog 47 (.loop (loopBody (codeAt (fnBody Tryz.f21) 58))) (glazierref11_Fit_l1_s fl):=
  SegOk.loop (c0:=fnBody Tryz.f21) (p:=58) (U:=60) allE_nil hmo (me:=21) ⟨Tryz.f21,by kernel_rfl,by kernel_rfl,by kernel_rfl⟩ (G:=[]) .nil (.of (f:=400) (by kernel_rfl)) (I:=inlNone) inl_none (F:=glazierref11_Fit_l1_f fl) (VT.okV (by kernel_rfl)) (VT.okX (by kernel_rfl)) (fun v=>by kernel_rfl) (fun n v=>by kernel_rfl) fl

noncomputable def glazierref11_Fit_e (fl:Nat):Ent:=⟨21,(.val true Y7),(.val true Y7),fun y=>glazierref11_Fit fl y⟩
theorem glazierref11_Fit_ok (fl:Nat):Ent.Ok Tryz.prog (glazierref11_Fit_e fl):=
  Ent.of (N:=47) (U:=60) (allE_cons glazierref11_wrap_ok allE_nil) hmo (fn:=Tryz.f21) (c:=fnBody Tryz.f21) (G:=[(58,glazierref11_Fit_l1_s fl)]) (by kernel_rfl) (by kernel_rfl) (by kernel_rfl) (by kernel_rfl) (by kernel_rfl) (by kernel_rfl) (fun y=>by kernel_rfl) (rs:=[.cell 2 82]) (by kernel_rfl) (.cons (f:=400) (by kernel_rfl) (glazierref11_Fit_l1_ok fl) .nil) (I:=inlNone) inl_none (fun y=>by kernel_rfl)

@[reducible] def glazierref14_Fit_l2_V:VT:=[z140,z29,z32,z54,z168,z56,z169,z170,z171,z175]
@[reducible] def glazierref14_Fit_l2_X:List (Out × VT):=[(.exit 2,[z140,z29,z32,z54,z168,z169,z170,z171,z175])]
noncomputable def glazierref14_Fit_l2_f (fl n:Nat):VT.T glazierref14_Fit_l2_V -> Option (XT glazierref14_Fit_l2_X):=fun v=>glazierref14_Fit_l2 fl n v.1 v.2.1 v.2.2.1 v.2.2.2.1 v.2.2.2.2.1 v.2.2.2.2.2.1 v.2.2.2.2.2.2.1 v.2.2.2.2.2.2.2.1 v.2.2.2.2.2.2.2.2.1 v.2.2.2.2.2.2.2.2.2.1 v.2.2.2.2.2.2.2.2.2.2.1 v.2.2.2.2.2.2.2.2.2.2.2.1 v.2.2.2.2.2.2.2.2.2.2.2.2.1 v.2.2.2.2.2.2.2.2.2.2.2.2.2.1 v.2.2.2.2.2.2.2.2.2.2.2.2.2.2.1 v.2.2.2.2.2.2.2.2.2.2.2.2.2.2.2.1 v.2.2.2.2.2.2.2.2.2.2.2.2.2.2.2.2.1 v.2.2.2.2.2.2.2.2.2.2.2.2.2.2.2.2.2.1 v.2.2.2.2.2.2.2.2.2.2.2.2.2.2.2.2.2.2.1 v.2.2.2.2.2.2.2.2.2.2.2.2.2.2.2.2.2.2.2.1 v.2.2.2.2.2.2.2.2.2.2.2.2.2.2.2.2.2.2.2.2.1
noncomputable def glazierref14_Fit_l2_s (fl:Nat):Seg:=⟨glazierref14_Fit_l2_V,glazierref14_Fit_l2_X,glazierref14_Fit_l2_f fl fl⟩
theorem glazierref14_Fit_l2_ok (fl:Nat):SegOk Tryz.prog 222 (.loop (loopBody (codeAt (fnBody Tryz.f14) 250))) (glazierref14_Fit_l2_s fl):=
  SegOk.loop (c0:=fnBody Tryz.f14) (p:=250) (U:=60) (allE_cons glazierref04_Fit_ok (allE_cons (glazierref11_Fit_ok fl) allE_nil)) hmo (me:=14) ⟨Tryz.f14,by kernel_rfl,by kernel_rfl,by kernel_rfl⟩ (G:=[(122,glazierref14_Fit_l1_s fl)]) (.cons (f:=400) (by kernel_rfl) (glazierref14_Fit_l1_ok fl) .nil) (.of (f:=400) (by kernel_rfl)) (I:=inlNone) inl_none (F:=glazierref14_Fit_l2_f fl) (VT.okV (by kernel_rfl)) (VT.okX (by kernel_rfl)) (fun v=>by kernel_rfl) (fun n v=>by kernel_rfl) fl

noncomputable def glazierref12_mod_e:Ent:=⟨60,(.cons (.val false I8) (.val false I8)),(.val false I8),fun y=>glazierref12_mod y.1 y.2⟩
theorem glazierref12_mod_ok:Ent.Ok Tryz.prog (glazierref12_mod_e):=
  Ent.of (N:=15) (U:=60) allE_nil hmo (fn:=Tryz.f60) (c:=fnBody Tryz.f60) (G:=[]) (by kernel_rfl) (by kernel_rfl) (by kernel_rfl) (by kernel_rfl) (by kernel_rfl) (by kernel_rfl) (fun y=>by kernel_rfl) (rs:=[.tmp 4]) (by kernel_rfl) .nil (I:=inlNone) inl_none (fun y=>by kernel_rfl)

noncomputable def glazierref12_fit_e:Ent:=⟨39,(.cons (.val true (.pair U8 (.pair U8 (.pair U8 (.pair U8 I8))))) (.cons (.val false I8) (.cons (.val false I8) (.val false .bool)))),(.val true (.pair U8 (.pair U8 (.pair U8 (.pair U8 I8))))),fun y=>glazierref12_fit y.1 y.2.1 y.2.2.1 y.2.2.2⟩
theorem glazierref12_fit_ok:Ent.Ok Tryz.prog (glazierref12_fit_e):=
  Ent.of (N:=70) (U:=60) (allE_cons glazierref12_mod_ok allE_nil) hmo (fn:=Tryz.f39) (c:=fnBody Tryz.f39) (G:=[]) (by kernel_rfl) (by kernel_rfl) (by kernel_rfl) (by kernel_rfl) (by kernel_rfl) (by kernel_rfl) (fun y=>by kernel_rfl) (rs:=[.cell 8 75]) (by kernel_rfl) .nil (I:=inlNone) inl_none (fun y=>by kernel_rfl)

@[reducible] def glazierref12_Fit_l1_V:VT:=[z26,.slot 1 false [.dat .bool],z7,.slot 5 false [D],z176,z27]
@[reducible] def glazierref12_Fit_l1_X:List (Out × VT):=[(.exit 0,[z7,z176])]
noncomputable def glazierref12_Fit_l1_f (fl n:Nat):VT.T glazierref12_Fit_l1_V -> Option (XT glazierref12_Fit_l1_X):=fun v=>glazierref12_Fit_l1 fl n v.1 v.2.1 v.2.2.1 v.2.2.2.1 v.2.2.2.2.1
noncomputable def glazierref12_Fit_l1_s (fl:Nat):Seg:=⟨glazierref12_Fit_l1_V,glazierref12_Fit_l1_X,glazierref12_Fit_l1_f fl fl⟩
theorem glazierref12_Fit_l1_ok (fl:Nat):SegOk Tryz.prog 34 (.loop (loopBody (codeAt (fnBody Tryz.f22) 250))) (glazierref12_Fit_l1_s fl):=
  SegOk.loop (c0:=fnBody Tryz.f22) (p:=250) (U:=60) (allE_cons glazierref12_fit_ok allE_nil) hmo (me:=22) ⟨Tryz.f22,by kernel_rfl,by kernel_rfl,by kernel_rfl⟩ (G:=[]) .nil (.of (f:=400) (by kernel_rfl)) (I:=inlNone) inl_none (F:=glazierref12_Fit_l1_f fl) (VT.okV (by kernel_rfl)) (VT.okX (by kernel_rfl)) (fun v=>by kernel_rfl) (fun n v=>by kernel_rfl) fl

noncomputable def glazierref12_Fit_e (fl:Nat):Ent:=⟨22,(.cons (.val false Y5) (.val false .bool)),(.own 75 (.pair U8 (.pair U8 (.pair U8 (.pair U8 I8))))),fun y=>glazierref12_Fit fl y.1 y.2⟩
theorem glazierref12_Fit_ok (fl:Nat):Ent.Ok Tryz.prog (glazierref12_Fit_e fl):=
  Ent.of (N:=34) (U:=60) (allE_cons glazierref12_fit_ok allE_nil) hmo (fn:=Tryz.f22) (c:=fnBody Tryz.f22) (G:=[(250,glazierref12_Fit_l1_s fl)]) (by kernel_rfl) (by kernel_rfl) (by kernel_rfl) (by kernel_rfl) (by kernel_rfl) (by kernel_rfl) (fun y=>by kernel_rfl) (rs:=[.tmp 4]) (by kernel_rfl) (.cons (f:=400) (by kernel_rfl) (glazierref12_Fit_l1_ok fl) .nil) (I:=inlNone) inl_none (fun y=>by kernel_rfl)

@[reducible] def glazierref14_Fit_l3_V:VT:=[z140,z29,z32,z54,z168,z12,z169,z177,z170,z171,z178]
@[reducible] def glazierref14_Fit_l3_X:List (Out × VT):=[(.exit 4,[z140,z29,z32,z54,z168,z169,z177,z170,z171,z178])]
noncomputable def glazierref14_Fit_l3_f (fl n:Nat):VT.T glazierref14_Fit_l3_V -> Option (XT glazierref14_Fit_l3_X):=fun v=>glazierref14_Fit_l3 fl n v.1 v.2.1 v.2.2.1 v.2.2.2.1 v.2.2.2.2.1 v.2.2.2.2.2.1 v.2.2.2.2.2.2.1 v.2.2.2.2.2.2.2.1 v.2.2.2.2.2.2.2.2.1 v.2.2.2.2.2.2.2.2.2.1 v.2.2.2.2.2.2.2.2.2.2.1 v.2.2.2.2.2.2.2.2.2.2.2.1 v.2.2.2.2.2.2.2.2.2.2.2.2.1 v.2.2.2.2.2.2.2.2.2.2.2.2.2.1 v.2.2.2.2.2.2.2.2.2.2.2.2.2.2.1 v.2.2.2.2.2.2.2.2.2.2.2.2.2.2.2.1 v.2.2.2.2.2.2.2.2.2.2.2.2.2.2.2.2.1 v.2.2.2.2.2.2.2.2.2.2.2.2.2.2.2.2.2.1 v.2.2.2.2.2.2.2.2.2.2.2.2.2.2.2.2.2.2.1 v.2.2.2.2.2.2.2.2.2.2.2.2.2.2.2.2.2.2.2.1 v.2.2.2.2.2.2.2.2.2.2.2.2.2.2.2.2.2.2.2.2.1 v.2.2.2.2.2.2.2.2.2.2.2.2.2.2.2.2.2.2.2.2.2.1
noncomputable def glazierref14_Fit_l3_s (fl:Nat):Seg:=⟨glazierref14_Fit_l3_V,glazierref14_Fit_l3_X,glazierref14_Fit_l3_f fl fl⟩
theorem glazierref14_Fit_l3_ok (fl:Nat):SegOk Tryz.prog 222 (.loop (loopBody (codeAt (fnBody Tryz.f14) 1018))) (glazierref14_Fit_l3_s fl):=
  SegOk.loop (c0:=fnBody Tryz.f14) (p:=1018) (U:=60) (allE_cons glazierref04_Fit_ok (allE_cons (glazierref11_Fit_ok fl) (allE_cons (glazierref12_Fit_ok fl) allE_nil))) hmo (me:=14) ⟨Tryz.f14,by kernel_rfl,by kernel_rfl,by kernel_rfl⟩ (G:=[(122,glazierref14_Fit_l1_s fl),(250,glazierref14_Fit_l2_s fl)]) (.cons (f:=400) (by kernel_rfl) (glazierref14_Fit_l1_ok fl) (.cons (f:=400) (by kernel_rfl) (glazierref14_Fit_l2_ok fl) .nil)) (.of (f:=400) (by kernel_rfl)) (I:=inlNone) inl_none (F:=glazierref14_Fit_l3_f fl) (VT.okV (by kernel_rfl)) (VT.okX (by kernel_rfl)) (fun v=>by kernel_rfl) (fun n v=>by kernel_rfl) fl

@[reducible] def glazierref14_Fit_l4_V:VT:=[z140,z29,z32,z54,z168,z13,.slot 16 false [.ptr 16 0],z179,z180,z169,z177,z170,z171,z178,z181,z182]
@[reducible] def glazierref14_Fit_l4_X:List (Out × VT):=[(.exit 8,[z140,z29,z32,z54,z168,z13,z179,z169,z177,z170,z171,z178,z182])]
noncomputable def glazierref14_Fit_l4_f (fl n:Nat):VT.T glazierref14_Fit_l4_V -> Option (XT glazierref14_Fit_l4_X):=fun v=>glazierref14_Fit_l4 fl n v.1 v.2.1 v.2.2.1 v.2.2.2.1 v.2.2.2.2.1 v.2.2.2.2.2.1 v.2.2.2.2.2.2.1 v.2.2.2.2.2.2.2.1 v.2.2.2.2.2.2.2.2.1 v.2.2.2.2.2.2.2.2.2.1 v.2.2.2.2.2.2.2.2.2.2.1 v.2.2.2.2.2.2.2.2.2.2.2.1 v.2.2.2.2.2.2.2.2.2.2.2.2.1 v.2.2.2.2.2.2.2.2.2.2.2.2.2.1 v.2.2.2.2.2.2.2.2.2.2.2.2.2.2.1 v.2.2.2.2.2.2.2.2.2.2.2.2.2.2.2.1 v.2.2.2.2.2.2.2.2.2.2.2.2.2.2.2.2.1 v.2.2.2.2.2.2.2.2.2.2.2.2.2.2.2.2.2.1 v.2.2.2.2.2.2.2.2.2.2.2.2.2.2.2.2.2.2.1 v.2.2.2.2.2.2.2.2.2.2.2.2.2.2.2.2.2.2.2.1 v.2.2.2.2.2.2.2.2.2.2.2.2.2.2.2.2.2.2.2.2.1 v.2.2.2.2.2.2.2.2.2.2.2.2.2.2.2.2.2.2.2.2.2.1 v.2.2.2.2.2.2.2.2.2.2.2.2.2.2.2.2.2.2.2.2.2.2.1 v.2.2.2.2.2.2.2.2.2.2.2.2.2.2.2.2.2.2.2.2.2.2.2.1 v.2.2.2.2.2.2.2.2.2.2.2.2.2.2.2.2.2.2.2.2.2.2.2.2.1 v.2.2.2.2.2.2.2.2.2.2.2.2.2.2.2.2.2.2.2.2.2.2.2.2.2.1 v.2.2.2.2.2.2.2.2.2.2.2.2.2.2.2.2.2.2.2.2.2.2.2.2.2.2.1 v.2.2.2.2.2.2.2.2.2.2.2.2.2.2.2.2.2.2.2.2.2.2.2.2.2.2.2.1 v.2.2.2.2.2.2.2.2.2.2.2.2.2.2.2.2.2.2.2.2.2.2.2.2.2.2.2.2.1 v.2.2.2.2.2.2.2.2.2.2.2.2.2.2.2.2.2.2.2.2.2.2.2.2.2.2.2.2.2.1 v.2.2.2.2.2.2.2.2.2.2.2.2.2.2.2.2.2.2.2.2.2.2.2.2.2.2.2.2.2.2.1 v.2.2.2.2.2.2.2.2.2.2.2.2.2.2.2.2.2.2.2.2.2.2.2.2.2.2.2.2.2.2.2.1 v.2.2.2.2.2.2.2.2.2.2.2.2.2.2.2.2.2.2.2.2.2.2.2.2.2.2.2.2.2.2.2.2.1
noncomputable def glazierref14_Fit_l4_s (fl:Nat):Seg:=⟨glazierref14_Fit_l4_V,glazierref14_Fit_l4_X,glazierref14_Fit_l4_f fl fl⟩
theorem glazierref14_Fit_l4_ok (fl:Nat):SegOk Tryz.prog 222 (.loop (loopBody (codeAt (fnBody Tryz.f14) 2091322))) (glazierref14_Fit_l4_s fl):=
  SegOk.loop (c0:=fnBody Tryz.f14) (p:=2091322) (U:=60) (allE_cons glazierref14_mod_ok (allE_cons glazierref04_Fit_ok (allE_cons (glazierref11_Fit_ok fl) (allE_cons (glazierref12_Fit_ok fl) allE_nil)))) hmo (me:=14) ⟨Tryz.f14,by kernel_rfl,by kernel_rfl,by kernel_rfl⟩ (G:=[(122,glazierref14_Fit_l1_s fl),(250,glazierref14_Fit_l2_s fl),(1018,glazierref14_Fit_l3_s fl)]) (.cons (f:=400) (by kernel_rfl) (glazierref14_Fit_l1_ok fl) (.cons (f:=400) (by kernel_rfl) (glazierref14_Fit_l2_ok fl) (.cons (f:=400) (by kernel_rfl) (glazierref14_Fit_l3_ok fl) .nil))) (.of (f:=400) (by kernel_rfl)) (I:=inlNone) inl_none (F:=glazierref14_Fit_l4_f fl) (VT.okV (by kernel_rfl)) (VT.okX (by kernel_rfl)) (fun v=>by kernel_rfl) (fun n v=>by kernel_rfl) fl

@[reducible] def glazierref14_Fit_l5_V:VT:=[z140,z29,z32,z54,z168,z13,.slot 16 false [.ptr 16 0],z179,z180,z169,z177,z170,z171,z183,z181,z182]
@[reducible] def glazierref14_Fit_l5_X:List (Out × VT):=[(.exit 8,[z140,z29,z32,z54,z168,z13,z179,z169,z177,z170,z171,z183,z182])]
noncomputable def glazierref14_Fit_l5_f (fl n:Nat):VT.T glazierref14_Fit_l5_V -> Option (XT glazierref14_Fit_l5_X):=fun v=>glazierref14_Fit_l5 fl n v.1 v.2.1 v.2.2.1 v.2.2.2.1 v.2.2.2.2.1 v.2.2.2.2.2.1 v.2.2.2.2.2.2.1 v.2.2.2.2.2.2.2.1 v.2.2.2.2.2.2.2.2.1 v.2.2.2.2.2.2.2.2.2.1 v.2.2.2.2.2.2.2.2.2.2.1 v.2.2.2.2.2.2.2.2.2.2.2.1 v.2.2.2.2.2.2.2.2.2.2.2.2.1 v.2.2.2.2.2.2.2.2.2.2.2.2.2.1 v.2.2.2.2.2.2.2.2.2.2.2.2.2.2.1 v.2.2.2.2.2.2.2.2.2.2.2.2.2.2.2.1 v.2.2.2.2.2.2.2.2.2.2.2.2.2.2.2.2.1 v.2.2.2.2.2.2.2.2.2.2.2.2.2.2.2.2.2.1 v.2.2.2.2.2.2.2.2.2.2.2.2.2.2.2.2.2.2.1 v.2.2.2.2.2.2.2.2.2.2.2.2.2.2.2.2.2.2.2.1 v.2.2.2.2.2.2.2.2.2.2.2.2.2.2.2.2.2.2.2.2.1 v.2.2.2.2.2.2.2.2.2.2.2.2.2.2.2.2.2.2.2.2.2.1 v.2.2.2.2.2.2.2.2.2.2.2.2.2.2.2.2.2.2.2.2.2.2.1 v.2.2.2.2.2.2.2.2.2.2.2.2.2.2.2.2.2.2.2.2.2.2.2.1 v.2.2.2.2.2.2.2.2.2.2.2.2.2.2.2.2.2.2.2.2.2.2.2.2.1 v.2.2.2.2.2.2.2.2.2.2.2.2.2.2.2.2.2.2.2.2.2.2.2.2.2.1 v.2.2.2.2.2.2.2.2.2.2.2.2.2.2.2.2.2.2.2.2.2.2.2.2.2.2.1 v.2.2.2.2.2.2.2.2.2.2.2.2.2.2.2.2.2.2.2.2.2.2.2.2.2.2.2.1 v.2.2.2.2.2.2.2.2.2.2.2.2.2.2.2.2.2.2.2.2.2.2.2.2.2.2.2.2.1 v.2.2.2.2.2.2.2.2.2.2.2.2.2.2.2.2.2.2.2.2.2.2.2.2.2.2.2.2.2.1 v.2.2.2.2.2.2.2.2.2.2.2.2.2.2.2.2.2.2.2.2.2.2.2.2.2.2.2.2.2.2.1 v.2.2.2.2.2.2.2.2.2.2.2.2.2.2.2.2.2.2.2.2.2.2.2.2.2.2.2.2.2.2.2.1 v.2.2.2.2.2.2.2.2.2.2.2.2.2.2.2.2.2.2.2.2.2.2.2.2.2.2.2.2.2.2.2.2.1 v.2.2.2.2.2.2.2.2.2.2.2.2.2.2.2.2.2.2.2.2.2.2.2.2.2.2.2.2.2.2.2.2.2.1
noncomputable def glazierref14_Fit_l5_s (fl:Nat):Seg:=⟨glazierref14_Fit_l5_V,glazierref14_Fit_l5_X,glazierref14_Fit_l5_f fl fl⟩
theorem glazierref14_Fit_l5_ok (fl:Nat):SegOk Tryz.prog 222 (.loop (loopBody (codeAt (fnBody Tryz.f14) 2091322))) (glazierref14_Fit_l5_s fl):=
  SegOk.loop (c0:=fnBody Tryz.f14) (p:=2091322) (U:=60) (allE_cons glazierref14_mod_ok (allE_cons glazierref04_Fit_ok (allE_cons (glazierref11_Fit_ok fl) (allE_cons (glazierref12_Fit_ok fl) allE_nil)))) hmo (me:=14) ⟨Tryz.f14,by kernel_rfl,by kernel_rfl,by kernel_rfl⟩ (G:=[(122,glazierref14_Fit_l1_s fl),(250,glazierref14_Fit_l2_s fl),(1018,glazierref14_Fit_l3_s fl),(2091322,glazierref14_Fit_l4_s fl)]) (.cons (f:=400) (by kernel_rfl) (glazierref14_Fit_l1_ok fl) (.cons (f:=400) (by kernel_rfl) (glazierref14_Fit_l2_ok fl) (.cons (f:=400) (by kernel_rfl) (glazierref14_Fit_l3_ok fl) (.cons (f:=400) (by kernel_rfl) (glazierref14_Fit_l4_ok fl) .nil)))) (.of (f:=400) (by kernel_rfl)) (I:=inlNone) inl_none (F:=glazierref14_Fit_l5_f fl) (VT.okV (by kernel_rfl)) (VT.okX (by kernel_rfl)) (fun v=>by kernel_rfl) (fun n v=>by kernel_rfl) fl

@[reducible] def glazierref14_Fit_l6_V:VT:=[z140,z29,z32,z54,z168,z13,z169,z177,z170,z171,z183]
@[reducible] def glazierref14_Fit_l6_X:List (Out × VT):=[(.exit 6,[z54,z168,z169,z177,z171,z183])]
noncomputable def glazierref14_Fit_l6_f (fl n:Nat):VT.T glazierref14_Fit_l6_V -> Option (XT glazierref14_Fit_l6_X):=fun v=>glazierref14_Fit_l6 fl n v.1 v.2.1 v.2.2.1 v.2.2.2.1 v.2.2.2.2.1 v.2.2.2.2.2.1 v.2.2.2.2.2.2.1 v.2.2.2.2.2.2.2.1 v.2.2.2.2.2.2.2.2.1 v.2.2.2.2.2.2.2.2.2.1 v.2.2.2.2.2.2.2.2.2.2.1 v.2.2.2.2.2.2.2.2.2.2.2.1 v.2.2.2.2.2.2.2.2.2.2.2.2.1 v.2.2.2.2.2.2.2.2.2.2.2.2.2.1 v.2.2.2.2.2.2.2.2.2.2.2.2.2.2.1 v.2.2.2.2.2.2.2.2.2.2.2.2.2.2.2.1 v.2.2.2.2.2.2.2.2.2.2.2.2.2.2.2.2.1 v.2.2.2.2.2.2.2.2.2.2.2.2.2.2.2.2.2.1 v.2.2.2.2.2.2.2.2.2.2.2.2.2.2.2.2.2.2.1 v.2.2.2.2.2.2.2.2.2.2.2.2.2.2.2.2.2.2.2.1 v.2.2.2.2.2.2.2.2.2.2.2.2.2.2.2.2.2.2.2.2.1 v.2.2.2.2.2.2.2.2.2.2.2.2.2.2.2.2.2.2.2.2.2.1 v.2.2.2.2.2.2.2.2.2.2.2.2.2.2.2.2.2.2.2.2.2.2.1
noncomputable def glazierref14_Fit_l6_s (fl:Nat):Seg:=⟨glazierref14_Fit_l6_V,glazierref14_Fit_l6_X,glazierref14_Fit_l6_f fl fl⟩
theorem glazierref14_Fit_l6_ok (fl:Nat):SegOk Tryz.prog 222 (.loop (loopBody (codeAt (fnBody Tryz.f14) 2042))) (glazierref14_Fit_l6_s fl):=
  SegOk.loop (c0:=fnBody Tryz.f14) (p:=2042) (U:=60) (allE_cons glazierref14_mod_ok (allE_cons glazierref04_Fit_ok (allE_cons (glazierref11_Fit_ok fl) (allE_cons (glazierref12_Fit_ok fl) allE_nil)))) hmo (me:=14) ⟨Tryz.f14,by kernel_rfl,by kernel_rfl,by kernel_rfl⟩ (G:=[(122,glazierref14_Fit_l1_s fl),(250,glazierref14_Fit_l2_s fl),(1018,glazierref14_Fit_l3_s fl),(2091322,glazierref14_Fit_l4_s fl),(2091322,glazierref14_Fit_l5_s fl)]) (.cons (f:=400) (by kernel_rfl) (glazierref14_Fit_l1_ok fl) (.cons (f:=400) (by kernel_rfl) (glazierref14_Fit_l2_ok fl) (.cons (f:=400) (by kernel_rfl) (glazierref14_Fit_l3_ok fl) (.cons (f:=400) (by kernel_rfl) (glazierref14_Fit_l4_ok fl) (.cons (f:=400) (by kernel_rfl) (glazierref14_Fit_l5_ok fl) .nil))))) (.of (f:=400) (by kernel_rfl)) (I:=inlNone) inl_none (F:=glazierref14_Fit_l6_f fl) (VT.okV (by kernel_rfl)) (VT.okX (by kernel_rfl)) (fun v=>by kernel_rfl) (fun n v=>by kernel_rfl) fl

noncomputable def glazierref14_Fit_e (fl:Nat):Ent:=⟨14,(.cons (.val true (.pair I8 (.pair I8 (.pair Y4 (.pair Y9 (.pair (.list Y7) (.pair (.list Y5) Y6))))))) (.cons (.val false I8) (.cons (.val false I8) (.cons (.val false I8) (.val false I8))))),(.val true (.pair I8 (.pair I8 (.pair Y4 (.pair Y9 (.pair (.list Y7) (.pair (.list Y5) Y6))))))),fun y=>glazierref14_Fit fl y.1 y.2.1 y.2.2.1 y.2.2.2.1 y.2.2.2.2⟩
theorem glazierref14_Fit_ok (fl:Nat):Ent.Ok Tryz.prog (glazierref14_Fit_e fl):=
  Ent.of (N:=222) (U:=60) (allE_cons glazierref14_mod_ok (allE_cons glazierref02_Pre_ok (allE_cons glazierref04_Fit_ok (allE_cons (glazierref11_Fit_ok fl) (allE_cons (glazierref12_Fit_ok fl) allE_nil))))) hmo (fn:=Tryz.f14) (c:=fnBody Tryz.f14) (G:=[(122,glazierref14_Fit_l1_s fl),(250,glazierref14_Fit_l2_s fl),(1018,glazierref14_Fit_l3_s fl),(2091322,glazierref14_Fit_l4_s fl),(2091322,glazierref14_Fit_l5_s fl),(2042,glazierref14_Fit_l6_s fl)]) (by kernel_rfl) (by kernel_rfl) (by kernel_rfl) (by kernel_rfl) (by kernel_rfl) (by kernel_rfl) (fun y=>by kernel_rfl) (rs:=[.cell 10 29]) (by kernel_rfl) (.cons (f:=400) (by kernel_rfl) (glazierref14_Fit_l1_ok fl) (.cons (f:=400) (by kernel_rfl) (glazierref14_Fit_l2_ok fl) (.cons (f:=400) (by kernel_rfl) (glazierref14_Fit_l3_ok fl) (.cons (f:=400) (by kernel_rfl) (glazierref14_Fit_l4_ok fl) (.cons (f:=400) (by kernel_rfl) (glazierref14_Fit_l5_ok fl) (.cons (f:=400) (by kernel_rfl) (glazierref14_Fit_l6_ok fl) .nil)))))) (I:=inlNone) inl_none (fun y=>by kernel_rfl)

noncomputable def glazierlaw22_fit_e (fl:Nat):Ent:=⟨5,(.val true (.pair I8 (.pair I8 (.pair Y4 (.pair Y9 (.pair (.list Y7) (.pair (.list Y5) Y6))))))),(.val true (.pair I8 (.pair I8 (.pair Y4 (.pair Y9 (.pair (.list Y7) (.pair (.list Y5) Y6))))))),fun y=>glazierlaw22_fit fl y⟩
theorem glazierlaw22_fit_ok (fl:Nat):Ent.Ok Tryz.prog (glazierlaw22_fit_e fl):=
  Ent.of (N:=5) (U:=60) (allE_cons (glazierref14_Fit_ok fl) allE_nil) hmo (fn:=Tryz.f5) (c:=fnBody Tryz.f5) (G:=[]) (by kernel_rfl) (by kernel_rfl) (by kernel_rfl) (by kernel_rfl) (by kernel_rfl) (by kernel_rfl) (fun y=>by kernel_rfl) (rs:=[.cell 2 29]) (by kernel_rfl) .nil (I:=inlNone) inl_none (fun y=>by kernel_rfl)


end Go.Proofs.YtkacojopcajboaaGreat.G
