/- Each part of the law, put together. -/
import Derived.Test.YtkacojopcajboaaP34
import Derived.KernelRfl
set_option linter.unusedVariables false
namespace Go.Proofs.Ytkacojopcajboaa.setupParts
open Go Go.RowKit Go.Proofs.Ytkacojopcajboaa.M Go.Proofs.Ytkacojopcajboaa.G
theorem piece_in {pts:List Px} (hp:∀ p ∈ pts,okG p) {k:Nat} {e:Int × Tri} (h:e ∈ piece pts k):e.1 = (k:Int) - 2 /\ 0 < area e.2 /\ okG3 e.2:=by
 unfold piece at h;split at h
 ·rename_i ht;have:=turn_pos (tri3_ok hp k) ht;simp only [List.mem_singleton] at h;subst h;exact ⟨rfl,this.1,this.2⟩
 ·cases h
theorem fan_in {pts:List Px} (hp:∀ p ∈ pts,okG p) {e:Int × Tri} (h:e ∈ fan pts):0 <= e.1 /\ e.1 < pts.length /\ 0 < area e.2 /\ okG3 e.2:=by
 unfold fan at h;obtain ⟨k,hk,he⟩:=List.mem_flatMap.1 h;rw [List.mem_range'_1] at hk;obtain ⟨h1,h2,h3⟩:=piece_in hp he;exact ⟨by omega,by omega,h2,h3⟩
end Go.Proofs.Ytkacojopcajboaa.setupParts
namespace Go.Proofs.Ytkacojopcajboaa.G
open Go Go.RowKit Go.Proofs.Ytkacojopcajboaa.M
abbrev ColQ:=Int × Int × Int × Int
abbrev TexQ:=Int × Int × List ColQ
abbrev InsQ:=Int × Int × Int × Int × Int
abbrev TriQ:=Int × Int × Int × Int
abbrev DrwQ:=Int × Int × Int × Bool × List TriQ
abbrev ScnQ:=Int × Int × ColQ × List Vtx × List TexQ × List (List InsQ) × List DrwQ
abbrev FragQ:=Int × Int × Int × (Int × Int × Int × Int) × Int × Int × Int × Int
theorem get_is {α:Type} {l:List α} {i:Int} (d:α) (h0:0 <= i) (h1:i < (l.length:Int)):F.get l i = some (l.getD i.toNat d):=by
 have hk:i.toNat < l.length:=by omega
 rw [lgetI (k:=i.toNat) (by omega) hk,List.getD_eq_getElem?_getD,List.getElem?_eq_getElem hk]
 rfl
theorem getD_mem {α:Type} {l:List α} {i:Int} (d:α) (h0:0 <= i) (h1:i < (l.length:Int)):l.getD i.toNat d ∈ l:=by
 have hk:i.toNat < l.length:=by omega
 rw [List.getD_eq_getElem?_getD,List.getElem?_eq_getElem hk];exact List.getElem_mem hk
structure okD (s:ScnQ) (d:DrwQ):Prop where
 prog:0 <= d.2.1 /\ d.2.1 < (s.2.2.2.2.2.1.length:Int)
 tex:(d.2.2.1 = -1 /\ s.2.2.2.2.1 = []) \/ (0 <= d.2.2.1 /\ d.2.2.1 < (s.2.2.2.2.1.length:Int))
 few:d.2.2.2.2.length <= 4
 tris:∀ t ∈ d.2.2.2.2,(0 <= t.2.1 /\ t.2.1 < (s.2.2.2.1.length:Int)) /\ (0 <= t.2.2.1 /\ t.2.2.1 < (s.2.2.2.1.length:Int)) /\ (0 <= t.2.2.2 /\ t.2.2.2 < (s.2.2.2.1.length:Int))
structure okS (s:ScnQ):Prop where
 w:1 <= s.1 /\ s.1 <= 12
 h:1 <= s.2.1 /\ s.2.1 <= 12
 verts:∀ v ∈ s.2.2.2.1,fitC v
 texs:∀ t ∈ s.2.2.2.2.1,VM.tok t /\ VM.pxs t
 progs:∀ l ∈ s.2.2.2.2.2.1,VM.progs l /\ VM.prog l /\ (VM.asks l -> s.2.2.2.2.1 ≠ [])
 pfew:s.2.2.2.2.2.1.length <= 10
 few:s.2.2.2.2.2.2.length <= 4
 draws:∀ d ∈ s.2.2.2.2.2.2,okD s d
structure okI (s:ScnQ):Prop where
 draws:∀ (j:Nat) (hj:j < s.2.2.2.2.2.2.length),(s.2.2.2.2.2.2[j]).1 % 100 = (j:Int)
 tris:∀ d ∈ s.2.2.2.2.2.2,∀ (j:Nat) (hj:j < d.2.2.2.2.length),(d.2.2.2.2[j]).1 % 100 = (j:Int)
/-! ### Parts -/
def vtx (s:ScnQ) (i:Int):Vtx:=s.2.2.2.1.getD i.toNat zeroV
def partsQ (s:ScnQ) (t:TriQ):List (Int × Tri):=fan (ptsL s.1 s.2.1 (polyL [vtx s t.2.1,vtx s t.2.2.1,vtx s t.2.2.2]))
def okPart (p:Int × Tri):Prop:=0 <= p.1 /\ p.1 < 20 /\ 0 < area p.2 /\ okG3 p.2 /\ PL.okTri p.2 /\ PL.okTriZ p.2
theorem fan_mem {pts:List Px} {e:Int × Tri} (h:e ∈ fan pts) {C:Px -> Prop} (hC:∀ p ∈ pts,C p) (hz:C pzS):C e.2.1 /\ C e.2.2.1 /\ C e.2.2.2:=by
 unfold fan at h;obtain ⟨k,hk,he⟩:=List.mem_flatMap.1 h;unfold piece at he;have hat:∀ k,C (ptAt pts k):=fun k=>by
  unfold ptAt;rw [List.getD_eq_getElem?_getD];cases h1:pts[k]? with
  | none=>exact hz
  | some p=>exact hC p (List.mem_of_getElem? h1)
 split at he
 ·simp only [List.mem_singleton] at he;subst he;unfold turn tri3;dsimp only;split
  ·exact ⟨hz,hz,hz⟩
  ·split
   ·exact ⟨hat _,hat _,hat _⟩
   ·exact ⟨hat _,hat _,hat _⟩
 ·cases he
theorem poly_good {l:List Vtx} (hl:∀ v ∈ l,fitC v):∀ v ∈ polyL l,clipFew.goodC 20 5 v:=fun v hv=>by
 unfold polyL at hv;split at hv
 ·cases hv
 ·have h0:∀ v ∈ l,clipFew.goodC 0 0 v:=fun v hv=>⟨hl v hv,fun q h1 h2=>by omega⟩
  have h1:=clipFew.cut_good (by decide) ⟨by decide,by decide⟩ h0
  have h2:=clipFew.cut_good (by decide) ⟨by decide,by decide⟩ h1
  have h3:=clipFew.cut_good (by decide) ⟨by decide,by decide⟩ h2
  have h4:=clipFew.cut_good (by decide) ⟨by decide,by decide⟩ h3
  have h5:=clipFew.cut_good (by decide) ⟨by decide,by decide⟩ h4
  exact h5 v hv
theorem side_near {X W s:Int} (hW:1 <= W) (hs:0 <= s /\ s <= 96) (h1:-20 <= 4 * W + X) (h2:-20 <= 4 * W - X):PL.near (Int.fdiv (X * s) W + s):=by
 have k1:X * s <= (24 * s) * W:=by
  have a:X * s <= (4 * W + 20) * s:=Int.mul_le_mul_of_nonneg_right (by omega) hs.1
  have b:20 * s * 1 <= 20 * s * W:=Int.mul_le_mul_of_nonneg_left hW (by omega)
  have c:(4 * W + 20) * s = 4 * s * W + 20 * s:=by grind
  have e:(24 * s) * W = 4 * s * W + 20 * s * W:=by grind
  omega
 have k2:-(24 * s) * W <= X * s:=by
  have a:-(4 * W + 20) * s <= X * s:=Int.mul_le_mul_of_nonneg_right (by omega) hs.1
  have b:20 * s * 1 <= 20 * s * W:=Int.mul_le_mul_of_nonneg_left hW (by omega)
  have c:-(4 * W + 20) * s = -(4 * s * W) - 20 * s:=by grind
  have e:-(24 * s) * W = -(4 * s * W) - 20 * s * W:=by grind
  omega
 obtain ⟨a,b⟩:=fdiv_in (p:=X * s) (c:=W) (by omega)
 have m1:Int.fdiv (X * s) W <= 24 * s:=by
  have:W * Int.fdiv (X * s) W <= W * (24 * s):=by rw [Int.mul_comm W (24 * s)]; omega
  exact Int.le_of_mul_le_mul_left this (by omega)
 have m2:-(24 * s) - 1 < Int.fdiv (X * s) W:=by
  have:W * (-(24 * s) - 1) < W * Int.fdiv (X * s) W:=by
   have e1:W * (-(24 * s) - 1) = -(24 * s) * W - W:=by grind
   omega
  exact Int.lt_of_mul_lt_mul_left this (by omega)
 unfold PL.near;omega
theorem deep {Z W:Int} (hW:1 <= W) (hZ:-32768 <= Z /\ Z <= 32768) (h:-20 <= Z + W):-1073800000 <= Int.fdiv (Z * 32768) W + 32768 /\ Int.fdiv (Z * 32768) W + 32768 <= 1073800000:=by
 have:=fdiv_lim (p:=Z * 32768) (c:=W) (m:=1073741824) (by omega) (by omega) (by omega) (by decide)
 omega
theorem pt_ok {w h:Int} {v:Vtx} (hw:1 <= w /\ w <= 12) (hh:1 <= h /\ h <= 12) (hg:clipFew.goodC 20 5 v):PL.okP (ptS w h v) /\ PL.okZ (ptS w h v):=by
 obtain ⟨⟨hx,hy,hz,hW,a1,a2,a3,a4⟩,hd⟩:=hg;have d0:=hd 0 (by decide) (by decide)
 have d1:=hd 1 (by decide) (by decide)
 have d2:=hd 2 (by decide) (by decide)
 have d3:=hd 3 (by decide) (by decide)
 have d4:=hd 4 (by decide) (by decide)
 rw [dist0] at d0; rw [dist1] at d1; rw [dist2] at d2; rw [dist3] at d3; rw [dist4] at d4;unfold PL.okP PL.okZ ptS;exact ⟨⟨side_near hW.1 (by omega) (by omega) (by omega),side_near hW.1 (by omega) (by omega) (by omega)⟩,deep hW.1 hz (by omega),a1,a2,a3,a4⟩
theorem pz_ok:PL.okP pzS /\ PL.okZ pzS:=by
 unfold PL.okP PL.okZ PL.near pzS;decide
theorem vtx_fit {s:ScnQ} (hs:okS s) {i:Int} (h:0 <= i /\ i < (s.2.2.2.1.length:Int)):fitC (vtx s i):=hs.verts _ (getD_mem _ h.1 h.2)
theorem tri_fit {s:ScnQ} (hs:okS s) {d:DrwQ} (hd:d ∈ s.2.2.2.2.2.2) {t:TriQ} (ht:t ∈ d.2.2.2.2):∀ v ∈ [vtx s t.2.1,vtx s t.2.2.1,vtx s t.2.2.2],fitC v:=fun v hv=>by
 obtain ⟨h1,h2,h3⟩:=(hs.draws d hd).tris t ht;simp only [List.mem_cons,List.not_mem_nil,or_false] at hv;rcases hv with rfl | rfl | rfl
 ·exact vtx_fit hs h1
 ·exact vtx_fit hs h2
 ·exact vtx_fit hs h3
theorem parts_is {fl:Nat} (hfl:5000 <= fl) {s:ScnQ} (hs:okS s) {d:DrwQ} (hd:d ∈ s.2.2.2.2.2.2) {t:TriQ} (ht:t ∈ d.2.2.2.2) {mk st:Int} {a b c e:Int} :
  frags_Maker__parts fl (s.1,(s.2.1,(a,(b,(c,(e,(s.2.2.2.1,(s.2.2.2.2.1,(s.2.2.2.2.2.1,(s.2.2.2.2.2.2,(mk,st))))))))))) t = some (partsQ s t):=by
 obtain ⟨h1,h2,h3⟩:=(hs.draws d hd).tris t ht;have hf:=tri_fit hs hd ht;unfold frags_Maker__parts;dsimp only;have e:=parts_spec hfl (w:=s.1) (h:=s.2.1) (by have:=hs.w; omega) (by have:=hs.h; omega) (fitC_ok (hf (vtx s t.2.1) (by simp))) (fitC_ok (hf (vtx s t.2.2.1) (by simp))) (fitC_ok (hf (vtx s t.2.2.2) (by simp)))
 unfold vtx at e;rw [get_is zeroV h1.1 h1.2,ob_some,get_is zeroV h2.1 h2.2,ob_some,get_is zeroV h3.1 h3.2,ob_some,e,ob_some];rfl
theorem parts_in {s:ScnQ} (hs:okS s) {d:DrwQ} (hd:d ∈ s.2.2.2.2.2.2) {t:TriQ} (ht:t ∈ d.2.2.2.2):(partsQ s t).length <= 19 /\ ∀ p ∈ partsQ s t,okPart p:=by
 have hf:=tri_fit hs hd ht;have hb:∀ v ∈ polyL [vtx s t.2.1,vtx s t.2.2.1,vtx s t.2.2.2],okB v:=poly_okB (fun v hv=>fitC_ok (hf v hv)) (by simp)
 have hpl:(polyL [vtx s t.2.1,vtx s t.2.2.1,vtx s t.2.2.2]).length <= 19:=poly_len rfl;have hpt:=ptsL_ok (w:=s.1) (h:=s.2.1) (by have:=hs.w; omega) (by have:=hs.h; omega) hb
 have hln:=ptsL_length s.1 s.2.1 (polyL [vtx s t.2.1,vtx s t.2.2.1,vtx s t.2.2.2]);refine ⟨?_,fun p hp=>?_⟩
 ·have:=pieces_len (ptsL s.1 s.2.1 (polyL [vtx s t.2.1,vtx s t.2.2.1,vtx s t.2.2.2])) ((ptsL s.1 s.2.1 (polyL [vtx s t.2.1,vtx s t.2.2.1,vtx s t.2.2.2])).length - 2) 2;unfold partsQ fan;omega
 ·have hC:∀ p ∈ ptsL s.1 s.2.1 (polyL [vtx s t.2.1,vtx s t.2.2.1,vtx s t.2.2.2]),PL.okP p /\ PL.okZ p:=fun p hp=>by
   unfold ptsL at hp;split at hp
   ·obtain ⟨v,hv,rfl⟩:=List.mem_map.1 hp;exact pt_ok hs.w hs.h (poly_good hf v hv)
   ·cases hp
  obtain ⟨h1,h2,h3,h4⟩:=setupParts.fan_in hpt hp;obtain ⟨c1,c2,c3⟩:=fan_mem hp hC pz_ok;exact ⟨h1,by omega,h3,h4,⟨c1.1,c2.1,c3.1⟩,⟨c1.2,c2.2,c3.2⟩⟩
/-! ### A fragment -/
def texQ (s:ScnQ) (d:DrwQ):TexQ:=if d.2.2.1 < 0 then (0,(0,[])) else s.2.2.2.2.1.getD d.2.2.1.toNat (0,(0,[]))
theorem tex_is {s:ScnQ} {d:DrwQ} (hd:okD s d) {W H a b c e mk st:Int} {vs:List Vtx} {ps:List (List InsQ)} {ds:List DrwQ}:frags_Maker__tex (W,(H,(a,(b,(c,(e,(vs,(s.2.2.2.2.1,(ps,(ds,(mk,st))))))))))) d = some (texQ s d):=by
 unfold frags_Maker__tex texQ;rw [bnd_eq];by_cases h:d.2.2.1 < 0
 ·rw [lt_t h,bite_t,if_pos h]
 ·rw [lt_f (by omega),bite_f,if_neg h]
  rcases hd.tex with ht | ht
  ·omega
  ·dsimp only;rw [get_is (0,(0,[])) ht.1 ht.2,ob_some]
theorem tex_ok {s:ScnQ} (hs:okS s) {d:DrwQ} (hd:okD s d):VM.pxs (texQ s d) /\ (s.2.2.2.2.1 ≠ [] -> VM.tok (texQ s d)):=by
 unfold texQ;rcases hd.tex with ht | ht
 ·rw [if_pos (by omega)]
  exact ⟨fun c hc=>(by cases hc),fun h=>absurd ht.2 h⟩
 ·rw [if_neg (by omega)]
  obtain ⟨h1,h2⟩:=hs.texs _ (getD_mem (0,(0,[])) ht.1 ht.2);exact ⟨h2,fun _=>h1⟩
def progQ (s:ScnQ) (d:DrwQ):List InsQ:=s.2.2.2.2.2.1.getD d.2.1.toNat []
def attQ (u:Tri) (x y:Int):ColQ:=
 (PL.num u (u.1.2.2.2.1,u.2.1.2.2.2.1,u.2.2.2.2.2.1) (16 * x + 8) (16 * y + 8),(PL.num u (u.1.2.2.2.2.1,u.2.1.2.2.2.2.1,u.2.2.2.2.2.2.1) (16 * x + 8) (16 * y + 8),
   (PL.num u (u.1.2.2.2.2.2.1,u.2.1.2.2.2.2.2.1,u.2.2.2.2.2.2.2.1) (16 * x + 8) (16 * y + 8),PL.num u (u.1.2.2.2.2.2.2,u.2.1.2.2.2.2.2.2,u.2.2.2.2.2.2.2.2) (16 * x + 8) (16 * y + 8))))
theorem num_64 {u:Tri} (hu:PL.okTri u) {n:Int × Int × Int} (h1:-4096 <= n.1 /\ n.1 <= 4096) (h2:-4096 <= n.2.1 /\ n.2.1 <= 4096) (h3:-4096 <= n.2.2 /\ n.2.2 <= 4096) {x y:Int} (hx:PL.near x) (hy:PL.near y):VM.i64 (PL.num u n x y):=by
 unfold PL.num VM.i64;split
 ·rename_i ha;have i0:=PL.crs_in hu.2.1 hu.2.2 hx hy;have i1:=PL.crs_in hu.2.2 hu.1 hx hy;have i2:=PL.crs_in hu.1 hu.2.1 hx hy;have p0:=PL.mul_in2 (a:=n.1) (b:=PL.crs u.2.1 u.2.2 x y) h1 (n:=2147483648) (by omega)
  have p1:=PL.mul_in2 (a:=n.2.1) (b:=PL.crs u.2.2 u.1 x y) h2 (n:=2147483648) (by omega)
  have p2:=PL.mul_in2 (a:=n.2.2) (b:=PL.crs u.1 u.2.1 x y) h3 (n:=2147483648) (by omega)
  have:=fdiv_lim (p:=PL.weigh u n x y) (c:=PL.area u) (m:=26388279066624) ha (by unfold PL.weigh; omega) (by unfold PL.weigh; omega) (by decide)
  omega
 ·omega
noncomputable def shdQ (fl:Nat) (s:ScnQ) (d:DrwQ) (u:Tri) (x y:Int):ColQ × Int × Int:=(vm_Shade fl (progQ s d) (texQ s d) (attQ u x y) x y).getD ((0,(0,(0,0))),(0,0))
theorem shd_is {fl:Nat} (hfl:200 <= fl) {s:ScnQ} (hs:okS s) {d:DrwQ} (hd:okD s d) {p:Int × Tri} (hp:okPart p) {x y:Int} (hx:0 <= x /\ x <= 12) (hy:0 <= y /\ y <= 12) :
  vm_Shade fl (progQ s d) (texQ s d) (attQ p.2 x y) x y = some (shdQ fl s d p.2 x y) /\ 1 <= (shdQ fl s d p.2 x y).2.1 /\ (shdQ fl s d p.2 x y).2.1 <= (progQ s d).length /\ (progQ s d).length <= 32:=by
 obtain ⟨h1,h2,h3,h4,h5,h6⟩:=hp;obtain ⟨⟨_,a1,a2,a3,a4⟩,⟨_,b1,b2,b3,b4⟩,⟨_,c1,c2,c3,c4⟩⟩:=h6;obtain ⟨q1,q2,q3⟩:=hs.progs _ (getD_mem [] hd.prog.1 hd.prog.2);have nx:PL.near (16 * x + 8):=⟨by omega,by omega⟩
 have ny:PL.near (16 * y + 8):=⟨by omega,by omega⟩
 have x64:VM.i64 x:=by unfold VM.i64; omega
 have y64:VM.i64 y:=by unfold VM.i64; omega
 obtain ⟨t1,t2⟩:=tex_ok hs hd;obtain ⟨o,e1,_,_,e4⟩:=vmShades.shade_spec hfl (l:=progQ s d) q1 (t:=texQ s d) t1 (a:=attQ p.2 x y) (x:=x) (y:=y)
  ⟨num_64 (n:=(p.2.1.2.2.2.1,p.2.2.1.2.2.2.1,p.2.2.2.2.2.2.1)) h5 a1 b1 c1 nx ny,num_64 (n:=(p.2.1.2.2.2.2.1,p.2.2.1.2.2.2.2.1,p.2.2.2.2.2.2.2.1)) h5 a2 b2 c2 nx ny,num_64 (n:=(p.2.1.2.2.2.2.2.1,p.2.2.1.2.2.2.2.2.1,p.2.2.2.2.2.2.2.2.1)) h5 a3 b3 c3 nx ny,num_64 (n:=(p.2.1.2.2.2.2.2.2,p.2.2.1.2.2.2.2.2.2,p.2.2.2.2.2.2.2.2.2)) h5 a4 b4 c4 nx ny⟩ x64 y64
 obtain ⟨k1,k2,k3⟩:=e4 q2 (fun ha=>t2 (q3 ha))
 have he:shdQ fl s d p.2 x y = o:=by unfold shdQ; rw [e1]; rfl
 rw [he];exact ⟨e1,k2,k3,q2.2.1⟩
noncomputable def fragQ (fl:Nat) (s:ScnQ) (d:DrwQ) (t:TriQ) (p:Int × Tri) (x y:Int):FragQ:=
 (x,(y,(maskT p.2 x y,((PL.dep p.2 x y,(d.1,(t.1,p.1))),(shdQ fl s d p.2 x y).1))))
def zeroF:FragQ:=(0,(0,(0,((0,(0,(0,0))),(0,(0,(0,0)))))))
theorem frag_is {fl:Nat} (hfl:5000 <= fl) {s:ScnQ} (hs:okS s) {d:DrwQ} (hd:d ∈ s.2.2.2.2.2.2) {t:TriQ} {p:Int × Tri} (hp:okPart p) {x y:Int} (hx:0 <= x /\ x <= 12) (hy:0 <= y /\ y <= 12) {mk st:Int} (hm:0 <= mk /\ mk <= 10000000) (hst:0 <= st /\ st <= 1000000000) :
  frags_Maker__frag fl (s,(mk,st)) d t p x y = some (if maskT p.2 x y = 0 then ((zeroF,false),(s,(mk,st))) else ((fragQ fl s d t p x y,true),(s,(mk + 1,st + (shdQ fl s d p.2 x y).2.1)))):=by
 obtain ⟨e1,e2,e3,e4⟩:=shd_is (fl:=fl) (by omega) hs (hs.draws d hd) hp hx hy
 have hpr:=(hs.draws d hd).prog;obtain ⟨h1,h2,h3,h4,h5,h6⟩:=hp;unfold frags_Maker__frag;rw [mask_is (by omega) h4 (by omega) (by omega),ob_some,bnd_eq]
 by_cases h:maskT p.2 x y = 0
 ·rw [eq_t h,bite_t,if_pos h];rfl
 ·rw [eq_f h,bite_f,if_neg h];dsimp only;rw [get_is [] hpr.1 hpr.2,ob_some];have ht:=tex_is (hs.draws d hd) (W:=s.1) (H:=s.2.1) (a:=s.2.2.1.1) (b:=s.2.2.1.2.1) (c:=s.2.2.1.2.2.1) (e:=s.2.2.1.2.2.2) (vs:=s.2.2.2.1) (ps:=s.2.2.2.2.2.1) (ds:=s.2.2.2.2.2.2) (mk:=mk) (st:=st);rw [ht,ob_some,PL.attrs_spec fl h5 h6 (by omega) (by omega),ob_some]
  have e1':=e1;unfold progQ attQ at e1';rw [e1',ob_some,bnd_eq,bnd_eq,addI (by omega),addI (by omega),PL.dep_spec fl h5 h6 (by omega) (by omega),ob_some]
  rfl
end Go.Proofs.Ytkacojopcajboaa.G
namespace Go.Proofs.Ytkacojopcajboaa.VM
open Go Go.RowKit Go.Proofs.Ytkacojopcajboaa.M Go.Proofs.Ytkacojopcajboaa.G
theorem one_prog:progs [((1:Int),((0:Int),((0:Int),((0:Int),(0:Int)))))] /\ prog [((1:Int),((0:Int),((0:Int),((0:Int),(0:Int)))))] /\ ¬ asks [((1:Int),((0:Int),((0:Int),((0:Int),(0:Int)))))]:=by
 refine ⟨fun x hx=>?_,⟨by decide,by decide,fun j h=>?_⟩,fun ⟨x,hx,h⟩=>?_⟩
 ·rw [List.mem_singleton.1 hx]; unfold insB byte; decide
 ·have:j = 0:=by simp at h; omega
  subst this;simp only [List.getElem_cons_zero];unfold iok three; decide
 ·rw [List.mem_singleton.1 hx] at h; revert h; decide
end Go.Proofs.Ytkacojopcajboaa.VM
namespace Go.Proofs.Ytkacojopcajboaa.G
open Go Go.RowKit Go.Proofs.Ytkacojopcajboaa.M
theorem nilE_same {β:Type} (n:Int) (x:Option β):nilE n x x = x:=by
 unfold nilE either;split
 ·simp
 ·rfl
theorem os_l {α β γ:Type} (x:α) (f:α -> Option γ) (g:β -> Option γ):osum (.inl x:α ⊕ β) f g = f x:=rfl
theorem os_r {α β γ:Type} (x:β) (f:α -> Option γ) (g:β -> Option γ):osum (.inr x:α ⊕ β) f g = g x:=rfl
abbrev EmQ:=FragQ × Int
def sumQ (L:List EmQ):Int:=(L.map (·.2)).sum
theorem sumQ_app (A B:List EmQ):sumQ (A ++ B) = sumQ A + sumQ B:=by unfold sumQ; simp
theorem sumQ_one (e:EmQ):sumQ [e] = e.2:=by unfold sumQ; simp
def okE (A:List EmQ):Prop:=∀ e ∈ A,1 <= e.2 /\ e.2 <= 32
theorem okE_app {A B:List EmQ} (ha:okE A) (hb:okE B):okE (A ++ B):=fun e he=>by
 rcases List.mem_append.1 he with h | h
 ·exact ha e h
 ·exact hb e h
theorem sum_in:∀ {A:List EmQ},okE A -> (A.length:Int) <= sumQ A /\ sumQ A <= 32 * (A.length:Int)
 | [],_=>by unfold sumQ; simp
 | e :: A,h=>by
  have h1:=h e (by simp)
  have h2:=sum_in (A:=A) fun x hx=>h x (List.mem_cons_of_mem _ hx)
  have:sumQ (e :: A) = e.2 + sumQ A:=by unfold sumQ; simp
  rw [this,List.length_cons];omega
noncomputable def goOut {α β:Type} (m:Nat) (A L:List EmQ) (f:List EmQ -> α) (g:List EmQ -> β):Option (α ⊕ β):=
 if A.length + L.length < m then some (.inr (g (A ++ L))) else some (.inl (f (A ++ L.take (m - A.length))))
theorem go_nil {α β:Type} {m:Nat} {A:List EmQ} {f:List EmQ -> α} {g:List EmQ -> β} (h:A.length < m):goOut m A [] f g = some (.inr (g A)):=by
 unfold goOut;rw [if_pos (by simpa using h),List.append_nil]
theorem go_one {α β:Type} {m:Nat} {A L:List EmQ} {e:EmQ} {f:List EmQ -> α} {g:List EmQ -> β} (h:m = A.length + 1):goOut m A (e :: L) f g = some (.inl (f (A ++ [e]))):=by
 unfold goOut;rw [if_neg (by simp; omega),h]
 simp
theorem go_cons {α β:Type} {m:Nat} {A L:List EmQ} {e:EmQ} {f:List EmQ -> α} {g:List EmQ -> β} (h:A.length + 1 < m):goOut m A (e :: L) f g = goOut m (A ++ [e]) L f g:=by
 unfold goOut;obtain ⟨k,hk⟩:∃ k,m - A.length = k + 1:=⟨m - A.length - 1,by omega⟩
 have h2:m - (A ++ [e]).length = k:=by simp; omega
 rw [h2,hk,List.take_succ_cons];simp only [List.length_append,List.length_cons,List.length_nil,List.append_assoc,List.singleton_append];rw [show A.length + (0 + 1) + L.length = A.length + (L.length + 1) by omega]
theorem go_cases {α β:Type} {m:Nat} {A:List EmQ} (L:List EmQ) (f:List EmQ -> α) (g:List EmQ -> β) (h:A.length < m) :
  (∃ B,goOut m A L f g = some (.inl (f B)) /\ ∀ {α' β':Type} (L':List EmQ) (f':List EmQ -> α') (g':List EmQ -> β'),goOut m A (L ++ L') f' g' = some (.inl (f' B))) \/
  (goOut m A L f g = some (.inr (g (A ++ L))) /\ (A ++ L).length < m /\ ∀ {α' β':Type} (L':List EmQ) (f':List EmQ -> α') (g':List EmQ -> β'),goOut m A (L ++ L') f' g' = goOut m (A ++ L) L' f' g'):=by
 by_cases hc:A.length + L.length < m
 ·refine .inr ⟨by unfold goOut; rw [if_pos hc],by simpa using hc,fun {α' β'} L' f' g'=>?_⟩
  unfold goOut;have e:(L ++ L').take (m - A.length) = L ++ L'.take (m - (A ++ L).length):=by
   rw [List.take_append,List.take_of_length_le (by omega),List.length_append,Nat.sub_sub]
  simp only [List.length_append,e,List.append_assoc,Nat.add_assoc]
 ·refine .inl ⟨_,by unfold goOut; rw [if_neg hc],fun {α' β'} L' f' g'=>?_⟩
  unfold goOut;rw [if_neg (by simp; omega),List.take_append_of_le_length (by omega)]
/-! ### What there is to be gone through -/
noncomputable def emQ (fl:Nat) (s:ScnQ) (d:DrwQ) (t:TriQ) (p:Int × Tri) (x y:Int):List EmQ:=
 if maskT p.2 x y = 0 then [] else [(fragQ fl s d t p x y,(shdQ fl s d p.2 x y).2.1)]
noncomputable def rowQ (fl:Nat) (s:ScnQ) (d:DrwQ) (t:TriQ) (p:Int × Tri) (y:Int):Nat -> Int -> List EmQ
 | 0,_=>[]
 | k + 1,x=>emQ fl s d t p x y ++ rowQ fl s d t p y k (x + 1)
noncomputable def boxQ (fl:Nat) (s:ScnQ) (d:DrwQ) (t:TriQ) (p:Int × Tri) (a:Int) (w:Nat):Nat -> Int -> List EmQ
 | 0,_=>[]
 | k + 1,y=>rowQ fl s d t p y w a ++ boxQ fl s d t p a w k (y + 1)
abbrev BxQ:=Int × Int × Int × Int
def inBox (s:ScnQ) (u:Tri) (b:BxQ):BxQ:=
 (max (sideLo u.1.1 u.2.1.1 u.2.2.1) b.1,(max (sideLo u.1.2.1 u.2.1.2.1 u.2.2.2.1) b.2.1,(min (sideHi s.1 u.1.1 u.2.1.1 u.2.2.1) b.2.2.1,min (sideHi s.2.1 u.1.2.1 u.2.1.2.1 u.2.2.2.1) b.2.2.2)))
noncomputable def partQ (fl:Nat) (s:ScnQ) (d:DrwQ) (t:TriQ) (b:BxQ) (p:Int × Tri):List EmQ:=
 boxQ fl s d t p (inBox s p.2 b).1 ((inBox s p.2 b).2.2.1 - (inBox s p.2 b).1).toNat ((inBox s p.2 b).2.2.2 - (inBox s p.2 b).2.1).toNat (inBox s p.2 b).2.1
noncomputable def triQ (fl:Nat) (s:ScnQ) (d:DrwQ) (b:BxQ) (t:TriQ):List EmQ:=(partsQ s t).flatMap (partQ fl s d t b)
noncomputable def drwQ (fl:Nat) (s:ScnQ) (b:BxQ) (o:Bool) (d:DrwQ):List EmQ:=if d.2.2.2.1 = o then d.2.2.2.2.flatMap (triQ fl s d b) else []
noncomputable def allQ (fl:Nat) (s:ScnQ) (b:BxQ) (o:Bool):List EmQ:=s.2.2.2.2.2.2.flatMap (drwQ fl s b o)
section
variable {fl:Nat} {s:ScnQ} {d:DrwQ} {t:TriQ} {p:Int × Tri}
theorem em_ok (hfl:200 <= fl) (hs:okS s) (hd:okD s d) (hp:okPart p) {x y:Int} (hx:0 <= x /\ x <= 12) (hy:0 <= y /\ y <= 12):okE (emQ fl s d t p x y):=fun e he=>by
 unfold emQ at he;split at he
 ·cases he
 ·simp only [List.mem_singleton] at he;subst he;obtain ⟨_,h1,h2,h3⟩:=shd_is hfl hs hd hp hx hy;exact ⟨h1,by omega⟩
theorem row_ok (hfl:200 <= fl) (hs:okS s) (hd:okD s d) (hp:okPart p) {y:Int} (hy:0 <= y /\ y <= 12):∀ (k:Nat) (x:Int),0 <= x -> x + k <= 13 -> okE (rowQ fl s d t p y k x)
 | 0,x,_,_=>fun e he=>by cases he
 | k + 1,x,h1,h2=>okE_app (em_ok hfl hs hd hp (by omega) hy) (row_ok hfl hs hd hp hy k (x + 1) (by omega) (by omega))
theorem box_ok (hfl:200 <= fl) (hs:okS s) (hd:okD s d) (hp:okPart p) {a:Int} {w:Nat} (ha:0 <= a) (hw:a + w <= 13):∀ (k:Nat) (y:Int),0 <= y -> y + k <= 13 -> okE (boxQ fl s d t p a w k y)
 | 0,y,_,_=>fun e he=>by cases he
 | k + 1,y,h1,h2=>okE_app (row_ok hfl hs hd hp (by omega) w a ha hw) (box_ok hfl hs hd hp ha hw k (y + 1) (by omega) (by omega))
theorem row_len:∀ (k:Nat) (x:Int) (y:Int),(rowQ fl s d t p y k x).length <= k
 | 0,x,y=>Nat.le_refl _
 | k + 1,x,y=>by
  have:=row_len k (x + 1) y;have h:(emQ fl s d t p x y).length <= 1:=by unfold emQ; split <;> simp
  unfold rowQ;rw [List.length_append];omega
theorem box_len {a:Int} {w:Nat}:∀ (k:Nat) (y:Int),(boxQ fl s d t p a w k y).length <= k * w
 | 0,y=>by unfold boxQ; simp
 | k + 1,y=>by
  have h1:=box_len (a:=a) (w:=w) k (y + 1);have h2:=row_len (fl:=fl) (s:=s) (d:=d) (t:=t) (p:=p) w a y;unfold boxQ;rw [List.length_append,Nat.add_mul];omega
theorem inBox_in (hs:okS s) (u:Tri) (b:BxQ):0 <= (inBox s u b).1 /\ 0 <= (inBox s u b).2.1 /\ (inBox s u b).2.2.1 <= 12 /\ (inBox s u b).2.2.2 <= 12:=by
 have:=hs.w;have:=hs.h;unfold inBox sideLo sideHi;dsimp only;omega
theorem part_ok (hfl:200 <= fl) (hs:okS s) (hd:okD s d) (hp:okPart p) {b:BxQ}:okE (partQ fl s d t b p) /\ (partQ fl s d t b p).length <= 144:=by
 obtain ⟨h1,h2,h3,h4⟩:=inBox_in hs p.2 b;refine ⟨?_,?_⟩
 ·unfold partQ;by_cases hk:(inBox s p.2 b).2.2.2 <= (inBox s p.2 b).2.1
  ·rw [show ((inBox s p.2 b).2.2.2 - (inBox s p.2 b).2.1).toNat = 0 by omega]
   exact fun e he=>by cases he
  ·by_cases hw:(inBox s p.2 b).2.2.1 <= (inBox s p.2 b).1
   ·rw [show ((inBox s p.2 b).2.2.1 - (inBox s p.2 b).1).toNat = 0 by omega]
    have:∀ (k:Nat) (y:Int),boxQ fl s d t p (inBox s p.2 b).1 0 k y = []:=fun k=>by
     induction k with
     | zero=>intro y; rfl
     | succ k ih=>intro y; unfold boxQ; rw [ih]; rfl
    rw [this];exact fun e he=>by cases he
   ·exact box_ok hfl hs hd hp h1 (by omega) _ _ h2 (by omega)
 ·have:=box_len (fl:=fl) (s:=s) (d:=d) (t:=t) (p:=p) (a:=(inBox s p.2 b).1) (w:=((inBox s p.2 b).2.2.1 - (inBox s p.2 b).1).toNat) ((inBox s p.2 b).2.2.2 - (inBox s p.2 b).2.1).toNat (inBox s p.2 b).2.1;have h5:((inBox s p.2 b).2.2.2 - (inBox s p.2 b).2.1).toNat * ((inBox s p.2 b).2.2.1 - (inBox s p.2 b).1).toNat <= 12 * 12:=Nat.mul_le_mul (by omega) (by omega)
  unfold partQ;omega
end
theorem flat_ok {α:Type} {f:α -> List EmQ} {l:List α} (h:∀ x ∈ l,okE (f x)):okE (l.flatMap f):=fun e he=>by
 obtain ⟨x,hx,hex⟩:=List.mem_flatMap.1 he;exact h x hx e hex
theorem flat_len {α:Type} {f:α -> List EmQ} {k:Nat}:∀ {l:List α},(∀ x ∈ l,(f x).length <= k) -> (l.flatMap f).length <= l.length * k
 | [],_=>by simp
 | x :: l,h=>by
  have:=flat_len (l:=l) fun y hy=>h y (List.mem_cons_of_mem _ hy)
  have:=h x (by simp)
  rw [List.flatMap_cons,List.length_append,List.length_cons,Nat.add_mul];omega
theorem tri_ok {fl:Nat} (hfl:200 <= fl) {s:ScnQ} (hs:okS s) {d:DrwQ} (hd:d ∈ s.2.2.2.2.2.2) {t:TriQ} (ht:t ∈ d.2.2.2.2) {b:BxQ}:okE (triQ fl s d b t) /\ (triQ fl s d b t).length <= 2736:=by
 obtain ⟨h1,h2⟩:=parts_in hs hd ht;refine ⟨flat_ok fun p hp=>(part_ok hfl hs (hs.draws d hd) (h2 p hp)).1,?_⟩
 have:=flat_len (l:=partsQ s t) (f:=partQ fl s d t b) (k:=144) fun p hp=>(part_ok hfl hs (hs.draws d hd) (h2 p hp)).2
 unfold triQ;omega
theorem drw_ok {fl:Nat} (hfl:200 <= fl) {s:ScnQ} (hs:okS s) {d:DrwQ} (hd:d ∈ s.2.2.2.2.2.2) {b:BxQ} {o:Bool}:okE (drwQ fl s b o d) /\ (drwQ fl s b o d).length <= 10944:=by
 unfold drwQ;split
 ·refine ⟨flat_ok fun t ht=>(tri_ok hfl hs hd ht).1,?_⟩
  have:=flat_len (l:=d.2.2.2.2) (f:=triQ fl s d b) (k:=2736) fun t ht=>(tri_ok hfl hs hd ht).2
  have:=(hs.draws d hd).few;omega
 ·exact ⟨fun e he=>(by cases he),Nat.zero_le _⟩
theorem all_ok {fl:Nat} (hfl:200 <= fl) {s:ScnQ} (hs:okS s) {b:BxQ} {o:Bool}:okE (allQ fl s b o) /\ (allQ fl s b o).length <= 43776:=by
 refine ⟨flat_ok fun d hd=>(drw_ok hfl hs hd).1,?_⟩
 have:=flat_len (l:=s.2.2.2.2.2.2) (f:=drwQ fl s b o) (k:=10944) fun d hd=>(drw_ok hfl hs hd).2
 have:=hs.few;unfold allQ;omega
theorem gone_row {fl:Nat} (hfl:5000 <= fl) {mk st:Int} (hmk:0 <= mk /\ mk <= 1000000) (hst:0 <= st /\ st <= 100000000) {m:Nat} {x0:Int} {x1:Int} {x2:Int} {x3:Int} {x5:T9} {x6:Int} {x7:Int} {x8:T1} {x9:Int} {x10:(List T4)} {x11:Int} {x12:Int} {x13:Int} {x14:Int} {x15:T7} {x16:Int} {x17:Int} {x18:Int} {x19:Int} {x20:Bool} {x21:(List T1)} {x22:Int} {x23:Int} {x24:Int} {x25:Int} {x26:Int} {x27:Int} {x28:Int} {x29:Int} {x30:Int} {x31:Int} {x32:Int} {x33:Int} {x34:Int} {x35:Int} {x36:Int} {x37:Int} {x38:Int} {x39:Int} {x40:Int} {x41:Int} {x42:Int} {x43:Int} {x46:Bool} {x47:Int} {x48:Int} {x49:Int} {x50:Int} {x51:Int} {x52:Int} {x53:Int} {x54:Int} {x55:Int} {x56:Int} {x57:(List T2)} {x58:T6} {x59:(List T3)} {x60:(List T4)} (hS:okS (x51,(x52,((x53,(x54,(x55,x56))),(x57,(x58,(x59,x60))))))) (hD:(x17,(x18,(x19,(x20,x21)))) ∈ x60) {t:TriQ} (ht:F.get x21 x16 = some t) (hP:okPart (x22,((x23,(x24,(x25,(x26,(x27,(x28,x29)))))),((x30,(x31,(x32,(x33,(x34,(x35,x36)))))),(x37,(x38,(x39,(x40,(x41,(x42,x43)))))))))) (hy:0 <= x3 /\ x3 <= 12) (hc:x2 <= 12) :
  ∀ (k n:Nat) (X:Int) (A:List EmQ),(x2 - X).toNat = k -> k + 1 <= n -> 0 <= X -> A.length < m -> okE A -> A.length + (rowQ fl (x51,(x52,((x53,(x54,(x55,x56))),(x57,(x58,(x59,x60)))))) (x17,(x18,(x19,(x20,x21)))) t (x22,((x23,(x24,(x25,(x26,(x27,(x28,x29)))))),((x30,(x31,(x32,(x33,(x34,(x35,x36)))))),(x37,(x38,(x39,(x40,(x41,(x42,x43))))))))) x3 k X).length <= 90000 ->
  glazierlaw22_gone_i34_l1 fl n x0 x1 x2 x3 X x5 x6 x7 x8 x9 x10 x11 x12 x13 x14 x15 x16 x17 x18 x19 x20 x21 x22 x23 x24 x25 x26 x27 x28 x29 x30 x31 x32 x33 x34 x35 x36 x37 x38 x39 x40 x41 x42 x43 (m:Int) (A.map (·.1)) x46 x47 x48 x49 x50 x51 x52 x53 x54 x55 x56 x57 x58 x59 x60 (mk + (A.length:Int)) (st + sumQ A) = goOut m A (rowQ fl (x51,(x52,((x53,(x54,(x55,x56))),(x57,(x58,(x59,x60)))))) (x17,(x18,(x19,(x20,x21)))) t (x22,((x23,(x24,(x25,(x26,(x27,(x28,x29)))))),((x30,(x31,(x32,(x33,(x34,(x35,x36)))))),(x37,(x38,(x39,(x40,(x41,(x42,x43))))))))) x3 k X) (fun B=>(x5,(x6,(x7,(x8,(x9,(x10,(x11,(x12,(x13,(x14,(x15,((3:Int),(x16,(x17,(x18,(x19,(x20,(x21,(x22,(x23,(x24,(x25,(x26,(x27,(x28,(x29,(x30,(x31,(x32,(x33,(x34,(x35,(x36,(x37,(x38,(x39,(x40,(x41,(x42,(x43,((m:Int),((B.map (·.1)),(x46,(x47,(x48,(x49,(x50,(x51,(x52,(x53,(x54,(x55,(x56,(x57,(x58,(x59,(x60,((mk + (B.length:Int)),((st + sumQ B),())))))))))))))))))))))))))))))))))))))))))))))))))))))))))))) (fun B=>(x0,(x1,(x2,(x3,(x5,(x6,(x7,(x8,(x9,(x10,(x11,(x12,(x13,(x14,(x15,(x16,(x17,(x18,(x19,(x20,(x21,(x22,(x23,(x24,(x25,(x26,(x27,(x28,(x29,(x30,(x31,(x32,(x33,(x34,(x35,(x36,(x37,(x38,(x39,(x40,(x41,(x42,(x43,((m:Int),((B.map (·.1)),(x46,(x47,(x48,(x49,(x50,(x51,(x52,(x53,(x54,(x55,(x56,(x57,(x58,(x59,(x60,((mk + (B.length:Int)),((st + sumQ B),())))))))))))))))))))))))))))))))))))))))))))))))))))))))))))))))
 | 0,n,X,A,hk,hn,hX,hm,hA,hL=>by
  obtain ⟨n,rfl⟩:∃ k,n = k + 1:=⟨n - 1,by omega⟩
  rw [glazierlaw22_gone_i34_l1,bnd_eq,lt_f (by omega),bite_f]
  unfold rowQ;rw [go_nil hm]
 | k + 1,n,X,A,hk,hn,hX,hm,hA,hL=>by
  obtain ⟨n,rfl⟩:∃ k,n = k + 1:=⟨n - 1,by omega⟩
  obtain ⟨s1,s2⟩:=sum_in hA;have hl:A.length + (emQ fl (x51,(x52,((x53,(x54,(x55,x56))),(x57,(x58,(x59,x60)))))) (x17,(x18,(x19,(x20,x21)))) t (x22,((x23,(x24,(x25,(x26,(x27,(x28,x29)))))),((x30,(x31,(x32,(x33,(x34,(x35,x36)))))),(x37,(x38,(x39,(x40,(x41,(x42,x43))))))))) X x3).length + (rowQ fl (x51,(x52,((x53,(x54,(x55,x56))),(x57,(x58,(x59,x60)))))) (x17,(x18,(x19,(x20,x21)))) t (x22,((x23,(x24,(x25,(x26,(x27,(x28,x29)))))),((x30,(x31,(x32,(x33,(x34,(x35,x36)))))),(x37,(x38,(x39,(x40,(x41,(x42,x43))))))))) x3 k (X + 1)).length <= 90000:=by
   unfold rowQ at hL;rw [List.length_append] at hL;omega
  have e:=frag_is hfl hS hD (t:=t) hP (x:=X) (y:=x3) (mk:=mk + (A.length:Int)) (st:=st + sumQ A) (by omega) hy (by omega) (by omega)
  have ok:=em_ok (t:=t) (fl:=fl) (by omega) hS (hS.draws _ hD) hP (x:=X) (y:=x3) (by omega) hy
  rw [glazierlaw22_gone_i34_l1,bnd_eq,lt_t (by omega),bite_t,ht,ob_some,nilE_same,e,ob_some]
  unfold rowQ;by_cases h:maskT ((x22,((x23,(x24,(x25,(x26,(x27,(x28,x29)))))),((x30,(x31,(x32,(x33,(x34,(x35,x36)))))),(x37,(x38,(x39,(x40,(x41,(x42,x43))))))))):Int × Tri).2 X x3 = 0
  ·rw [if_pos h];unfold emQ at hl ⊢;rw [if_pos h] at hl ⊢;dsimp only;rw [bite_f,bnd_eq,addI (by omega),List.nil_append]
   exact gone_row hfl hmk hst hS hD ht hP hy hc k n (X + 1) A (by omega) (by omega) (by omega) hm hA (by simpa using hl)
  ·rw [if_neg h];unfold emQ at hl ok ⊢;rw [if_neg h] at hl ok ⊢;generalize heq:((fragQ fl (x51,(x52,((x53,(x54,(x55,x56))),(x57,(x58,(x59,x60)))))) (x17,(x18,(x19,(x20,x21)))) t (x22,((x23,(x24,(x25,(x26,(x27,(x28,x29)))))),((x30,(x31,(x32,(x33,(x34,(x35,x36)))))),(x37,(x38,(x39,(x40,(x41,(x42,x43))))))))) X x3,(shdQ fl (x51,(x52,((x53,(x54,(x55,x56))),(x57,(x58,(x59,x60)))))) (x17,(x18,(x19,(x20,x21)))) ((x22,((x23,(x24,(x25,(x26,(x27,(x28,x29)))))),((x30,(x31,(x32,(x33,(x34,(x35,x36)))))),(x37,(x38,(x39,(x40,(x41,(x42,x43))))))))):Int × Tri).2 X x3).2.1):EmQ) = q at hl ok ⊢;have q1:fragQ fl (x51,(x52,((x53,(x54,(x55,x56))),(x57,(x58,(x59,x60)))))) (x17,(x18,(x19,(x20,x21)))) t (x22,((x23,(x24,(x25,(x26,(x27,(x28,x29)))))),((x30,(x31,(x32,(x33,(x34,(x35,x36)))))),(x37,(x38,(x39,(x40,(x41,(x42,x43))))))))) X x3 = q.1:=by rw [<- heq]
   have q2:(shdQ fl (x51,(x52,((x53,(x54,(x55,x56))),(x57,(x58,(x59,x60)))))) (x17,(x18,(x19,(x20,x21)))) ((x22,((x23,(x24,(x25,(x26,(x27,(x28,x29)))))),((x30,(x31,(x32,(x33,(x34,(x35,x36)))))),(x37,(x38,(x39,(x40,(x41,(x42,x43))))))))):Int × Tri).2 X x3).2.1 = q.2:=by rw [<- heq]
   have e1:(A ++ [q]).map (·.1) = A.map (·.1) ++ [q.1]:=by simp
   have e2:mk + ((A ++ [q]).length:Int) = mk + (A.length:Int) + 1:=by simp; omega
   have e3:st + sumQ (A ++ [q]) = st + sumQ A + q.2:=by rw [sumQ_app,sumQ_one]; omega
   rw [q1,q2];dsimp only;simp only [List.length_cons,List.length_nil] at hl;rw [bite_t,appOk_t (by simp; omega) (by decide),bgd_t,bnd_eq,bnd_eq,appK,lenK,List.singleton_append]
   by_cases hcut:m <= A.length + 1
   ·rw [bnd_eq,ge_t (by simp; omega),bite_t,go_one (by omega)]
    try dsimp only
    rw [e1,e2,e3]
   ·rw [bnd_eq,ge_f (by simp; omega),bite_f,bnd_eq,bnd_eq,gt_f (by simp; omega),bite_f,bnd_eq,addI (by omega),go_cons (by omega)]
    rw [<- e1,<- e2,<- e3];exact gone_row hfl hmk hst hS hD ht hP hy hc k n (X + 1) (A ++ [q]) (by omega) (by omega) (by omega) (by simp; omega) (okE_app hA ok) (by simp; omega)
theorem gone_box {fl:Nat} (hfl:5000 <= fl) {mk st:Int} (hmk:0 <= mk /\ mk <= 1000000) (hst:0 <= st /\ st <= 100000000) {m:Nat} {x0:Int} {x1:Int} {x2:Int} {x4:T9} {x5:Int} {x6:Int} {x7:T1} {x8:Int} {x9:(List T4)} {x10:Int} {x11:Int} {x12:Int} {x13:Int} {x14:T7} {x15:Int} {x16:Int} {x17:Int} {x18:Int} {x19:Bool} {x20:(List T1)} {x21:Int} {x22:Int} {x23:Int} {x24:Int} {x25:Int} {x26:Int} {x27:Int} {x28:Int} {x29:Int} {x30:Int} {x31:Int} {x32:Int} {x33:Int} {x34:Int} {x35:Int} {x36:Int} {x37:Int} {x38:Int} {x39:Int} {x40:Int} {x41:Int} {x42:Int} {x45:Bool} {x46:Int} {x47:Int} {x48:Int} {x49:Int} {x50:Int} {x51:Int} {x52:Int} {x53:Int} {x54:Int} {x55:Int} {x56:(List T2)} {x57:T6} {x58:(List T3)} {x59:(List T4)} (hS:okS (x50,(x51,((x52,(x53,(x54,x55))),(x56,(x57,(x58,x59))))))) (hD:(x16,(x17,(x18,(x19,x20)))) ∈ x59) {t:TriQ} (ht:F.get x20 x15 = some t) (hP:okPart (x21,((x22,(x23,(x24,(x25,(x26,(x27,x28)))))),((x29,(x30,(x31,(x32,(x33,(x34,x35)))))),(x36,(x37,(x38,(x39,(x40,(x41,x42)))))))))) (hx:0 <= x1) (hc:x2 <= 12) (hl:x0 <= 12) :
  ∀ (k n:Nat) (Y:Int) (A:List EmQ),(x0 - Y).toNat = k -> k + 1 <= n -> 0 <= Y -> A.length < m -> okE A -> A.length + (boxQ fl (x50,(x51,((x52,(x53,(x54,x55))),(x56,(x57,(x58,x59)))))) (x16,(x17,(x18,(x19,x20)))) t (x21,((x22,(x23,(x24,(x25,(x26,(x27,x28)))))),((x29,(x30,(x31,(x32,(x33,(x34,x35)))))),(x36,(x37,(x38,(x39,(x40,(x41,x42))))))))) x1 (x2 - x1).toNat k Y).length <= 90000 ->
  glazierlaw22_gone_i34_l2 fl n x0 x1 x2 Y x4 x5 x6 x7 x8 x9 x10 x11 x12 x13 x14 x15 x16 x17 x18 x19 x20 x21 x22 x23 x24 x25 x26 x27 x28 x29 x30 x31 x32 x33 x34 x35 x36 x37 x38 x39 x40 x41 x42 (m:Int) (A.map (·.1)) x45 x46 x47 x48 x49 x50 x51 x52 x53 x54 x55 x56 x57 x58 x59 (mk + (A.length:Int)) (st + sumQ A) = goOut m A (boxQ fl (x50,(x51,((x52,(x53,(x54,x55))),(x56,(x57,(x58,x59)))))) (x16,(x17,(x18,(x19,x20)))) t (x21,((x22,(x23,(x24,(x25,(x26,(x27,x28)))))),((x29,(x30,(x31,(x32,(x33,(x34,x35)))))),(x36,(x37,(x38,(x39,(x40,(x41,x42))))))))) x1 (x2 - x1).toNat k Y) (fun B=>(x4,(x5,(x6,(x7,(x8,(x9,(x10,(x11,(x12,(x13,(x14,((3:Int),(x15,(x16,(x17,(x18,(x19,(x20,(x21,(x22,(x23,(x24,(x25,(x26,(x27,(x28,(x29,(x30,(x31,(x32,(x33,(x34,(x35,(x36,(x37,(x38,(x39,(x40,(x41,(x42,((m:Int),((B.map (·.1)),(x45,(x46,(x47,(x48,(x49,(x50,(x51,(x52,(x53,(x54,(x55,(x56,(x57,(x58,(x59,((mk + (B.length:Int)),((st + sumQ B),())))))))))))))))))))))))))))))))))))))))))))))))))))))))))))) (fun B=>(x4,(x5,(x6,(x7,(x8,(x9,(x10,(x11,(x12,(x13,(x14,(x15,(x16,(x17,(x18,(x19,(x20,(x21,(x22,(x23,(x24,(x25,(x26,(x27,(x28,(x29,(x30,(x31,(x32,(x33,(x34,(x35,(x36,(x37,(x38,(x39,(x40,(x41,(x42,((m:Int),((B.map (·.1)),(x45,(x46,(x47,(x48,(x49,(x50,(x51,(x52,(x53,(x54,(x55,(x56,(x57,(x58,(x59,((mk + (B.length:Int)),((st + sumQ B),())))))))))))))))))))))))))))))))))))))))))))))))))))))))))))
 | 0,n,Y,A,hk,hn,hY,hm,hA,hL=>by
  obtain ⟨n,rfl⟩:∃ k,n = k + 1:=⟨n - 1,by omega⟩
  rw [glazierlaw22_gone_i34_l2,bnd_eq,lt_f (by omega),bite_f]
  unfold boxQ;rw [go_nil hm]
 | k + 1,n,Y,A,hk,hn,hY,hm,hA,hL=>by
  obtain ⟨n,rfl⟩:∃ k,n = k + 1:=⟨n - 1,by omega⟩
  unfold boxQ at hL ⊢;rw [List.length_append] at hL;rw [glazierlaw22_gone_i34_l2,bnd_eq,lt_t (by omega),bite_t,gone_row hfl hmk hst hS hD ht hP (m:=m) (by omega) (by omega) (x2 - x1).toNat fl x1 A rfl (by omega) hx hm hA (by omega)]
  rcases go_cases (rowQ fl (x50,(x51,((x52,(x53,(x54,x55))),(x56,(x57,(x58,x59)))))) (x16,(x17,(x18,(x19,x20)))) t (x21,((x22,(x23,(x24,(x25,(x26,(x27,x28)))))),((x29,(x30,(x31,(x32,(x33,(x34,x35)))))),(x36,(x37,(x38,(x39,(x40,(x41,x42))))))))) Y (x2 - x1).toNat x1) (fun B=>(x4,(x5,(x6,(x7,(x8,(x9,(x10,(x11,(x12,(x13,(x14,((3:Int),(x15,(x16,(x17,(x18,(x19,(x20,(x21,(x22,(x23,(x24,(x25,(x26,(x27,(x28,(x29,(x30,(x31,(x32,(x33,(x34,(x35,(x36,(x37,(x38,(x39,(x40,(x41,(x42,((m:Int),((B.map (·.1)),(x45,(x46,(x47,(x48,(x49,(x50,(x51,(x52,(x53,(x54,(x55,(x56,(x57,(x58,(x59,((mk + (B.length:Int)),((st + sumQ B),())))))))))))))))))))))))))))))))))))))))))))))))))))))))))))) (fun B=>(x0,(x1,(x2,(Y,(x4,(x5,(x6,(x7,(x8,(x9,(x10,(x11,(x12,(x13,(x14,(x15,(x16,(x17,(x18,(x19,(x20,(x21,(x22,(x23,(x24,(x25,(x26,(x27,(x28,(x29,(x30,(x31,(x32,(x33,(x34,(x35,(x36,(x37,(x38,(x39,(x40,(x41,(x42,((m:Int),((B.map (·.1)),(x45,(x46,(x47,(x48,(x49,(x50,(x51,(x52,(x53,(x54,(x55,(x56,(x57,(x58,(x59,((mk + (B.length:Int)),((st + sumQ B),()))))))))))))))))))))))))))))))))))))))))))))))))))))))))))))))) hm with ⟨B,e1,e2⟩ | ⟨e1,h1,e2⟩
  ·rw [e1,ob_some,os_l,e2]
  ·rw [e1,ob_some,os_r,e2];dsimp only;rw [bnd_eq,addI (by omega)]
   have hr:okE (rowQ fl (x50,(x51,((x52,(x53,(x54,x55))),(x56,(x57,(x58,x59)))))) (x16,(x17,(x18,(x19,x20)))) t (x21,((x22,(x23,(x24,(x25,(x26,(x27,x28)))))),((x29,(x30,(x31,(x32,(x33,(x34,x35)))))),(x36,(x37,(x38,(x39,(x40,(x41,x42))))))))) Y (x2 - x1).toNat x1):=by
    by_cases hw:x2 <= x1
    ·rw [show (x2 - x1).toNat = 0 by omega]
     exact fun e he=>(by cases he)
    ·exact row_ok (by omega) hS (hS.draws _ hD) hP (by omega) _ _ hx (by omega)
   exact gone_box hfl hmk hst hS hD ht hP hx hc hl k n (Y + 1) (A ++ rowQ fl (x50,(x51,((x52,(x53,(x54,x55))),(x56,(x57,(x58,x59)))))) (x16,(x17,(x18,(x19,x20)))) t (x21,((x22,(x23,(x24,(x25,(x26,(x27,x28)))))),((x29,(x30,(x31,(x32,(x33,(x34,x35)))))),(x36,(x37,(x38,(x39,(x40,(x41,x42))))))))) Y (x2 - x1).toNat x1) (by omega) (by omega) (by omega) h1 (okE_app hA hr) (by rw [List.length_append]; omega)
theorem gone_part {fl:Nat} (hfl:5000 <= fl) {mk st:Int} (hmk:0 <= mk /\ mk <= 1000000) (hst:0 <= st /\ st <= 100000000) {m:Nat} {x3:Int} {x4:(List T4)} {x5:Int} {x6:Int} {x7:Int} {x8:Int} {x9:T7} {x10:Int} {x11:Int} {x12:Int} {x13:Int} {x14:Bool} {x15:(List T1)} {x18:Bool} {x19:Int} {x20:Int} {x21:Int} {x22:Int} {x23:Int} {x24:Int} {x25:Int} {x26:Int} {x27:Int} {x28:Int} {x29:(List T2)} {x30:T6} {x31:(List T3)} {x32:(List T4)} (hS:okS (x23,(x24,((x25,(x26,(x27,x28))),(x29,(x30,(x31,x32))))))) (hD:(x11,(x12,(x13,(x14,x15)))) ∈ x32) {t:TriQ} (ht:F.get x15 x10 = some t) {Q:List (Int × Tri)} (hQ:∀ p ∈ Q,okPart p) (hQl:Q.length <= 100) :
  ∀ (k n i:Nat) (A:List EmQ),i + k = Q.length -> k + 1 <= n -> A.length < m -> okE A -> A.length + ((Q.drop i).flatMap (partQ fl (x23,(x24,((x25,(x26,(x27,x28))),(x29,(x30,(x31,x32)))))) (x11,(x12,(x13,(x14,x15)))) t (x19,(x20,(x21,x22))))).length <= 90000 ->
  glazierlaw22_gone_i22_l1 fl n Q (Q.length:Int) (i:Int) x3 x4 x5 x6 x7 x8 x9 x10 x11 x12 x13 x14 x15 (m:Int) (A.map (·.1)) x18 x19 x20 x21 x22 x23 x24 x25 x26 x27 x28 x29 x30 x31 x32 (mk + (A.length:Int)) (st + sumQ A) = goOut m A ((Q.drop i).flatMap (partQ fl (x23,(x24,((x25,(x26,(x27,x28))),(x29,(x30,(x31,x32)))))) (x11,(x12,(x13,(x14,x15)))) t (x19,(x20,(x21,x22))))) (fun B=>(x3,(x4,(x5,(x6,(x7,(x8,(x9,((3:Int),((m:Int),((B.map (·.1)),(x18,(x19,(x20,(x21,(x22,(x23,(x24,(x25,(x26,(x27,(x28,(x29,(x30,(x31,(x32,((mk + (B.length:Int)),((st + sumQ B),())))))))))))))))))))))))))))) (fun B=>(x3,(x4,(x5,(x6,(x7,(x8,(x9,((m:Int),((B.map (·.1)),(x18,(x19,(x20,(x21,(x22,(x23,(x24,(x25,(x26,(x27,(x28,(x29,(x30,(x31,(x32,((mk + (B.length:Int)),((st + sumQ B),())))))))))))))))))))))))))))
 | 0,n,i,A,hk,hn,hm,hA,hL=>by
  obtain ⟨n,rfl⟩:∃ k,n = k + 1:=⟨n - 1,by omega⟩
  rw [glazierlaw22_gone_i22_l1,bnd_eq,lt_f (by omega),bite_f,List.drop_eq_nil_of_le (by omega),List.flatMap_nil,go_nil hm]
 | k + 1,n,i,A,hk,hn,hm,hA,hL=>by
  obtain ⟨n,rfl⟩:∃ k,n = k + 1:=⟨n - 1,by omega⟩
  have hi:i < Q.length:=by omega
  rw [ldrop hi,List.flatMap_cons,List.length_append] at hL;rw [glazierlaw22_gone_i22_l1,bnd_eq,lt_t (by omega),bite_t,lgetK hi,ob_some,ldrop hi,List.flatMap_cons]
  have hp:=hQ _ (List.getElem_mem hi);generalize Q[i] = p at hL hp ⊢;obtain ⟨i1,i2,i3,i4⟩:=inBox_in hS p.2 (x19,(x20,(x21,x22)));have h:glazierlaw22_gone_i34_l2 fl fl (min (sideHi x24 p.2.1.2.1 p.2.2.1.2.1 p.2.2.2.2.1) x22) (max (sideLo p.2.1.1 p.2.2.1.1 p.2.2.2.1) x19) (min (sideHi x23 p.2.1.1 p.2.2.1.1 p.2.2.2.1) x21) (max (sideLo p.2.1.2.1 p.2.2.1.2.1 p.2.2.2.2.1) x20) Q (Q.length:Int) (i:Int) ((max (sideLo p.2.1.2.1 p.2.2.1.2.1 p.2.2.2.2.1) x20),((min (sideHi x24 p.2.1.2.1 p.2.2.1.2.1 p.2.2.2.2.1) x22),((max (sideLo p.2.1.1 p.2.2.1.1 p.2.2.2.1) x19),(min (sideHi x23 p.2.1.1 p.2.2.1.1 p.2.2.2.1) x21)))) x3 x4 x5 x6 x7 x8 x9 x10 x11 x12 x13 x14 x15 p.1 p.2.1.1 p.2.1.2.1 p.2.1.2.2.1 p.2.1.2.2.2.1 p.2.1.2.2.2.2.1 p.2.1.2.2.2.2.2.1 p.2.1.2.2.2.2.2.2 p.2.2.1.1 p.2.2.1.2.1 p.2.2.1.2.2.1 p.2.2.1.2.2.2.1 p.2.2.1.2.2.2.2.1 p.2.2.1.2.2.2.2.2.1 p.2.2.1.2.2.2.2.2.2 p.2.2.2.1 p.2.2.2.2.1 p.2.2.2.2.2.1 p.2.2.2.2.2.2.1 p.2.2.2.2.2.2.2.1 p.2.2.2.2.2.2.2.2.1 p.2.2.2.2.2.2.2.2.2 (m:Int) (A.map (·.1)) x18 x19 x20 x21 x22 x23 x24 x25 x26 x27 x28 x29 x30 x31 x32 (mk + (A.length:Int)) (st + sumQ A) = goOut m A (partQ fl (x23,(x24,((x25,(x26,(x27,x28))),(x29,(x30,(x31,x32)))))) (x11,(x12,(x13,(x14,x15)))) t (x19,(x20,(x21,x22))) p) (fun B=>(Q,((Q.length:Int),((i:Int),(((max (sideLo p.2.1.2.1 p.2.2.1.2.1 p.2.2.2.2.1) x20),((min (sideHi x24 p.2.1.2.1 p.2.2.1.2.1 p.2.2.2.2.1) x22),((max (sideLo p.2.1.1 p.2.2.1.1 p.2.2.2.1) x19),(min (sideHi x23 p.2.1.1 p.2.2.1.1 p.2.2.2.1) x21)))),(x3,(x4,(x5,(x6,(x7,(x8,(x9,((3:Int),(x10,(x11,(x12,(x13,(x14,(x15,(p.1,(p.2.1.1,(p.2.1.2.1,(p.2.1.2.2.1,(p.2.1.2.2.2.1,(p.2.1.2.2.2.2.1,(p.2.1.2.2.2.2.2.1,(p.2.1.2.2.2.2.2.2,(p.2.2.1.1,(p.2.2.1.2.1,(p.2.2.1.2.2.1,(p.2.2.1.2.2.2.1,(p.2.2.1.2.2.2.2.1,(p.2.2.1.2.2.2.2.2.1,(p.2.2.1.2.2.2.2.2.2,(p.2.2.2.1,(p.2.2.2.2.1,(p.2.2.2.2.2.1,(p.2.2.2.2.2.2.1,(p.2.2.2.2.2.2.2.1,(p.2.2.2.2.2.2.2.2.1,(p.2.2.2.2.2.2.2.2.2,((m:Int),((B.map (·.1)),(x18,(x19,(x20,(x21,(x22,(x23,(x24,(x25,(x26,(x27,(x28,(x29,(x30,(x31,(x32,((mk + (B.length:Int)),((st + sumQ B),())))))))))))))))))))))))))))))))))))))))))))))))))))))))))))) (fun B=>(Q,((Q.length:Int),((i:Int),(((max (sideLo p.2.1.2.1 p.2.2.1.2.1 p.2.2.2.2.1) x20),((min (sideHi x24 p.2.1.2.1 p.2.2.1.2.1 p.2.2.2.2.1) x22),((max (sideLo p.2.1.1 p.2.2.1.1 p.2.2.2.1) x19),(min (sideHi x23 p.2.1.1 p.2.2.1.1 p.2.2.2.1) x21)))),(x3,(x4,(x5,(x6,(x7,(x8,(x9,(x10,(x11,(x12,(x13,(x14,(x15,(p.1,(p.2.1.1,(p.2.1.2.1,(p.2.1.2.2.1,(p.2.1.2.2.2.1,(p.2.1.2.2.2.2.1,(p.2.1.2.2.2.2.2.1,(p.2.1.2.2.2.2.2.2,(p.2.2.1.1,(p.2.2.1.2.1,(p.2.2.1.2.2.1,(p.2.2.1.2.2.2.1,(p.2.2.1.2.2.2.2.1,(p.2.2.1.2.2.2.2.2.1,(p.2.2.1.2.2.2.2.2.2,(p.2.2.2.1,(p.2.2.2.2.1,(p.2.2.2.2.2.1,(p.2.2.2.2.2.2.1,(p.2.2.2.2.2.2.2.1,(p.2.2.2.2.2.2.2.2.1,(p.2.2.2.2.2.2.2.2.2,((m:Int),((B.map (·.1)),(x18,(x19,(x20,(x21,(x22,(x23,(x24,(x25,(x26,(x27,(x28,(x29,(x30,(x31,(x32,((mk + (B.length:Int)),((st + sumQ B),()))))))))))))))))))))))))))))))))))))))))))))))))))))))))))):=
   gone_box hfl hmk hst hS hD ht hp i1 i3 i4 _ fl _ A rfl (by have i2':0 <= (max (sideLo p.2.1.2.1 p.2.2.1.2.1 p.2.2.2.2.1) x20):=i2; have i4':(min (sideHi x24 p.2.1.2.1 p.2.2.1.2.1 p.2.2.2.2.1) x22) <= 12:=i4; omega) i2 hm hA (by
    have:(partQ fl (x23,(x24,((x25,(x26,(x27,x28))),(x29,(x30,(x31,x32)))))) (x11,(x12,(x13,(x14,x15)))) t (x19,(x20,(x21,x22))) p).length <= 90000 - A.length:=by omega
    have e:A.length + (partQ fl (x23,(x24,((x25,(x26,(x27,x28))),(x29,(x30,(x31,x32)))))) (x11,(x12,(x13,(x14,x15)))) t (x19,(x20,(x21,x22))) p).length <= 90000:=by omega
    exact e)
  rw [box_is fl hp.2.2.2.1,ob_some];dsimp only;rw [bnd_eq,bnd_eq,bnd_eq,bnd_eq,f_max,f_max,f_min,f_min];unfold setup_Pixels;rw [ob_some];dsimp only;rw [h];rcases go_cases (partQ fl (x23,(x24,((x25,(x26,(x27,x28))),(x29,(x30,(x31,x32)))))) (x11,(x12,(x13,(x14,x15)))) t (x19,(x20,(x21,x22))) p) (fun B=>(Q,((Q.length:Int),((i:Int),(((max (sideLo p.2.1.2.1 p.2.2.1.2.1 p.2.2.2.2.1) x20),((min (sideHi x24 p.2.1.2.1 p.2.2.1.2.1 p.2.2.2.2.1) x22),((max (sideLo p.2.1.1 p.2.2.1.1 p.2.2.2.1) x19),(min (sideHi x23 p.2.1.1 p.2.2.1.1 p.2.2.2.1) x21)))),(x3,(x4,(x5,(x6,(x7,(x8,(x9,((3:Int),(x10,(x11,(x12,(x13,(x14,(x15,(p.1,(p.2.1.1,(p.2.1.2.1,(p.2.1.2.2.1,(p.2.1.2.2.2.1,(p.2.1.2.2.2.2.1,(p.2.1.2.2.2.2.2.1,(p.2.1.2.2.2.2.2.2,(p.2.2.1.1,(p.2.2.1.2.1,(p.2.2.1.2.2.1,(p.2.2.1.2.2.2.1,(p.2.2.1.2.2.2.2.1,(p.2.2.1.2.2.2.2.2.1,(p.2.2.1.2.2.2.2.2.2,(p.2.2.2.1,(p.2.2.2.2.1,(p.2.2.2.2.2.1,(p.2.2.2.2.2.2.1,(p.2.2.2.2.2.2.2.1,(p.2.2.2.2.2.2.2.2.1,(p.2.2.2.2.2.2.2.2.2,((m:Int),((B.map (·.1)),(x18,(x19,(x20,(x21,(x22,(x23,(x24,(x25,(x26,(x27,(x28,(x29,(x30,(x31,(x32,((mk + (B.length:Int)),((st + sumQ B),())))))))))))))))))))))))))))))))))))))))))))))))))))))))))))) (fun B=>(Q,((Q.length:Int),((i:Int),(((max (sideLo p.2.1.2.1 p.2.2.1.2.1 p.2.2.2.2.1) x20),((min (sideHi x24 p.2.1.2.1 p.2.2.1.2.1 p.2.2.2.2.1) x22),((max (sideLo p.2.1.1 p.2.2.1.1 p.2.2.2.1) x19),(min (sideHi x23 p.2.1.1 p.2.2.1.1 p.2.2.2.1) x21)))),(x3,(x4,(x5,(x6,(x7,(x8,(x9,(x10,(x11,(x12,(x13,(x14,(x15,(p.1,(p.2.1.1,(p.2.1.2.1,(p.2.1.2.2.1,(p.2.1.2.2.2.1,(p.2.1.2.2.2.2.1,(p.2.1.2.2.2.2.2.1,(p.2.1.2.2.2.2.2.2,(p.2.2.1.1,(p.2.2.1.2.1,(p.2.2.1.2.2.1,(p.2.2.1.2.2.2.1,(p.2.2.1.2.2.2.2.1,(p.2.2.1.2.2.2.2.2.1,(p.2.2.1.2.2.2.2.2.2,(p.2.2.2.1,(p.2.2.2.2.1,(p.2.2.2.2.2.1,(p.2.2.2.2.2.2.1,(p.2.2.2.2.2.2.2.1,(p.2.2.2.2.2.2.2.2.1,(p.2.2.2.2.2.2.2.2.2,((m:Int),((B.map (·.1)),(x18,(x19,(x20,(x21,(x22,(x23,(x24,(x25,(x26,(x27,(x28,(x29,(x30,(x31,(x32,((mk + (B.length:Int)),((st + sumQ B),()))))))))))))))))))))))))))))))))))))))))))))))))))))))))))) hm with ⟨B,e1,e2⟩ | ⟨e1,h1,e2⟩
  ·rw [e1,ob_some,os_l,e2]
  ·rw [e1,ob_some,os_r,e2];dsimp only;rw [bnd_eq,addI (by omega),show (i:Int) + 1 = ((i + 1:Nat):Int) by omega]
   exact gone_part hfl hmk hst hS hD ht hQ hQl k n (i + 1) (A ++ partQ fl (x23,(x24,((x25,(x26,(x27,x28))),(x29,(x30,(x31,x32)))))) (x11,(x12,(x13,(x14,x15)))) t (x19,(x20,(x21,x22))) p) (by omega) (by omega) h1 (okE_app hA (part_ok (by omega) hS (hS.draws _ hD) hp).1) (by rw [List.length_append]; omega)
theorem bne_is (a b:Bool):F.bne a b = decide (a ≠ b):=by cases a <;> cases b <;> rfl
theorem gone_tri {fl:Nat} (hfl:5000 <= fl) {mk st:Int} (hmk:0 <= mk /\ mk <= 1000000) (hst:0 <= st /\ st <= 100000000) {m:Nat} {x0:Int} {x1:(List T4)} {x2:Int} {x3:Int} {x6:T7} {x9:Bool} {x10:Int} {x11:Int} {x12:Int} {x13:Int} {x14:Int} {x15:Int} {x16:Int} {x17:Int} {x18:Int} {x19:Int} {x20:(List T2)} {x21:T6} {x22:(List T3)} {x23:(List T4)} {D1 D2 D3:Int} {D4:Bool} {D5:List TriQ} (hS:okS (x14,(x15,((x16,(x17,(x18,x19))),(x20,(x21,(x22,x23))))))) (hd:F.get x23 x0 = some (D1,(D2,(D3,(D4,D5))))) (hD:(D1,(D2,(D3,(D4,D5)))) ∈ x23) :
  ∀ (k n i:Nat) (A:List EmQ),i + k = D5.length -> k + 1 <= n -> A.length < m -> okE A -> A.length + ((if D4 = x9 then (D5.drop i).flatMap (triQ fl (x14,(x15,((x16,(x17,(x18,x19))),(x20,(x21,(x22,x23)))))) (D1,(D2,(D3,(D4,D5)))) (x10,(x11,(x12,x13)))) else [])).length <= 90000 ->
  glazierlaw22_gone_i31_l1 fl n x0 x1 x2 x3 (D5.length:Int) (i:Int) x6 (m:Int) (A.map (·.1)) x9 x10 x11 x12 x13 x14 x15 x16 x17 x18 x19 x20 x21 x22 x23 (mk + (A.length:Int)) (st + sumQ A) = goOut m A (if D4 = x9 then (D5.drop i).flatMap (triQ fl (x14,(x15,((x16,(x17,(x18,x19))),(x20,(x21,(x22,x23)))))) (D1,(D2,(D3,(D4,D5)))) (x10,(x11,(x12,x13)))) else []) (fun B=>(x6,((3:Int),((m:Int),((B.map (·.1)),(x9,(x10,(x11,(x12,(x13,(x14,(x15,(x16,(x17,(x18,(x19,(x20,(x21,(x22,(x23,((mk + (B.length:Int)),((st + sumQ B),())))))))))))))))))))))) (fun B=>(x1,(x2,(x3,(x6,((m:Int),((B.map (·.1)),(x9,(x10,(x11,(x12,(x13,(x14,(x15,(x16,(x17,(x18,(x19,(x20,(x21,(x22,(x23,((mk + (B.length:Int)),((st + sumQ B),()))))))))))))))))))))))))
 | 0,n,i,A,hk,hn,hm,hA,hL=>by
  obtain ⟨n,rfl⟩:∃ k,n = k + 1:=⟨n - 1,by omega⟩
  rw [glazierlaw22_gone_i31_l1,bnd_eq,lt_f (by omega),bite_f,List.drop_eq_nil_of_le (by omega),List.flatMap_nil,ite_self,go_nil hm]
 | k + 1,n,i,A,hk,hn,hm,hA,hL=>by
  obtain ⟨n,rfl⟩:∃ k,n = k + 1:=⟨n - 1,by omega⟩
  have hi:i < D5.length:=by omega
  have hfew:D5.length <= 4:=(hS.draws (D1,(D2,(D3,(D4,D5)))) hD).few;rw [glazierlaw22_gone_i31_l1,bnd_eq,lt_t (by omega),bite_t,hd,ob_some,bnd_eq,bne_is]
  by_cases ho:D4 = x9
  ·rw [if_pos ho,ldrop hi,List.flatMap_cons,List.length_append] at hL;rw [if_pos ho,decide_eq_false (by simp [ho]),bite_f,lgetK hi,ob_some,ldrop hi,List.flatMap_cons]
   have ht:=List.getElem_mem hi;have hg:F.get D5 (i:Int) = some D5[i]:=lgetK hi;generalize D5[i] = t at hL ht hg ⊢;obtain ⟨q1,q2⟩:=parts_in hS hD ht;have hpt:=parts_is hfl hS hD ht (mk:=mk + (A.length:Int)) (st:=st + sumQ A) (a:=x16) (b:=x17) (c:=x18) (e:=x19);dsimp only at hpt;rw [hpt,ob_some,bnd_eq,lenK];have h:glazierlaw22_gone_i22_l1 fl fl (partsQ (x14,(x15,((x16,(x17,(x18,x19))),(x20,(x21,(x22,x23)))))) t) ((partsQ (x14,(x15,((x16,(x17,(x18,x19))),(x20,(x21,(x22,x23)))))) t).length:Int) 0 x0 x1 x2 x3 (D5.length:Int) (i:Int) x6 (i:Int) D1 D2 D3 D4 D5 (m:Int) (A.map (·.1)) x9 x10 x11 x12 x13 x14 x15 x16 x17 x18 x19 x20 x21 x22 x23 (mk + (A.length:Int)) (st + sumQ A) = goOut m A (triQ fl (x14,(x15,((x16,(x17,(x18,x19))),(x20,(x21,(x22,x23)))))) (D1,(D2,(D3,(D4,D5)))) (x10,(x11,(x12,x13))) t) (fun B=>(x0,(x1,(x2,(x3,((D5.length:Int),((i:Int),(x6,((3:Int),((m:Int),((B.map (·.1)),(x9,(x10,(x11,(x12,(x13,(x14,(x15,(x16,(x17,(x18,(x19,(x20,(x21,(x22,(x23,((mk + (B.length:Int)),((st + sumQ B),())))))))))))))))))))))))))))) (fun B=>(x0,(x1,(x2,(x3,((D5.length:Int),((i:Int),(x6,((m:Int),((B.map (·.1)),(x9,(x10,(x11,(x12,(x13,(x14,(x15,(x16,(x17,(x18,(x19,(x20,(x21,(x22,(x23,((mk + (B.length:Int)),((st + sumQ B),()))))))))))))))))))))))))))):=by
    unfold triQ at hL ⊢;have h:=gone_part hfl hmk hst (m:=m) (x3:=x0) (x4:=x1) (x5:=x2) (x6:=x3) (x7:=(D5.length:Int)) (x8:=(i:Int)) (x9:=x6) (x10:=(i:Int)) (x11:=D1) (x12:=D2) (x13:=D3) (x14:=D4) (x15:=D5) (x18:=x9) (x19:=x10) (x20:=x11) (x21:=x12) (x22:=x13) (x23:=x14) (x24:=x15) (x25:=x16) (x26:=x17) (x27:=x18) (x28:=x19) (x29:=x20) (x30:=x21) (x31:=x22) (x32:=x23) hS hD hg q2 (by omega)  _ fl 0 A (Nat.zero_add _) (by omega) hm hA (by rw [List.drop_zero]; omega)
    rw [List.drop_zero] at h;exact h
   rw [h];rcases go_cases (triQ fl (x14,(x15,((x16,(x17,(x18,x19))),(x20,(x21,(x22,x23)))))) (D1,(D2,(D3,(D4,D5)))) (x10,(x11,(x12,x13))) t) (fun B=>(x0,(x1,(x2,(x3,((D5.length:Int),((i:Int),(x6,((3:Int),((m:Int),((B.map (·.1)),(x9,(x10,(x11,(x12,(x13,(x14,(x15,(x16,(x17,(x18,(x19,(x20,(x21,(x22,(x23,((mk + (B.length:Int)),((st + sumQ B),())))))))))))))))))))))))))))) (fun B=>(x0,(x1,(x2,(x3,((D5.length:Int),((i:Int),(x6,((m:Int),((B.map (·.1)),(x9,(x10,(x11,(x12,(x13,(x14,(x15,(x16,(x17,(x18,(x19,(x20,(x21,(x22,(x23,((mk + (B.length:Int)),((st + sumQ B),()))))))))))))))))))))))))))) hm with ⟨B,e1,e2⟩ | ⟨e1,h1,e2⟩
   ·rw [e1,ob_some,os_l,e2]
   ·rw [e1,ob_some,os_r,e2];dsimp only;rw [bnd_eq,addI (by omega),show (i:Int) + 1 = ((i + 1:Nat):Int) by omega]
    have ih:=fun hx=>gone_tri hfl hmk hst (m:=m) (x0:=x0) (x1:=x1) (x2:=x2) (x3:=x3) (x6:=x6) (x9:=x9) (x10:=x10) (x11:=x11) (x12:=x12) (x13:=x13) (x14:=x14) (x15:=x15) (x16:=x16) (x17:=x17) (x18:=x18) (x19:=x19) (x20:=x20) (x21:=x21) (x22:=x22) (x23:=x23) hS hd hD k n (i + 1) (A ++ triQ fl (x14,(x15,((x16,(x17,(x18,x19))),(x20,(x21,(x22,x23)))))) (D1,(D2,(D3,(D4,D5)))) (x10,(x11,(x12,x13))) t) (by omega) (by omega) h1 (okE_app hA (tri_ok (by omega) hS hD ht).1) hx
    rw [if_pos ho] at ih;exact ih (by rw [List.length_append]; omega)
  ·rw [if_neg ho,decide_eq_true (by simpa using ho),bite_t,bnd_eq,addI (by omega),show (i:Int) + 1 = ((i + 1:Nat):Int) by omega]
   have ih:=gone_tri hfl hmk hst (m:=m) (x0:=x0) (x1:=x1) (x2:=x2) (x3:=x3) (x6:=x6) (x9:=x9) (x10:=x10) (x11:=x11) (x12:=x12) (x13:=x13) (x14:=x14) (x15:=x15) (x16:=x16) (x17:=x17) (x18:=x18) (x19:=x19) (x20:=x20) (x21:=x21) (x22:=x22) (x23:=x23) hS hd hD k n (i + 1) A (by omega) (by omega) hm hA (by rw [if_neg ho] at hL ⊢; exact hL)
   rw [if_neg ho] at ih;exact ih
theorem gone_draw {fl:Nat} (hfl:5000 <= fl) {mk st:Int} (hmk:0 <= mk /\ mk <= 1000000) (hst:0 <= st /\ st <= 100000000) {m:Nat} {x3:T7} {x6:Bool} {x7:Int} {x8:Int} {x9:Int} {x10:Int} {x11:Int} {x12:Int} {x13:Int} {x14:Int} {x15:Int} {x16:Int} {x17:(List T2)} {x18:T6} {x19:(List T3)} {x20:(List T4)} (hS:okS (x11,(x12,((x13,(x14,(x15,x16))),(x17,(x18,(x19,x20))))))) :
  ∀ (k n i:Nat) (A:List EmQ),i + k = x20.length -> k + 1 <= n -> A.length < m -> okE A -> A.length + ((x20.drop i).flatMap (drwQ fl (x11,(x12,((x13,(x14,(x15,x16))),(x17,(x18,(x19,x20)))))) (x7,(x8,(x9,x10))) x6)).length <= 90000 ->
  glazierlaw22_gone_i31_l2 fl n x20 (x20.length:Int) (i:Int) x3 (m:Int) (A.map (·.1)) x6 x7 x8 x9 x10 x11 x12 x13 x14 x15 x16 x17 x18 x19 x20 (mk + (A.length:Int)) (st + sumQ A) = goOut m A ((x20.drop i).flatMap (drwQ fl (x11,(x12,((x13,(x14,(x15,x16))),(x17,(x18,(x19,x20)))))) (x7,(x8,(x9,x10))) x6)) (fun B=>(x3,((3:Int),((m:Int),((B.map (·.1)),(x6,(x7,(x8,(x9,(x10,(x11,(x12,(x13,(x14,(x15,(x16,(x17,(x18,(x19,(x20,((mk + (B.length:Int)),((st + sumQ B),())))))))))))))))))))))) (fun B=>(x3,((m:Int),((B.map (·.1)),(x6,(x7,(x8,(x9,(x10,(x11,(x12,(x13,(x14,(x15,(x16,(x17,(x18,(x19,(x20,((mk + (B.length:Int)),((st + sumQ B),())))))))))))))))))))))
 | 0,n,i,A,hk,hn,hm,hA,hL=>by
  obtain ⟨n,rfl⟩:∃ k,n = k + 1:=⟨n - 1,by omega⟩
  rw [glazierlaw22_gone_i31_l2,bnd_eq,lt_f (by omega),bite_f,List.drop_eq_nil_of_le (by omega),List.flatMap_nil,go_nil hm]
 | k + 1,n,i,A,hk,hn,hm,hA,hL=>by
  obtain ⟨n,rfl⟩:∃ k,n = k + 1:=⟨n - 1,by omega⟩
  have hi:i < x20.length:=by omega
  have hfew:x20.length <= 4:=hS.few;rw [ldrop hi,List.flatMap_cons,List.length_append] at hL;rw [glazierlaw22_gone_i31_l2,bnd_eq,lt_t (by omega),bite_t,lgetK hi,ob_some,bnd_eq,lenK,ldrop hi,List.flatMap_cons]
  have hg:=lgetK hi;have hD:=List.getElem_mem hi;generalize x20[i] = D at hL hg hD ⊢;obtain ⟨D1,D2,D3,D4,D5⟩:=D;have hf4:=(hS.draws _ hD).few;have h:glazierlaw22_gone_i31_l1 fl fl (i:Int) x20 (x20.length:Int) (i:Int) (D5.length:Int) 0 x3 (m:Int) (A.map (·.1)) x6 x7 x8 x9 x10 x11 x12 x13 x14 x15 x16 x17 x18 x19 x20 (mk + (A.length:Int)) (st + sumQ A) = goOut m A (drwQ fl (x11,(x12,((x13,(x14,(x15,x16))),(x17,(x18,(x19,x20)))))) (x7,(x8,(x9,x10))) x6 (D1,(D2,(D3,(D4,D5))))) (fun B=>(x3,((3:Int),((m:Int),((B.map (·.1)),(x6,(x7,(x8,(x9,(x10,(x11,(x12,(x13,(x14,(x15,(x16,(x17,(x18,(x19,(x20,((mk + (B.length:Int)),((st + sumQ B),())))))))))))))))))))))) (fun B=>(x20,((x20.length:Int),((i:Int),(x3,((m:Int),((B.map (·.1)),(x6,(x7,(x8,(x9,(x10,(x11,(x12,(x13,(x14,(x15,(x16,(x17,(x18,(x19,(x20,((mk + (B.length:Int)),((st + sumQ B),())))))))))))))))))))))))):=by
   unfold drwQ at hL ⊢;have h:=gone_tri hfl hmk hst (m:=m) (x0:=(i:Int)) (x1:=x20) (x2:=(x20.length:Int)) (x3:=(i:Int)) (x6:=x3) (x9:=x6) (x10:=x7) (x11:=x8) (x12:=x9) (x13:=x10) (x14:=x11) (x15:=x12) (x16:=x13) (x17:=x14) (x18:=x15) (x19:=x16) (x20:=x17) (x21:=x18) (x22:=x19) (x23:=x20) hS hg hD _ fl 0 A (Nat.zero_add _) (by dsimp only at hf4; omega) hm hA (by rw [List.drop_zero]; dsimp only at hL ⊢; omega)
   rw [List.drop_zero] at h;exact h
  rw [h];rcases go_cases (drwQ fl (x11,(x12,((x13,(x14,(x15,x16))),(x17,(x18,(x19,x20)))))) (x7,(x8,(x9,x10))) x6 (D1,(D2,(D3,(D4,D5))))) (fun B=>(x3,((3:Int),((m:Int),((B.map (·.1)),(x6,(x7,(x8,(x9,(x10,(x11,(x12,(x13,(x14,(x15,(x16,(x17,(x18,(x19,(x20,((mk + (B.length:Int)),((st + sumQ B),())))))))))))))))))))))) (fun B=>(x20,((x20.length:Int),((i:Int),(x3,((m:Int),((B.map (·.1)),(x6,(x7,(x8,(x9,(x10,(x11,(x12,(x13,(x14,(x15,(x16,(x17,(x18,(x19,(x20,((mk + (B.length:Int)),((st + sumQ B),())))))))))))))))))))))))) hm with ⟨B,e1,e2⟩ | ⟨e1,h1,e2⟩
  ·rw [e1,ob_some,os_l,e2]
  ·rw [e1,ob_some,os_r,e2];dsimp only;rw [bnd_eq,addI (by omega),show (i:Int) + 1 = ((i + 1:Nat):Int) by omega]
   exact gone_draw hfl hmk hst hS k n (i + 1) (A ++ drwQ fl (x11,(x12,((x13,(x14,(x15,x16))),(x17,(x18,(x19,x20)))))) (x7,(x8,(x9,x10))) x6 (D1,(D2,(D3,(D4,D5))))) (by omega) (by omega) h1 (okE_app hA (drw_ok (by omega) hS hD).1) (by rw [List.length_append]; omega)
theorem gone_is {fl:Nat} (hfl:5000 <= fl) {mk st:Int} (hmk:0 <= mk /\ mk <= 1000000) (hst:0 <= st /\ st <= 100000000) {m:Nat} (hm:1 <= m) {s:ScnQ} (hS:okS s) (b:BxQ) (o:Bool) :
  glazierlaw22_gone fl (s,(mk,st)) b o (m:Int) = some ((((allQ fl s b o).take m).map (·.1),true),(s,(mk + (((allQ fl s b o).take m).length:Int),st + sumQ ((allQ fl s b o).take m)))):=by
 have hl:=(all_ok (fl:=fl) (by omega) hS (b:=b) (o:=o)).2
 have hfew:=hS.few;obtain ⟨W,H,⟨b1,b2,b3,b4⟩,vs,ts,ps,ds⟩:=s;obtain ⟨c1,c2,c3,c4⟩:=b;have e0:mk + (([]:List EmQ).length:Int) = mk:=by simp
 have e1:st + sumQ [] = st:=by simp [sumQ]
 unfold glazierlaw22_gone scene_Each;rw [ob_some];dsimp only;rw [bnd_eq,lenK];have h:=fun x=>gone_draw hfl hmk hst (m:=m) hS (x3:=x) (x6:=o) (x7:=c1) (x8:=c2) (x9:=c3) (x10:=c4) ds.length fl 0 [] (Nat.zero_add _) (by dsimp only at hfew; omega) (by simp only [List.length_nil]; omega) (fun e he=>by cases he) (by unfold allQ at hl; dsimp only at hl; rw [List.drop_zero]; simp only [List.length_nil]; omega)
 rw [e0,e1] at h;rw [List.map_nil] at h;rw [show ((0:Nat):Int) = 0 from rfl] at h;rw [h,List.drop_zero];unfold goOut allQ;dsimp only;simp only [List.length_nil,Nat.zero_add,List.nil_append,Nat.sub_zero];by_cases hc:(ds.flatMap (drwQ fl (W,(H,((b1,(b2,(b3,b4))),(vs,(ts,(ps,ds)))))) (c1,(c2,(c3,c4))) o)).length < m
 ·rw [if_pos hc,ob_some,os_r,List.take_of_length_le (by omega)]
 ·rw [if_neg hc,ob_some,os_l];dsimp only;rw [eq_f (by decide),bite_f,eq_f (by decide),bite_f,eq_t rfl,bgd_t]
-- MORE
end Go.Proofs.Ytkacojopcajboaa.G
namespace Go.Proofs.Ytkacojopcajboaa.G
open Go Go.RowKit Go.Proofs.Ytkacojopcajboaa.M
section
variable {fl:Nat} {s:ScnQ} {d:DrwQ} {t:TriQ} {p:Int × Tri} {e:EmQ}
end
/-! ### Rows compared -/
theorem eqI (x:Int):F.eq x x = true:=eq_t rfl
/-! ### The document's example -/
def plainQ:ScnQ:=(2,(2,((0,(0,(0,0))),([(0,((-4),(0,(1,(0,(0,(0,0))))))),(4,(4,(0,(1,(0,(0,(0,0))))))),((-4),(4,(0,(1,(0,(0,(0,0)))))))],([],([[(1,(0,(0,(0,0))))]],[(0,(0,((-1),(false,[(0,(0,(1,2)))]))))]))))))
theorem plain_ok:okS plainQ where
 w:=by decide
 h:=by decide
 verts:=fun v hv=>by
  simp only [plainQ,List.mem_cons,List.not_mem_nil,or_false] at hv;rcases hv with rfl | rfl | rfl <;> (unfold fitC inC; decide)
 texs:=fun t ht=>by cases ht
 progs:=fun l hl=>by
  rw [List.mem_singleton.1 hl];exact ⟨VM.one_prog.1,VM.one_prog.2.1,fun h=>absurd h VM.one_prog.2.2⟩
 pfew:=by decide
 few:=by decide
 draws:=fun d hd=>by
  rw [List.mem_singleton.1 hd];refine ⟨by decide,.inl (by decide),by decide,fun t ht=>?_⟩
  rw [List.mem_singleton.1 ht];decide
theorem plain_all:(allQ 60000 plainQ (0,(0,(2,2))) false).map (fun e=>(e.1.1,(e.1.2.1,(e.1.2.2.1,e.2)))) = [(0,(0,(15,1))),(1,(0,(15,1))),(0,(1,(15,1))),(1,(1,(15,1)))]:=by decide +kernel
theorem shown22:glazierlaw22_shown 60000 = some true:=by
 have h:=plain_all;have e:=gone_is (fl:=60000) (by decide) (mk:=0) (st:=0) (by decide) (by decide) (m:=100) (by decide) plain_ok (0,(0,(2,2))) false
 generalize allQ 60000 plainQ (0,(0,(2,2))) false = L at h e;rw [show ((100:Nat):Int) = 100 from rfl] at e;unfold glazierlaw22_shown;rw [show glazierlaw22_plain = some plainQ from rfl,ob_some,e,ob_some]
 match L,h with
 | [a,b,c,d],h=>
  simp only [List.map_cons,List.map_nil,List.cons.injEq,Prod.mk.injEq,and_true] at h;obtain ⟨⟨a1,a2,a3,a4⟩,⟨b1,b2,b3,b4⟩,⟨c1,c2,c3,c4⟩,d1,d2,d3,d4⟩:=h;unfold frags_Maker__Made frags_Maker__Steps;dsimp only [List.take,List.map,List.length];rw [bite_t,bnd_eq,bnd_eq,show F.len [a.1,b.1,c.1,d.1] = 4 from rfl,eqI,bite_t,show F.get [a.1,b.1,c.1,d.1] 0 = some a.1 from rfl,ob_some,bnd_eq,eq_t a3,bite_t,show F.get [a.1,b.1,c.1,d.1] 3 = some d.1 from rfl,ob_some,bnd_eq,eq_t d1,bite_t,ob_some,bnd_eq,eq_t d2,bite_t,ob_some,bnd_eq,show F.eq (0 + ((0 + 1 + 1 + 1 + 1:Nat):Int)) 4 = true from rfl,bite_t,ob_some,bnd_eq];have hs:sumQ [a,b,c,d] = 4:=by unfold sumQ; simp [a4,b4,c4,d4]
  rw [hs];rfl
 | [],h=>simp at h
 | [_],h=>simp at h
 | [_,_],h=>simp at h
 | [_,_,_],h=>simp at h
 | _ :: _ :: _ :: _ :: _ :: _,h=>simp at h
end Go.Proofs.Ytkacojopcajboaa.G
namespace Go.Proofs.Ytkacojopcajboaa.G
open Go Go.RowKit Go.Proofs.Ytkacojopcajboaa.M
theorem same_loop16 (fl:Nat) {l:List FragQ} (hl:l.length <= 100000):∀ (k n i:Nat),i + k = l.length -> k + 1 <= n -> glazierref16_Same_l1 fl n l l (i:Int) = some (.inr ())
 | 0,n,i,hk,hn=>by
  obtain ⟨n,rfl⟩:∃ k,n = k + 1:=⟨n - 1,by omega⟩
  rw [glazierref16_Same_l1,bnd_eq,lenK,bnd_eq,lt_f (by omega),bite_f]
 | k + 1,n,i,hk,hn=>by
  obtain ⟨n,rfl⟩:∃ k,n = k + 1:=⟨n - 1,by omega⟩
  have hi:i < l.length:=by omega
  rw [glazierref16_Same_l1,bnd_eq,lenK,bnd_eq,lt_t (by omega),bite_t,lgetK hi,ob_some,ob_some,bnd_eq]
  simp only [eqI,show F.both true true = true from rfl];rw [not_t,bite_f,bnd_eq,addI (by omega),show (i:Int) + 1 = ((i + 1:Nat):Int) by omega]
  exact same_loop16 fl hl k n (i + 1) (by omega) (by omega)
theorem same16 {fl:Nat} {l:List FragQ} (hl:l.length <= 100000) (hfl:l.length + 1 <= fl):glazierref16_Same fl l l = some true:=by
 unfold glazierref16_Same;rw [bnd_eq,bnd_eq,bnd_eq,ne_f rfl,bite_f,show (0:Int) = ((0:Nat):Int) from rfl,same_loop16 fl hl l.length fl 0 (by omega) (by omega),ob_some]
 rfl
end Go.Proofs.Ytkacojopcajboaa.G
namespace Go.Proofs.Ytkacojopcajboaa.VM
open Go Go.RowKit Go.Proofs.Ytkacojopcajboaa.M Go.Proofs.Ytkacojopcajboaa.G Go.Proofs.Ytkacojopcajboaa.VM
theorem fit_op {x:Ins} {i n:Int} {y:Ins} (h:glazierref12_fit x i n false = some y):y.1 = F.rem x.1 15:=by
 have ob:∀ {q:Option Int} {f:Int -> Option Ins},obind q f = some y -> (∀ z,f z = some y -> y.1 = F.rem x.1 15) -> y.1 = F.rem x.1 15:=fun {q f} h1 h2=>by
  obtain ⟨z,_,hz⟩:=obind_some h1;exact h2 z hz
 unfold glazierref12_fit at h;simp only [bnd_eq] at h;rw [bite_f] at h;unfold bite at h
 repeat' split at h
 all_goals first
  | (injection h with h; rw [<- h])
  | (refine ob h fun z hz=>?_; injection hz with hz; rw [<- hz])
theorem fit_two {x:Ins} {i n:Int} (b:Bool) (hx:insB x) (hi:0 <= i) (hin:i < n) (hn:n <= 32):∃ y,glazierref12_fit x i n b = some y /\ insB y /\ iok y i n /\ (b = true -> ¬ (y.1 = 13 \/ y.1 = 14)):=by
 obtain ⟨y,e,h1,h2⟩:=fit_one hx hi hin hn;cases b with
 | false=>exact ⟨y,e,h1,h2,fun h=>by cases h⟩
 | true=>
  have ho:=fit_op e;by_cases hc:13 <= F.rem x.1 15
  ·refine ⟨(2,(F.rem x.2.1 8,(F.rem x.2.2.1 8,(F.rem x.2.2.2.1 8,0)))),?_,?_,?_,fun _=>by show ¬ ((2:Int) = 13 \/ (2:Int) = 14); decide⟩
   ·unfold glazierref12_fit;simp only [bnd_eq];rw [bite_t,ge_t hc,bite_t]
   ·obtain ⟨ho,hD,hA,hB,hN⟩:=hx;unfold byte at hD hA hB;rw [remB hD.1,remB hA.1,remB hB.1];unfold insB byte;simp only;omega
   ·obtain ⟨ho,hD,hA,hB,hN⟩:=hx;unfold byte at hD hA hB;rw [remB hD.1,remB hA.1,remB hB.1];unfold iok three;simp only [true_and,and_true];omega
  ·refine ⟨y,?_,h1,h2,fun _=>by omega⟩
   rw [<- e];unfold glazierref12_fit;simp only [bnd_eq];rw [bite_t,ge_f (by omega),bite_f,bite_f]
theorem pfit_loop2 (fl:Nat) (b:Bool) {l:List Ins} (hp:progs l) {m:Nat} (hm:m <= 32) (hml:m <= l.length):∀ (k n:Nat) (acc:List Ins),acc.length + k = m -> k + 1 <= n -> progs acc -> (∀ (j:Nat) (h:j < acc.length),iok acc[j] j m) -> (b = true -> ∀ x ∈ acc,¬ (x.1 = 13 \/ x.1 = 14)) ->
  ∃ p,glazierref12_Fit_l1 fl n l b m acc (acc.length:Int) = some (p,()) /\ p.length = m /\ progs p /\ (∀ (j:Nat) (h:j < p.length),iok p[j] j m) /\ (b = true -> ∀ x ∈ p,¬ (x.1 = 13 \/ x.1 = 14))
 | 0,n,acc,hl,hn,hb,ha,hc=>by
  obtain ⟨n,rfl⟩:∃ m,n = m + 1:=⟨n - 1,by omega⟩
  rw [glazierref12_Fit_l1,bnd_eq,lt_f (by omega),bite_f]
  exact ⟨acc,rfl,by omega,hb,ha,hc⟩
 | k + 1,n,acc,hl,hn,hb,ha,hc=>by
  obtain ⟨n,rfl⟩:∃ m,n = m + 1:=⟨n - 1,by omega⟩
  obtain ⟨y,ey,by',hy,hy2⟩:=fit_two (i:=acc.length) (n:=m) b (hp _ (List.getElem_mem (show acc.length < l.length by omega))) (by omega) (by omega) (by omega)
  have:=pfit_loop2 fl b hp hm hml k n (acc ++ [y]) (by simp; omega) (by omega) (fun x hx=>by
   rcases List.mem_append.1 hx with hx | hx
   ·exact hb x hx
   ·rw [List.mem_singleton.1 hx]; exact by') (fun j h=>by
   by_cases hj:j < acc.length
   ·rw [List.getElem_append_left hj]; exact ha j hj
   ·have:j = acc.length:=by simp at h; omega
    subst this;rw [List.getElem_append_right (by omega)]
    simpa using hy) (fun h x hx=>by
   rcases List.mem_append.1 hx with hx | hx
   ·exact hc h x hx
   ·rw [List.mem_singleton.1 hx]; exact hy2 h)
  rw [show ((acc ++ [y]).length:Int) = (acc.length:Int) + 1 by simp] at this
  rw [glazierref12_Fit_l1];simp only [bnd_eq];rw [lt_t (by omega),bite_t,lgetK (show acc.length < l.length by omega),ob_some,ey,ob_some,appOk_t (by simp; omega) (by decide),bgd_t,appK,addI (by omega)]
  exact this
theorem pfit_two {fl:Nat} (hfl:40 <= fl) (b:Bool) {l:List Ins} (hp:progs l):∃ p,glazierref12_Fit fl l b = some p /\ progs p /\ prog p /\ (b = true -> ¬ asks p):=by
 unfold glazierref12_Fit;simp only [bnd_eq];rw [lenK];by_cases h0:l.length = 0
 ·rw [eq_t (by omega),bite_t]
  exact ⟨_,rfl,one_prog.1,one_prog.2.1,fun _=>one_prog.2.2⟩
 rw [eq_f (by omega),bite_f,f_min]
 obtain ⟨p,e,h1,h2,h3,h4⟩:=pfit_loop2 fl b hp (m:=min l.length 32) (by omega) (by omega) (min l.length 32) fl [] (by simp) (by omega) (fun x hx=>by simp at hx) (fun j h=>by simp at h) (fun _ x hx=>by simp at hx)
 rw [show (([]:List Ins).length:Int) = 0 from rfl] at e;rw [show (min (l.length:Int) 32) = ((min l.length 32:Nat):Int) by omega,e,ob_some]
 exact ⟨p,rfl,h2,⟨by omega,by omega,fun j h=>by rw [h1]; exact h3 j h⟩,fun hb ⟨x,hx,h⟩=>h4 hb x hx h⟩
theorem mod14 {x m:Int} (hm:1 <= m /\ m <= 4294967296):glazierref14_mod x m = some (x % m):=mod_spec (x:=x) hm
end Go.Proofs.Ytkacojopcajboaa.VM
namespace Go.Proofs.Ytkacojopcajboaa.G
open Go Go.RowKit Go.Proofs.Ytkacojopcajboaa.M
theorem mem_snoc {α:Type} {C:α -> Prop} {l:List α} {y:α} (h:∀ x ∈ l,C x) (hy:C y):∀ x ∈ l ++ [y],C x:=fun x hx=>by
 rcases List.mem_append.1 hx with hx | hx
 ·exact h x hx
 ·rw [List.mem_singleton.1 hx]; exact hy
theorem at_snoc {α:Type} {f:α -> Int} {l:List α} {y:α} (h:∀ (j:Nat) (hj:j < l.length),f l[j] = (j:Int)) (hy:f y = (l.length:Int)):∀ (j:Nat) (hj:j < (l ++ [y]).length),f ((l ++ [y])[j]) = (j:Int):=fun j hj=>by
 by_cases h1:j < l.length
 ·rw [List.getElem_append_left h1]; exact h j h1
 ·have:j = l.length:=by simp at hj; omega
  subst this;rw [List.getElem_append_right (by omega)]
  simpa using hy
theorem fit_verts {fl:Nat} (hfl:5000 <= fl) {x1:Bool} {x2:Int} {x3:Int} {x4:Int} {x5:Int} {x6:Int} {x7:Int} {x8:(List T2)} {x9:T6} {x10:(List T3)} {x11:(List T4)} {x12:Int} {x13:Int} {x14:Int} {x15:Int} {x16:Int} {x17:Int} {x19:Int} {x20:Int} {x21:Int} {x22:Int} {x23:Int} {x24:Int} {x25:(List T2)} {x26:T6} {x27:(List T3)} {x28:(List T4)}  :
  ∀ (n i:Nat) (acc:List Vtx),i <= 9 -> 9 + 1 - i <= n -> (∀ v ∈ acc,fitC v) -> 1 <= acc.length -> acc.length <= i + 1 ->
  ∃ acc',glazierlaw22_FragsKinds_i15_l1 fl n (i:Int) x1 x2 x3 x4 x5 x6 x7 x8 x9 x10 x11 x12 x13 x14 x15 x16 x17 acc x19 x20 x21 x22 x23 x24 x25 x26 x27 x28 = some (x1,(x2,(x3,(x4,(x5,(x6,(x7,(x8,(x9,(x10,(x11,(x12,(x13,(x14,(x15,(x16,(x17,(acc',(x19,(x20,(x21,(x22,(x23,(x24,(x25,(x26,(x27,(x28,())))))))))))))))))))))))))))) /\ (∀ v ∈ acc',fitC v) /\ 1 <= acc'.length /\ acc'.length <= 10
 | 0,i,acc,hi,hn,hc,h0,hl=>by omega
 | n + 1,i,acc,hi,hn,hc,h0,hl=>by
  rw [glazierlaw22_FragsKinds_i15_l1,bnd_eq,lenK,bnd_eq];by_cases h1:(i:Int) < (x8.length:Int)
  ·rw [lt_t h1,bite_t,bnd_eq];by_cases h2:i < 9
   ·rw [lt_t (by omega),bite_t,lgetK (show i < x8.length by omega),ob_some]
    have hel:=List.getElem_mem (show i < x8.length by omega)
    generalize x8[i]'(show i < x8.length by omega) = q at hel ⊢
    obtain ⟨r,er,hr⟩:=fit_C q;rw [er,ob_some,appOk_t (by simp; omega) (by decide),bgd_t,bnd_eq,appK,bnd_eq,addI (by omega),show (i:Int) + 1 = ((i + 1:Nat):Int) by omega]
    exact fit_verts hfl n (i + 1) (acc ++ [r]) (by omega) (by omega) (mem_snoc hc hr) (by simp) (by simp; omega)
   ·rw [lt_f (by omega),bite_f]
    exact ⟨acc,rfl,hc,h0,by omega⟩
  ·rw [lt_f (by omega),bite_f]
   exact ⟨acc,rfl,hc,h0,by omega⟩
theorem fit_texs {fl:Nat} (hfl:5000 <= fl) {x1:Bool} {x2:Int} {x3:Int} {x4:Int} {x5:Int} {x6:Int} {x7:Int} {x8:(List T2)} {x9:T6} {x10:(List T3)} {x11:(List T4)} {x12:Int} {x13:Int} {x14:Int} {x15:Int} {x16:Int} {x17:Int} {x18:(List T2)} {x20:Int} {x21:Int} {x22:Int} {x23:Int} {x24:Int} {x25:Int} {x26:(List T2)} {x27:T6} {x28:(List T3)} {x29:(List T4)} (hin:∀ t ∈ x9,VM.pxs t) :
  ∀ (n i:Nat) (acc:List TexQ),i <= 2 -> 2 + 1 - i <= n -> (∀ t ∈ acc,VM.tok t /\ VM.pxs t) -> acc.length <= i ->
  ∃ acc',glazierlaw22_FragsKinds_i15_l2 fl n (i:Int) x1 x2 x3 x4 x5 x6 x7 x8 x9 x10 x11 x12 x13 x14 x15 x16 x17 x18 acc x20 x21 x22 x23 x24 x25 x26 x27 x28 x29 = some (x1,(x2,(x3,(x4,(x5,(x6,(x7,(x8,(x9,(x10,(x11,(x12,(x13,(x14,(x15,(x16,(x17,(x18,(acc',(x20,(x21,(x22,(x23,(x24,(x25,(x26,(x27,(x28,(x29,()))))))))))))))))))))))))))))) /\ (∀ t ∈ acc',VM.tok t /\ VM.pxs t) /\ acc'.length <= 2
 | 0,i,acc,hi,hn,hc,hl=>by omega
 | n + 1,i,acc,hi,hn,hc,hl=>by
  rw [glazierlaw22_FragsKinds_i15_l2,bnd_eq,lenK,bnd_eq];by_cases h1:(i:Int) < (x9.length:Int)
  ·rw [lt_t h1,bite_t,bnd_eq];by_cases h2:i < 2
   ·rw [lt_t (by omega),bite_t,lgetK (show i < x9.length by omega),ob_some]
    have hel:=List.getElem_mem (show i < x9.length by omega)
    generalize x9[i]'(show i < x9.length by omega) = q at hel ⊢
    obtain ⟨r,er,h3,h4⟩:=VM.fit_spec (fl:=fl) (by omega) q (hin _ hel)
    rw [er,ob_some,appOk_t (by simp; omega) (by decide),bgd_t,bnd_eq,appK,bnd_eq,addI (by omega),show (i:Int) + 1 = ((i + 1:Nat):Int) by omega]
    exact fit_texs hfl hin n (i + 1) (acc ++ [r]) (by omega) (by omega) (mem_snoc hc ⟨h3,h4⟩) (by simp; omega)
   ·rw [lt_f (by omega),bite_f]
    exact ⟨acc,rfl,hc,by omega⟩
  ·rw [lt_f (by omega),bite_f]
   exact ⟨acc,rfl,hc,by omega⟩
theorem fit_progs {fl:Nat} (hfl:5000 <= fl) {x1:Bool} {x2:Int} {x3:Int} {x4:Int} {x5:Int} {x6:Int} {x7:Int} {x8:(List T2)} {x9:T6} {x10:(List T3)} {x11:(List T4)} {x12:Int} {x13:Int} {x14:Int} {x15:Int} {x16:Int} {x17:Int} {x18:(List T2)} {x19:T6} {x21:Int} {x22:Int} {x23:Int} {x24:Int} {x25:Int} {x26:Int} {x27:(List T2)} {x28:T6} {x29:(List T3)} {x30:(List T4)} (hin:∀ l ∈ x10,VM.progs l) :
  ∀ (n i:Nat) (acc:List (List InsQ)),i <= 3 -> 3 + 1 - i <= n -> (∀ l ∈ acc,VM.progs l /\ VM.prog l /\ (VM.asks l -> x19 ≠ [])) -> 1 <= acc.length -> acc.length <= i + 1 ->
  ∃ acc',glazierlaw22_FragsKinds_i15_l3 fl n (i:Int) x1 x2 x3 x4 x5 x6 x7 x8 x9 x10 x11 x12 x13 x14 x15 x16 x17 x18 x19 acc x21 x22 x23 x24 x25 x26 x27 x28 x29 x30 = some (x1,(x2,(x3,(x4,(x5,(x6,(x7,(x8,(x9,(x10,(x11,(x12,(x13,(x14,(x15,(x16,(x17,(x18,(x19,(acc',(x21,(x22,(x23,(x24,(x25,(x26,(x27,(x28,(x29,(x30,())))))))))))))))))))))))))))))) /\ (∀ l ∈ acc',VM.progs l /\ VM.prog l /\ (VM.asks l -> x19 ≠ [])) /\ 1 <= acc'.length /\ acc'.length <= 4
 | 0,i,acc,hi,hn,hc,h0,hl=>by omega
 | n + 1,i,acc,hi,hn,hc,h0,hl=>by
  rw [glazierlaw22_FragsKinds_i15_l3,bnd_eq,lenK,bnd_eq];by_cases h1:(i:Int) < (x10.length:Int)
  ·rw [lt_t h1,bite_t,bnd_eq];by_cases h2:i < 3
   ·rw [lt_t (by omega),bite_t,lgetK (show i < x10.length by omega),ob_some]
    have hel:=List.getElem_mem (show i < x10.length by omega)
    generalize x10[i]'(show i < x10.length by omega) = q at hel ⊢
    obtain ⟨r,er,h3,h4,h5⟩:=VM.pfit_two (fl:=fl) (by omega) (F.eq (F.len x19) 0) (hin _ hel)
    rw [bnd_eq,bnd_eq,er,ob_some,appOk_t (by simp; omega) (by decide),bgd_t,bnd_eq,appK,bnd_eq,addI (by omega),show (i:Int) + 1 = ((i + 1:Nat):Int) by omega]
    exact fit_progs hfl hin n (i + 1) (acc ++ [r]) (by omega) (by omega) (mem_snoc hc ⟨h3,h4,fun ha hn=>h5 (by rw [hn]; rfl) ha⟩) (by simp) (by simp; omega)
   ·rw [lt_f (by omega),bite_f]
    exact ⟨acc,rfl,hc,h0,by omega⟩
  ·rw [lt_f (by omega),bite_f]
   exact ⟨acc,rfl,hc,h0,by omega⟩
theorem mod_at {x:Int} {n:Nat} (h:n < 100):(100 * (x % 100) + (n:Int)) % 100 = (n:Int):=by omega
theorem fit_tris {fl:Nat} (hfl:5000 <= fl) {x0:Int} {x2:Bool} {x3:Int} {x4:Int} {x5:Int} {x6:Int} {x7:Int} {x8:Int} {x9:(List T2)} {x10:T6} {x11:(List T3)} {x12:(List T4)} {x13:Int} {x14:Int} {x15:Int} {x16:Int} {x17:Int} {x18:Int} {x19:(List T2)} {x20:T6} {x21:(List T3)} {x22:(List T4)} {x23:Int} {x24:Int} {x25:Int} {x26:Bool} {x27:(List T1)} {x28:Int} {x29:Int} {x30:Int} {x31:Bool} {x33:Int} {x34:Int} {x35:Int} {x36:Int} {x37:Int} {x38:Int} {x39:(List T2)} {x40:T6} {x41:(List T3)} {x42:(List T4)} (hv:1 <= x19.length /\ x19.length <= 10) :
  ∀ (n i:Nat) (acc:List TriQ),i <= 4 -> 4 + 1 - i <= n -> (∀ t ∈ acc,(0 <= t.2.1 /\ t.2.1 < (x19.length:Int)) /\ (0 <= t.2.2.1 /\ t.2.2.1 < (x19.length:Int)) /\ (0 <= t.2.2.2 /\ t.2.2.2 < (x19.length:Int))) -> (∀ (j:Nat) (hj:j < acc.length),(acc[j]).1 % 100 = (j:Int)) -> acc.length = i ->
  ∃ acc',glazierlaw22_FragsKinds_i15_l5 fl n x0 (i:Int) x2 x3 x4 x5 x6 x7 x8 x9 x10 x11 x12 x13 x14 x15 x16 x17 x18 x19 x20 x21 x22 x23 x24 x25 x26 x27 x28 x29 x30 x31 acc x33 x34 x35 x36 x37 x38 x39 x40 x41 x42 = some (x0,(x2,(x3,(x4,(x5,(x6,(x7,(x8,(x9,(x10,(x11,(x12,(x13,(x14,(x15,(x16,(x17,(x18,(x19,(x20,(x21,(x22,(x28,(x29,(x30,(x31,(acc',(x33,(x34,(x35,(x36,(x37,(x38,(x39,(x40,(x41,(x42,()))))))))))))))))))))))))))))))))))))) /\ (∀ t ∈ acc',(0 <= t.2.1 /\ t.2.1 < (x19.length:Int)) /\ (0 <= t.2.2.1 /\ t.2.2.1 < (x19.length:Int)) /\ (0 <= t.2.2.2 /\ t.2.2.2 < (x19.length:Int))) /\ (∀ (j:Nat) (hj:j < acc'.length),(acc'[j]).1 % 100 = (j:Int)) /\ acc'.length <= 4
 | 0,i,acc,hi,hn,hc,ha,hl=>by omega
 | n + 1,i,acc,hi,hn,hc,ha,hl=>by
  rw [glazierlaw22_FragsKinds_i15_l5,bnd_eq,lenK,bnd_eq];by_cases h1:(i:Int) < (x27.length:Int)
  ·rw [lt_t h1,bite_t,bnd_eq];by_cases h2:i < 4
   ·rw [lt_t (by omega),bite_t,lgetK (show i < x27.length by omega),ob_some]
    have hel:=List.getElem_mem (show i < x27.length by omega)
    generalize x27[i]'(show i < x27.length by omega) = q at hel ⊢
    have m1:=VM.mod_in (x:=q.2.1) (w:=(x19.length:Int)) (by omega)
    have m2:=VM.mod_in (x:=q.2.2.1) (w:=(x19.length:Int)) (by omega)
    have m3:=VM.mod_in (x:=q.2.2.2) (w:=(x19.length:Int)) (by omega)
    have m4:=VM.mod_in (x:=q.1) (w:=100) (by decide)
    simp only [bnd_eq];rw [lenK,VM.mod14 (by omega),ob_some,VM.mod14 (by omega),ob_some,VM.mod14 (by omega),ob_some,VM.mod14 (by decide),ob_some,mulI (by omega),addI (by omega),appOk_t (by simp; omega) (by decide),bgd_t,appK,addI (by omega),show (i:Int) + 1 = ((i + 1:Nat):Int) by omega]
    exact fit_tris hfl hv n (i + 1) (acc ++ [_]) (by omega) (by omega) (mem_snoc hc ⟨m1,m2,m3⟩) (at_snoc (f:=fun t:TriQ=>t.1 % 100) ha (by dsimp only; rw [hl]; exact mod_at (by omega))) (by simp; omega)
   ·rw [lt_f (by omega),bite_f]
    exact ⟨acc,rfl,hc,ha,by omega⟩
  ·rw [lt_f (by omega),bite_f]
   exact ⟨acc,rfl,hc,ha,by omega⟩
theorem fit_draws {fl:Nat} (hfl:5000 <= fl) {x1:Bool} {x2:Int} {x3:Int} {x4:Int} {x5:Int} {x6:Int} {x7:Int} {x8:(List T2)} {x9:T6} {x10:(List T3)} {x11:(List T4)} {x12:Int} {x13:Int} {x14:Int} {x15:Int} {x16:Int} {x17:Int} {x18:(List T2)} {x19:T6} {x20:(List T3)} {x22:Int} {x23:Int} {x24:Int} {x25:Int} {x26:Int} {x27:Int} {x28:(List T2)} {x29:T6} {x30:(List T3)} {x31:(List T4)} (hv:1 <= x18.length /\ x18.length <= 10) (hp:1 <= x20.length /\ x20.length <= 10) (htx:x19.length <= 2) :
  ∀ (n i:Nat) (acc:List DrwQ),i <= 4 -> 4 + 1 - i <= n -> (∀ d ∈ acc,okD ((0:Int),((0:Int),(((0:Int),((0:Int),((0:Int),(0:Int)))),(x18,(x19,(x20,([]:List DrwQ))))))) d /\ ∀ (j:Nat) (hj:j < d.2.2.2.2.length),(d.2.2.2.2[j]).1 % 100 = (j:Int)) -> (∀ (j:Nat) (hj:j < acc.length),(acc[j]).1 % 100 = (j:Int)) -> acc.length = i ->
  ∃ acc',glazierlaw22_FragsKinds_i15_l6 fl n (i:Int) x1 x2 x3 x4 x5 x6 x7 x8 x9 x10 x11 x12 x13 x14 x15 x16 x17 x18 x19 x20 acc x22 x23 x24 x25 x26 x27 x28 x29 x30 x31 = some (x1,(x12,(x13,(x14,(x15,(x16,(x17,(x18,(x19,(x20,(acc',(x22,(x23,(x24,(x25,(x26,(x27,(x28,(x29,(x30,(x31,()))))))))))))))))))))) /\ (∀ d ∈ acc',okD ((0:Int),((0:Int),(((0:Int),((0:Int),((0:Int),(0:Int)))),(x18,(x19,(x20,([]:List DrwQ))))))) d /\ ∀ (j:Nat) (hj:j < d.2.2.2.2.length),(d.2.2.2.2[j]).1 % 100 = (j:Int)) /\ (∀ (j:Nat) (hj:j < acc'.length),(acc'[j]).1 % 100 = (j:Int)) /\ acc'.length <= 4
 | 0,i,acc,hi,hn,hc,ha,hl=>by omega
 | n + 1,i,acc,hi,hn,hc,ha,hl=>by
  rw [glazierlaw22_FragsKinds_i15_l6,bnd_eq,lenK,bnd_eq];by_cases h1:(i:Int) < (x11.length:Int)
  ·rw [lt_t h1,bite_t,bnd_eq];by_cases h2:i < 4
   ·rw [lt_t (by omega),bite_t,lgetK (show i < x11.length by omega),ob_some]
    have hel:=List.getElem_mem (show i < x11.length by omega)
    generalize x11[i]'(show i < x11.length by omega) = q at hel ⊢
    have m1:=VM.mod_in (x:=q.2.1) (w:=(x20.length:Int)) (by omega)
    have m4:=VM.mod_in (x:=q.1) (w:=100) (by decide)
    rw [VM.mod14 (by decide),ob_some,bnd_eq,bnd_eq,mulI (by omega),addI (by omega),bnd_eq,lenK,VM.mod14 (by omega),ob_some,bnd_eq,lenK,bnd_eq]
    by_cases ht:0 < (x19.length:Int)
    ·have m2:=VM.mod_in (x:=q.2.2.1) (w:=(x19.length:Int)) ht;rw [gt_t ht,bite_t,bnd_eq,VM.mod14 (by omega),ob_some]
     obtain ⟨tl,e5,c1,c2,c3⟩:=fit_tris hfl (x0:=(i:Int)) (x2:=x1) (x3:=x2) (x4:=x3) (x5:=x4) (x6:=x5) (x7:=x6) (x8:=x7) (x9:=x8) (x10:=x9) (x11:=x10) (x12:=x11) (x13:=x12) (x14:=x13) (x15:=x14) (x16:=x15) (x17:=x16) (x18:=x17) (x19:=x18) (x20:=x19) (x21:=x20) (x22:=acc) (x23:=q.1) (x24:=q.2.1) (x25:=q.2.2.1) (x26:=q.2.2.2.1) (x27:=q.2.2.2.2) (x28:=(100 * (q.1 % 100) + (i:Int))) (x29:=(q.2.1 % (x20.length:Int))) (x30:=(q.2.2.1 % (x19.length:Int))) (x31:=q.2.2.2.1) (x33:=x22) (x34:=x23) (x35:=x24) (x36:=x25) (x37:=x26) (x38:=x27) (x39:=x28) (x40:=x29) (x41:=x30) (x42:=x31) hv fl 0 [] (by decide) (by omega) (fun t ht=>by cases ht) (fun j hj=>by simp at hj) rfl
     rw [show ((0:Nat):Int) = 0 from rfl] at e5;have hd:okD ((0:Int),((0:Int),(((0:Int),((0:Int),((0:Int),(0:Int)))),(x18,(x19,(x20,([]:List DrwQ))))))) ((100 * (q.1 % 100) + (i:Int)),(q.2.1 % (x20.length:Int),(q.2.2.1 % (x19.length:Int),(q.2.2.2.1,tl)))):=⟨m1,.inr m2,c3,c1⟩;rw [e5,ob_some];dsimp only;rw [appOk_t (by simp; omega) (by decide),bgd_t,bnd_eq,appK,bnd_eq,addI (by omega),show (i:Int) + 1 = ((i + 1:Nat):Int) by omega]
     exact fit_draws hfl hv hp htx n (i + 1) (acc ++ [_]) (by omega) (by omega) (mem_snoc hc ⟨hd,c2⟩) (at_snoc (f:=fun t:DrwQ=>t.1 % 100) ha (by dsimp only; rw [hl]; exact mod_at (by omega))) (by simp; omega)
    ·rw [gt_f (by omega),bite_f]
     have hnil:x19 = []:=List.length_eq_zero_iff.1 (by omega)
     obtain ⟨tl,e5,c1,c2,c3⟩:=fit_tris hfl (x0:=(i:Int)) (x2:=x1) (x3:=x2) (x4:=x3) (x5:=x4) (x6:=x5) (x7:=x6) (x8:=x7) (x9:=x8) (x10:=x9) (x11:=x10) (x12:=x11) (x13:=x12) (x14:=x13) (x15:=x14) (x16:=x15) (x17:=x16) (x18:=x17) (x19:=x18) (x20:=x19) (x21:=x20) (x22:=acc) (x23:=q.1) (x24:=q.2.1) (x25:=q.2.2.1) (x26:=q.2.2.2.1) (x27:=q.2.2.2.2) (x28:=(100 * (q.1 % 100) + (i:Int))) (x29:=(q.2.1 % (x20.length:Int))) (x30:=(-1)) (x31:=q.2.2.2.1) (x33:=x22) (x34:=x23) (x35:=x24) (x36:=x25) (x37:=x26) (x38:=x27) (x39:=x28) (x40:=x29) (x41:=x30) (x42:=x31) hv fl 0 [] (by decide) (by omega) (fun t ht=>by cases ht) (fun j hj=>by simp at hj) rfl
     rw [show ((0:Nat):Int) = 0 from rfl] at e5;have hd:okD ((0:Int),((0:Int),(((0:Int),((0:Int),((0:Int),(0:Int)))),(x18,(x19,(x20,([]:List DrwQ))))))) ((100 * (q.1 % 100) + (i:Int)),(q.2.1 % (x20.length:Int),(-1,(q.2.2.2.1,tl)))):=⟨m1,.inl ⟨rfl,hnil⟩,c3,c1⟩;rw [e5,ob_some];dsimp only;rw [appOk_t (by simp; omega) (by decide),bgd_t,bnd_eq,appK,bnd_eq,addI (by omega),show (i:Int) + 1 = ((i + 1:Nat):Int) by omega]
     exact fit_draws hfl hv hp htx n (i + 1) (acc ++ [_]) (by omega) (by omega) (mem_snoc hc ⟨hd,c2⟩) (at_snoc (f:=fun t:DrwQ=>t.1 % 100) ha (by dsimp only; rw [hl]; exact mod_at (by omega))) (by simp; omega)
   ·rw [lt_f (by omega),bite_f]
    exact ⟨acc,rfl,hc,ha,by omega⟩
  ·rw [lt_f (by omega),bite_f]
   exact ⟨acc,rfl,hc,ha,by omega⟩
theorem v0_fit:∀ v ∈ [((-2:Int),((-2:Int),((0:Int),((1:Int),((200:Int),((0:Int),((0:Int),(128:Int))))))))],fitC v:=fun v hv=>by
 rw [List.mem_singleton.1 hv];unfold fitC inC;decide
end Go.Proofs.Ytkacojopcajboaa.G
namespace Go.Proofs.Ytkacojopcajboaa.fragsKinds
open Go Go.RowKit Go.Proofs.Ytkacojopcajboaa.M Go.Proofs.Ytkacojopcajboaa.G Go.Proofs
def flip (d:DrwQ):DrwQ:=(d.1,(d.2.1,(d.2.2.1,(!d.2.2.2.1,d.2.2.2.2))))
def flipS (s:ScnQ):ScnQ:=(s.1,(s.2.1,(s.2.2.1,(s.2.2.2.1,(s.2.2.2.2.1,(s.2.2.2.2.2.1,s.2.2.2.2.2.2.map flip))))))
theorem flip_loop (fl:Nat) {x0:Bool} {x2:Int} {x3:Int} {x4:Int} {x5:Int} {x6:Int} {x7:Int} {x8:(List T2)} {x9:T6} {x10:(List T3)} {x11:(List T4)} {x12:Int} {x13:Int} {x14:Int} {x15:Int} {x16:Int} {x17:Int} {x18:(List T2)} {x19:T6} {x20:(List T3)} (hl:x11.length <= 1000):∀ (k n i:Nat),i + k = x11.length -> k + 1 <= n ->
  glazierlaw22_FragsKinds_l1 fl n x0 (i:Int) x2 x3 x4 x5 x6 x7 x8 x9 x10 x11 x12 x13 x14 x15 x16 x17 x18 x19 x20 ((x11.take i).map flip ++ x11.drop i) = some (x0,(x2,(x3,(x4,(x5,(x6,(x7,(x8,(x9,(x10,(x11,(x12,(x13,(x14,(x15,(x16,(x17,(x18,(x19,(x20,((x11.map flip),())))))))))))))))))))))
 | 0,n,i,hk,hn=>by
  obtain ⟨n,rfl⟩:∃ q,n = q + 1:=⟨n - 1,by omega⟩
  have e:(x11.take i).map flip ++ x11.drop i = x11.map flip:=by rw [List.take_of_length_le (by omega),List.drop_of_length_le (by omega),List.append_nil]
  rw [e,glazierlaw22_FragsKinds_l1,bnd_eq,lenK,List.length_map,bnd_eq,lt_f (by omega),bite_f]
 | k + 1,n,i,hk,hn=>by
  obtain ⟨n,rfl⟩:∃ q,n = q + 1:=⟨n - 1,by omega⟩
  have hi:i < x11.length:=by omega
  have hlen:((x11.take i).map flip ++ x11.drop i).length = x11.length:=by simp; omega
  have hat:((x11.take i).map flip ++ x11.drop i)[i]'(by omega) = x11[i]:=by
   rw [List.getElem_append_right (by simp; omega)]
   simp [Nat.min_eq_left (Nat.le_of_lt hi)]
  have ih:=flip_loop fl (x0:=x0) (x2:=x2) (x3:=x3) (x4:=x4) (x5:=x5) (x6:=x6) (x7:=x7) (x8:=x8) (x9:=x9) (x10:=x10) (x11:=x11) (x12:=x12) (x13:=x13) (x14:=x14) (x15:=x15) (x16:=x16) (x17:=x17) (x18:=x18) (x19:=x19) (x20:=x20) hl k n (i + 1) (by omega) (by omega)
  rw [glazierlaw22_FragsKinds_l1,bnd_eq,lenK,hlen,bnd_eq,lt_t (by omega),bite_t,lgetK hi,ob_some,bnd_eq]
  rw [show F.has ((x11.take i).map flip ++ x11.drop i) (i:Int) = true by unfold F.has; rw [hlen,decide_eq_true (by omega),decide_eq_true (by omega)]; rfl,bgd_t,lgetK (show i < ((x11.take i).map flip ++ x11.drop i).length by omega),ob_some,bnd_eq,bnd_eq,addI (by omega),hat]
  have hput:F.put ((x11.take i).map flip ++ x11.drop i) (i:Int) (x11[i].1,(x11[i].2.1,(x11[i].2.2.1,(F.not x11[i].2.2.2.1,x11[i].2.2.2.2)))) = (x11.take (i + 1)).map flip ++ x11.drop (i + 1):=by
   unfold F.put;rw [Int.toNat_natCast,List.drop_eq_getElem_cons hi,List.set_append_right _ _ (by simp; omega)]
   rw [show i - ((x11.take i).map flip).length = 0 by simp; omega,List.set_cons_zero,<- List.take_append_getElem hi,List.map_append,List.append_assoc]
   rfl
  rw [hput];exact ih
section
variable {fl:Nat} {s:ScnQ} {d:DrwQ} {t:TriQ} {p:Int × Tri}
theorem em_flip {x y:Int}:emQ fl (flipS s) (flip d) t p x y = emQ fl s d t p x y:=rfl
theorem row_flip {y:Int}:∀ {k:Nat} {x:Int},rowQ fl (flipS s) (flip d) t p y k x = rowQ fl s d t p y k x
 | 0,x=>rfl
 | k + 1,x=>by rw [rowQ,rowQ,em_flip,row_flip]
theorem box_flip {a:Int} {w:Nat}:∀ {k:Nat} {y:Int},boxQ fl (flipS s) (flip d) t p a w k y = boxQ fl s d t p a w k y
 | 0,y=>rfl
 | k + 1,y=>by rw [boxQ,boxQ,row_flip,box_flip]
theorem part_flip {b:BxQ}:partQ fl (flipS s) (flip d) t b p = partQ fl s d t b p:=by
 unfold partQ;rw [box_flip];rfl
theorem tri_flip {b:BxQ}:triQ fl (flipS s) (flip d) b t = triQ fl s d b t:=by
 unfold triQ;rw [show partQ fl (flipS s) (flip d) t b = partQ fl s d t b from funext fun p=>part_flip]
 rfl
theorem drw_flip {b:BxQ} {o:Bool}:drwQ fl (flipS s) b o (flip d) = drwQ fl s b (!o) d:=by
 unfold drwQ;rw [show triQ fl (flipS s) (flip d) b = triQ fl s d b from funext fun t=>tri_flip]
 show (if (!d.2.2.2.1) = o then _ else _) = _
 cases d.2.2.2.1 <;> cases o <;> rfl
end
theorem all_flip {fl:Nat} {s:ScnQ} {b:BxQ} {o:Bool}:allQ fl (flipS s) b o = allQ fl s b (!o):=by
 unfold allQ;show ((s.2.2.2.2.2.2.map flip).flatMap _) = _;rw [List.flatMap_map]
 congr 1
 exact funext fun d=>drw_flip
theorem flip_ok {s:ScnQ} (h:okS s):okS (flipS s) where
 w:=h.w
 h:=h.h
 verts:=h.verts
 texs:=h.texs
 progs:=h.progs
 pfew:=h.pfew
 few:=by show (s.2.2.2.2.2.2.map flip).length <= 4; rw [List.length_map]; exact h.few
 draws:=fun d hd=>by
  obtain ⟨d0,h0,rfl⟩:=List.mem_map.1 hd;obtain ⟨a,b,c,e⟩:=h.draws d0 h0;exact ⟨a,b,c,e⟩
abbrev ScnT:Ty:=.pair (.int .i64) (.pair (.int .i64) (.pair (.pair (.int .u8) (.pair (.int .u8) (.pair (.int .u8) (.int .u8))))
 (.pair (.list (.pair (.int .i64) (.pair (.int .i64) (.pair (.int .i64) (.pair (.int .i64) (.pair (.int .i64) (.pair (.int .i64) (.pair (.int .i64) (.int .i64)))))))))
 (.pair (.list (.pair (.int .i64) (.pair (.int .i64) (.list (.pair (.int .u8) (.pair (.int .u8) (.pair (.int .u8) (.int .u8))))))))
 (.pair (.list (.list (.pair (.int .u8) (.pair (.int .u8) (.pair (.int .u8) (.pair (.int .u8) (.int .i64)))))))
 (.list (.pair (.int .i64) (.pair (.int .i64) (.pair (.int .i64) (.pair .bool (.list (.pair (.int .i64) (.pair (.int .i64) (.pair (.int .i64) (.int .i64)))))))))))))))
theorem gone22 {f:ScnQ} (hS:okS f) (B:BxQ) (o:Bool) {mk st:Int} (h1:0 <= mk /\ mk <= 1000000) (h2:0 <= st /\ st <= 100000000):glazierlaw22_gone 60000 (f,(mk,st)) B o 1073741824 = some (((allQ 60000 f B o).map (·.1),true),(f,(mk + ((allQ 60000 f B o).length:Int),st + sumQ (allQ 60000 f B o)))):=by
 have ok:=all_ok (fl:=60000) (by decide) hS (b:=B) (o:=o)
 have e:=gone_is (fl:=60000) (by decide) h1 h2 (m:=1073741824) (by decide) hS B o
 rw [show ((1073741824:Nat):Int) = 1073741824 from rfl,List.take_of_length_le (i:=1073741824) (l:=allQ 60000 f B o) (by omega)] at e
 exact e
theorem law (x0:ScnT.T) (h0:okT ScnT x0):∃ fl,glazierlaw22_FragsKinds fl x0 = some true:=by
 refine ⟨60000,?_⟩;have hfl:5000 <= 60000:=by decide
 obtain ⟨_,_,hb,_,ht,hp,_⟩:=h0;have hb:VM.pix x0.2.2.1:=⟨inR_u8.1 hb.1,inR_u8.1 hb.2.1,inR_u8.1 hb.2.2.1,inR_u8.1 hb.2.2.2⟩;have ht:∀ t ∈ x0.2.2.2.2.1,VM.pxs t:=fun t h=>VM.tex_in (ht.2 t h)
 have hp:∀ l ∈ x0.2.2.2.2.2.1,VM.progs l:=fun l h=>VM.progs_in (hp.2 l h)
 obtain ⟨W,H,⟨b1,b2,b3,b4⟩,vs,ts,ps,ds⟩:=x0;have mW:=VM.mod_in (x:=W) (w:=12) (by decide)
 have mH:=VM.mod_in (x:=H) (w:=12) (by decide)
 unfold glazierlaw22_FragsKinds;rw [shown22,ob_some];dsimp only;rw [VM.mod14 (by decide),ob_some,bnd_eq,addI (by omega),VM.mod14 (by decide),ob_some,bnd_eq,addI (by omega),vmShades.rpre hb,ob_some]
 generalize ((vmShades.prt b1 b4,(vmShades.prt b2 b4,(vmShades.prt b3 b4,b4))):ColQ) = c;obtain ⟨v1,e1,f1,f2,f3⟩:=fit_verts hfl (x1:=true) (x2:=W) (x3:=H) (x4:=b1) (x5:=b2) (x6:=b3) (x7:=b4) (x8:=vs) (x9:=ts) (x10:=ps) (x11:=ds) (x12:=(1 + W % 12)) (x13:=(1 + H % 12)) (x14:=c.1) (x15:=c.2.1) (x16:=c.2.2.1) (x17:=c.2.2.2) (x19:=W) (x20:=H) (x21:=b1) (x22:=b2) (x23:=b3) (x24:=b4) (x25:=vs) (x26:=ts) (x27:=ps) (x28:=ds) 60000 0 _ (by decide) (by omega) v0_fit (by decide) (by decide)
 rw [show ((0:Nat):Int) = 0 from rfl] at e1;rw [show F.appOk (α:=Unit) 64 [] [((-2),((-2),(0,(1,(200,(0,(0,128)))))))] = true from rfl,bgd_t,bnd_eq,appK,List.nil_append,e1,ob_some];dsimp only;obtain ⟨t1,e2,g1,g2⟩:=fit_texs hfl (x1:=true) (x2:=W) (x3:=H) (x4:=b1) (x5:=b2) (x6:=b3) (x7:=b4) (x8:=vs) (x9:=ts) (x10:=ps) (x11:=ds) (x12:=(1 + W % 12)) (x13:=(1 + H % 12)) (x14:=c.1) (x15:=c.2.1) (x16:=c.2.2.1) (x17:=c.2.2.2) (x18:=v1) (x20:=W) (x21:=H) (x22:=b1) (x23:=b2) (x24:=b3) (x25:=b4) (x26:=vs) (x27:=ts) (x28:=ps) (x29:=ds) ht 60000 0 [] (by decide) (by omega) (fun t h=>by cases h) (by decide)
 rw [show ((0:Nat):Int) = 0 from rfl] at e2;rw [e2,ob_some];dsimp only;obtain ⟨p1,e3,h1,h2,h3⟩:=fit_progs hfl (x1:=true) (x2:=W) (x3:=H) (x4:=b1) (x5:=b2) (x6:=b3) (x7:=b4) (x8:=vs) (x9:=ts) (x10:=ps) (x11:=ds) (x12:=(1 + W % 12)) (x13:=(1 + H % 12)) (x14:=c.1) (x15:=c.2.1) (x16:=c.2.2.1) (x17:=c.2.2.2) (x18:=v1) (x19:=t1) (x21:=W) (x22:=H) (x23:=b1) (x24:=b2) (x25:=b3) (x26:=b4) (x27:=vs) (x28:=ts) (x29:=ps) (x30:=ds) hp 60000 0 _ (by decide) (by omega) (fun l hl=>by rw [List.mem_singleton.1 hl]; exact ⟨VM.one_prog.1,VM.one_prog.2.1,fun h=>absurd h VM.one_prog.2.2⟩) (by decide) (by decide)
 rw [show ((0:Nat):Int) = 0 from rfl] at e3;rw [show F.appOk (α:=Unit) 24 [] [[(1,(0,(0,(0,0))))]] = true from rfl,bgd_t,bnd_eq,appK,List.nil_append,e3,ob_some];dsimp only;obtain ⟨dd,e4,k1,k2,k3⟩:=fit_draws hfl (x1:=true) (x2:=W) (x3:=H) (x4:=b1) (x5:=b2) (x6:=b3) (x7:=b4) (x8:=vs) (x9:=ts) (x10:=ps) (x11:=ds) (x12:=(1 + W % 12)) (x13:=(1 + H % 12)) (x14:=c.1) (x15:=c.2.1) (x16:=c.2.2.1) (x17:=c.2.2.2) (x18:=v1) (x19:=t1) (x20:=p1) (x22:=W) (x23:=H) (x24:=b1) (x25:=b2) (x26:=b3) (x27:=b4) (x28:=vs) (x29:=ts) (x30:=ps) (x31:=ds) ⟨f2,f3⟩ ⟨h2,by omega⟩ g2 60000 0 [] (by decide) (by omega) (fun d h=>by cases h) (fun j hj=>by simp at hj) rfl
 rw [show ((0:Nat):Int) = 0 from rfl] at e4;rw [e4,ob_some];dsimp only;rw [appOk_t (by simp; omega) (by decide),bgd_t,bnd_eq,appK,List.nil_append]
 have e5:=flip_loop 60000 (x0:=true) (x2:=(1 + W % 12)) (x3:=(1 + H % 12)) (x4:=c.1) (x5:=c.2.1) (x6:=c.2.2.1) (x7:=c.2.2.2) (x8:=v1) (x9:=t1) (x10:=p1) (x11:=dd) (x12:=(1 + W % 12)) (x13:=(1 + H % 12)) (x14:=c.1) (x15:=c.2.1) (x16:=c.2.2.1) (x17:=c.2.2.2) (x18:=v1) (x19:=t1) (x20:=p1) (show dd.length <= 1000 by omega) dd.length 60000 0 (Nat.zero_add _) (by omega)
 rw [List.take_zero,List.map_nil,List.nil_append,List.drop_zero,show ((0:Nat):Int) = 0 from rfl] at e5;rw [e5,ob_some];dsimp only;obtain ⟨f,hf⟩:∃ f:ScnQ,f = (1 + W % 12,(1 + H % 12,(c,(v1,(t1,(p1,dd)))))):=⟨_,rfl⟩
 have hS:okS f:=by
  rw [hf];refine ⟨by dsimp only; omega,by dsimp only; omega,f1,g1,h1,by dsimp only; omega,k3,fun d hd=>?_⟩
  have:=(k1 d hd).1;exact ⟨this.prog,this.tex,this.few,this.tris⟩
 have hG:=flip_ok hS;have hg:flipS f = (1 + W % 12,(1 + H % 12,(c,(v1,(t1,(p1,dd.map flip)))))):=by rw [hf]; rfl
 have okl:∀ B o,0 <= sumQ (allQ 60000 f B o) /\ sumQ (allQ 60000 f B o) <= 1400832 /\ (allQ 60000 f B o).length <= 43776:=fun B o=>by
  have ok:=all_ok (fl:=60000) (by decide) hS (b:=B) (o:=o)
  obtain ⟨s1,s2⟩:=sum_in ok.1;omega
 rw [bnd_eq,not_t,bite_f];rw [show (1 + W % 12,(1 + H % 12,((c.1,(c.2.1,(c.2.2.1,c.2.2.2))),(v1,(t1,(p1,dd)))))) = f from hf.symm,show (1 + W % 12,(1 + H % 12,((c.1,(c.2.1,(c.2.2.1,c.2.2.2))),(v1,(t1,(p1,dd.map flip)))))) = flipS f from hg.symm];generalize ((0:Int),((0:Int),(1 + W % 12,1 + H % 12))) = B;have o1:=okl B true;have o2:=okl B false;rw [gone22 hS B true (by decide) (by decide),ob_some,gone22 hG B false (by decide) (by decide),ob_some,all_flip,Bool.not_false]
 dsimp only;rw [gone22 hS B false (by omega) (by omega),ob_some,gone22 hG B true (by omega) (by omega),ob_some,all_flip,Bool.not_true]
 dsimp only;rw [same16 (by rw [List.length_map]; omega) (by rw [List.length_map]; omega),ob_some,same16 (by rw [List.length_map]; omega) (by rw [List.length_map]; omega),ob_some]
 unfold frags_Maker__Made frags_Maker__Steps;dsimp only;rw [bite_t,bite_t,bite_t,bite_t,bite_t,bite_t,ob_some,ob_some,bnd_eq,eq_t rfl,bite_t,ob_some,ob_some,bnd_eq,eq_t rfl]
end Go.Proofs.Ytkacojopcajboaa.fragsKinds
