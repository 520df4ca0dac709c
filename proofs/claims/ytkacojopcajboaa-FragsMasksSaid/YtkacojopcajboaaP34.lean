/- Each part of the law, put together. -/
import Derived.Test.YtkacojopcajboaaP33
import Derived.KernelRfl
set_option linter.unusedVariables false
set_option maxRecDepth 100000
namespace Go.Proofs.Ytkacojopcajboaa.G
open Go Go.RowKit Go.Proofs.Ytkacojopcajboaa.M
abbrev ColQ:=Int × Int × Int × Int
abbrev TexQ:=Int × Int × List ColQ
abbrev InsQ:=Int × Int × Int × Int × Int
abbrev TriQ:=Int × Int × Int × Int
abbrev DrwQ:=Int × Int × Int × Bool × List TriQ
abbrev ScnQ:=Int × Int × ColQ × List Vtx × List TexQ × List (List InsQ) × List DrwQ
abbrev FragQ:=Int × Int × Int × (Int × Int × Int × Int) × Int × Int × Int × Int
theorem get_is {α:Type} {l:List α} {i:Int} (d:α) (h0:0 <= i) (h1:i < (l.length:Int)):F.get l i = some (l.getD i.toNat d):=by
 have hk:i.toNat < l.length:=by omega
 rw [lgetI (k:=i.toNat) (by omega) hk,List.getD_eq_getElem?_getD,List.getElem?_eq_getElem hk]
 rfl
theorem getD_mem {α:Type} {l:List α} {i:Int} (d:α) (h0:0 <= i) (h1:i < (l.length:Int)):l.getD i.toNat d ∈ l:=by
 have hk:i.toNat < l.length:=by omega
 rw [List.getD_eq_getElem?_getD,List.getElem?_eq_getElem hk];exact List.getElem_mem hk
structure okD (s:ScnQ) (d:DrwQ):Prop where
 prog:0 <= d.2.1 /\ d.2.1 < (s.2.2.2.2.2.1.length:Int)
 tex:(d.2.2.1 = -1 /\ s.2.2.2.2.1 = []) \/ (0 <= d.2.2.1 /\ d.2.2.1 < (s.2.2.2.2.1.length:Int))
 few:d.2.2.2.2.length <= 4
 tris:∀ t ∈ d.2.2.2.2,(0 <= t.2.1 /\ t.2.1 < (s.2.2.2.1.length:Int)) /\ (0 <= t.2.2.1 /\ t.2.2.1 < (s.2.2.2.1.length:Int)) /\ (0 <= t.2.2.2 /\ t.2.2.2 < (s.2.2.2.1.length:Int))
structure okS (s:ScnQ):Prop where
 w:1 <= s.1 /\ s.1 <= 12
 h:1 <= s.2.1 /\ s.2.1 <= 12
 verts:∀ v ∈ s.2.2.2.1,fitC v
 texs:∀ t ∈ s.2.2.2.2.1,VM.tok t /\ VM.pxs t
 progs:∀ l ∈ s.2.2.2.2.2.1,VM.progs l /\ VM.prog l /\ (VM.asks l -> s.2.2.2.2.1 ≠ [])
 pfew:s.2.2.2.2.2.1.length <= 10
 few:s.2.2.2.2.2.2.length <= 4
 draws:∀ d ∈ s.2.2.2.2.2.2,okD s d
structure okI (s:ScnQ):Prop where
 draws:∀ (j:Nat) (hj:j < s.2.2.2.2.2.2.length),(s.2.2.2.2.2.2[j]).1 % 100 = (j:Int)
 tris:∀ d ∈ s.2.2.2.2.2.2,∀ (j:Nat) (hj:j < d.2.2.2.2.length),(d.2.2.2.2[j]).1 % 100 = (j:Int)
/-! ### Parts -/
def vtx (s:ScnQ) (i:Int):Vtx:=s.2.2.2.1.getD i.toNat zeroV
def partsQ (s:ScnQ) (t:TriQ):List (Int × Tri):=fan (ptsL s.1 s.2.1 (polyL [vtx s t.2.1,vtx s t.2.2.1,vtx s t.2.2.2]))
def okPart (p:Int × Tri):Prop:=0 <= p.1 /\ p.1 < 20 /\ 0 < area p.2 /\ okG3 p.2 /\ PL.okTri p.2 /\ PL.okTriZ p.2
theorem fan_mem {pts:List Px} {e:Int × Tri} (h:e ∈ fan pts) {C:Px -> Prop} (hC:∀ p ∈ pts,C p) (hz:C pzS):C e.2.1 /\ C e.2.2.1 /\ C e.2.2.2:=by
 unfold fan at h;obtain ⟨k,hk,he⟩:=List.mem_flatMap.1 h;unfold piece at he;have hat:∀ k,C (ptAt pts k):=fun k=>by
  unfold ptAt;rw [List.getD_eq_getElem?_getD];cases h1:pts[k]? with
  | none=>exact hz
  | some p=>exact hC p (List.mem_of_getElem? h1)
 split at he
 ·simp only [List.mem_singleton] at he;subst he;unfold turn tri3;dsimp only;split
  ·exact ⟨hz,hz,hz⟩
  ·split
   ·exact ⟨hat _,hat _,hat _⟩
   ·exact ⟨hat _,hat _,hat _⟩
 ·cases he
theorem poly_good {l:List Vtx} (hl:∀ v ∈ l,fitC v):∀ v ∈ polyL l,clipFew.goodC 20 5 v:=fun v hv=>by
 unfold polyL at hv;split at hv
 ·cases hv
 ·have h0:∀ v ∈ l,clipFew.goodC 0 0 v:=fun v hv=>⟨hl v hv,fun q h1 h2=>by omega⟩
  have h1:=clipFew.cut_good (by decide) ⟨by decide,by decide⟩ h0
  have h2:=clipFew.cut_good (by decide) ⟨by decide,by decide⟩ h1
  have h3:=clipFew.cut_good (by decide) ⟨by decide,by decide⟩ h2
  have h4:=clipFew.cut_good (by decide) ⟨by decide,by decide⟩ h3
  have h5:=clipFew.cut_good (by decide) ⟨by decide,by decide⟩ h4
  exact h5 v hv
theorem side_near {X W s:Int} (hW:1 <= W) (hs:0 <= s /\ s <= 96) (h1:-20 <= 4 * W + X) (h2:-20 <= 4 * W - X):PL.near (Int.fdiv (X * s) W + s):=by
 have k1:X * s <= (24 * s) * W:=by
  have a:X * s <= (4 * W + 20) * s:=Int.mul_le_mul_of_nonneg_right (by omega) hs.1
  have b:20 * s * 1 <= 20 * s * W:=Int.mul_le_mul_of_nonneg_left hW (by omega)
  have c:(4 * W + 20) * s = 4 * s * W + 20 * s:=by grind
  have e:(24 * s) * W = 4 * s * W + 20 * s * W:=by grind
  omega
 have k2:-(24 * s) * W <= X * s:=by
  have a:-(4 * W + 20) * s <= X * s:=Int.mul_le_mul_of_nonneg_right (by omega) hs.1
  have b:20 * s * 1 <= 20 * s * W:=Int.mul_le_mul_of_nonneg_left hW (by omega)
  have c:-(4 * W + 20) * s = -(4 * s * W) - 20 * s:=by grind
  have e:-(24 * s) * W = -(4 * s * W) - 20 * s * W:=by grind
  omega
 obtain ⟨a,b⟩:=fdiv_in (p:=X * s) (c:=W) (by omega)
 have m1:Int.fdiv (X * s) W <= 24 * s:=by
  have:W * Int.fdiv (X * s) W <= W * (24 * s):=by rw [Int.mul_comm W (24 * s)]; omega
  exact Int.le_of_mul_le_mul_left this (by omega)
 have m2:-(24 * s) - 1 < Int.fdiv (X * s) W:=by
  have:W * (-(24 * s) - 1) < W * Int.fdiv (X * s) W:=by
   have e1:W * (-(24 * s) - 1) = -(24 * s) * W - W:=by grind
   omega
  exact Int.lt_of_mul_lt_mul_left this (by omega)
 unfold PL.near;omega
theorem deep {Z W:Int} (hW:1 <= W) (hZ:-32768 <= Z /\ Z <= 32768) (h:-20 <= Z + W):-1073800000 <= Int.fdiv (Z * 32768) W + 32768 /\ Int.fdiv (Z * 32768) W + 32768 <= 1073800000:=by
 have:=fdiv_lim (p:=Z * 32768) (c:=W) (m:=1073741824) (by omega) (by omega) (by omega) (by decide)
 omega
theorem pt_ok {w h:Int} {v:Vtx} (hw:1 <= w /\ w <= 12) (hh:1 <= h /\ h <= 12) (hg:clipFew.goodC 20 5 v):PL.okP (ptS w h v) /\ PL.okZ (ptS w h v):=by
 obtain ⟨⟨hx,hy,hz,hW,a1,a2,a3,a4⟩,hd⟩:=hg;have d0:=hd 0 (by decide) (by decide)
 have d1:=hd 1 (by decide) (by decide)
 have d2:=hd 2 (by decide) (by decide)
 have d3:=hd 3 (by decide) (by decide)
 have d4:=hd 4 (by decide) (by decide)
 rw [dist0] at d0; rw [dist1] at d1; rw [dist2] at d2; rw [dist3] at d3; rw [dist4] at d4;unfold PL.okP PL.okZ ptS;exact ⟨⟨side_near hW.1 (by omega) (by omega) (by omega),side_near hW.1 (by omega) (by omega) (by omega)⟩,deep hW.1 hz (by omega),a1,a2,a3,a4⟩
theorem pz_ok:PL.okP pzS /\ PL.okZ pzS:=by
 unfold PL.okP PL.okZ PL.near pzS;decide
theorem vtx_fit {s:ScnQ} (hs:okS s) {i:Int} (h:0 <= i /\ i < (s.2.2.2.1.length:Int)):fitC (vtx s i):=hs.verts _ (getD_mem _ h.1 h.2)
theorem tri_fit {s:ScnQ} (hs:okS s) {d:DrwQ} (hd:d ∈ s.2.2.2.2.2.2) {t:TriQ} (ht:t ∈ d.2.2.2.2):∀ v ∈ [vtx s t.2.1,vtx s t.2.2.1,vtx s t.2.2.2],fitC v:=fun v hv=>by
 obtain ⟨h1,h2,h3⟩:=(hs.draws d hd).tris t ht;simp only [List.mem_cons,List.not_mem_nil,or_false] at hv;rcases hv with rfl | rfl | rfl
 ·exact vtx_fit hs h1
 ·exact vtx_fit hs h2
 ·exact vtx_fit hs h3
theorem parts_is {fl:Nat} (hfl:5000 <= fl) {s:ScnQ} (hs:okS s) {d:DrwQ} (hd:d ∈ s.2.2.2.2.2.2) {t:TriQ} (ht:t ∈ d.2.2.2.2) {mk st:Int} {a b c e:Int} :
  frags_Maker__parts fl (s.1,(s.2.1,(a,(b,(c,(e,(s.2.2.2.1,(s.2.2.2.2.1,(s.2.2.2.2.2.1,(s.2.2.2.2.2.2,(mk,st))))))))))) t = some (partsQ s t):=by
 obtain ⟨h1,h2,h3⟩:=(hs.draws d hd).tris t ht;have hf:=tri_fit hs hd ht;unfold frags_Maker__parts;dsimp only;have e:=parts_spec hfl (w:=s.1) (h:=s.2.1) (by have:=hs.w; omega) (by have:=hs.h; omega) (fitC_ok (hf (vtx s t.2.1) (by simp))) (fitC_ok (hf (vtx s t.2.2.1) (by simp))) (fitC_ok (hf (vtx s t.2.2.2) (by simp)))
 unfold vtx at e;rw [get_is zeroV h1.1 h1.2,ob_some,get_is zeroV h2.1 h2.2,ob_some,get_is zeroV h3.1 h3.2,ob_some,e,ob_some];rfl
theorem parts_in {s:ScnQ} (hs:okS s) {d:DrwQ} (hd:d ∈ s.2.2.2.2.2.2) {t:TriQ} (ht:t ∈ d.2.2.2.2):(partsQ s t).length <= 19 /\ ∀ p ∈ partsQ s t,okPart p:=by
 have hf:=tri_fit hs hd ht;have hb:∀ v ∈ polyL [vtx s t.2.1,vtx s t.2.2.1,vtx s t.2.2.2],okB v:=poly_okB (fun v hv=>fitC_ok (hf v hv)) (by simp)
 have hpl:(polyL [vtx s t.2.1,vtx s t.2.2.1,vtx s t.2.2.2]).length <= 19:=poly_len rfl;have hpt:=ptsL_ok (w:=s.1) (h:=s.2.1) (by have:=hs.w; omega) (by have:=hs.h; omega) hb
 have hln:=ptsL_length s.1 s.2.1 (polyL [vtx s t.2.1,vtx s t.2.2.1,vtx s t.2.2.2]);refine ⟨?_,fun p hp=>?_⟩
 ·have:=pieces_len (ptsL s.1 s.2.1 (polyL [vtx s t.2.1,vtx s t.2.2.1,vtx s t.2.2.2])) ((ptsL s.1 s.2.1 (polyL [vtx s t.2.1,vtx s t.2.2.1,vtx s t.2.2.2])).length - 2) 2;unfold partsQ fan;omega
 ·have hC:∀ p ∈ ptsL s.1 s.2.1 (polyL [vtx s t.2.1,vtx s t.2.2.1,vtx s t.2.2.2]),PL.okP p /\ PL.okZ p:=fun p hp=>by
   unfold ptsL at hp;split at hp
   ·obtain ⟨v,hv,rfl⟩:=List.mem_map.1 hp;exact pt_ok hs.w hs.h (poly_good hf v hv)
   ·cases hp
  obtain ⟨h1,h2,h3,h4⟩:=setupParts.fan_in hpt hp;obtain ⟨c1,c2,c3⟩:=fan_mem hp hC pz_ok;exact ⟨h1,by omega,h3,h4,⟨c1.1,c2.1,c3.1⟩,⟨c1.2,c2.2,c3.2⟩⟩
/-! ### A fragment -/
def texQ (s:ScnQ) (d:DrwQ):TexQ:=if d.2.2.1 < 0 then (0,(0,[])) else s.2.2.2.2.1.getD d.2.2.1.toNat (0,(0,[]))
theorem tex_is {s:ScnQ} {d:DrwQ} (hd:okD s d) {W H a b c e mk st:Int} {vs:List Vtx} {ps:List (List InsQ)} {ds:List DrwQ}:frags_Maker__tex (W,(H,(a,(b,(c,(e,(vs,(s.2.2.2.2.1,(ps,(ds,(mk,st))))))))))) d = some (texQ s d):=by
 unfold frags_Maker__tex texQ;rw [bnd_eq];by_cases h:d.2.2.1 < 0
 ·rw [lt_t h,bite_t,if_pos h]
 ·rw [lt_f (by omega),bite_f,if_neg h]
  rcases hd.tex with ht | ht
  ·omega
  ·dsimp only;rw [get_is (0,(0,[])) ht.1 ht.2,ob_some]
theorem tex_ok {s:ScnQ} (hs:okS s) {d:DrwQ} (hd:okD s d):VM.pxs (texQ s d) /\ (s.2.2.2.2.1 ≠ [] -> VM.tok (texQ s d)):=by
 unfold texQ;rcases hd.tex with ht | ht
 ·rw [if_pos (by omega)]
  exact ⟨fun c hc=>(by cases hc),fun h=>absurd ht.2 h⟩
 ·rw [if_neg (by omega)]
  obtain ⟨h1,h2⟩:=hs.texs _ (getD_mem (0,(0,[])) ht.1 ht.2);exact ⟨h2,fun _=>h1⟩
def progQ (s:ScnQ) (d:DrwQ):List InsQ:=s.2.2.2.2.2.1.getD d.2.1.toNat []
def attQ (u:Tri) (x y:Int):ColQ:=
 (PL.num u (u.1.2.2.2.1,u.2.1.2.2.2.1,u.2.2.2.2.2.1) (16 * x + 8) (16 * y + 8),(PL.num u (u.1.2.2.2.2.1,u.2.1.2.2.2.2.1,u.2.2.2.2.2.2.1) (16 * x + 8) (16 * y + 8),
   (PL.num u (u.1.2.2.2.2.2.1,u.2.1.2.2.2.2.2.1,u.2.2.2.2.2.2.2.1) (16 * x + 8) (16 * y + 8),PL.num u (u.1.2.2.2.2.2.2,u.2.1.2.2.2.2.2.2,u.2.2.2.2.2.2.2.2) (16 * x + 8) (16 * y + 8))))
theorem num_64 {u:Tri} (hu:PL.okTri u) {n:Int × Int × Int} (h1:-4096 <= n.1 /\ n.1 <= 4096) (h2:-4096 <= n.2.1 /\ n.2.1 <= 4096) (h3:-4096 <= n.2.2 /\ n.2.2 <= 4096) {x y:Int} (hx:PL.near x) (hy:PL.near y):VM.i64 (PL.num u n x y):=by
 unfold PL.num VM.i64;split
 ·rename_i ha;have i0:=PL.crs_in hu.2.1 hu.2.2 hx hy;have i1:=PL.crs_in hu.2.2 hu.1 hx hy;have i2:=PL.crs_in hu.1 hu.2.1 hx hy;have p0:=PL.mul_in2 (a:=n.1) (b:=PL.crs u.2.1 u.2.2 x y) h1 (n:=2147483648) (by omega)
  have p1:=PL.mul_in2 (a:=n.2.1) (b:=PL.crs u.2.2 u.1 x y) h2 (n:=2147483648) (by omega)
  have p2:=PL.mul_in2 (a:=n.2.2) (b:=PL.crs u.1 u.2.1 x y) h3 (n:=2147483648) (by omega)
  have:=fdiv_lim (p:=PL.weigh u n x y) (c:=PL.area u) (m:=26388279066624) ha (by unfold PL.weigh; omega) (by unfold PL.weigh; omega) (by decide)
  omega
 ·omega
noncomputable def shdQ (fl:Nat) (s:ScnQ) (d:DrwQ) (u:Tri) (x y:Int):ColQ × Int × Int:=(vm_Shade fl (progQ s d) (texQ s d) (attQ u x y) x y).getD ((0,(0,(0,0))),(0,0))
theorem shd_is {fl:Nat} (hfl:200 <= fl) {s:ScnQ} (hs:okS s) {d:DrwQ} (hd:okD s d) {p:Int × Tri} (hp:okPart p) {x y:Int} (hx:0 <= x /\ x <= 12) (hy:0 <= y /\ y <= 12) :
  vm_Shade fl (progQ s d) (texQ s d) (attQ p.2 x y) x y = some (shdQ fl s d p.2 x y) /\ 1 <= (shdQ fl s d p.2 x y).2.1 /\ (shdQ fl s d p.2 x y).2.1 <= (progQ s d).length /\ (progQ s d).length <= 32:=by
 obtain ⟨h1,h2,h3,h4,h5,h6⟩:=hp;obtain ⟨⟨_,a1,a2,a3,a4⟩,⟨_,b1,b2,b3,b4⟩,⟨_,c1,c2,c3,c4⟩⟩:=h6;obtain ⟨q1,q2,q3⟩:=hs.progs _ (getD_mem [] hd.prog.1 hd.prog.2);have nx:PL.near (16 * x + 8):=⟨by omega,by omega⟩
 have ny:PL.near (16 * y + 8):=⟨by omega,by omega⟩
 have x64:VM.i64 x:=by unfold VM.i64; omega
 have y64:VM.i64 y:=by unfold VM.i64; omega
 obtain ⟨t1,t2⟩:=tex_ok hs hd;obtain ⟨o,e1,_,_,e4⟩:=vmShades.shade_spec hfl (l:=progQ s d) q1 (t:=texQ s d) t1 (a:=attQ p.2 x y) (x:=x) (y:=y)
  ⟨num_64 (n:=(p.2.1.2.2.2.1,p.2.2.1.2.2.2.1,p.2.2.2.2.2.2.1)) h5 a1 b1 c1 nx ny,num_64 (n:=(p.2.1.2.2.2.2.1,p.2.2.1.2.2.2.2.1,p.2.2.2.2.2.2.2.1)) h5 a2 b2 c2 nx ny,num_64 (n:=(p.2.1.2.2.2.2.2.1,p.2.2.1.2.2.2.2.2.1,p.2.2.2.2.2.2.2.2.1)) h5 a3 b3 c3 nx ny,num_64 (n:=(p.2.1.2.2.2.2.2.2,p.2.2.1.2.2.2.2.2.2,p.2.2.2.2.2.2.2.2.2)) h5 a4 b4 c4 nx ny⟩ x64 y64
 obtain ⟨k1,k2,k3⟩:=e4 q2 (fun ha=>t2 (q3 ha))
 have he:shdQ fl s d p.2 x y = o:=by unfold shdQ; rw [e1]; rfl
 rw [he];exact ⟨e1,k2,k3,q2.2.1⟩
noncomputable def fragQ (fl:Nat) (s:ScnQ) (d:DrwQ) (t:TriQ) (p:Int × Tri) (x y:Int):FragQ:=
 (x,(y,(maskT p.2 x y,((PL.dep p.2 x y,(d.1,(t.1,p.1))),(shdQ fl s d p.2 x y).1))))
def zeroF:FragQ:=(0,(0,(0,((0,(0,(0,0))),(0,(0,(0,0)))))))
theorem frag_is {fl:Nat} (hfl:5000 <= fl) {s:ScnQ} (hs:okS s) {d:DrwQ} (hd:d ∈ s.2.2.2.2.2.2) {t:TriQ} {p:Int × Tri} (hp:okPart p) {x y:Int} (hx:0 <= x /\ x <= 12) (hy:0 <= y /\ y <= 12) {mk st:Int} (hm:0 <= mk /\ mk <= 10000000) (hst:0 <= st /\ st <= 1000000000) :
  frags_Maker__frag fl (s,(mk,st)) d t p x y = some (if maskT p.2 x y = 0 then ((zeroF,false),(s,(mk,st))) else ((fragQ fl s d t p x y,true),(s,(mk + 1,st + (shdQ fl s d p.2 x y).2.1)))):=by
 obtain ⟨e1,e2,e3,e4⟩:=shd_is (fl:=fl) (by omega) hs (hs.draws d hd) hp hx hy
 have hpr:=(hs.draws d hd).prog;obtain ⟨h1,h2,h3,h4,h5,h6⟩:=hp;unfold frags_Maker__frag;rw [mask_is (by omega) h4 (by omega) (by omega),ob_some,bnd_eq]
 by_cases h:maskT p.2 x y = 0
 ·rw [eq_t h,bite_t,if_pos h];rfl
 ·rw [eq_f h,bite_f,if_neg h];dsimp only;rw [get_is [] hpr.1 hpr.2,ob_some];have ht:=tex_is (hs.draws d hd) (W:=s.1) (H:=s.2.1) (a:=s.2.2.1.1) (b:=s.2.2.1.2.1) (c:=s.2.2.1.2.2.1) (e:=s.2.2.1.2.2.2) (vs:=s.2.2.2.1) (ps:=s.2.2.2.2.2.1) (ds:=s.2.2.2.2.2.2) (mk:=mk) (st:=st);rw [ht,ob_some,PL.attrs_spec fl h5 h6 (by omega) (by omega),ob_some]
  have e1':=e1;unfold progQ attQ at e1';rw [e1',ob_some,bnd_eq,bnd_eq,addI (by omega),addI (by omega),PL.dep_spec fl h5 h6 (by omega) (by omega),ob_some]
  rfl
end Go.Proofs.Ytkacojopcajboaa.G
namespace Go.Proofs.Ytkacojopcajboaa.VM
open Go Go.RowKit Go.Proofs.Ytkacojopcajboaa.M Go.Proofs.Ytkacojopcajboaa.G
theorem one_prog:progs [((1:Int),((0:Int),((0:Int),((0:Int),(0:Int)))))] /\ prog [((1:Int),((0:Int),((0:Int),((0:Int),(0:Int)))))] /\ ¬ asks [((1:Int),((0:Int),((0:Int),((0:Int),(0:Int)))))]:=by
 refine ⟨fun x hx=>?_,⟨by decide,by decide,fun j h=>?_⟩,fun ⟨x,hx,h⟩=>?_⟩
 ·rw [List.mem_singleton.1 hx]; unfold insB byte; decide
 ·have:j = 0:=by simp at h; omega
  subst this;simp only [List.getElem_cons_zero];unfold iok three; decide
 ·rw [List.mem_singleton.1 hx] at h; revert h; decide
end Go.Proofs.Ytkacojopcajboaa.VM
namespace Go.Proofs.Ytkacojopcajboaa.G
open Go Go.RowKit Go.Proofs.Ytkacojopcajboaa.M
theorem nilE_same {β:Type} (n:Int) (x:Option β):nilE n x x = x:=by
 unfold nilE either;split
 ·simp
 ·rfl
theorem os_l {α β γ:Type} (x:α) (f:α -> Option γ) (g:β -> Option γ):osum (.inl x:α ⊕ β) f g = f x:=rfl
theorem os_r {α β γ:Type} (x:β) (f:α -> Option γ) (g:β -> Option γ):osum (.inr x:α ⊕ β) f g = g x:=rfl
abbrev EmQ:=FragQ × Int
def sumQ (L:List EmQ):Int:=(L.map (·.2)).sum
theorem sumQ_app (A B:List EmQ):sumQ (A ++ B) = sumQ A + sumQ B:=by unfold sumQ; simp
theorem sumQ_one (e:EmQ):sumQ [e] = e.2:=by unfold sumQ; simp
def okE (A:List EmQ):Prop:=∀ e ∈ A,1 <= e.2 /\ e.2 <= 32
theorem okE_app {A B:List EmQ} (ha:okE A) (hb:okE B):okE (A ++ B):=fun e he=>by
 rcases List.mem_append.1 he with h | h
 ·exact ha e h
 ·exact hb e h
theorem sum_in:∀ {A:List EmQ},okE A -> (A.length:Int) <= sumQ A /\ sumQ A <= 32 * (A.length:Int)
 | [],_=>by unfold sumQ; simp
 | e :: A,h=>by
  have h1:=h e (by simp)
  have h2:=sum_in (A:=A) fun x hx=>h x (List.mem_cons_of_mem _ hx)
  have:sumQ (e :: A) = e.2 + sumQ A:=by unfold sumQ; simp
  rw [this,List.length_cons];omega
noncomputable def goOut {α β:Type} (m:Nat) (A L:List EmQ) (f:List EmQ -> α) (g:List EmQ -> β):Option (α ⊕ β):=
 if A.length + L.length < m then some (.inr (g (A ++ L))) else some (.inl (f (A ++ L.take (m - A.length))))
theorem go_nil {α β:Type} {m:Nat} {A:List EmQ} {f:List EmQ -> α} {g:List EmQ -> β} (h:A.length < m):goOut m A [] f g = some (.inr (g A)):=by
 unfold goOut;rw [if_pos (by simpa using h),List.append_nil]
theorem go_one {α β:Type} {m:Nat} {A L:List EmQ} {e:EmQ} {f:List EmQ -> α} {g:List EmQ -> β} (h:m = A.length + 1):goOut m A (e :: L) f g = some (.inl (f (A ++ [e]))):=by
 unfold goOut;rw [if_neg (by simp; omega),h]
 simp
theorem go_cons {α β:Type} {m:Nat} {A L:List EmQ} {e:EmQ} {f:List EmQ -> α} {g:List EmQ -> β} (h:A.length + 1 < m):goOut m A (e :: L) f g = goOut m (A ++ [e]) L f g:=by
 unfold goOut;obtain ⟨k,hk⟩:∃ k,m - A.length = k + 1:=⟨m - A.length - 1,by omega⟩
 have h2:m - (A ++ [e]).length = k:=by simp; omega
 rw [h2,hk,List.take_succ_cons];simp only [List.length_append,List.length_cons,List.length_nil,List.append_assoc,List.singleton_append];rw [show A.length + (0 + 1) + L.length = A.length + (L.length + 1) by omega]
theorem go_cases {α β:Type} {m:Nat} {A:List EmQ} (L:List EmQ) (f:List EmQ -> α) (g:List EmQ -> β) (h:A.length < m) :
  (∃ B,goOut m A L f g = some (.inl (f B)) /\ ∀ {α' β':Type} (L':List EmQ) (f':List EmQ -> α') (g':List EmQ -> β'),goOut m A (L ++ L') f' g' = some (.inl (f' B))) \/
  (goOut m A L f g = some (.inr (g (A ++ L))) /\ (A ++ L).length < m /\ ∀ {α' β':Type} (L':List EmQ) (f':List EmQ -> α') (g':List EmQ -> β'),goOut m A (L ++ L') f' g' = goOut m (A ++ L) L' f' g'):=by
 by_cases hc:A.length + L.length < m
 ·refine .inr ⟨by unfold goOut; rw [if_pos hc],by simpa using hc,fun {α' β'} L' f' g'=>?_⟩
  unfold goOut;have e:(L ++ L').take (m - A.length) = L ++ L'.take (m - (A ++ L).length):=by
   rw [List.take_append,List.take_of_length_le (by omega),List.length_append,Nat.sub_sub]
  simp only [List.length_append,e,List.append_assoc,Nat.add_assoc]
 ·refine .inl ⟨_,by unfold goOut; rw [if_neg hc],fun {α' β'} L' f' g'=>?_⟩
  unfold goOut;rw [if_neg (by simp; omega),List.take_append_of_le_length (by omega)]
/-! ### What there is to be gone through -/
noncomputable def emQ (fl:Nat) (s:ScnQ) (d:DrwQ) (t:TriQ) (p:Int × Tri) (x y:Int):List EmQ:=
 if maskT p.2 x y = 0 then [] else [(fragQ fl s d t p x y,(shdQ fl s d p.2 x y).2.1)]
noncomputable def rowQ (fl:Nat) (s:ScnQ) (d:DrwQ) (t:TriQ) (p:Int × Tri) (y:Int):Nat -> Int -> List EmQ
 | 0,_=>[]
 | k + 1,x=>emQ fl s d t p x y ++ rowQ fl s d t p y k (x + 1)
noncomputable def boxQ (fl:Nat) (s:ScnQ) (d:DrwQ) (t:TriQ) (p:Int × Tri) (a:Int) (w:Nat):Nat -> Int -> List EmQ
 | 0,_=>[]
 | k + 1,y=>rowQ fl s d t p y w a ++ boxQ fl s d t p a w k (y + 1)
abbrev BxQ:=Int × Int × Int × Int
def inBox (s:ScnQ) (u:Tri) (b:BxQ):BxQ:=
 (max (sideLo u.1.1 u.2.1.1 u.2.2.1) b.1,(max (sideLo u.1.2.1 u.2.1.2.1 u.2.2.2.1) b.2.1,(min (sideHi s.1 u.1.1 u.2.1.1 u.2.2.1) b.2.2.1,min (sideHi s.2.1 u.1.2.1 u.2.1.2.1 u.2.2.2.1) b.2.2.2)))
noncomputable def partQ (fl:Nat) (s:ScnQ) (d:DrwQ) (t:TriQ) (b:BxQ) (p:Int × Tri):List EmQ:=
 boxQ fl s d t p (inBox s p.2 b).1 ((inBox s p.2 b).2.2.1 - (inBox s p.2 b).1).toNat ((inBox s p.2 b).2.2.2 - (inBox s p.2 b).2.1).toNat (inBox s p.2 b).2.1
noncomputable def triQ (fl:Nat) (s:ScnQ) (d:DrwQ) (b:BxQ) (t:TriQ):List EmQ:=(partsQ s t).flatMap (partQ fl s d t b)
noncomputable def drwQ (fl:Nat) (s:ScnQ) (b:BxQ) (o:Bool) (d:DrwQ):List EmQ:=if d.2.2.2.1 = o then d.2.2.2.2.flatMap (triQ fl s d b) else []
noncomputable def allQ (fl:Nat) (s:ScnQ) (b:BxQ) (o:Bool):List EmQ:=s.2.2.2.2.2.2.flatMap (drwQ fl s b o)
section
variable {fl:Nat} {s:ScnQ} {d:DrwQ} {t:TriQ} {p:Int × Tri}
theorem em_ok (hfl:200 <= fl) (hs:okS s) (hd:okD s d) (hp:okPart p) {x y:Int} (hx:0 <= x /\ x <= 12) (hy:0 <= y /\ y <= 12):okE (emQ fl s d t p x y):=fun e he=>by
 unfold emQ at he;split at he
 ·cases he
 ·simp only [List.mem_singleton] at he;subst he;obtain ⟨_,h1,h2,h3⟩:=shd_is hfl hs hd hp hx hy;exact ⟨h1,by omega⟩
theorem row_ok (hfl:200 <= fl) (hs:okS s) (hd:okD s d) (hp:okPart p) {y:Int} (hy:0 <= y /\ y <= 12):∀ (k:Nat) (x:Int),0 <= x -> x + k <= 13 -> okE (rowQ fl s d t p y k x)
 | 0,x,_,_=>fun e he=>by cases he
 | k + 1,x,h1,h2=>okE_app (em_ok hfl hs hd hp (by omega) hy) (row_ok hfl hs hd hp hy k (x + 1) (by omega) (by omega))
theorem box_ok (hfl:200 <= fl) (hs:okS s) (hd:okD s d) (hp:okPart p) {a:Int} {w:Nat} (ha:0 <= a) (hw:a + w <= 13):∀ (k:Nat) (y:Int),0 <= y -> y + k <= 13 -> okE (boxQ fl s d t p a w k y)
 | 0,y,_,_=>fun e he=>by cases he
 | k + 1,y,h1,h2=>okE_app (row_ok hfl hs hd hp (by omega) w a ha hw) (box_ok hfl hs hd hp ha hw k (y + 1) (by omega) (by omega))
theorem row_len:∀ (k:Nat) (x:Int) (y:Int),(rowQ fl s d t p y k x).length <= k
 | 0,x,y=>Nat.le_refl _
 | k + 1,x,y=>by
  have:=row_len k (x + 1) y;have h:(emQ fl s d t p x y).length <= 1:=by unfold emQ; split <;> simp
  unfold rowQ;rw [List.length_append];omega
theorem box_len {a:Int} {w:Nat}:∀ (k:Nat) (y:Int),(boxQ fl s d t p a w k y).length <= k * w
 | 0,y=>by unfold boxQ; simp
 | k + 1,y=>by
  have h1:=box_len (a:=a) (w:=w) k (y + 1);have h2:=row_len (fl:=fl) (s:=s) (d:=d) (t:=t) (p:=p) w a y;unfold boxQ;rw [List.length_append,Nat.add_mul];omega
theorem inBox_in (hs:okS s) (u:Tri) (b:BxQ):0 <= (inBox s u b).1 /\ 0 <= (inBox s u b).2.1 /\ (inBox s u b).2.2.1 <= 12 /\ (inBox s u b).2.2.2 <= 12:=by
 have:=hs.w;have:=hs.h;unfold inBox sideLo sideHi;dsimp only;omega
theorem part_ok (hfl:200 <= fl) (hs:okS s) (hd:okD s d) (hp:okPart p) {b:BxQ}:okE (partQ fl s d t b p) /\ (partQ fl s d t b p).length <= 144:=by
 obtain ⟨h1,h2,h3,h4⟩:=inBox_in hs p.2 b;refine ⟨?_,?_⟩
 ·unfold partQ;by_cases hk:(inBox s p.2 b).2.2.2 <= (inBox s p.2 b).2.1
  ·rw [show ((inBox s p.2 b).2.2.2 - (inBox s p.2 b).2.1).toNat = 0 by omega]
   exact fun e he=>by cases he
  ·by_cases hw:(inBox s p.2 b).2.2.1 <= (inBox s p.2 b).1
   ·rw [show ((inBox s p.2 b).2.2.1 - (inBox s p.2 b).1).toNat = 0 by omega]
    have:∀ (k:Nat) (y:Int),boxQ fl s d t p (inBox s p.2 b).1 0 k y = []:=fun k=>by
     induction k with
     | zero=>intro y; rfl
     | succ k ih=>intro y; unfold boxQ; rw [ih]; rfl
    rw [this];exact fun e he=>by cases he
   ·exact box_ok hfl hs hd hp h1 (by omega) _ _ h2 (by omega)
 ·have:=box_len (fl:=fl) (s:=s) (d:=d) (t:=t) (p:=p) (a:=(inBox s p.2 b).1) (w:=((inBox s p.2 b).2.2.1 - (inBox s p.2 b).1).toNat) ((inBox s p.2 b).2.2.2 - (inBox s p.2 b).2.1).toNat (inBox s p.2 b).2.1;have h5:((inBox s p.2 b).2.2.2 - (inBox s p.2 b).2.1).toNat * ((inBox s p.2 b).2.2.1 - (inBox s p.2 b).1).toNat <= 12 * 12:=Nat.mul_le_mul (by omega) (by omega)
  unfold partQ;omega
end
theorem flat_ok {α:Type} {f:α -> List EmQ} {l:List α} (h:∀ x ∈ l,okE (f x)):okE (l.flatMap f):=fun e he=>by
 obtain ⟨x,hx,hex⟩:=List.mem_flatMap.1 he;exact h x hx e hex
theorem flat_len {α:Type} {f:α -> List EmQ} {k:Nat}:∀ {l:List α},(∀ x ∈ l,(f x).length <= k) -> (l.flatMap f).length <= l.length * k
 | [],_=>by simp
 | x :: l,h=>by
  have:=flat_len (l:=l) fun y hy=>h y (List.mem_cons_of_mem _ hy)
  have:=h x (by simp)
  rw [List.flatMap_cons,List.length_append,List.length_cons,Nat.add_mul];omega
theorem tri_ok {fl:Nat} (hfl:200 <= fl) {s:ScnQ} (hs:okS s) {d:DrwQ} (hd:d ∈ s.2.2.2.2.2.2) {t:TriQ} (ht:t ∈ d.2.2.2.2) {b:BxQ}:okE (triQ fl s d b t) /\ (triQ fl s d b t).length <= 2736:=by
 obtain ⟨h1,h2⟩:=parts_in hs hd ht;refine ⟨flat_ok fun p hp=>(part_ok hfl hs (hs.draws d hd) (h2 p hp)).1,?_⟩
 have:=flat_len (l:=partsQ s t) (f:=partQ fl s d t b) (k:=144) fun p hp=>(part_ok hfl hs (hs.draws d hd) (h2 p hp)).2
 unfold triQ;omega
theorem drw_ok {fl:Nat} (hfl:200 <= fl) {s:ScnQ} (hs:okS s) {d:DrwQ} (hd:d ∈ s.2.2.2.2.2.2) {b:BxQ} {o:Bool}:okE (drwQ fl s b o d) /\ (drwQ fl s b o d).length <= 10944:=by
 unfold drwQ;split
 ·refine ⟨flat_ok fun t ht=>(tri_ok hfl hs hd ht).1,?_⟩
  have:=flat_len (l:=d.2.2.2.2) (f:=triQ fl s d b) (k:=2736) fun t ht=>(tri_ok hfl hs hd ht).2
  have:=(hs.draws d hd).few;omega
 ·exact ⟨fun e he=>(by cases he),Nat.zero_le _⟩
theorem all_ok {fl:Nat} (hfl:200 <= fl) {s:ScnQ} (hs:okS s) {b:BxQ} {o:Bool}:okE (allQ fl s b o) /\ (allQ fl s b o).length <= 43776:=by
 refine ⟨flat_ok fun d hd=>(drw_ok hfl hs hd).1,?_⟩
 have:=flat_len (l:=s.2.2.2.2.2.2) (f:=drwQ fl s b o) (k:=10944) fun d hd=>(drw_ok hfl hs hd).2
 have:=hs.few;unfold allQ;omega
theorem gone_row {fl:Nat} (hfl:5000 <= fl) {mk st:Int} (hmk:0 <= mk /\ mk <= 1000000) (hst:0 <= st /\ st <= 100000000) {m:Nat} {x0:Int} {x1:Int} {x2:Int} {x3:Int} {x5:T8} {x6:Int} {x7:Int} {x8:T2} {x9:Int} {x10:(List T6)} {x11:Int} {x12:Int} {x13:Int} {x14:Int} {x15:T1} {x16:Int} {x17:Int} {x18:Int} {x19:Int} {x20:Bool} {x21:(List T2)} {x22:Int} {x23:Int} {x24:Int} {x25:Int} {x26:Int} {x27:Int} {x28:Int} {x29:Int} {x30:Int} {x31:Int} {x32:Int} {x33:Int} {x34:Int} {x35:Int} {x36:Int} {x37:Int} {x38:Int} {x39:Int} {x40:Int} {x41:Int} {x42:Int} {x43:Int} {x46:Bool} {x47:Int} {x48:Int} {x49:Int} {x50:Int} {x51:Int} {x52:Int} {x53:Int} {x54:Int} {x55:Int} {x56:Int} {x57:(List T3)} {x58:T9} {x59:(List T5)} {x60:(List T6)} (hS:okS (x51,(x52,((x53,(x54,(x55,x56))),(x57,(x58,(x59,x60))))))) (hD:(x17,(x18,(x19,(x20,x21)))) ∈ x60) {t:TriQ} (ht:F.get x21 x16 = some t) (hP:okPart (x22,((x23,(x24,(x25,(x26,(x27,(x28,x29)))))),((x30,(x31,(x32,(x33,(x34,(x35,x36)))))),(x37,(x38,(x39,(x40,(x41,(x42,x43)))))))))) (hy:0 <= x3 /\ x3 <= 12) (hc:x2 <= 12) :
  ∀ (k n:Nat) (X:Int) (A:List EmQ),(x2 - X).toNat = k -> k + 1 <= n -> 0 <= X -> A.length < m -> okE A -> A.length + (rowQ fl (x51,(x52,((x53,(x54,(x55,x56))),(x57,(x58,(x59,x60)))))) (x17,(x18,(x19,(x20,x21)))) t (x22,((x23,(x24,(x25,(x26,(x27,(x28,x29)))))),((x30,(x31,(x32,(x33,(x34,(x35,x36)))))),(x37,(x38,(x39,(x40,(x41,(x42,x43))))))))) x3 k X).length <= 90000 ->
  glazierlaw22_gone_i34_l1 fl n x0 x1 x2 x3 X x5 x6 x7 x8 x9 x10 x11 x12 x13 x14 x15 x16 x17 x18 x19 x20 x21 x22 x23 x24 x25 x26 x27 x28 x29 x30 x31 x32 x33 x34 x35 x36 x37 x38 x39 x40 x41 x42 x43 (m:Int) (A.map (·.1)) x46 x47 x48 x49 x50 x51 x52 x53 x54 x55 x56 x57 x58 x59 x60 (mk + (A.length:Int)) (st + sumQ A) = goOut m A (rowQ fl (x51,(x52,((x53,(x54,(x55,x56))),(x57,(x58,(x59,x60)))))) (x17,(x18,(x19,(x20,x21)))) t (x22,((x23,(x24,(x25,(x26,(x27,(x28,x29)))))),((x30,(x31,(x32,(x33,(x34,(x35,x36)))))),(x37,(x38,(x39,(x40,(x41,(x42,x43))))))))) x3 k X) (fun B=>(x5,(x6,(x7,(x8,(x9,(x10,(x11,(x12,(x13,(x14,(x15,((3:Int),(x16,(x17,(x18,(x19,(x20,(x21,(x22,(x23,(x24,(x25,(x26,(x27,(x28,(x29,(x30,(x31,(x32,(x33,(x34,(x35,(x36,(x37,(x38,(x39,(x40,(x41,(x42,(x43,((m:Int),((B.map (·.1)),(x46,(x47,(x48,(x49,(x50,(x51,(x52,(x53,(x54,(x55,(x56,(x57,(x58,(x59,(x60,((mk + (B.length:Int)),((st + sumQ B),())))))))))))))))))))))))))))))))))))))))))))))))))))))))))))) (fun B=>(x0,(x1,(x2,(x3,(x5,(x6,(x7,(x8,(x9,(x10,(x11,(x12,(x13,(x14,(x15,(x16,(x17,(x18,(x19,(x20,(x21,(x22,(x23,(x24,(x25,(x26,(x27,(x28,(x29,(x30,(x31,(x32,(x33,(x34,(x35,(x36,(x37,(x38,(x39,(x40,(x41,(x42,(x43,((m:Int),((B.map (·.1)),(x46,(x47,(x48,(x49,(x50,(x51,(x52,(x53,(x54,(x55,(x56,(x57,(x58,(x59,(x60,((mk + (B.length:Int)),((st + sumQ B),())))))))))))))))))))))))))))))))))))))))))))))))))))))))))))))))
 | 0,n,X,A,hk,hn,hX,hm,hA,hL=>by
  obtain ⟨n,rfl⟩:∃ k,n = k + 1:=⟨n - 1,by omega⟩
  rw [glazierlaw22_gone_i34_l1,bnd_eq,lt_f (by omega),bite_f]
  unfold rowQ;rw [go_nil hm]
 | k + 1,n,X,A,hk,hn,hX,hm,hA,hL=>by
  obtain ⟨n,rfl⟩:∃ k,n = k + 1:=⟨n - 1,by omega⟩
  obtain ⟨s1,s2⟩:=sum_in hA;have hl:A.length + (emQ fl (x51,(x52,((x53,(x54,(x55,x56))),(x57,(x58,(x59,x60)))))) (x17,(x18,(x19,(x20,x21)))) t (x22,((x23,(x24,(x25,(x26,(x27,(x28,x29)))))),((x30,(x31,(x32,(x33,(x34,(x35,x36)))))),(x37,(x38,(x39,(x40,(x41,(x42,x43))))))))) X x3).length + (rowQ fl (x51,(x52,((x53,(x54,(x55,x56))),(x57,(x58,(x59,x60)))))) (x17,(x18,(x19,(x20,x21)))) t (x22,((x23,(x24,(x25,(x26,(x27,(x28,x29)))))),((x30,(x31,(x32,(x33,(x34,(x35,x36)))))),(x37,(x38,(x39,(x40,(x41,(x42,x43))))))))) x3 k (X + 1)).length <= 90000:=by
   unfold rowQ at hL;rw [List.length_append] at hL;omega
  have e:=frag_is hfl hS hD (t:=t) hP (x:=X) (y:=x3) (mk:=mk + (A.length:Int)) (st:=st + sumQ A) (by omega) hy (by omega) (by omega)
  have ok:=em_ok (t:=t) (fl:=fl) (by omega) hS (hS.draws _ hD) hP (x:=X) (y:=x3) (by omega) hy
  rw [glazierlaw22_gone_i34_l1,bnd_eq,lt_t (by omega),bite_t,ht,ob_some,nilE_same,e,ob_some]
  unfold rowQ;by_cases h:maskT ((x22,((x23,(x24,(x25,(x26,(x27,(x28,x29)))))),((x30,(x31,(x32,(x33,(x34,(x35,x36)))))),(x37,(x38,(x39,(x40,(x41,(x42,x43))))))))):Int × Tri).2 X x3 = 0
  ·rw [if_pos h];unfold emQ at hl ⊢;rw [if_pos h] at hl ⊢;dsimp only;rw [bite_f,bnd_eq,addI (by omega),List.nil_append]
   exact gone_row hfl hmk hst hS hD ht hP hy hc k n (X + 1) A (by omega) (by omega) (by omega) hm hA (by simpa using hl)
  ·rw [if_neg h];unfold emQ at hl ok ⊢;rw [if_neg h] at hl ok ⊢;generalize heq:((fragQ fl (x51,(x52,((x53,(x54,(x55,x56))),(x57,(x58,(x59,x60)))))) (x17,(x18,(x19,(x20,x21)))) t (x22,((x23,(x24,(x25,(x26,(x27,(x28,x29)))))),((x30,(x31,(x32,(x33,(x34,(x35,x36)))))),(x37,(x38,(x39,(x40,(x41,(x42,x43))))))))) X x3,(shdQ fl (x51,(x52,((x53,(x54,(x55,x56))),(x57,(x58,(x59,x60)))))) (x17,(x18,(x19,(x20,x21)))) ((x22,((x23,(x24,(x25,(x26,(x27,(x28,x29)))))),((x30,(x31,(x32,(x33,(x34,(x35,x36)))))),(x37,(x38,(x39,(x40,(x41,(x42,x43))))))))):Int × Tri).2 X x3).2.1):EmQ) = q at hl ok ⊢;have q1:fragQ fl (x51,(x52,((x53,(x54,(x55,x56))),(x57,(x58,(x59,x60)))))) (x17,(x18,(x19,(x20,x21)))) t (x22,((x23,(x24,(x25,(x26,(x27,(x28,x29)))))),((x30,(x31,(x32,(x33,(x34,(x35,x36)))))),(x37,(x38,(x39,(x40,(x41,(x42,x43))))))))) X x3 = q.1:=by rw [<- heq]
   have q2:(shdQ fl (x51,(x52,((x53,(x54,(x55,x56))),(x57,(x58,(x59,x60)))))) (x17,(x18,(x19,(x20,x21)))) ((x22,((x23,(x24,(x25,(x26,(x27,(x28,x29)))))),((x30,(x31,(x32,(x33,(x34,(x35,x36)))))),(x37,(x38,(x39,(x40,(x41,(x42,x43))))))))):Int × Tri).2 X x3).2.1 = q.2:=by rw [<- heq]
   have e1:(A ++ [q]).map (·.1) = A.map (·.1) ++ [q.1]:=by simp
   have e2:mk + ((A ++ [q]).length:Int) = mk + (A.length:Int) + 1:=by simp; omega
   have e3:st + sumQ (A ++ [q]) = st + sumQ A + q.2:=by rw [sumQ_app,sumQ_one]; omega
   rw [q1,q2];dsimp only;simp only [List.length_cons,List.length_nil] at hl;rw [bite_t,appOk_t (by simp; omega) (by decide),bgd_t,bnd_eq,bnd_eq,appK,lenK,List.singleton_append]
   by_cases hcut:m <= A.length + 1
   ·rw [bnd_eq,ge_t (by simp; omega),bite_t,go_one (by omega)]
    try dsimp only
    rw [e1,e2,e3]
   ·rw [bnd_eq,ge_f (by simp; omega),bite_f,bnd_eq,bnd_eq,gt_f (by simp; omega),bite_f,bnd_eq,addI (by omega),go_cons (by omega)]
    rw [<- e1,<- e2,<- e3];exact gone_row hfl hmk hst hS hD ht hP hy hc k n (X + 1) (A ++ [q]) (by omega) (by omega) (by omega) (by simp; omega) (okE_app hA ok) (by simp; omega)
theorem gone_box {fl:Nat} (hfl:5000 <= fl) {mk st:Int} (hmk:0 <= mk /\ mk <= 1000000) (hst:0 <= st /\ st <= 100000000) {m:Nat} {x0:Int} {x1:Int} {x2:Int} {x4:T8} {x5:Int} {x6:Int} {x7:T2} {x8:Int} {x9:(List T6)} {x10:Int} {x11:Int} {x12:Int} {x13:Int} {x14:T1} {x15:Int} {x16:Int} {x17:Int} {x18:Int} {x19:Bool} {x20:(List T2)} {x21:Int} {x22:Int} {x23:Int} {x24:Int} {x25:Int} {x26:Int} {x27:Int} {x28:Int} {x29:Int} {x30:Int} {x31:Int} {x32:Int} {x33:Int} {x34:Int} {x35:Int} {x36:Int} {x37:Int} {x38:Int} {x39:Int} {x40:Int} {x41:Int} {x42:Int} {x45:Bool} {x46:Int} {x47:Int} {x48:Int} {x49:Int} {x50:Int} {x51:Int} {x52:Int} {x53:Int} {x54:Int} {x55:Int} {x56:(List T3)} {x57:T9} {x58:(List T5)} {x59:(List T6)} (hS:okS (x50,(x51,((x52,(x53,(x54,x55))),(x56,(x57,(x58,x59))))))) (hD:(x16,(x17,(x18,(x19,x20)))) ∈ x59) {t:TriQ} (ht:F.get x20 x15 = some t) (hP:okPart (x21,((x22,(x23,(x24,(x25,(x26,(x27,x28)))))),((x29,(x30,(x31,(x32,(x33,(x34,x35)))))),(x36,(x37,(x38,(x39,(x40,(x41,x42)))))))))) (hx:0 <= x1) (hc:x2 <= 12) (hl:x0 <= 12) :
  ∀ (k n:Nat) (Y:Int) (A:List EmQ),(x0 - Y).toNat = k -> k + 1 <= n -> 0 <= Y -> A.length < m -> okE A -> A.length + (boxQ fl (x50,(x51,((x52,(x53,(x54,x55))),(x56,(x57,(x58,x59)))))) (x16,(x17,(x18,(x19,x20)))) t (x21,((x22,(x23,(x24,(x25,(x26,(x27,x28)))))),((x29,(x30,(x31,(x32,(x33,(x34,x35)))))),(x36,(x37,(x38,(x39,(x40,(x41,x42))))))))) x1 (x2 - x1).toNat k Y).length <= 90000 ->
  glazierlaw22_gone_i34_l2 fl n x0 x1 x2 Y x4 x5 x6 x7 x8 x9 x10 x11 x12 x13 x14 x15 x16 x17 x18 x19 x20 x21 x22 x23 x24 x25 x26 x27 x28 x29 x30 x31 x32 x33 x34 x35 x36 x37 x38 x39 x40 x41 x42 (m:Int) (A.map (·.1)) x45 x46 x47 x48 x49 x50 x51 x52 x53 x54 x55 x56 x57 x58 x59 (mk + (A.length:Int)) (st + sumQ A) = goOut m A (boxQ fl (x50,(x51,((x52,(x53,(x54,x55))),(x56,(x57,(x58,x59)))))) (x16,(x17,(x18,(x19,x20)))) t (x21,((x22,(x23,(x24,(x25,(x26,(x27,x28)))))),((x29,(x30,(x31,(x32,(x33,(x34,x35)))))),(x36,(x37,(x38,(x39,(x40,(x41,x42))))))))) x1 (x2 - x1).toNat k Y) (fun B=>(x4,(x5,(x6,(x7,(x8,(x9,(x10,(x11,(x12,(x13,(x14,((3:Int),(x15,(x16,(x17,(x18,(x19,(x20,(x21,(x22,(x23,(x24,(x25,(x26,(x27,(x28,(x29,(x30,(x31,(x32,(x33,(x34,(x35,(x36,(x37,(x38,(x39,(x40,(x41,(x42,((m:Int),((B.map (·.1)),(x45,(x46,(x47,(x48,(x49,(x50,(x51,(x52,(x53,(x54,(x55,(x56,(x57,(x58,(x59,((mk + (B.length:Int)),((st + sumQ B),())))))))))))))))))))))))))))))))))))))))))))))))))))))))))))) (fun B=>(x4,(x5,(x6,(x7,(x8,(x9,(x10,(x11,(x12,(x13,(x14,(x15,(x16,(x17,(x18,(x19,(x20,(x21,(x22,(x23,(x24,(x25,(x26,(x27,(x28,(x29,(x30,(x31,(x32,(x33,(x34,(x35,(x36,(x37,(x38,(x39,(x40,(x41,(x42,((m:Int),((B.map (·.1)),(x45,(x46,(x47,(x48,(x49,(x50,(x51,(x52,(x53,(x54,(x55,(x56,(x57,(x58,(x59,((mk + (B.length:Int)),((st + sumQ B),())))))))))))))))))))))))))))))))))))))))))))))))))))))))))))
 | 0,n,Y,A,hk,hn,hY,hm,hA,hL=>by
  obtain ⟨n,rfl⟩:∃ k,n = k + 1:=⟨n - 1,by omega⟩
  rw [glazierlaw22_gone_i34_l2,bnd_eq,lt_f (by omega),bite_f]
  unfold boxQ;rw [go_nil hm]
 | k + 1,n,Y,A,hk,hn,hY,hm,hA,hL=>by
  obtain ⟨n,rfl⟩:∃ k,n = k + 1:=⟨n - 1,by omega⟩
  unfold boxQ at hL ⊢;rw [List.length_append] at hL;rw [glazierlaw22_gone_i34_l2,bnd_eq,lt_t (by omega),bite_t,gone_row hfl hmk hst hS hD ht hP (m:=m) (by omega) (by omega) (x2 - x1).toNat fl x1 A rfl (by omega) hx hm hA (by omega)]
  rcases go_cases (rowQ fl (x50,(x51,((x52,(x53,(x54,x55))),(x56,(x57,(x58,x59)))))) (x16,(x17,(x18,(x19,x20)))) t (x21,((x22,(x23,(x24,(x25,(x26,(x27,x28)))))),((x29,(x30,(x31,(x32,(x33,(x34,x35)))))),(x36,(x37,(x38,(x39,(x40,(x41,x42))))))))) Y (x2 - x1).toNat x1) (fun B=>(x4,(x5,(x6,(x7,(x8,(x9,(x10,(x11,(x12,(x13,(x14,((3:Int),(x15,(x16,(x17,(x18,(x19,(x20,(x21,(x22,(x23,(x24,(x25,(x26,(x27,(x28,(x29,(x30,(x31,(x32,(x33,(x34,(x35,(x36,(x37,(x38,(x39,(x40,(x41,(x42,((m:Int),((B.map (·.1)),(x45,(x46,(x47,(x48,(x49,(x50,(x51,(x52,(x53,(x54,(x55,(x56,(x57,(x58,(x59,((mk + (B.length:Int)),((st + sumQ B),())))))))))))))))))))))))))))))))))))))))))))))))))))))))))))) (fun B=>(x0,(x1,(x2,(Y,(x4,(x5,(x6,(x7,(x8,(x9,(x10,(x11,(x12,(x13,(x14,(x15,(x16,(x17,(x18,(x19,(x20,(x21,(x22,(x23,(x24,(x25,(x26,(x27,(x28,(x29,(x30,(x31,(x32,(x33,(x34,(x35,(x36,(x37,(x38,(x39,(x40,(x41,(x42,((m:Int),((B.map (·.1)),(x45,(x46,(x47,(x48,(x49,(x50,(x51,(x52,(x53,(x54,(x55,(x56,(x57,(x58,(x59,((mk + (B.length:Int)),((st + sumQ B),()))))))))))))))))))))))))))))))))))))))))))))))))))))))))))))))) hm with ⟨B,e1,e2⟩ | ⟨e1,h1,e2⟩
  ·rw [e1,ob_some,os_l,e2]
  ·rw [e1,ob_some,os_r,e2];dsimp only;rw [bnd_eq,addI (by omega)]
   have hr:okE (rowQ fl (x50,(x51,((x52,(x53,(x54,x55))),(x56,(x57,(x58,x59)))))) (x16,(x17,(x18,(x19,x20)))) t (x21,((x22,(x23,(x24,(x25,(x26,(x27,x28)))))),((x29,(x30,(x31,(x32,(x33,(x34,x35)))))),(x36,(x37,(x38,(x39,(x40,(x41,x42))))))))) Y (x2 - x1).toNat x1):=by
    by_cases hw:x2 <= x1
    ·rw [show (x2 - x1).toNat = 0 by omega]
     exact fun e he=>(by cases he)
    ·exact row_ok (by omega) hS (hS.draws _ hD) hP (by omega) _ _ hx (by omega)
   exact gone_box hfl hmk hst hS hD ht hP hx hc hl k n (Y + 1) (A ++ rowQ fl (x50,(x51,((x52,(x53,(x54,x55))),(x56,(x57,(x58,x59)))))) (x16,(x17,(x18,(x19,x20)))) t (x21,((x22,(x23,(x24,(x25,(x26,(x27,x28)))))),((x29,(x30,(x31,(x32,(x33,(x34,x35)))))),(x36,(x37,(x38,(x39,(x40,(x41,x42))))))))) Y (x2 - x1).toNat x1) (by omega) (by omega) (by omega) h1 (okE_app hA hr) (by rw [List.length_append]; omega)
theorem gone_part {fl:Nat} (hfl:5000 <= fl) {mk st:Int} (hmk:0 <= mk /\ mk <= 1000000) (hst:0 <= st /\ st <= 100000000) {m:Nat} {x3:Int} {x4:(List T6)} {x5:Int} {x6:Int} {x7:Int} {x8:Int} {x9:T1} {x10:Int} {x11:Int} {x12:Int} {x13:Int} {x14:Bool} {x15:(List T2)} {x18:Bool} {x19:Int} {x20:Int} {x21:Int} {x22:Int} {x23:Int} {x24:Int} {x25:Int} {x26:Int} {x27:Int} {x28:Int} {x29:(List T3)} {x30:T9} {x31:(List T5)} {x32:(List T6)} (hS:okS (x23,(x24,((x25,(x26,(x27,x28))),(x29,(x30,(x31,x32))))))) (hD:(x11,(x12,(x13,(x14,x15)))) ∈ x32) {t:TriQ} (ht:F.get x15 x10 = some t) {Q:List (Int × Tri)} (hQ:∀ p ∈ Q,okPart p) (hQl:Q.length <= 100) :
  ∀ (k n i:Nat) (A:List EmQ),i + k = Q.length -> k + 1 <= n -> A.length < m -> okE A -> A.length + ((Q.drop i).flatMap (partQ fl (x23,(x24,((x25,(x26,(x27,x28))),(x29,(x30,(x31,x32)))))) (x11,(x12,(x13,(x14,x15)))) t (x19,(x20,(x21,x22))))).length <= 90000 ->
  glazierlaw22_gone_i22_l1 fl n Q (Q.length:Int) (i:Int) x3 x4 x5 x6 x7 x8 x9 x10 x11 x12 x13 x14 x15 (m:Int) (A.map (·.1)) x18 x19 x20 x21 x22 x23 x24 x25 x26 x27 x28 x29 x30 x31 x32 (mk + (A.length:Int)) (st + sumQ A) = goOut m A ((Q.drop i).flatMap (partQ fl (x23,(x24,((x25,(x26,(x27,x28))),(x29,(x30,(x31,x32)))))) (x11,(x12,(x13,(x14,x15)))) t (x19,(x20,(x21,x22))))) (fun B=>(x3,(x4,(x5,(x6,(x7,(x8,(x9,((3:Int),((m:Int),((B.map (·.1)),(x18,(x19,(x20,(x21,(x22,(x23,(x24,(x25,(x26,(x27,(x28,(x29,(x30,(x31,(x32,((mk + (B.length:Int)),((st + sumQ B),())))))))))))))))))))))))))))) (fun B=>(x3,(x4,(x5,(x6,(x7,(x8,(x9,((m:Int),((B.map (·.1)),(x18,(x19,(x20,(x21,(x22,(x23,(x24,(x25,(x26,(x27,(x28,(x29,(x30,(x31,(x32,((mk + (B.length:Int)),((st + sumQ B),())))))))))))))))))))))))))))
 | 0,n,i,A,hk,hn,hm,hA,hL=>by
  obtain ⟨n,rfl⟩:∃ k,n = k + 1:=⟨n - 1,by omega⟩
  rw [glazierlaw22_gone_i22_l1,bnd_eq,lt_f (by omega),bite_f,List.drop_eq_nil_of_le (by omega),List.flatMap_nil,go_nil hm]
 | k + 1,n,i,A,hk,hn,hm,hA,hL=>by
  obtain ⟨n,rfl⟩:∃ k,n = k + 1:=⟨n - 1,by omega⟩
  have hi:i < Q.length:=by omega
  rw [ldrop hi,List.flatMap_cons,List.length_append] at hL;rw [glazierlaw22_gone_i22_l1,bnd_eq,lt_t (by omega),bite_t,lgetK hi,ob_some,ldrop hi,List.flatMap_cons]
  have hp:=hQ _ (List.getElem_mem hi);generalize Q[i] = p at hL hp ⊢;obtain ⟨i1,i2,i3,i4⟩:=inBox_in hS p.2 (x19,(x20,(x21,x22)));have h:glazierlaw22_gone_i34_l2 fl fl (min (sideHi x24 p.2.1.2.1 p.2.2.1.2.1 p.2.2.2.2.1) x22) (max (sideLo p.2.1.1 p.2.2.1.1 p.2.2.2.1) x19) (min (sideHi x23 p.2.1.1 p.2.2.1.1 p.2.2.2.1) x21) (max (sideLo p.2.1.2.1 p.2.2.1.2.1 p.2.2.2.2.1) x20) Q (Q.length:Int) (i:Int) ((max (sideLo p.2.1.2.1 p.2.2.1.2.1 p.2.2.2.2.1) x20),((min (sideHi x24 p.2.1.2.1 p.2.2.1.2.1 p.2.2.2.2.1) x22),((max (sideLo p.2.1.1 p.2.2.1.1 p.2.2.2.1) x19),(min (sideHi x23 p.2.1.1 p.2.2.1.1 p.2.2.2.1) x21)))) x3 x4 x5 x6 x7 x8 x9 x10 x11 x12 x13 x14 x15 p.1 p.2.1.1 p.2.1.2.1 p.2.1.2.2.1 p.2.1.2.2.2.1 p.2.1.2.2.2.2.1 p.2.1.2.2.2.2.2.1 p.2.1.2.2.2.2.2.2 p.2.2.1.1 p.2.2.1.2.1 p.2.2.1.2.2.1 p.2.2.1.2.2.2.1 p.2.2.1.2.2.2.2.1 p.2.2.1.2.2.2.2.2.1 p.2.2.1.2.2.2.2.2.2 p.2.2.2.1 p.2.2.2.2.1 p.2.2.2.2.2.1 p.2.2.2.2.2.2.1 p.2.2.2.2.2.2.2.1 p.2.2.2.2.2.2.2.2.1 p.2.2.2.2.2.2.2.2.2 (m:Int) (A.map (·.1)) x18 x19 x20 x21 x22 x23 x24 x25 x26 x27 x28 x29 x30 x31 x32 (mk + (A.length:Int)) (st + sumQ A) = goOut m A (partQ fl (x23,(x24,((x25,(x26,(x27,x28))),(x29,(x30,(x31,x32)))))) (x11,(x12,(x13,(x14,x15)))) t (x19,(x20,(x21,x22))) p) (fun B=>(Q,((Q.length:Int),((i:Int),(((max (sideLo p.2.1.2.1 p.2.2.1.2.1 p.2.2.2.2.1) x20),((min (sideHi x24 p.2.1.2.1 p.2.2.1.2.1 p.2.2.2.2.1) x22),((max (sideLo p.2.1.1 p.2.2.1.1 p.2.2.2.1) x19),(min (sideHi x23 p.2.1.1 p.2.2.1.1 p.2.2.2.1) x21)))),(x3,(x4,(x5,(x6,(x7,(x8,(x9,((3:Int),(x10,(x11,(x12,(x13,(x14,(x15,(p.1,(p.2.1.1,(p.2.1.2.1,(p.2.1.2.2.1,(p.2.1.2.2.2.1,(p.2.1.2.2.2.2.1,(p.2.1.2.2.2.2.2.1,(p.2.1.2.2.2.2.2.2,(p.2.2.1.1,(p.2.2.1.2.1,(p.2.2.1.2.2.1,(p.2.2.1.2.2.2.1,(p.2.2.1.2.2.2.2.1,(p.2.2.1.2.2.2.2.2.1,(p.2.2.1.2.2.2.2.2.2,(p.2.2.2.1,(p.2.2.2.2.1,(p.2.2.2.2.2.1,(p.2.2.2.2.2.2.1,(p.2.2.2.2.2.2.2.1,(p.2.2.2.2.2.2.2.2.1,(p.2.2.2.2.2.2.2.2.2,((m:Int),((B.map (·.1)),(x18,(x19,(x20,(x21,(x22,(x23,(x24,(x25,(x26,(x27,(x28,(x29,(x30,(x31,(x32,((mk + (B.length:Int)),((st + sumQ B),())))))))))))))))))))))))))))))))))))))))))))))))))))))))))))) (fun B=>(Q,((Q.length:Int),((i:Int),(((max (sideLo p.2.1.2.1 p.2.2.1.2.1 p.2.2.2.2.1) x20),((min (sideHi x24 p.2.1.2.1 p.2.2.1.2.1 p.2.2.2.2.1) x22),((max (sideLo p.2.1.1 p.2.2.1.1 p.2.2.2.1) x19),(min (sideHi x23 p.2.1.1 p.2.2.1.1 p.2.2.2.1) x21)))),(x3,(x4,(x5,(x6,(x7,(x8,(x9,(x10,(x11,(x12,(x13,(x14,(x15,(p.1,(p.2.1.1,(p.2.1.2.1,(p.2.1.2.2.1,(p.2.1.2.2.2.1,(p.2.1.2.2.2.2.1,(p.2.1.2.2.2.2.2.1,(p.2.1.2.2.2.2.2.2,(p.2.2.1.1,(p.2.2.1.2.1,(p.2.2.1.2.2.1,(p.2.2.1.2.2.2.1,(p.2.2.1.2.2.2.2.1,(p.2.2.1.2.2.2.2.2.1,(p.2.2.1.2.2.2.2.2.2,(p.2.2.2.1,(p.2.2.2.2.1,(p.2.2.2.2.2.1,(p.2.2.2.2.2.2.1,(p.2.2.2.2.2.2.2.1,(p.2.2.2.2.2.2.2.2.1,(p.2.2.2.2.2.2.2.2.2,((m:Int),((B.map (·.1)),(x18,(x19,(x20,(x21,(x22,(x23,(x24,(x25,(x26,(x27,(x28,(x29,(x30,(x31,(x32,((mk + (B.length:Int)),((st + sumQ B),()))))))))))))))))))))))))))))))))))))))))))))))))))))))))))):=
   gone_box hfl hmk hst hS hD ht hp i1 i3 i4 _ fl _ A rfl (by have i2':0 <= (max (sideLo p.2.1.2.1 p.2.2.1.2.1 p.2.2.2.2.1) x20):=i2; have i4':(min (sideHi x24 p.2.1.2.1 p.2.2.1.2.1 p.2.2.2.2.1) x22) <= 12:=i4; omega) i2 hm hA (by
    have:(partQ fl (x23,(x24,((x25,(x26,(x27,x28))),(x29,(x30,(x31,x32)))))) (x11,(x12,(x13,(x14,x15)))) t (x19,(x20,(x21,x22))) p).length <= 90000 - A.length:=by omega
    have e:A.length + (partQ fl (x23,(x24,((x25,(x26,(x27,x28))),(x29,(x30,(x31,x32)))))) (x11,(x12,(x13,(x14,x15)))) t (x19,(x20,(x21,x22))) p).length <= 90000:=by omega
    exact e)
  rw [box_is fl hp.2.2.2.1,ob_some];dsimp only;rw [bnd_eq,bnd_eq,bnd_eq,bnd_eq,f_max,f_max,f_min,f_min];unfold setup_Pixels;rw [ob_some];dsimp only;rw [h];rcases go_cases (partQ fl (x23,(x24,((x25,(x26,(x27,x28))),(x29,(x30,(x31,x32)))))) (x11,(x12,(x13,(x14,x15)))) t (x19,(x20,(x21,x22))) p) (fun B=>(Q,((Q.length:Int),((i:Int),(((max (sideLo p.2.1.2.1 p.2.2.1.2.1 p.2.2.2.2.1) x20),((min (sideHi x24 p.2.1.2.1 p.2.2.1.2.1 p.2.2.2.2.1) x22),((max (sideLo p.2.1.1 p.2.2.1.1 p.2.2.2.1) x19),(min (sideHi x23 p.2.1.1 p.2.2.1.1 p.2.2.2.1) x21)))),(x3,(x4,(x5,(x6,(x7,(x8,(x9,((3:Int),(x10,(x11,(x12,(x13,(x14,(x15,(p.1,(p.2.1.1,(p.2.1.2.1,(p.2.1.2.2.1,(p.2.1.2.2.2.1,(p.2.1.2.2.2.2.1,(p.2.1.2.2.2.2.2.1,(p.2.1.2.2.2.2.2.2,(p.2.2.1.1,(p.2.2.1.2.1,(p.2.2.1.2.2.1,(p.2.2.1.2.2.2.1,(p.2.2.1.2.2.2.2.1,(p.2.2.1.2.2.2.2.2.1,(p.2.2.1.2.2.2.2.2.2,(p.2.2.2.1,(p.2.2.2.2.1,(p.2.2.2.2.2.1,(p.2.2.2.2.2.2.1,(p.2.2.2.2.2.2.2.1,(p.2.2.2.2.2.2.2.2.1,(p.2.2.2.2.2.2.2.2.2,((m:Int),((B.map (·.1)),(x18,(x19,(x20,(x21,(x22,(x23,(x24,(x25,(x26,(x27,(x28,(x29,(x30,(x31,(x32,((mk + (B.length:Int)),((st + sumQ B),())))))))))))))))))))))))))))))))))))))))))))))))))))))))))))) (fun B=>(Q,((Q.length:Int),((i:Int),(((max (sideLo p.2.1.2.1 p.2.2.1.2.1 p.2.2.2.2.1) x20),((min (sideHi x24 p.2.1.2.1 p.2.2.1.2.1 p.2.2.2.2.1) x22),((max (sideLo p.2.1.1 p.2.2.1.1 p.2.2.2.1) x19),(min (sideHi x23 p.2.1.1 p.2.2.1.1 p.2.2.2.1) x21)))),(x3,(x4,(x5,(x6,(x7,(x8,(x9,(x10,(x11,(x12,(x13,(x14,(x15,(p.1,(p.2.1.1,(p.2.1.2.1,(p.2.1.2.2.1,(p.2.1.2.2.2.1,(p.2.1.2.2.2.2.1,(p.2.1.2.2.2.2.2.1,(p.2.1.2.2.2.2.2.2,(p.2.2.1.1,(p.2.2.1.2.1,(p.2.2.1.2.2.1,(p.2.2.1.2.2.2.1,(p.2.2.1.2.2.2.2.1,(p.2.2.1.2.2.2.2.2.1,(p.2.2.1.2.2.2.2.2.2,(p.2.2.2.1,(p.2.2.2.2.1,(p.2.2.2.2.2.1,(p.2.2.2.2.2.2.1,(p.2.2.2.2.2.2.2.1,(p.2.2.2.2.2.2.2.2.1,(p.2.2.2.2.2.2.2.2.2,((m:Int),((B.map (·.1)),(x18,(x19,(x20,(x21,(x22,(x23,(x24,(x25,(x26,(x27,(x28,(x29,(x30,(x31,(x32,((mk + (B.length:Int)),((st + sumQ B),()))))))))))))))))))))))))))))))))))))))))))))))))))))))))))) hm with ⟨B,e1,e2⟩ | ⟨e1,h1,e2⟩
  ·rw [e1,ob_some,os_l,e2]
  ·rw [e1,ob_some,os_r,e2];dsimp only;rw [bnd_eq,addI (by omega),show (i:Int) + 1 = ((i + 1:Nat):Int) by omega]
   exact gone_part hfl hmk hst hS hD ht hQ hQl k n (i + 1) (A ++ partQ fl (x23,(x24,((x25,(x26,(x27,x28))),(x29,(x30,(x31,x32)))))) (x11,(x12,(x13,(x14,x15)))) t (x19,(x20,(x21,x22))) p) (by omega) (by omega) h1 (okE_app hA (part_ok (by omega) hS (hS.draws _ hD) hp).1) (by rw [List.length_append]; omega)
theorem bne_is (a b:Bool):F.bne a b = decide (a ≠ b):=by cases a <;> cases b <;> rfl
theorem gone_tri {fl:Nat} (hfl:5000 <= fl) {mk st:Int} (hmk:0 <= mk /\ mk <= 1000000) (hst:0 <= st /\ st <= 100000000) {m:Nat} {x0:Int} {x1:(List T6)} {x2:Int} {x3:Int} {x6:T1} {x9:Bool} {x10:Int} {x11:Int} {x12:Int} {x13:Int} {x14:Int} {x15:Int} {x16:Int} {x17:Int} {x18:Int} {x19:Int} {x20:(List T3)} {x21:T9} {x22:(List T5)} {x23:(List T6)} {D1 D2 D3:Int} {D4:Bool} {D5:List TriQ} (hS:okS (x14,(x15,((x16,(x17,(x18,x19))),(x20,(x21,(x22,x23))))))) (hd:F.get x23 x0 = some (D1,(D2,(D3,(D4,D5))))) (hD:(D1,(D2,(D3,(D4,D5)))) ∈ x23) :
  ∀ (k n i:Nat) (A:List EmQ),i + k = D5.length -> k + 1 <= n -> A.length < m -> okE A -> A.length + ((if D4 = x9 then (D5.drop i).flatMap (triQ fl (x14,(x15,((x16,(x17,(x18,x19))),(x20,(x21,(x22,x23)))))) (D1,(D2,(D3,(D4,D5)))) (x10,(x11,(x12,x13)))) else [])).length <= 90000 ->
  glazierlaw22_gone_i31_l1 fl n x0 x1 x2 x3 (D5.length:Int) (i:Int) x6 (m:Int) (A.map (·.1)) x9 x10 x11 x12 x13 x14 x15 x16 x17 x18 x19 x20 x21 x22 x23 (mk + (A.length:Int)) (st + sumQ A) = goOut m A (if D4 = x9 then (D5.drop i).flatMap (triQ fl (x14,(x15,((x16,(x17,(x18,x19))),(x20,(x21,(x22,x23)))))) (D1,(D2,(D3,(D4,D5)))) (x10,(x11,(x12,x13)))) else []) (fun B=>(x6,((3:Int),((m:Int),((B.map (·.1)),(x9,(x10,(x11,(x12,(x13,(x14,(x15,(x16,(x17,(x18,(x19,(x20,(x21,(x22,(x23,((mk + (B.length:Int)),((st + sumQ B),())))))))))))))))))))))) (fun B=>(x1,(x2,(x3,(x6,((m:Int),((B.map (·.1)),(x9,(x10,(x11,(x12,(x13,(x14,(x15,(x16,(x17,(x18,(x19,(x20,(x21,(x22,(x23,((mk + (B.length:Int)),((st + sumQ B),()))))))))))))))))))))))))
 | 0,n,i,A,hk,hn,hm,hA,hL=>by
  obtain ⟨n,rfl⟩:∃ k,n = k + 1:=⟨n - 1,by omega⟩
  rw [glazierlaw22_gone_i31_l1,bnd_eq,lt_f (by omega),bite_f,List.drop_eq_nil_of_le (by omega),List.flatMap_nil,ite_self,go_nil hm]
 | k + 1,n,i,A,hk,hn,hm,hA,hL=>by
  obtain ⟨n,rfl⟩:∃ k,n = k + 1:=⟨n - 1,by omega⟩
  have hi:i < D5.length:=by omega
  have hfew:D5.length <= 4:=(hS.draws (D1,(D2,(D3,(D4,D5)))) hD).few;rw [glazierlaw22_gone_i31_l1,bnd_eq,lt_t (by omega),bite_t,hd,ob_some,bnd_eq,bne_is]
  by_cases ho:D4 = x9
  ·rw [if_pos ho,ldrop hi,List.flatMap_cons,List.length_append] at hL;rw [if_pos ho,decide_eq_false (by simp [ho]),bite_f,lgetK hi,ob_some,ldrop hi,List.flatMap_cons]
   have ht:=List.getElem_mem hi;have hg:F.get D5 (i:Int) = some D5[i]:=lgetK hi;generalize D5[i] = t at hL ht hg ⊢;obtain ⟨q1,q2⟩:=parts_in hS hD ht;have hpt:=parts_is hfl hS hD ht (mk:=mk + (A.length:Int)) (st:=st + sumQ A) (a:=x16) (b:=x17) (c:=x18) (e:=x19);dsimp only at hpt;rw [hpt,ob_some,bnd_eq,lenK];have h:glazierlaw22_gone_i22_l1 fl fl (partsQ (x14,(x15,((x16,(x17,(x18,x19))),(x20,(x21,(x22,x23)))))) t) ((partsQ (x14,(x15,((x16,(x17,(x18,x19))),(x20,(x21,(x22,x23)))))) t).length:Int) 0 x0 x1 x2 x3 (D5.length:Int) (i:Int) x6 (i:Int) D1 D2 D3 D4 D5 (m:Int) (A.map (·.1)) x9 x10 x11 x12 x13 x14 x15 x16 x17 x18 x19 x20 x21 x22 x23 (mk + (A.length:Int)) (st + sumQ A) = goOut m A (triQ fl (x14,(x15,((x16,(x17,(x18,x19))),(x20,(x21,(x22,x23)))))) (D1,(D2,(D3,(D4,D5)))) (x10,(x11,(x12,x13))) t) (fun B=>(x0,(x1,(x2,(x3,((D5.length:Int),((i:Int),(x6,((3:Int),((m:Int),((B.map (·.1)),(x9,(x10,(x11,(x12,(x13,(x14,(x15,(x16,(x17,(x18,(x19,(x20,(x21,(x22,(x23,((mk + (B.length:Int)),((st + sumQ B),())))))))))))))))))))))))))))) (fun B=>(x0,(x1,(x2,(x3,((D5.length:Int),((i:Int),(x6,((m:Int),((B.map (·.1)),(x9,(x10,(x11,(x12,(x13,(x14,(x15,(x16,(x17,(x18,(x19,(x20,(x21,(x22,(x23,((mk + (B.length:Int)),((st + sumQ B),()))))))))))))))))))))))))))):=by
    unfold triQ at hL ⊢;have h:=gone_part hfl hmk hst (m:=m) (x3:=x0) (x4:=x1) (x5:=x2) (x6:=x3) (x7:=(D5.length:Int)) (x8:=(i:Int)) (x9:=x6) (x10:=(i:Int)) (x11:=D1) (x12:=D2) (x13:=D3) (x14:=D4) (x15:=D5) (x18:=x9) (x19:=x10) (x20:=x11) (x21:=x12) (x22:=x13) (x23:=x14) (x24:=x15) (x25:=x16) (x26:=x17) (x27:=x18) (x28:=x19) (x29:=x20) (x30:=x21) (x31:=x22) (x32:=x23) hS hD hg q2 (by omega)  _ fl 0 A (Nat.zero_add _) (by omega) hm hA (by rw [List.drop_zero]; omega)
    rw [List.drop_zero] at h;exact h
   rw [h];rcases go_cases (triQ fl (x14,(x15,((x16,(x17,(x18,x19))),(x20,(x21,(x22,x23)))))) (D1,(D2,(D3,(D4,D5)))) (x10,(x11,(x12,x13))) t) (fun B=>(x0,(x1,(x2,(x3,((D5.length:Int),((i:Int),(x6,((3:Int),((m:Int),((B.map (·.1)),(x9,(x10,(x11,(x12,(x13,(x14,(x15,(x16,(x17,(x18,(x19,(x20,(x21,(x22,(x23,((mk + (B.length:Int)),((st + sumQ B),())))))))))))))))))))))))))))) (fun B=>(x0,(x1,(x2,(x3,((D5.length:Int),((i:Int),(x6,((m:Int),((B.map (·.1)),(x9,(x10,(x11,(x12,(x13,(x14,(x15,(x16,(x17,(x18,(x19,(x20,(x21,(x22,(x23,((mk + (B.length:Int)),((st + sumQ B),()))))))))))))))))))))))))))) hm with ⟨B,e1,e2⟩ | ⟨e1,h1,e2⟩
   ·rw [e1,ob_some,os_l,e2]
   ·rw [e1,ob_some,os_r,e2];dsimp only;rw [bnd_eq,addI (by omega),show (i:Int) + 1 = ((i + 1:Nat):Int) by omega]
    have ih:=fun hx=>gone_tri hfl hmk hst (m:=m) (x0:=x0) (x1:=x1) (x2:=x2) (x3:=x3) (x6:=x6) (x9:=x9) (x10:=x10) (x11:=x11) (x12:=x12) (x13:=x13) (x14:=x14) (x15:=x15) (x16:=x16) (x17:=x17) (x18:=x18) (x19:=x19) (x20:=x20) (x21:=x21) (x22:=x22) (x23:=x23) hS hd hD k n (i + 1) (A ++ triQ fl (x14,(x15,((x16,(x17,(x18,x19))),(x20,(x21,(x22,x23)))))) (D1,(D2,(D3,(D4,D5)))) (x10,(x11,(x12,x13))) t) (by omega) (by omega) h1 (okE_app hA (tri_ok (by omega) hS hD ht).1) hx
    rw [if_pos ho] at ih;exact ih (by rw [List.length_append]; omega)
  ·rw [if_neg ho,decide_eq_true (by simpa using ho),bite_t,bnd_eq,addI (by omega),show (i:Int) + 1 = ((i + 1:Nat):Int) by omega]
   have ih:=gone_tri hfl hmk hst (m:=m) (x0:=x0) (x1:=x1) (x2:=x2) (x3:=x3) (x6:=x6) (x9:=x9) (x10:=x10) (x11:=x11) (x12:=x12) (x13:=x13) (x14:=x14) (x15:=x15) (x16:=x16) (x17:=x17) (x18:=x18) (x19:=x19) (x20:=x20) (x21:=x21) (x22:=x22) (x23:=x23) hS hd hD k n (i + 1) A (by omega) (by omega) hm hA (by rw [if_neg ho] at hL ⊢; exact hL)
   rw [if_neg ho] at ih;exact ih
theorem gone_draw {fl:Nat} (hfl:5000 <= fl) {mk st:Int} (hmk:0 <= mk /\ mk <= 1000000) (hst:0 <= st /\ st <= 100000000) {m:Nat} {x3:T1} {x6:Bool} {x7:Int} {x8:Int} {x9:Int} {x10:Int} {x11:Int} {x12:Int} {x13:Int} {x14:Int} {x15:Int} {x16:Int} {x17:(List T3)} {x18:T9} {x19:(List T5)} {x20:(List T6)} (hS:okS (x11,(x12,((x13,(x14,(x15,x16))),(x17,(x18,(x19,x20))))))) :
  ∀ (k n i:Nat) (A:List EmQ),i + k = x20.length -> k + 1 <= n -> A.length < m -> okE A -> A.length + ((x20.drop i).flatMap (drwQ fl (x11,(x12,((x13,(x14,(x15,x16))),(x17,(x18,(x19,x20)))))) (x7,(x8,(x9,x10))) x6)).length <= 90000 ->
  glazierlaw22_gone_i31_l2 fl n x20 (x20.length:Int) (i:Int) x3 (m:Int) (A.map (·.1)) x6 x7 x8 x9 x10 x11 x12 x13 x14 x15 x16 x17 x18 x19 x20 (mk + (A.length:Int)) (st + sumQ A) = goOut m A ((x20.drop i).flatMap (drwQ fl (x11,(x12,((x13,(x14,(x15,x16))),(x17,(x18,(x19,x20)))))) (x7,(x8,(x9,x10))) x6)) (fun B=>(x3,((3:Int),((m:Int),((B.map (·.1)),(x6,(x7,(x8,(x9,(x10,(x11,(x12,(x13,(x14,(x15,(x16,(x17,(x18,(x19,(x20,((mk + (B.length:Int)),((st + sumQ B),())))))))))))))))))))))) (fun B=>(x3,((m:Int),((B.map (·.1)),(x6,(x7,(x8,(x9,(x10,(x11,(x12,(x13,(x14,(x15,(x16,(x17,(x18,(x19,(x20,((mk + (B.length:Int)),((st + sumQ B),())))))))))))))))))))))
 | 0,n,i,A,hk,hn,hm,hA,hL=>by
  obtain ⟨n,rfl⟩:∃ k,n = k + 1:=⟨n - 1,by omega⟩
  rw [glazierlaw22_gone_i31_l2,bnd_eq,lt_f (by omega),bite_f,List.drop_eq_nil_of_le (by omega),List.flatMap_nil,go_nil hm]
 | k + 1,n,i,A,hk,hn,hm,hA,hL=>by
  obtain ⟨n,rfl⟩:∃ k,n = k + 1:=⟨n - 1,by omega⟩
  have hi:i < x20.length:=by omega
  have hfew:x20.length <= 4:=hS.few;rw [ldrop hi,List.flatMap_cons,List.length_append] at hL;rw [glazierlaw22_gone_i31_l2,bnd_eq,lt_t (by omega),bite_t,lgetK hi,ob_some,bnd_eq,lenK,ldrop hi,List.flatMap_cons]
  have hg:=lgetK hi;have hD:=List.getElem_mem hi;generalize x20[i] = D at hL hg hD ⊢;obtain ⟨D1,D2,D3,D4,D5⟩:=D;have hf4:=(hS.draws _ hD).few;have h:glazierlaw22_gone_i31_l1 fl fl (i:Int) x20 (x20.length:Int) (i:Int) (D5.length:Int) 0 x3 (m:Int) (A.map (·.1)) x6 x7 x8 x9 x10 x11 x12 x13 x14 x15 x16 x17 x18 x19 x20 (mk + (A.length:Int)) (st + sumQ A) = goOut m A (drwQ fl (x11,(x12,((x13,(x14,(x15,x16))),(x17,(x18,(x19,x20)))))) (x7,(x8,(x9,x10))) x6 (D1,(D2,(D3,(D4,D5))))) (fun B=>(x3,((3:Int),((m:Int),((B.map (·.1)),(x6,(x7,(x8,(x9,(x10,(x11,(x12,(x13,(x14,(x15,(x16,(x17,(x18,(x19,(x20,((mk + (B.length:Int)),((st + sumQ B),())))))))))))))))))))))) (fun B=>(x20,((x20.length:Int),((i:Int),(x3,((m:Int),((B.map (·.1)),(x6,(x7,(x8,(x9,(x10,(x11,(x12,(x13,(x14,(x15,(x16,(x17,(x18,(x19,(x20,((mk + (B.length:Int)),((st + sumQ B),())))))))))))))))))))))))):=by
   unfold drwQ at hL ⊢;have h:=gone_tri hfl hmk hst (m:=m) (x0:=(i:Int)) (x1:=x20) (x2:=(x20.length:Int)) (x3:=(i:Int)) (x6:=x3) (x9:=x6) (x10:=x7) (x11:=x8) (x12:=x9) (x13:=x10) (x14:=x11) (x15:=x12) (x16:=x13) (x17:=x14) (x18:=x15) (x19:=x16) (x20:=x17) (x21:=x18) (x22:=x19) (x23:=x20) hS hg hD _ fl 0 A (Nat.zero_add _) (by dsimp only at hf4; omega) hm hA (by rw [List.drop_zero]; dsimp only at hL ⊢; omega)
   rw [List.drop_zero] at h;exact h
  rw [h];rcases go_cases (drwQ fl (x11,(x12,((x13,(x14,(x15,x16))),(x17,(x18,(x19,x20)))))) (x7,(x8,(x9,x10))) x6 (D1,(D2,(D3,(D4,D5))))) (fun B=>(x3,((3:Int),((m:Int),((B.map (·.1)),(x6,(x7,(x8,(x9,(x10,(x11,(x12,(x13,(x14,(x15,(x16,(x17,(x18,(x19,(x20,((mk + (B.length:Int)),((st + sumQ B),())))))))))))))))))))))) (fun B=>(x20,((x20.length:Int),((i:Int),(x3,((m:Int),((B.map (·.1)),(x6,(x7,(x8,(x9,(x10,(x11,(x12,(x13,(x14,(x15,(x16,(x17,(x18,(x19,(x20,((mk + (B.length:Int)),((st + sumQ B),())))))))))))))))))))))))) hm with ⟨B,e1,e2⟩ | ⟨e1,h1,e2⟩
  ·rw [e1,ob_some,os_l,e2]
  ·rw [e1,ob_some,os_r,e2];dsimp only;rw [bnd_eq,addI (by omega),show (i:Int) + 1 = ((i + 1:Nat):Int) by omega]
   exact gone_draw hfl hmk hst hS k n (i + 1) (A ++ drwQ fl (x11,(x12,((x13,(x14,(x15,x16))),(x17,(x18,(x19,x20)))))) (x7,(x8,(x9,x10))) x6 (D1,(D2,(D3,(D4,D5))))) (by omega) (by omega) h1 (okE_app hA (drw_ok (by omega) hS hD).1) (by rw [List.length_append]; omega)
theorem gone_is {fl:Nat} (hfl:5000 <= fl) {mk st:Int} (hmk:0 <= mk /\ mk <= 1000000) (hst:0 <= st /\ st <= 100000000) {m:Nat} (hm:1 <= m) {s:ScnQ} (hS:okS s) (b:BxQ) (o:Bool) :
  glazierlaw22_gone fl (s,(mk,st)) b o (m:Int) = some ((((allQ fl s b o).take m).map (·.1),true),(s,(mk + (((allQ fl s b o).take m).length:Int),st + sumQ ((allQ fl s b o).take m)))):=by
 have hl:=(all_ok (fl:=fl) (by omega) hS (b:=b) (o:=o)).2
 have hfew:=hS.few;obtain ⟨W,H,⟨b1,b2,b3,b4⟩,vs,ts,ps,ds⟩:=s;obtain ⟨c1,c2,c3,c4⟩:=b;have e0:mk + (([]:List EmQ).length:Int) = mk:=by simp
 have e1:st + sumQ [] = st:=by simp [sumQ]
 unfold glazierlaw22_gone scene_Each;rw [ob_some];dsimp only;rw [bnd_eq,lenK];have h:=fun x=>gone_draw hfl hmk hst (m:=m) hS (x3:=x) (x6:=o) (x7:=c1) (x8:=c2) (x9:=c3) (x10:=c4) ds.length fl 0 [] (Nat.zero_add _) (by dsimp only at hfew; omega) (by simp only [List.length_nil]; omega) (fun e he=>by cases he) (by unfold allQ at hl; dsimp only at hl; rw [List.drop_zero]; simp only [List.length_nil]; omega)
 rw [e0,e1] at h;rw [List.map_nil] at h;rw [show ((0:Nat):Int) = 0 from rfl] at h;rw [h,List.drop_zero];unfold goOut allQ;dsimp only;simp only [List.length_nil,Nat.zero_add,List.nil_append,Nat.sub_zero];by_cases hc:(ds.flatMap (drwQ fl (W,(H,((b1,(b2,(b3,b4))),(vs,(ts,(ps,ds)))))) (c1,(c2,(c3,c4))) o)).length < m
 ·rw [if_pos hc,ob_some,os_r,List.take_of_length_le (by omega)]
 ·rw [if_neg hc,ob_some,os_l];dsimp only;rw [eq_f (by decide),bite_f,eq_f (by decide),bite_f,eq_t rfl,bgd_t]
-- MORE
end Go.Proofs.Ytkacojopcajboaa.G
namespace Go.Proofs.Ytkacojopcajboaa.G
open Go Go.RowKit Go.Proofs.Ytkacojopcajboaa.M
section
variable {fl:Nat} {s:ScnQ} {d:DrwQ} {t:TriQ} {p:Int × Tri} {e:EmQ}
theorem mem_em {x y:Int} (h:e ∈ emQ fl s d t p x y):maskT p.2 x y ≠ 0 /\ e = (fragQ fl s d t p x y,(shdQ fl s d p.2 x y).2.1):=by
 unfold emQ at h;split at h
 ·cases h
 ·rename_i hm;exact ⟨hm,by simpa using h⟩
theorem mem_row {y:Int}:∀ {k:Nat} {x:Int},e ∈ rowQ fl s d t p y k x -> ∃ x',x <= x' /\ x' < x + k /\ e ∈ emQ fl s d t p x' y
 | 0,x,h=>by cases h
 | k + 1,x,h=>by
  unfold rowQ at h;rcases List.mem_append.1 h with h | h
  ·exact ⟨x,by omega,by omega,h⟩
  ·obtain ⟨x',h1,h2,h3⟩:=mem_row h;exact ⟨x',by omega,by omega,h3⟩
theorem mem_box {a:Int} {w:Nat}:∀ {k:Nat} {y:Int},e ∈ boxQ fl s d t p a w k y -> ∃ x' y',(a <= x' /\ x' < a + w) /\ (y <= y' /\ y' < y + k) /\ e ∈ emQ fl s d t p x' y'
 | 0,y,h=>by cases h
 | k + 1,y,h=>by
  unfold boxQ at h;rcases List.mem_append.1 h with h | h
  ·obtain ⟨x',h1,h2,h3⟩:=mem_row h;exact ⟨x',y,⟨h1,h2⟩,⟨by omega,by omega⟩,h3⟩
  ·obtain ⟨x',y',h1,h2,h3⟩:=mem_box h;exact ⟨x',y',h1,⟨by omega,by omega⟩,h3⟩
theorem mem_part {b:BxQ} (h:e ∈ partQ fl s d t b p):∃ x y,((inBox s p.2 b).1 <= x /\ x < (inBox s p.2 b).2.2.1) /\ ((inBox s p.2 b).2.1 <= y /\ y < (inBox s p.2 b).2.2.2) /\ e ∈ emQ fl s d t p x y:=by
 obtain ⟨x,y,h1,h2,h3⟩:=mem_box h;exact ⟨x,y,by omega,by omega,h3⟩
end
/-! ### Rows compared -/
theorem eqI (x:Int):F.eq x x = true:=eq_t rfl
/-! ### The document's example -/
def plainQ:ScnQ:=(2,(2,((0,(0,(0,0))),([(0,((-4),(0,(1,(0,(0,(0,0))))))),(4,(4,(0,(1,(0,(0,(0,0))))))),((-4),(4,(0,(1,(0,(0,(0,0)))))))],([],([[(1,(0,(0,(0,0))))]],[(0,(0,((-1),(false,[(0,(0,(1,2)))]))))]))))))
theorem plain_ok:okS plainQ where
 w:=by decide
 h:=by decide
 verts:=fun v hv=>by
  simp only [plainQ,List.mem_cons,List.not_mem_nil,or_false] at hv;rcases hv with rfl | rfl | rfl <;> (unfold fitC inC; decide)
 texs:=fun t ht=>by cases ht
 progs:=fun l hl=>by
  rw [List.mem_singleton.1 hl];exact ⟨VM.one_prog.1,VM.one_prog.2.1,fun h=>absurd h VM.one_prog.2.2⟩
 pfew:=by decide
 few:=by decide
 draws:=fun d hd=>by
  rw [List.mem_singleton.1 hd];refine ⟨by decide,.inl (by decide),by decide,fun t ht=>?_⟩
  rw [List.mem_singleton.1 ht];decide
theorem plain_all:(allQ 60000 plainQ (0,(0,(2,2))) false).map (fun e=>(e.1.1,(e.1.2.1,(e.1.2.2.1,e.2)))) = [(0,(0,(15,1))),(1,(0,(15,1))),(0,(1,(15,1))),(1,(1,(15,1)))]:=by decide +kernel
theorem shown22:glazierlaw22_shown 60000 = some true:=by
 have h:=plain_all;have e:=gone_is (fl:=60000) (by decide) (mk:=0) (st:=0) (by decide) (by decide) (m:=100) (by decide) plain_ok (0,(0,(2,2))) false
 generalize allQ 60000 plainQ (0,(0,(2,2))) false = L at h e;rw [show ((100:Nat):Int) = 100 from rfl] at e;unfold glazierlaw22_shown;rw [show glazierlaw22_plain = some plainQ from rfl,ob_some,e,ob_some]
 match L,h with
 | [a,b,c,d],h=>
  simp only [List.map_cons,List.map_nil,List.cons.injEq,Prod.mk.injEq,and_true] at h;obtain ⟨⟨a1,a2,a3,a4⟩,⟨b1,b2,b3,b4⟩,⟨c1,c2,c3,c4⟩,d1,d2,d3,d4⟩:=h;unfold frags_Maker__Made frags_Maker__Steps;dsimp only [List.take,List.map,List.length];rw [bite_t,bnd_eq,bnd_eq,show F.len [a.1,b.1,c.1,d.1] = 4 from rfl,eqI,bite_t,show F.get [a.1,b.1,c.1,d.1] 0 = some a.1 from rfl,ob_some,bnd_eq,eq_t a3,bite_t,show F.get [a.1,b.1,c.1,d.1] 3 = some d.1 from rfl,ob_some,bnd_eq,eq_t d1,bite_t,ob_some,bnd_eq,eq_t d2,bite_t,ob_some,bnd_eq,show F.eq (0 + ((0 + 1 + 1 + 1 + 1:Nat):Int)) 4 = true from rfl,bite_t,ob_some,bnd_eq];have hs:sumQ [a,b,c,d] = 4:=by unfold sumQ; simp [a4,b4,c4,d4]
  rw [hs];rfl
 | [],h=>simp at h
 | [_],h=>simp at h
 | [_,_],h=>simp at h
 | [_,_,_],h=>simp at h
 | _ :: _ :: _ :: _ :: _ :: _,h=>simp at h
end Go.Proofs.Ytkacojopcajboaa.G
namespace Go.Proofs.Ytkacojopcajboaa.G
open Go Go.RowKit Go.Proofs.Ytkacojopcajboaa.M
def insB (b:BxQ) (f:FragQ):Bool:=decide ((b.1 <= f.1 /\ f.1 < b.2.2.1) /\ (b.2.1 <= f.2.1 /\ f.2.1 < b.2.2.2))
section
variable {fl:Nat} {s:ScnQ} {d:DrwQ} {t:TriQ} {p:Int × Tri}
end
/-! ### Unlike keys -/
def keyOf (e:EmQ):Int × Int × Int × Int × Int:=(e.1.2.2.2.1.2.1,(e.1.2.2.2.1.2.2.1,(e.1.2.2.2.1.2.2.2,(e.1.1,e.1.2.1))))
def unlike (a b:EmQ):Prop:=keyOf a ≠ keyOf b
section
variable {fl:Nat} {s:ScnQ} {d:DrwQ} {t:TriQ} {p:Int × Tri}
theorem row_unlike {y:Int}:∀ (k:Nat) (x:Int),(rowQ fl s d t p y k x).Pairwise unlike
 | 0,x=>List.Pairwise.nil
 | k + 1,x=>by
  unfold rowQ;refine List.pairwise_append.2 ⟨?_,row_unlike k (x + 1),fun a ha b hb he=>?_⟩
  ·unfold emQ;split
   ·exact List.Pairwise.nil
   ·exact List.pairwise_singleton _ _
  ·obtain ⟨_,ea⟩:=mem_em ha;obtain ⟨x',h1,_,h3⟩:=mem_row hb;obtain ⟨_,eb⟩:=mem_em h3;subst ea; subst eb;have:x = x':=by have:=congrArg (·.2.2.2.1) he; exact this
   omega
theorem box_unlike {a:Int} {w:Nat}:∀ (k:Nat) (y:Int),(boxQ fl s d t p a w k y).Pairwise unlike
 | 0,y=>List.Pairwise.nil
 | k + 1,y=>by
  unfold boxQ;refine List.pairwise_append.2 ⟨row_unlike w a,box_unlike k (y + 1),fun q hq r hr he=>?_⟩
  obtain ⟨x1,_,_,h3⟩:=mem_row hq;obtain ⟨_,e1⟩:=mem_em h3;obtain ⟨x2,y2,_,h5,h6⟩:=mem_box hr;obtain ⟨_,e2⟩:=mem_em h6;subst e1; subst e2;have:y = y2:=by have:=congrArg (·.2.2.2.2) he; exact this
  omega
theorem key_part {b:BxQ} {e:EmQ} (h:e ∈ partQ fl s d t b p):(keyOf e).1 = d.1 /\ (keyOf e).2.1 = t.1 /\ (keyOf e).2.2.1 = p.1:=by
 obtain ⟨x,y,_,_,h⟩:=mem_part h;obtain ⟨_,e1⟩:=mem_em h;subst e1;exact ⟨rfl,rfl,rfl⟩
end
theorem flat_unlike {α:Type} {f:α -> List EmQ} {l:List α} (h1:∀ a ∈ l,(f a).Pairwise unlike) (h2:l.Pairwise fun a b=>∀ x ∈ f a,∀ y ∈ f b,unlike x y):(l.flatMap f).Pairwise unlike:=List.pairwise_flatMap.2 ⟨h1,h2⟩
theorem tri_unlike {fl:Nat} {s:ScnQ} (hs:okS s) {d:DrwQ} (hd:d ∈ s.2.2.2.2.2.2) {t:TriQ} (ht:t ∈ d.2.2.2.2) (b:BxQ):(triQ fl s d b t).Pairwise unlike:=by
 unfold triQ;refine flat_unlike (fun p hp=>box_unlike _ _) ?_
 have hf:=tri_fit hs hd ht;have hb:∀ v ∈ polyL [vtx s t.2.1,vtx s t.2.2.1,vtx s t.2.2.2],okB v:=poly_okB (fun v hv=>fitC_ok (hf v hv)) (by simp)
 have hpt:=ptsL_ok (w:=s.1) (h:=s.2.1) (by have:=hs.w; omega) (by have:=hs.h; omega) hb
 refine (setupParts.fan_rises hpt).imp fun {p q} hpq x hx y hy he=>?_
 have h1:=(key_part hx).2.2;have h2:=(key_part hy).2.2;rw [he,h2] at h1;omega
end Go.Proofs.Ytkacojopcajboaa.G
namespace Go.Proofs.Ytkacojopcajboaa.fragsMasks
open Go Go.RowKit Go.Proofs.Ytkacojopcajboaa.M Go.Proofs.Ytkacojopcajboaa.G Go.Proofs
/-! ### Which samples the two have -/
theorem sgn {d z:Int} (hd:0 < d):(0 < d * z ↔ 0 < z) /\ (d * z = 0 ↔ z = 0):=by
 rcases Int.lt_trichotomy z 0 with h | h | h
 ·have:=Int.mul_neg_of_pos_of_neg hd h;omega
 ·subst h;rw [Int.mul_zero];omega
 ·have:=Int.mul_pos hd h;omega
def inA (X0 X1 Y0 Y1 a b:Int):Prop:=(X0 < X1 /\ Y0 < Y1) /\ Y0 <= b /\ a < X1 /\ (X1 - X0) * (b - Y0) <= (Y1 - Y0) * (a - X0)
def inB (X0 X1 Y0 Y1 a b:Int):Prop:=(X0 < X1 /\ Y0 < Y1) /\ b < Y1 /\ X0 <= a /\ (Y1 - Y0) * (a - X0) < (X1 - X0) * (b - Y0)
theorem notboth {X0 X1 Y0 Y1 a b:Int} (h1:inA X0 X1 Y0 Y1 a b) (h2:inB X0 X1 Y0 Y1 a b):False:=by
 unfold inA at h1;unfold inB at h2;omega
theorem rect_of {X0 X1 Y0 Y1 a b:Int} (h:inA X0 X1 Y0 Y1 a b \/ inB X0 X1 Y0 Y1 a b):(X0 <= a /\ a < X1) /\ (Y0 <= b /\ b < Y1):=by
 rcases h with h | h
 ·obtain ⟨⟨hx,hy⟩,h1,h2,h3⟩:=h;have p0:0 <= (X1 - X0) * (b - Y0):=Int.mul_nonneg (by omega) (by omega)
  have q0:X0 <= a:=by
   by_cases h:X0 <= a
   ·exact h
   ·have:=Int.mul_neg_of_pos_of_neg (show 0 < Y1 - Y0 by omega) (show a - X0 < 0 by omega)
    omega
  have q1:(Y1 - Y0) * (a - X0) < (Y1 - Y0) * (X1 - X0):=Int.mul_lt_mul_of_pos_left (by omega) (by omega)
  have q2:(X1 - X0) * (b - Y0) < (X1 - X0) * (Y1 - Y0):=by rw [Int.mul_comm (X1 - X0) (Y1 - Y0)]; omega
  have q3:b - Y0 < Y1 - Y0:=Int.lt_of_mul_lt_mul_left q2 (by omega)
  omega
 ·obtain ⟨⟨hx,hy⟩,h1,h2,h3⟩:=h;have p0:0 <= (Y1 - Y0) * (a - X0):=Int.mul_nonneg (by omega) (by omega)
  have q0:Y0 <= b:=by
   by_cases h:Y0 <= b
   ·exact h
   ·have:=Int.mul_neg_of_pos_of_neg (show 0 < X1 - X0 by omega) (show b - Y0 < 0 by omega)
    omega
  have q1:(X1 - X0) * (b - Y0) < (X1 - X0) * (Y1 - Y0):=Int.mul_lt_mul_of_pos_left (by omega) (by omega)
  have q2:(Y1 - Y0) * (a - X0) < (Y1 - Y0) * (X1 - X0):=by rw [Int.mul_comm (Y1 - Y0) (X1 - X0)]; omega
  have q3:a - X0 < X1 - X0:=Int.lt_of_mul_lt_mul_left q2 (by omega)
  omega
theorem of_rect {X0 X1 Y0 Y1 a b:Int} (h:(X0 <= a /\ a < X1) /\ (Y0 <= b /\ b < Y1)):inA X0 X1 Y0 Y1 a b \/ inB X0 X1 Y0 Y1 a b:=by
 rcases Int.lt_or_le ((Y1 - Y0) * (a - X0)) ((X1 - X0) * (b - Y0)) with k | k
 ·exact .inr ⟨⟨by omega,by omega⟩,by omega,by omega,k⟩
 ·exact .inl ⟨⟨by omega,by omega⟩,by omega,by omega,k⟩
theorem edge_iff {c:Int} {f:Bool} {z:Int} (h:(0 < c ↔ 0 < z) /\ (c = 0 ↔ z = 0)):(decide (0 < c) || (decide (c = 0) && f)) = true ↔ 0 < z \/ (z = 0 /\ f = true):=by
 simp only [Bool.or_eq_true,Bool.and_eq_true,decide_eq_true_eq,h.1,h.2]
def cor (X Y:Int):Px:=(X,(Y,(32768,(0,(0,(0,0))))))
def uA (X0 X1 Y0 Y1:Int):Tri:=(cor X0 Y0,(cor X1 Y0,cor X1 Y1))
def uB (X0 X1 Y0 Y1:Int):Tri:=(cor X0 Y0,(cor X1 Y1,cor X0 Y1))
theorem areaA (X0 X1 Y0 Y1:Int):area (uA X0 X1 Y0 Y1) = (X1 - X0) * (Y1 - Y0):=by
 show (X1 - X0) * (Y1 - Y0) - (Y0 - Y0) * (X1 - X0) = _
 grind
theorem areaB (X0 X1 Y0 Y1:Int):area (uB X0 X1 Y0 Y1) = (X1 - X0) * (Y1 - Y0):=by
 show (X1 - X0) * (Y1 - Y0) - (Y1 - Y0) * (X0 - X0) = _
 grind
theorem area_pos {X0 X1 Y0 Y1:Int} (hx:X0 <= X1) (hy:Y0 <= Y1):0 < (X1 - X0) * (Y1 - Y0) ↔ X0 < X1 /\ Y0 < Y1:=by
 refine ⟨fun h=>?_,fun h=>Int.mul_pos (by omega) (by omega)⟩
 refine ⟨?_,?_⟩
 ·by_cases k:X0 < X1
  ·exact k
  ·obtain rfl:X0 = X1:=by omega
   rw [Int.sub_self,Int.zero_mul] at h;omega
 ·by_cases k:Y0 < Y1
  ·exact k
  ·obtain rfl:Y0 = Y1:=by omega
   rw [Int.sub_self,Int.mul_zero] at h;omega
theorem ins_A {X0 X1 Y0 Y1 a b:Int} (hx:X0 <= X1) (hy:Y0 <= Y1):insT (uA X0 X1 Y0 Y1) a b = true ↔ inA X0 X1 Y0 Y1 a b:=by
 unfold insT inA;rw [areaA,Bool.and_eq_true,Bool.and_eq_true,Bool.and_eq_true,decide_eq_true_eq,area_pos hx hy];refine and_congr_right fun hp=>?_
 have e1:crs (cor X0 Y0) (cor X1 Y0) a b = (X1 - X0) * (b - Y0):=by show (X1 - X0) * (b - Y0) - (Y0 - Y0) * (a - X0) = _; grind
 have e2:crs (cor X1 Y0) (cor X1 Y1) a b = (Y1 - Y0) * (X1 - a):=by show (X1 - X1) * (b - Y0) - (Y1 - Y0) * (a - X1) = _; grind
 have e3:crs (cor X1 Y1) (cor X0 Y0) a b = (Y1 - Y0) * (a - X0) - (X1 - X0) * (b - Y0):=by show (X0 - X1) * (b - Y1) - (Y0 - Y1) * (a - X1) = _; grind
 have f1:frst (cor X0 Y0) (cor X1 Y0) = true:=by show (if Y0 = Y0 then decide (X0 < X1) else _) = true; rw [if_pos rfl]; exact decide_eq_true hp.1
 have f2:frst (cor X1 Y0) (cor X1 Y1) = false:=by show (if Y0 = Y1 then _ else decide (Y1 < Y0)) = false; rw [if_neg (by omega)]; exact decide_eq_false (by omega)
 have f3:frst (cor X1 Y1) (cor X0 Y0) = true:=by show (if Y1 = Y0 then _ else decide (Y0 < Y1)) = true; rw [if_neg (by omega)]; exact decide_eq_true hp.2
 have g1:onIn (cor X0 Y0) (cor X1 Y0) a b = true ↔ Y0 <= b:=by
  unfold onIn; rw [e1,f1,edge_iff (sgn (by omega))]; simp only [and_true]; omega
 have g2:onIn (cor X1 Y0) (cor X1 Y1) a b = true ↔ a < X1:=by
  unfold onIn; rw [e2,f2,edge_iff (sgn (by omega))]; simp only [Bool.false_eq_true,and_false,or_false]; omega
 have g3:onIn (cor X1 Y1) (cor X0 Y0) a b = true ↔ (X1 - X0) * (b - Y0) <= (Y1 - Y0) * (a - X0):=by
  unfold onIn; rw [e3,f3,edge_iff ⟨Iff.rfl,Iff.rfl⟩]; simp only [and_true]; omega
 exact and_congr g1 (and_congr g2 g3)
theorem ins_B {X0 X1 Y0 Y1 a b:Int} (hx:X0 <= X1) (hy:Y0 <= Y1):insT (uB X0 X1 Y0 Y1) a b = true ↔ inB X0 X1 Y0 Y1 a b:=by
 unfold insT inB;rw [areaB,Bool.and_eq_true,Bool.and_eq_true,Bool.and_eq_true,decide_eq_true_eq,area_pos hx hy];refine and_congr_right fun hp=>?_
 have e1:crs (cor X0 Y0) (cor X1 Y1) a b = (X1 - X0) * (b - Y0) - (Y1 - Y0) * (a - X0):=rfl;have e2:crs (cor X1 Y1) (cor X0 Y1) a b = (X1 - X0) * (Y1 - b):=by show (X0 - X1) * (b - Y1) - (Y1 - Y1) * (a - X1) = _; grind
 have e3:crs (cor X0 Y1) (cor X0 Y0) a b = (Y1 - Y0) * (a - X0):=by show (X0 - X0) * (b - Y1) - (Y0 - Y1) * (a - X0) = _; grind
 have f1:frst (cor X0 Y0) (cor X1 Y1) = false:=by show (if Y0 = Y1 then _ else decide (Y1 < Y0)) = false; rw [if_neg (by omega)]; exact decide_eq_false (by omega)
 have f2:frst (cor X1 Y1) (cor X0 Y1) = false:=by show (if Y1 = Y1 then decide (X1 < X0) else _) = false; rw [if_pos rfl]; exact decide_eq_false (by omega)
 have f3:frst (cor X0 Y1) (cor X0 Y0) = true:=by show (if Y1 = Y0 then _ else decide (Y0 < Y1)) = true; rw [if_neg (by omega)]; exact decide_eq_true hp.2
 have g1:onIn (cor X0 Y0) (cor X1 Y1) a b = true ↔ (Y1 - Y0) * (a - X0) < (X1 - X0) * (b - Y0):=by
  unfold onIn; rw [e1,f1,edge_iff ⟨Iff.rfl,Iff.rfl⟩]; simp only [Bool.false_eq_true,and_false,or_false]; omega
 have g2:onIn (cor X1 Y1) (cor X0 Y1) a b = true ↔ b < Y1:=by
  unfold onIn; rw [e2,f2,edge_iff (sgn (by omega))]; simp only [Bool.false_eq_true,and_false,or_false]; omega
 have g3:onIn (cor X0 Y1) (cor X0 Y0) a b = true ↔ X0 <= a:=by
  unfold onIn; rw [e3,f3,edge_iff (sgn (by omega))]; simp only [and_true]; omega
 have:(onIn (cor X0 Y0) (cor X1 Y1) a b = true /\ onIn (cor X1 Y1) (cor X0 Y1) a b = true /\ onIn (cor X0 Y1) (cor X0 Y0) a b = true) ↔ (b < Y1 /\ X0 <= a /\ (Y1 - Y0) * (a - X0) < (X1 - X0) * (b - Y0)):=by
  rw [g1,g2,g3];exact ⟨fun h=>⟨h.2.1,h.2.2,h.1⟩,fun h=>⟨h.2.2,h.1,h.2.1⟩⟩
 exact this
/-! ### Masks -/
def bits (a b c d:Bool):Int:=bitI a 1 + (bitI b 2 + (bitI c 4 + bitI d 8))
theorem mask_bits (u:Tri) (x y:Int):maskT u x y = bits (insT u (16 * x + 2) (16 * y + 6)) (insT u (16 * x + 6) (16 * y + 14)) (insT u (16 * x + 10) (16 * y + 2)) (insT u (16 * x + 14) (16 * y + 10)):=rfl
theorem and_bits:∀ a b c d a' b' c' d':Bool,(a && a') = false -> (b && b') = false -> (c && c') = false -> (d && d') = false -> F.and .u8 (F.or .u8 0 (bits a b c d)) (bits a' b' c' d') = 0:=by decide +kernel
theorem or_all:∀ a b c d a' b' c' d':Bool,(a || a') = true -> (b || b') = true -> (c || c') = true -> (d || d') = true -> F.or .u8 (F.or .u8 0 (bits a b c d)) (bits a' b' c' d') = 15:=by decide +kernel
theorem or_none:F.or .u8 (F.or .u8 0 (bits false false false false)) (bits false false false false) = 0:=by decide +kernel
theorem or_zero:∀ a b c d:Bool,F.or .u8 (F.or .u8 0 (bits a b c d)) 0 = F.or .u8 0 (bits a b c d):=by decide +kernel
theorem and_zero:∀ a b c d:Bool,F.and .u8 0 (bits a b c d) = 0:=by decide +kernel
theorem sm {X0 X1 Y0 Y1:Int} (hx:X0 <= X1) (hy:Y0 <= Y1) (a b:Int):(insT (uA X0 X1 Y0 Y1) a b && insT (uB X0 X1 Y0 Y1) a b) = false /\ ((insT (uA X0 X1 Y0 Y1) a b || insT (uB X0 X1 Y0 Y1) a b) = true ↔ (X0 <= a /\ a < X1) /\ (Y0 <= b /\ b < Y1)):=by
 refine ⟨?_,?_⟩
 ·rw [Bool.eq_false_iff];intro h;rw [Bool.and_eq_true,ins_A hx hy,ins_B hx hy] at h;exact notboth h.1 h.2
 ·rw [Bool.or_eq_true,ins_A hx hy,ins_B hx hy];exact ⟨rect_of,of_rect⟩
theorem sm_f {X0 X1 Y0 Y1:Int} (hx:X0 <= X1) (hy:Y0 <= Y1) {a b:Int} (h:¬ ((X0 <= a /\ a < X1) /\ (Y0 <= b /\ b < Y1))):insT (uA X0 X1 Y0 Y1) a b = false /\ insT (uB X0 X1 Y0 Y1) a b = false:=by
 have:=(sm hx hy a b).2;cases h1:insT (uA X0 X1 Y0 Y1) a b <;> cases h2:insT (uB X0 X1 Y0 Y1) a b <;> simp [h1,h2,h] at this ⊢
theorem mask_in {X0 X1 Y0 Y1:Int} (hx:X0 <= X1) (hy:Y0 <= Y1) {u:Tri} (hu:u = uA X0 X1 Y0 Y1 \/ u = uB X0 X1 Y0 Y1) {x y:Int} (h:maskT u x y ≠ 0):(X0 <= 16 * x + 14 /\ 16 * x + 2 < X1) /\ (Y0 <= 16 * y + 14 /\ 16 * y + 2 < Y1):=by
 have key:∀ a b,insT u a b = true -> (X0 <= a /\ a < X1) /\ (Y0 <= b /\ b < Y1):=fun a b hi=>by
  rcases hu with rfl | rfl
  ·exact (sm hx hy a b).2.1 (by rw [hi]; rfl)
  ·exact (sm hx hy a b).2.1 (by rw [hi,Bool.or_true])
 rw [mask_bits] at h;cases h1:insT u (16 * x + 2) (16 * y + 6)
 ·cases h2:insT u (16 * x + 6) (16 * y + 14)
  ·cases h3:insT u (16 * x + 10) (16 * y + 2)
   ·cases h4:insT u (16 * x + 14) (16 * y + 10)
    ·rw [h1,h2,h3,h4] at h;exact absurd rfl h
    ·have:=key _ _ h4; omega
   ·have:=key _ _ h3; omega
  ·have:=key _ _ h2; omega
 ·have:=key _ _ h1; omega
theorem dep_is {X0 X1 Y0 Y1:Int} {u:Tri} (hu:u = uA X0 X1 Y0 Y1 \/ u = uB X0 X1 Y0 Y1) (ha:0 < area u) (x y:Int):PL.dep u x y = 32768:=by
 have hl:PL.lowZ u = 32768:=by rcases hu with rfl | rfl <;> rfl
 have hh:PL.highZ u = 32768:=by rcases hu with rfl | rfl <;> rfl
 unfold PL.dep;rw [hl,hh,if_pos (show 0 < PL.area u from ha)];omega
/-! ### The scene -/
def vt (a b:Int):Vtx:=(a,(b,(0,(100,(0,(0,(0,0)))))))
def dM:DrwQ:=(0,(0,(-1,(false,[(1,(0,(1,2))),(2,(0,(2,3)))]))))
def tA:TriQ:=(1,(0,(1,2)))
def tB:TriQ:=(2,(0,(2,3)))
def scn (w x y k:Int):ScnQ:=(w,(w,((0,(0,(0,0))),([vt x y,vt (x + k) y,vt (x + k) (y + k),vt x (y + k)],([],([[(1,(0,(0,(0,0))))]],[dM]))))))
theorem scn_ok {w x y k:Int} (hw:1 <= w /\ w <= 12) (hx:-128 <= x /\ x <= 127) (hy:-128 <= y /\ y <= 127) (hk:1 <= k /\ k <= 200):okS (scn w x y k) where
 w:=hw
 h:=hw
 verts:=fun v hv=>by
  have hv:v ∈ [vt x y,vt (x + k) y,vt (x + k) (y + k),vt x (y + k)]:=hv;simp only [List.mem_cons,List.not_mem_nil,or_false] at hv;rcases hv with rfl | rfl | rfl | rfl <;> (unfold fitC inC vt; dsimp only; omega)
 texs:=fun t ht=>by cases ht
 progs:=fun l hl=>by
  rw [List.mem_singleton.1 hl];exact ⟨VM.one_prog.1,VM.one_prog.2.1,fun h=>absurd h VM.one_prog.2.2⟩
 pfew:=by show 1 <= 10; decide
 few:=by show 1 <= 4; decide
 draws:=fun d hd=>by
  rw [List.mem_singleton.1 hd];refine ⟨⟨by decide,by show (0:Int) < ((1:Nat):Int); decide⟩,.inl ⟨rfl,rfl⟩,by decide,fun t ht=>?_⟩
  have ht:t ∈ [tA,tB]:=ht;simp only [List.mem_cons,List.not_mem_nil,or_false] at ht;rcases ht with rfl | rfl
  ·show (0 <= (0:Int) /\ (0:Int) < ((4:Nat):Int)) /\ (0 <= (1:Int) /\ (1:Int) < ((4:Nat):Int)) /\ (0 <= (2:Int) /\ (2:Int) < ((4:Nat):Int)); decide
  ·show (0 <= (0:Int) /\ (0:Int) < ((4:Nat):Int)) /\ (0 <= (2:Int) /\ (2:Int) < ((4:Nat):Int)) /\ (0 <= (3:Int) /\ (3:Int) < ((4:Nat):Int)); decide
/-! ### Parts -/
theorem poly_stays {l:List Vtx} (hl:3 <= l.length) (h:∀ p,isP p -> ∀ v ∈ l,0 <= dist p v):polyL l = l:=by
 have e:allL l = l:=by
  unfold allL;rw [byL_stays (h 0 (by unfold isP; omega)),byL_stays (h 1 (by unfold isP; omega)),byL_stays (h 2 (by unfold isP; omega)),byL_stays (h 3 (by unfold isP; omega)),byL_stays (h 4 (by unfold isP; omega))]
 unfold polyL;rw [e,if_neg (by omega)]
theorem fan3 (p q r:Px):fan [p,q,r] = if (turn (p,(q,r))).2 then [(0,(turn (p,(q,r))).1)] else []:=by
 have e:fan [p,q,r] = piece [p,q,r] 2:=by
  unfold fan;show (List.range' 2 1).flatMap _ = _;rw [show List.range' 2 1 = [2] from rfl,List.flatMap_cons,List.flatMap_nil,List.append_nil]
 rw [e];unfold piece;rfl
def plc (w a:Int):Int:=Int.fdiv (a * (8 * w)) 100 + 8 * w
theorem three {w:Int} (hw:1 <= w /\ w <= 12) {a b c d e f:Int} (ha:-400 <= a /\ a <= 400) (hb:-400 <= b /\ b <= 400) (hc:-400 <= c /\ c <= 400) (hd:-400 <= d /\ d <= 400) (he:-400 <= e /\ e <= 400) (hf:-400 <= f /\ f <= 400) :
  fan (ptsL w w (polyL [vt a b,vt c d,vt e f])) = if (turn (cor (plc w a) (plc w b),(cor (plc w c) (plc w d),cor (plc w e) (plc w f)))).2 then [(0,(turn (cor (plc w a) (plc w b),(cor (plc w c) (plc w d),cor (plc w e) (plc w f)))).1)] else []:=by
 have hp:polyL [vt a b,vt c d,vt e f] = [vt a b,vt c d,vt e f]:=poly_stays (Nat.le_refl 3) fun p hp v hv=>by
  simp only [List.mem_cons,List.not_mem_nil,or_false] at hv;rcases five hp with rfl | rfl | rfl | rfl | rfl <;> rcases hv with rfl | rfl | rfl <;> simp only [dist0,dist1,dist2,dist3,dist4,vt] <;> omega
 have o:∀ (x y:Int),onS w w (vt x y) = true:=fun x y=>decide_eq_true ⟨by omega,by omega,by show (1:Int) <= 100; decide⟩
 have q:∀ (x y:Int),ptS w w (vt x y) = cor (plc w x) (plc w y):=fun x y=>rfl
 rw [hp];unfold ptsL;rw [if_pos (by simp only [List.all_cons,List.all_nil,o]; rfl)]
 simp only [List.map_cons,List.map_nil,q];exact fan3 _ _ _
theorem turn_is {u:Tri} (h:0 <= area u):(if (turn u).2 then [((0:Int),(turn u).1)] else []) = if 0 < area u then [(0,u)] else []:=by
 by_cases h0:area u = 0
 ·have e:turn u = (zt,false):=by unfold turn; rw [if_pos h0]
  rw [e,if_neg (show ¬ 0 < area u by omega)]; rfl
 ·have e:turn u = (u,true):=by unfold turn; rw [if_neg h0,if_neg (by omega)]
  rw [e,if_pos (show 0 < area u by omega)]; rfl
theorem plc_mono {w a b:Int} (hw:1 <= w) (h:a <= b):plc w a <= plc w b:=by
 unfold plc;rw [Int.fdiv_eq_ediv_of_nonneg _ (by decide),Int.fdiv_eq_ediv_of_nonneg _ (by decide)]
 have:=Int.mul_le_mul_of_nonneg_right h (show 0 <= 8 * w by omega)
 omega
/-! ### The fragments of one -/
section
variable {fl:Nat} {s:ScnQ} {d:DrwQ} {t:TriQ} {p:Int × Tri} {e:EmQ}
theorem row_mem {y x':Int} (h:e ∈ emQ fl s d t p x' y):∀ (k:Nat) (x:Int),x <= x' -> x' < x + k -> e ∈ rowQ fl s d t p y k x
 | 0,x,h1,h2=>by omega
 | k + 1,x,h1,h2=>by
  unfold rowQ;by_cases hx:x = x'
  ·subst hx;exact List.mem_append_left _ h
  ·exact List.mem_append_right _ (row_mem h k (x + 1) (by omega) (by omega))
theorem box_mem {a:Int} {w:Nat} {x' y':Int} (h:e ∈ emQ fl s d t p x' y') (h1:a <= x') (h2:x' < a + w):∀ (k:Nat) (y:Int),y <= y' -> y' < y + k -> e ∈ boxQ fl s d t p a w k y
 | 0,y,h3,h4=>by omega
 | k + 1,y,h3,h4=>by
  unfold boxQ;by_cases hy:y = y'
  ·subst hy;exact List.mem_append_left _ (row_mem h w a h1 h2)
  ·exact List.mem_append_right _ (box_mem h h1 h2 k (y + 1) (by omega) (by omega))
end
def idx (f:FragQ):Int:=f.2.1 * 12 + f.1
theorem tri_frags {fl:Nat} {w x y k:Int} (hw:1 <= w /\ w <= 12) (hs:okS (scn w x y k)) {t:TriQ} (ht:t ∈ dM.2.2.2.2) {X0 X1 Y0 Y1:Int} (hx:X0 <= X1) (hy:Y0 <= Y1) {u:Tri} (hu:u = uA X0 X1 Y0 Y1 \/ u = uB X0 X1 Y0 Y1) (hp:partsQ (scn w x y k) t = if 0 < area u then [(0,u)] else []) :
  ((triQ fl (scn w x y k) dM (0,(0,(w,w))) t).map (·.1)).Pairwise (fun a b=>idx a ≠ idx b) /\
  (∀ f ∈ (triQ fl (scn w x y k) dM (0,(0,(w,w))) t).map (·.1),(0 <= f.1 /\ f.1 < w) /\ (0 <= f.2.1 /\ f.2.1 < w) /\ f.2.2.1 = maskT u f.1 f.2.1 /\ f.2.2.1 ≠ 0 /\ f.2.2.2.1.1 = 32768) /\
  (∀ a b:Int,(0 <= a /\ a < w) -> (0 <= b /\ b < w) -> maskT u a b ≠ 0 -> ∃ f ∈ (triQ fl (scn w x y k) dM (0,(0,(w,w))) t).map (·.1),f.1 = a /\ f.2.1 = b):=by
 have hd:dM ∈ (scn w x y k).2.2.2.2.2.2:=List.mem_singleton.2 rfl;have in2:∀ f ∈ (triQ fl (scn w x y k) dM (0,(0,(w,w))) t).map (·.1),(0 <= f.1 /\ f.1 < w) /\ (0 <= f.2.1 /\ f.2.1 < w) /\ f.2.2.1 = maskT u f.1 f.2.1 /\ f.2.2.1 ≠ 0 /\ f.2.2.2.1.1 = 32768:=fun f hf=>by
  obtain ⟨e,he,rfl⟩:=List.mem_map.1 hf;obtain ⟨p,hpp,he⟩:=List.mem_flatMap.1 he;rw [hp] at hpp;split at hpp
  ·rename_i ha;obtain rfl:=List.mem_singleton.1 hpp;obtain ⟨a,b,h1,h2,h3⟩:=mem_part he;obtain ⟨h4,rfl⟩:=mem_em h3;have h1':0 <= a /\ a < w:=by unfold inBox sideLo sideHi scn at h1; dsimp only at h1; omega
   have h2':0 <= b /\ b < w:=by unfold inBox sideLo sideHi scn at h2; dsimp only at h2; omega
   exact ⟨h1',h2',rfl,h4,dep_is hu ha a b⟩
  ·cases hpp
 refine ⟨?_,in2,fun a b ha hb hm=>?_⟩
 ·rw [List.pairwise_map];refine (tri_unlike (fl:=fl) hs hd ht (0,(0,(w,w)))).imp_of_mem fun {e e'} he he' hne hi=>hne ?_
  have i1:=in2 _ (List.mem_map_of_mem he);have i2:=in2 _ (List.mem_map_of_mem he');obtain ⟨p,hpp,he⟩:=List.mem_flatMap.1 he;obtain ⟨p',hpp',he'⟩:=List.mem_flatMap.1 he';have hpe:p = p':=by
   rw [hp] at hpp hpp';split at hpp
   ·rename_i ha;rw [if_pos ha] at hpp';rw [List.mem_singleton.1 hpp,List.mem_singleton.1 hpp']
   ·cases hpp
  subst hpe;obtain ⟨a1,a2,a3⟩:=key_part he;obtain ⟨b1,b2,b3⟩:=key_part he';unfold idx at hi;have c1:e.1.1 = e'.1.1:=by omega
  have c2:e.1.2.1 = e'.1.2.1:=by omega
  have g1:(G.keyOf e).2.2.2 = (G.keyOf e').2.2.2:=by show (e.1.1,e.1.2.1) = (e'.1.1,e'.1.2.1); rw [c1,c2]
  exact Prod.ext (a1.trans b1.symm) (Prod.ext (a2.trans b2.symm) (Prod.ext (a3.trans b3.symm) g1))
 ·have ha':0 < area u:=by
   by_cases h:0 < area u
   ·exact h
   ·exfalso;apply hm;rw [mask_bits];unfold insT;rw [decide_eq_false h];rfl
  have hin:=mask_in hx hy hu hm;have hX:(inBox (scn w x y k) u (0,(0,(w,w)))).1 <= a /\ a < (inBox (scn w x y k) u (0,(0,(w,w)))).2.2.1:=by
   rcases hu with rfl | rfl <;> simp only [inBox,sideLo,sideHi,scn,uA,uB,cor] <;> omega
  have hY:(inBox (scn w x y k) u (0,(0,(w,w)))).2.1 <= b /\ b < (inBox (scn w x y k) u (0,(0,(w,w)))).2.2.2:=by
   rcases hu with rfl | rfl <;> simp only [inBox,sideLo,sideHi,scn,uA,uB,cor] <;> omega
  have hin:(fragQ fl (scn w x y k) dM t (0,u) a b,(shdQ fl (scn w x y k) dM u a b).2.1) ∈ partQ fl (scn w x y k) dM t (0,(0,(w,w))) (0,u):=by
   unfold partQ;refine box_mem (x':=a) (y':=b) ?_ hX.1 (by dsimp only at hX ⊢; omega) _ _ hY.1 (by dsimp only at hY ⊢; omega)
   unfold emQ;rw [if_neg hm];exact List.mem_singleton.2 rfl
  have hmem:(fragQ fl (scn w x y k) dM t (0,u) a b,(shdQ fl (scn w x y k) dM u a b).2.1) ∈ triQ fl (scn w x y k) dM (0,(0,(w,w))) t:=
   List.mem_flatMap.2 ⟨(0,u),by rw [hp,if_pos ha']; exact List.mem_singleton.2 rfl,hin⟩
  exact ⟨_,List.mem_map_of_mem hmem,rfl,rfl⟩
/-! ### What was seen -/
def stp (sn:Nat -> Int) (f:FragQ):Nat -> Int:=fun j=>F.pick (idx f) j (F.or .u8 (sn (idx f).toNat) f.2.2.1) (sn j)
def goodF (sn:Nat -> Int) (f:FragQ):Prop:=(0 <= f.1 /\ f.1 < 12) /\ (0 <= f.2.1 /\ f.2.1 < 12) /\ F.and .u8 (sn (idx f).toNat) f.2.2.1 = 0 /\ f.2.2.2.1.1 = 32768
def good:(Nat -> Int) -> List FragQ -> Prop
 | _,[]=>True
 | sn,f :: r=>goodF sn f /\ good (stp sn f) r
theorem good_app:∀ {A B:List FragQ} {sn:Nat -> Int},good sn A -> good (A.foldl stp sn) B -> good sn (A ++ B)
 | [],B,sn,_,h=>h
 | f :: A,B,sn,h1,h2=>⟨h1.1,good_app (A:=A) h1.2 h2⟩
theorem stp_at {sn:Nat -> Int} {f:FragQ} (h:0 <= idx f):stp sn f (idx f).toNat = F.or .u8 (sn (idx f).toNat) f.2.2.1:=by
 unfold stp F.pick;rw [if_pos (by omega)]
theorem stp_not {sn:Nat -> Int} {f:FragQ} {j:Nat} (h:idx f ≠ (j:Int)):stp sn f j = sn j:=by
 unfold stp F.pick;rw [if_neg h]
theorem run:∀ (L:List FragQ) (sn:Nat -> Int),L.Pairwise (fun a b=>idx a ≠ idx b) -> (∀ f ∈ L,goodF sn f) ->
  good sn L /\ (∀ j:Nat,(∀ f ∈ L,idx f ≠ (j:Int)) -> L.foldl stp sn j = sn j) /\ (∀ f ∈ L,L.foldl stp sn (idx f).toNat = F.or .u8 (sn (idx f).toNat) f.2.2.1)
 | [],sn,_,_=>⟨trivial,fun _ _=>rfl,fun f hf=>by cases hf⟩
 | f :: L,sn,hp,hg=>by
  obtain ⟨h1,h2⟩:=List.pairwise_cons.1 hp;have nn:∀ g ∈ f :: L,0 <= idx g:=fun g hg'=>by
   obtain ⟨a,b,_⟩:=hg g hg';unfold idx;omega
  have st:∀ g ∈ L,stp sn f (idx g).toNat = sn (idx g).toNat:=fun g hg'=>stp_not (by have:=nn g (List.mem_cons_of_mem _ hg'); have:=h1 g hg'; omega)
  obtain ⟨r1,r2,r3⟩:=run L (stp sn f) h2 fun g hg'=>by
   have:=hg g (List.mem_cons_of_mem _ hg');unfold goodF at this ⊢;rw [st g hg'];exact this
  refine ⟨⟨hg f (by simp),r1⟩,fun j hj=>?_,fun g hg'=>?_⟩
  ·show L.foldl stp (stp sn f) j = _;rw [r2 j fun g hg'=>hj g (List.mem_cons_of_mem _ hg'),stp_not (hj f (by simp))]
  ·show L.foldl stp (stp sn f) (idx g).toNat = _;rcases List.mem_cons.1 hg' with rfl | hg'
   ·rw [r2 _ fun q hq=>by have:=h1 q hq; have:=nn g (by simp); omega,stp_at (nn g (by simp))]
   ·rw [r3 g hg',st g hg']
/-! ### The law's loops -/
theorem getS (sn:Nat -> Int) {v:Int} (h0:0 <= v) (h1:v < 144):F.get [sn 0,sn 1,sn 2,sn 3,sn 4,sn 5,sn 6,sn 7,sn 8,sn 9,sn 10,sn 11,sn 12,sn 13,sn 14,sn 15,sn 16,sn 17,sn 18,sn 19,sn 20,sn 21,sn 22,sn 23,sn 24,sn 25,sn 26,sn 27,sn 28,sn 29,sn 30,sn 31,sn 32,sn 33,sn 34,sn 35,sn 36,sn 37,sn 38,sn 39,sn 40,sn 41,sn 42,sn 43,sn 44,sn 45,sn 46,sn 47,sn 48,sn 49,sn 50,sn 51,sn 52,sn 53,sn 54,sn 55,sn 56,sn 57,sn 58,sn 59,sn 60,sn 61,sn 62,sn 63,sn 64,sn 65,sn 66,sn 67,sn 68,sn 69,sn 70,sn 71,sn 72,sn 73,sn 74,sn 75,sn 76,sn 77,sn 78,sn 79,sn 80,sn 81,sn 82,sn 83,sn 84,sn 85,sn 86,sn 87,sn 88,sn 89,sn 90,sn 91,sn 92,sn 93,sn 94,sn 95,sn 96,sn 97,sn 98,sn 99,sn 100,sn 101,sn 102,sn 103,sn 104,sn 105,sn 106,sn 107,sn 108,sn 109,sn 110,sn 111,sn 112,sn 113,sn 114,sn 115,sn 116,sn 117,sn 118,sn 119,sn 120,sn 121,sn 122,sn 123,sn 124,sn 125,sn 126,sn 127,sn 128,sn 129,sn 130,sn 131,sn 132,sn 133,sn 134,sn 135,sn 136,sn 137,sn 138,sn 139,sn 140,sn 141,sn 142,sn 143] v = some (sn v.toNat):=by
 have e:[sn 0,sn 1,sn 2,sn 3,sn 4,sn 5,sn 6,sn 7,sn 8,sn 9,sn 10,sn 11,sn 12,sn 13,sn 14,sn 15,sn 16,sn 17,sn 18,sn 19,sn 20,sn 21,sn 22,sn 23,sn 24,sn 25,sn 26,sn 27,sn 28,sn 29,sn 30,sn 31,sn 32,sn 33,sn 34,sn 35,sn 36,sn 37,sn 38,sn 39,sn 40,sn 41,sn 42,sn 43,sn 44,sn 45,sn 46,sn 47,sn 48,sn 49,sn 50,sn 51,sn 52,sn 53,sn 54,sn 55,sn 56,sn 57,sn 58,sn 59,sn 60,sn 61,sn 62,sn 63,sn 64,sn 65,sn 66,sn 67,sn 68,sn 69,sn 70,sn 71,sn 72,sn 73,sn 74,sn 75,sn 76,sn 77,sn 78,sn 79,sn 80,sn 81,sn 82,sn 83,sn 84,sn 85,sn 86,sn 87,sn 88,sn 89,sn 90,sn 91,sn 92,sn 93,sn 94,sn 95,sn 96,sn 97,sn 98,sn 99,sn 100,sn 101,sn 102,sn 103,sn 104,sn 105,sn 106,sn 107,sn 108,sn 109,sn 110,sn 111,sn 112,sn 113,sn 114,sn 115,sn 116,sn 117,sn 118,sn 119,sn 120,sn 121,sn 122,sn 123,sn 124,sn 125,sn 126,sn 127,sn 128,sn 129,sn 130,sn 131,sn 132,sn 133,sn 134,sn 135,sn 136,sn 137,sn 138,sn 139,sn 140,sn 141,sn 142,sn 143] = (List.range 144).map sn:=by kernel_rfl
 rw [e];unfold F.get;rw [if_pos h0,List.getElem?_map,List.getElem?_range (by omega)]
 rfl
theorem within_t {v:Int} (h0:0 <= v) (h1:v < 144):F.within v 144 = true:=by
 unfold F.within;rw [decide_eq_true h0,decide_eq_true (show v < ((144:Nat):Int) by omega)]
 rfl
theorem l1_is (fl:Nat) {w k x y:Int} {L:List FragQ} (hl:L.length <= 100000):∀ (m n i:Nat) (sn:Nat -> Int),i + m = L.length -> m + 1 <= n -> good sn (L.drop i) ->
  ∃ sn':Nat -> Int,(∀ j,sn' j = (L.drop i).foldl stp sn j) /\ glazierlaw22_FragsMasks_l1 fl n w k x y L (i:Int) (sn 0) (sn 1) (sn 2) (sn 3) (sn 4) (sn 5) (sn 6) (sn 7) (sn 8) (sn 9) (sn 10) (sn 11) (sn 12) (sn 13) (sn 14) (sn 15) (sn 16) (sn 17) (sn 18) (sn 19) (sn 20) (sn 21) (sn 22) (sn 23) (sn 24) (sn 25) (sn 26) (sn 27) (sn 28) (sn 29) (sn 30) (sn 31) (sn 32) (sn 33) (sn 34) (sn 35) (sn 36) (sn 37) (sn 38) (sn 39) (sn 40) (sn 41) (sn 42) (sn 43) (sn 44) (sn 45) (sn 46) (sn 47) (sn 48) (sn 49) (sn 50) (sn 51) (sn 52) (sn 53) (sn 54) (sn 55) (sn 56) (sn 57) (sn 58) (sn 59) (sn 60) (sn 61) (sn 62) (sn 63) (sn 64) (sn 65) (sn 66) (sn 67) (sn 68) (sn 69) (sn 70) (sn 71) (sn 72) (sn 73) (sn 74) (sn 75) (sn 76) (sn 77) (sn 78) (sn 79) (sn 80) (sn 81) (sn 82) (sn 83) (sn 84) (sn 85) (sn 86) (sn 87) (sn 88) (sn 89) (sn 90) (sn 91) (sn 92) (sn 93) (sn 94) (sn 95) (sn 96) (sn 97) (sn 98) (sn 99) (sn 100) (sn 101) (sn 102) (sn 103) (sn 104) (sn 105) (sn 106) (sn 107) (sn 108) (sn 109) (sn 110) (sn 111) (sn 112) (sn 113) (sn 114) (sn 115) (sn 116) (sn 117) (sn 118) (sn 119) (sn 120) (sn 121) (sn 122) (sn 123) (sn 124) (sn 125) (sn 126) (sn 127) (sn 128) (sn 129) (sn 130) (sn 131) (sn 132) (sn 133) (sn 134) (sn 135) (sn 136) (sn 137) (sn 138) (sn 139) (sn 140) (sn 141) (sn 142) (sn 143) = some (.inr (w,(k,(x,(y,(sn' 0,(sn' 1,(sn' 2,(sn' 3,(sn' 4,(sn' 5,(sn' 6,(sn' 7,(sn' 8,(sn' 9,(sn' 10,(sn' 11,(sn' 12,(sn' 13,(sn' 14,(sn' 15,(sn' 16,(sn' 17,(sn' 18,(sn' 19,(sn' 20,(sn' 21,(sn' 22,(sn' 23,(sn' 24,(sn' 25,(sn' 26,(sn' 27,(sn' 28,(sn' 29,(sn' 30,(sn' 31,(sn' 32,(sn' 33,(sn' 34,(sn' 35,(sn' 36,(sn' 37,(sn' 38,(sn' 39,(sn' 40,(sn' 41,(sn' 42,(sn' 43,(sn' 44,(sn' 45,(sn' 46,(sn' 47,(sn' 48,(sn' 49,(sn' 50,(sn' 51,(sn' 52,(sn' 53,(sn' 54,(sn' 55,(sn' 56,(sn' 57,(sn' 58,(sn' 59,(sn' 60,(sn' 61,(sn' 62,(sn' 63,(sn' 64,(sn' 65,(sn' 66,(sn' 67,(sn' 68,(sn' 69,(sn' 70,(sn' 71,(sn' 72,(sn' 73,(sn' 74,(sn' 75,(sn' 76,(sn' 77,(sn' 78,(sn' 79,(sn' 80,(sn' 81,(sn' 82,(sn' 83,(sn' 84,(sn' 85,(sn' 86,(sn' 87,(sn' 88,(sn' 89,(sn' 90,(sn' 91,(sn' 92,(sn' 93,(sn' 94,(sn' 95,(sn' 96,(sn' 97,(sn' 98,(sn' 99,(sn' 100,(sn' 101,(sn' 102,(sn' 103,(sn' 104,(sn' 105,(sn' 106,(sn' 107,(sn' 108,(sn' 109,(sn' 110,(sn' 111,(sn' 112,(sn' 113,(sn' 114,(sn' 115,(sn' 116,(sn' 117,(sn' 118,(sn' 119,(sn' 120,(sn' 121,(sn' 122,(sn' 123,(sn' 124,(sn' 125,(sn' 126,(sn' 127,(sn' 128,(sn' 129,(sn' 130,(sn' 131,(sn' 132,(sn' 133,(sn' 134,(sn' 135,(sn' 136,(sn' 137,(sn' 138,(sn' 139,(sn' 140,(sn' 141,(sn' 142,(sn' 143,())))))))))))))))))))))))))))))))))))))))))))))))))))))))))))))))))))))))))))))))))))))))))))))))))))))))))))))))))))))))))))))))))))))))))))))))))))))
 | 0,n,i,sn,hm,hn,hg=>by
  obtain ⟨n,rfl⟩:∃ k,n = k + 1:=⟨n - 1,by omega⟩
  refine ⟨sn,fun j=>by rw [List.drop_eq_nil_of_le (by omega)]; rfl,?_⟩
  rw [glazierlaw22_FragsMasks_l1,bnd_eq,lenK,bnd_eq,lt_f (by omega),bite_f]
 | m + 1,n,i,sn,hm,hn,hg=>by
  obtain ⟨n,rfl⟩:∃ k,n = k + 1:=⟨n - 1,by omega⟩
  have hi:i < L.length:=by omega
  rw [List.drop_eq_getElem_cons hi] at hg ⊢;obtain ⟨⟨⟨g1,g2⟩,⟨g3,g4⟩,g5,g6⟩,g7⟩:=hg;obtain ⟨sn',e1,e2⟩:=l1_is fl (w:=w) (k:=k) (x:=x) (y:=y) hl m n (i + 1) (stp sn L[i]) (by omega) (by omega) g7
  refine ⟨sn',e1,?_⟩;rw [show ((i + 1:Nat):Int) = (i:Int) + 1 by omega] at e2
  have gi:idx L[i] = L[i].2.1 * 12 + L[i].1:=rfl;rw [gi] at g5;rw [glazierlaw22_FragsMasks_l1,bnd_eq,lenK,bnd_eq,lt_t (by omega),bite_t,lgetK hi,ob_some,bnd_eq,mulI (by omega),ob_some,bnd_eq,addI (by omega),within_t (by omega) (by omega),bgd_t,getS sn (by omega) (by omega),ob_some,ob_some,bnd_eq,g5,bnd_eq,ne_f rfl,bite_f,ob_some,bnd_eq,ne_f g6,bite_f,bgd_t,ob_some,ob_some,bnd_eq,bgd_t,bnd_eq,addI (by omega)]
  exact e2
set_option maxHeartbeats 4000000 in
theorem l2_is (fl:Nat) {w A B C E:Int} (hw:1 <= w /\ w <= 12) (hA:-100000 <= A /\ A <= 100000) (hB:-100000 <= B /\ B <= 100000) (hC:-100000 <= C /\ C <= 100000) (hE:-100000 <= E /\ E <= 100000) {sn:Nat -> Int}
  (hv:∀ px py:Int,(0 <= px /\ px < w) -> (0 <= py /\ py < w) -> ((16 * px > A /\ 16 * px + 15 < B - 1 /\ 16 * py > C /\ 16 * py + 15 < E - 1) -> sn (py * 12 + px).toNat = 15) /\ ((16 * px + 15 < A - 1 \/ 16 * px > B \/ 16 * py + 15 < C - 1 \/ 16 * py > E) -> sn (py * 12 + px).toNat = 0)) :
  ∀ (m n i:Nat),(i:Int) + m = w * w -> m + 1 <= n -> glazierlaw22_FragsMasks_l2 fl n w A B C E (i:Int) (sn 0) (sn 1) (sn 2) (sn 3) (sn 4) (sn 5) (sn 6) (sn 7) (sn 8) (sn 9) (sn 10) (sn 11) (sn 12) (sn 13) (sn 14) (sn 15) (sn 16) (sn 17) (sn 18) (sn 19) (sn 20) (sn 21) (sn 22) (sn 23) (sn 24) (sn 25) (sn 26) (sn 27) (sn 28) (sn 29) (sn 30) (sn 31) (sn 32) (sn 33) (sn 34) (sn 35) (sn 36) (sn 37) (sn 38) (sn 39) (sn 40) (sn 41) (sn 42) (sn 43) (sn 44) (sn 45) (sn 46) (sn 47) (sn 48) (sn 49) (sn 50) (sn 51) (sn 52) (sn 53) (sn 54) (sn 55) (sn 56) (sn 57) (sn 58) (sn 59) (sn 60) (sn 61) (sn 62) (sn 63) (sn 64) (sn 65) (sn 66) (sn 67) (sn 68) (sn 69) (sn 70) (sn 71) (sn 72) (sn 73) (sn 74) (sn 75) (sn 76) (sn 77) (sn 78) (sn 79) (sn 80) (sn 81) (sn 82) (sn 83) (sn 84) (sn 85) (sn 86) (sn 87) (sn 88) (sn 89) (sn 90) (sn 91) (sn 92) (sn 93) (sn 94) (sn 95) (sn 96) (sn 97) (sn 98) (sn 99) (sn 100) (sn 101) (sn 102) (sn 103) (sn 104) (sn 105) (sn 106) (sn 107) (sn 108) (sn 109) (sn 110) (sn 111) (sn 112) (sn 113) (sn 114) (sn 115) (sn 116) (sn 117) (sn 118) (sn 119) (sn 120) (sn 121) (sn 122) (sn 123) (sn 124) (sn 125) (sn 126) (sn 127) (sn 128) (sn 129) (sn 130) (sn 131) (sn 132) (sn 133) (sn 134) (sn 135) (sn 136) (sn 137) (sn 138) (sn 139) (sn 140) (sn 141) (sn 142) (sn 143) = some (.inr ())
 | 0,n,i,hm,hn=>by
  obtain ⟨n,rfl⟩:∃ k,n = k + 1:=⟨n - 1,by omega⟩
  have hww:0 <= w * w /\ w * w <= 144:=⟨Int.mul_nonneg (by omega) (by omega),by have:=Int.mul_le_mul hw.2 hw.2 (by omega) (by decide); omega⟩
  rw [glazierlaw22_FragsMasks_l2,bnd_eq,mulI (by omega),bnd_eq,lt_f (by omega),bite_f]
 | m + 1,n,i,hm,hn=>by
  obtain ⟨n,rfl⟩:∃ k,n = k + 1:=⟨n - 1,by omega⟩
  have hww:0 <= w * w /\ w * w <= 144:=⟨Int.mul_nonneg (by omega) (by omega),by have:=Int.mul_le_mul hw.2 hw.2 (by omega) (by decide); omega⟩
  have ih:=l2_is fl hw hA hB hC hE hv m n (i + 1) (by omega) (by omega)
  rw [show ((i + 1:Nat):Int) = (i:Int) + 1 by omega] at ih
  have h1:=Int.emod_nonneg (i:Int) (show w ≠ 0 by omega)
  have h2:=Int.emod_lt_of_pos (i:Int) (show 0 < w by omega)
  have h3:0 <= (i:Int) / w:=Int.ediv_nonneg (by omega) (by omega)
  have h4:(i:Int) / w < w:=Int.ediv_lt_of_lt_mul (by omega) (by omega)
  have rx:F.rem (i:Int) w = (i:Int) % w:=Int.tmod_eq_emod_of_nonneg (by omega)
  have ry:F.quo .i64 (i:Int) w = (i:Int) / w:=VM.quoI (by omega) (by omega)
  obtain ⟨v1,v2⟩:=hv _ _ ⟨h1,h2⟩ ⟨h3,h4⟩;rw [glazierlaw22_FragsMasks_l2,bnd_eq,mulI (by omega),bnd_eq,lt_t (by omega),bite_t,nz_t (by omega),bgd_t,bnd_eq,rx,bgd_t,bnd_eq,ry]
  generalize (i:Int) % w = px at *
  generalize (i:Int) / w = py at *
  have a1:F.mul .i64 16 px = 16 * px:=mulI (by omega)
  have a2:F.mul .i64 16 py = 16 * py:=mulI (by omega)
  have a3:F.add .i64 (16 * px) 15 = 16 * px + 15:=addI (by omega)
  have a4:F.add .i64 (16 * py) 15 = 16 * py + 15:=addI (by omega)
  have a5:F.sub .i64 A 1 = A - 1:=subI (by omega)
  have a6:F.sub .i64 B 1 = B - 1:=subI (by omega)
  have a7:F.sub .i64 C 1 = C - 1:=subI (by omega)
  have a8:F.sub .i64 E 1 = E - 1:=subI (by omega)
  have a9:F.mul .i64 py 12 = py * 12:=mulI (by omega)
  have a10:F.add .i64 (py * 12) px = py * 12 + px:=addI (by omega)
  have a11:F.within (py * 12 + px) 144 = true:=within_t (by omega) (by omega)
  have a12:F.add .i64 (i:Int) 1 = (i:Int) + 1:=addI (by omega)
  have a13:=getS sn (v:=py * 12 + px) (by omega) (by omega)
  simp only [bnd_eq,a1,a2,a3,a4,a5,a6,a7,a8,a9,a10,a11,a12,a13,bgd_t,ob_some,ih];generalize sn (py * 12 + px).toNat = v at *
  simp only [bite,F.gt,F.lt,f_ne,decide_eq_true_eq]
  repeat' split
  all_goals first | rfl | (exfalso; omega)
/-! ### The law -/
theorem tquo {a:Int} (ha:-1000000 <= a /\ a <= 1000000):Int.fdiv a 100 <= F.quo .i64 a 100 /\ F.quo .i64 a 100 <= Int.fdiv a 100 + 1 /\ -10001 <= Int.fdiv a 100 /\ Int.fdiv a 100 <= 10001:=by
 have h:Int.fdiv a 100 <= a.tdiv 100 /\ a.tdiv 100 <= Int.fdiv a 100 + 1 /\ -10001 <= Int.fdiv a 100 /\ Int.fdiv a 100 <= 10001:=by
  rw [Int.fdiv_eq_ediv_of_nonneg _ (by decide)]
  rcases Int.le_total 0 a with h | h
  ·rw [Int.tdiv_eq_ediv_of_nonneg h];omega
  ·have e:a.tdiv 100 = -((-a) / 100):=by
    have:=Int.neg_tdiv (-a) 100;rw [Int.neg_neg] at this;rw [this,Int.tdiv_eq_ediv_of_nonneg (by omega)]
   rw [e];omega
 have e:F.quo .i64 a 100 = a.tdiv 100:=by
  unfold F.quo;exact wrapI (by omega) (by omega)
 rw [e];exact h
set_option maxHeartbeats 4000000 in
theorem law0 (x0:Int × Int) (side n:Int) (h1:-128 <= x0.1 /\ x0.1 <= 127) (h2:-128 <= x0.2 /\ x0.2 <= 127) (h3:0 <= side /\ side <= 255) (h4:0 <= n /\ n <= 255):∃ fl,glazierlaw22_FragsMasks fl x0 side n = some true:=by
 refine ⟨60000,?_⟩;obtain ⟨x,y⟩:=x0;dsimp only at h1 h2;unfold glazierlaw22_FragsMasks;have rn:F.rem n 12 = n % 12:=Int.tmod_eq_emod_of_nonneg h4.1;have rs:F.rem side 200 = side % 200:=Int.tmod_eq_emod_of_nonneg h3.1;rw [shown22,ob_some,bnd_eq,convI (by omega),bnd_eq,rn,bnd_eq,addI (by omega),bnd_eq,convI (by omega),bnd_eq,rs,bnd_eq,addI (by omega)]
 obtain ⟨w,ew⟩:∃ w,w = 1 + n % 12:=⟨_,rfl⟩
 obtain ⟨k,ek⟩:∃ k,k = 1 + side % 200:=⟨_,rfl⟩
 have hw:1 <= w /\ w <= 12:=by omega
 have hk:1 <= k /\ k <= 200:=by omega
 rw [<- ew,<- ek];clear rn rs ew ek;dsimp only;rw [bnd_eq,convI (by omega),bnd_eq,convI (by omega),bnd_eq,addI (by omega),bnd_eq,bnd_eq,addI (by omega),bnd_eq,bnd_eq,not_t,bite_f]
 have hS:=scn_ok hw h1 h2 hk;have hfl:5000 <= 60000:=by decide
 have ok:=all_ok (fl:=60000) (by decide) hS (b:=(0,(0,(w,w)))) (o:=false)
 have e:=gone_is hfl (mk:=0) (st:=0) (by decide) (by decide) (m:=100000) (by decide) hS (0,(0,(w,w))) false
 rw [show ((100000:Nat):Int) = 100000 from rfl,List.take_of_length_le (i:=100000) (by omega)] at e
 have eall:allQ 60000 (scn w x y k) (0,(0,(w,w))) false = triQ 60000 (scn w x y k) dM (0,(0,(w,w))) tA ++ triQ 60000 (scn w x y k) dM (0,(0,(w,w))) tB:=by
  show ([dM].flatMap _) = _;rw [List.flatMap_cons,List.flatMap_nil,List.append_nil];show ([tA,tB].flatMap _) = _;rw [List.flatMap_cons,List.flatMap_cons,List.flatMap_nil,List.append_nil]
 have hx:=plc_mono hw.1 (show x <= x + k by omega)
 have hy:=plc_mono hw.1 (show y <= y + k by omega)
 have b1:-1000000 <= x * (8 * w) /\ x * (8 * w) <= 1000000:=(by have:=Int.mul_le_mul_of_nonneg_right (c:=8 * w) (show x <= 127 by omega) (by omega); have:=Int.mul_le_mul_of_nonneg_right (c:=8 * w) (show -128 <= x by omega) (by omega); omega)
 have t1:=tquo b1;have q1:F.mul .i64 (F.mul .i64 x 8) w = x * (8 * w):=by rw [mulI (a:=x) (b:=8) (by omega),mulI (by rw [Int.mul_assoc]; omega),Int.mul_assoc]
 have b2:-1000000 <= (x + k) * (8 * w) /\ (x + k) * (8 * w) <= 1000000:=(by have:=Int.mul_le_mul_of_nonneg_right (c:=8 * w) (show (x + k) <= 327 by omega) (by omega); have:=Int.mul_le_mul_of_nonneg_right (c:=8 * w) (show -128 <= (x + k) by omega) (by omega); omega)
 have t2:=tquo b2;have q2:F.mul .i64 (F.mul .i64 (x + k) 8) w = (x + k) * (8 * w):=by rw [mulI (a:=(x + k)) (b:=8) (by omega),mulI (by rw [Int.mul_assoc]; omega),Int.mul_assoc]
 have b3:-1000000 <= y * (8 * w) /\ y * (8 * w) <= 1000000:=(by have:=Int.mul_le_mul_of_nonneg_right (c:=8 * w) (show y <= 127 by omega) (by omega); have:=Int.mul_le_mul_of_nonneg_right (c:=8 * w) (show -128 <= y by omega) (by omega); omega)
 have t3:=tquo b3;have q3:F.mul .i64 (F.mul .i64 y 8) w = y * (8 * w):=by rw [mulI (a:=y) (b:=8) (by omega),mulI (by rw [Int.mul_assoc]; omega),Int.mul_assoc]
 have b4:-1000000 <= (y + k) * (8 * w) /\ (y + k) * (8 * w) <= 1000000:=(by have:=Int.mul_le_mul_of_nonneg_right (c:=8 * w) (show (y + k) <= 327 by omega) (by omega); have:=Int.mul_le_mul_of_nonneg_right (c:=8 * w) (show -128 <= (y + k) by omega) (by omega); omega)
 have t4:=tquo b4;have q4:F.mul .i64 (F.mul .i64 (y + k) 8) w = (y + k) * (8 * w):=by rw [mulI (a:=(y + k)) (b:=8) (by omega),mulI (by rw [Int.mul_assoc]; omega),Int.mul_assoc]
 have q5:F.mul .i64 8 w = 8 * w:=mulI (by omega)
 have q6:F.add .i64 x k = x + k:=addI (by omega)
 have q7:F.add .i64 y k = y + k:=addI (by omega)
 have pA:partsQ (scn w x y k) tA = if 0 < area (uA (plc w x) (plc w (x + k)) (plc w y) (plc w (y + k))) then [(0,uA (plc w x) (plc w (x + k)) (plc w y) (plc w (y + k)))] else []:=by
  refine (three hw (a:=x) (b:=y) (c:=x + k) (d:=y) (e:=x + k) (f:=y + k) (by omega) (by omega) (by omega) (by omega) (by omega) (by omega)).trans (turn_is (u:=uA _ _ _ _) ?_)
  rw [areaA];exact Int.mul_nonneg (by omega) (by omega)
 have pB:partsQ (scn w x y k) tB = if 0 < area (uB (plc w x) (plc w (x + k)) (plc w y) (plc w (y + k))) then [(0,uB (plc w x) (plc w (x + k)) (plc w y) (plc w (y + k)))] else []:=by
  refine (three hw (a:=x) (b:=y) (c:=x + k) (d:=y + k) (e:=x) (f:=y + k) (by omega) (by omega) (by omega) (by omega) (by omega) (by omega)).trans (turn_is (u:=uB _ _ _ _) ?_)
  rw [areaB];exact Int.mul_nonneg (by omega) (by omega)
 obtain ⟨A1,A2,A3⟩:=tri_frags (fl:=60000) hw hS (t:=tA) (by simp [dM,tA]) hx hy (.inl rfl) pA
 obtain ⟨B1,B2,B3⟩:=tri_frags (fl:=60000) hw hS (t:=tB) (by simp [dM,tB]) hx hy (.inr rfl) pB
 rw [eall] at e ok;rw [List.map_append] at e;have hlen:=ok.2;rw [List.length_append] at hlen;have lA:((triQ 60000 (scn w x y k) dM (0,(0,(w,w))) tA).map (·.1)).length = (triQ 60000 (scn w x y k) dM (0,(0,(w,w))) tA).length:=List.length_map ..;have lB:((triQ 60000 (scn w x y k) dM (0,(0,(w,w))) tB).map (·.1)).length = (triQ 60000 (scn w x y k) dM (0,(0,(w,w))) tB).length:=List.length_map ..;have eg:glazierlaw22_gone 60000 ((w,(w,((0,(0,(0,0))),([(x,(y,(0,(100,(0,(0,(0,0))))))),(x + k,(y,(0,(100,(0,(0,(0,0))))))),(x + k,(y + k,(0,(100,(0,(0,(0,0))))))),(x,(y + k,(0,(100,(0,(0,(0,0)))))))],([],([[(1,(0,(0,(0,0))))]],[(0,(0,((-1),(false,[(1,(0,(1,2))),(2,(0,(2,3)))]))))])))))),(0,0)) (0,(0,(w,w))) false 100000 = _:=e;rw [eg,ob_some];clear e eg;dsimp only;rw [bnd_eq,not_t,bite_f];generalize (triQ 60000 (scn w x y k) dM (0,(0,(w,w))) tA).map (·.1) = LA at *
 generalize (triQ 60000 (scn w x y k) dM (0,(0,(w,w))) tB).map (·.1) = LB at *
 have pl:∀ z,plc w z = Int.fdiv (z * (8 * w)) 100 + 8 * w:=fun z=>rfl
 rw [pl x,pl (x + k)] at hx;rw [pl y,pl (y + k)] at hy;rw [pl x,pl (x + k),pl y,pl (y + k)] at A2 A3 B2 B3;clear pA pB pl hS ok h3 h4;generalize Int.fdiv (x * (8 * w)) 100 = fx0 at *
 generalize Int.fdiv ((x + k) * (8 * w)) 100 = fx1 at *
 generalize Int.fdiv (y * (8 * w)) 100 = fy0 at *
 generalize Int.fdiv ((y + k) * (8 * w)) 100 = fy1 at *
 have gA:∀ f ∈ LA,goodF (fun _=>0) f:=fun f hf=>by
  obtain ⟨i1,i2,i3,i4,i5⟩:=A2 f hf;exact ⟨by omega,by omega,by rw [i3,mask_bits]; exact and_zero _ _ _ _,i5⟩
 obtain ⟨ga,ra,sa⟩:=run LA (fun _=>0) A1 gA
 have idx_eq:∀ {f:FragQ} {a b:Int},(0 <= f.1 /\ f.1 < w) -> (0 <= f.2.1 /\ f.2.1 < w) -> (0 <= a /\ a < w) -> (0 <= b /\ b < w) -> idx f = b * 12 + a -> f.1 = a /\ f.2.1 = b:=fun {f a b} g1 g2 g3 g4 g5=>by
  unfold idx at g5;omega
 have s1v:∀ a b:Int,(0 <= a /\ a < w) -> (0 <= b /\ b < w) -> LA.foldl stp (fun _=>0) (b * 12 + a).toNat = F.or .u8 0 (maskT (uA (fx0 + 8 * w) (fx1 + 8 * w) (fy0 + 8 * w) (fy1 + 8 * w)) a b):=fun a b ha hb=>by
  by_cases hm:maskT (uA (fx0 + 8 * w) (fx1 + 8 * w) (fy0 + 8 * w) (fy1 + 8 * w)) a b = 0
  ·rw [hm,ra _ fun f hf h=>?_]
   ·rfl
   ·obtain ⟨i1,i2,i3,i4,i5⟩:=A2 f hf;obtain ⟨k1,k2⟩:=idx_eq i1 i2 ha hb (by omega)
    rw [k1,k2,hm] at i3;exact i4 i3
  ·obtain ⟨f,hf,k1,k2⟩:=A3 a b ha hb hm;have:=sa f hf;rw [show idx f = b * 12 + a by unfold idx; rw [k1,k2]] at this
   rw [this,(A2 f hf).2.2.1,k1,k2]
 have gB:∀ f ∈ LB,goodF (LA.foldl stp (fun _=>0)) f:=fun f hf=>by
  obtain ⟨i1,i2,i3,i4,i5⟩:=B2 f hf;refine ⟨by omega,by omega,?_,i5⟩
  rw [show (idx f).toNat = (f.2.1 * 12 + f.1).toNat from rfl,s1v f.1 f.2.1 i1 i2,i3,mask_bits,mask_bits];exact and_bits _ _ _ _ _ _ _ _ (sm hx hy _ _).1 (sm hx hy _ _).1 (sm hx hy _ _).1 (sm hx hy _ _).1
 obtain ⟨gb,rb,sb⟩:=run LB _ B1 gB;have s2v:∀ a b:Int,(0 <= a /\ a < w) -> (0 <= b /\ b < w) -> LB.foldl stp (LA.foldl stp (fun _=>0)) (b * 12 + a).toNat = F.or .u8 (F.or .u8 0 (maskT (uA (fx0 + 8 * w) (fx1 + 8 * w) (fy0 + 8 * w) (fy1 + 8 * w)) a b)) (maskT (uB (fx0 + 8 * w) (fx1 + 8 * w) (fy0 + 8 * w) (fy1 + 8 * w)) a b):=fun a b ha hb=>by
  by_cases hm:maskT (uB (fx0 + 8 * w) (fx1 + 8 * w) (fy0 + 8 * w) (fy1 + 8 * w)) a b = 0
  ·rw [hm,rb _ fun f hf h=>?_,s1v a b ha hb,mask_bits,or_zero]
   obtain ⟨i1,i2,i3,i4,i5⟩:=B2 f hf;obtain ⟨k1,k2⟩:=idx_eq i1 i2 ha hb (by omega)
   rw [k1,k2,hm] at i3;exact i4 i3
  ·obtain ⟨f,hf,k1,k2⟩:=B3 a b ha hb hm;have:=sb f hf;rw [show idx f = b * 12 + a by unfold idx; rw [k1,k2]] at this
   rw [this,(B2 f hf).2.2.1,k1,k2,s1v a b ha hb]
 obtain ⟨sn',e1,e2⟩:=l1_is 60000 (w:=w) (k:=k) (x:=x) (y:=y) (L:=LA ++ LB) (by rw [List.length_append]; omega) (LA ++ LB).length 60000 0 (fun _=>0) (Nat.zero_add _) (by rw [List.length_append]; omega) (good_app ga gb)
 rw [show ((0:Nat):Int) = 0 from rfl] at e2;rw [e2,ob_some,os_r];clear e2;dsimp only;simp only [bnd_eq,q6,q7,q1,q2,q3,q4,q5];generalize F.quo .i64 (x * (8 * w)) 100 = g1 at *
 generalize F.quo .i64 ((x + k) * (8 * w)) 100 = g2 at *
 generalize F.quo .i64 (y * (8 * w)) 100 = g3 at *
 generalize F.quo .i64 ((y + k) * (8 * w)) 100 = g4 at *
 rw [addI (a:=g1) (by omega),addI (a:=g2) (by omega),addI (a:=g3) (by omega),addI (a:=g4) (by omega)]
 have hww:0 <= w * w /\ w * w <= 144:=⟨Int.mul_nonneg (by omega) (by omega),by have:=Int.mul_le_mul hw.2 hw.2 (by omega) (by decide); omega⟩
 have e3:=l2_is 60000 (A:=g1 + 8 * w) (B:=g2 + 8 * w) (C:=g3 + 8 * w) (E:=g4 + 8 * w) hw (by omega) (by omega) (by omega) (by omega) (sn:=sn') (fun px py hpx hpy=>by
  rw [e1,List.drop_zero,List.foldl_append,s2v px py hpx hpy,mask_bits,mask_bits];refine ⟨fun h=>?_,fun h=>?_⟩
  ·exact or_all _ _ _ _ _ _ _ _ ((sm hx hy _ _).2.2 (by omega)) ((sm hx hy _ _).2.2 (by omega)) ((sm hx hy _ _).2.2 (by omega)) ((sm hx hy _ _).2.2 (by omega))
  ·obtain ⟨c1,c2⟩:=sm_f hx hy (a:=16 * px + 2) (b:=16 * py + 6) (by omega)
   obtain ⟨c3,c4⟩:=sm_f hx hy (a:=16 * px + 6) (b:=16 * py + 14) (by omega)
   obtain ⟨c5,c6⟩:=sm_f hx hy (a:=16 * px + 10) (b:=16 * py + 2) (by omega)
   obtain ⟨c7,c8⟩:=sm_f hx hy (a:=16 * px + 14) (b:=16 * py + 10) (by omega)
   rw [c1,c2,c3,c4,c5,c6,c7,c8]
   exact or_none) (w * w).toNat 60000 0 (by omega) (by omega)
 rw [show ((0:Nat):Int) = 0 from rfl] at e3;rw [e3,ob_some,os_r]
theorem law (x0:(Ty.pair (.int .i8) (.int .i8)).T) (x1 x2:(Ty.int .u8).T) (h0:okT (.pair (.int .i8) (.int .i8)) x0) (h1:okT (.int .u8) x1) (h2:okT (.int .u8) x2):∃ fl,glazierlaw22_FragsMasks fl x0 x1 x2 = some true:=
 law0 x0 x1 x2 (inR_i8.1 h0.1) (inR_i8.1 h0.2) (inR_u8.1 h1) (inR_u8.1 h2)
end Go.Proofs.Ytkacojopcajboaa.fragsMasks
