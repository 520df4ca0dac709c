/- A part of the proof. -/
import Derived.Test.YthnagpmnoncijaaGreatMchI
set_option linter.unusedVariables false
namespace Go.Proofs.YthnagpmnoncijaaGreat.M
open Go Go.RowKit
def Perm.map (mv:Place -> Place):Perm -> Perm
 | .row p tip=>.row (mv p) tip
 | q=>q
theorem Perm.rowless_map {mv:Place -> Place} {p:Perm} (h:p.rowless):(p.map mv).rowless:=by
 cases p with
 | free=>intro q tip e; cases e
 | box n=>intro q tip e; cases e
 | row q tip=>exact absurd rfl (h q tip)
theorem rowless_free:Perm.free.rowless:=fun q tip e=>by cases e
theorem rowless_box {n:Nat}:(Perm.box n).rowless:=fun q tip e=>by cases e
theorem noBox {c:Cell} {q:Place} (h:c.target = some q) (hb:c.aliBox = false) {f:Nat -> Nat} {X:Nat}:∀ m j,q = .box m j -> f m ≠ X:=fun m j e=>by
 subst e;cases c <;> simp [Cell.target] at h
 all_goals (subst h; simp [Cell.aliBox] at hb)
section
variable {P:Program} {E:Env} {sl:Sl} {bx:Bx} {a:Act} {w w':World} {g:Gh} {mv:Place -> Place} {X:Nat} {px:Perm}
def Kept (mv:Place -> Place) (g:Gh) (X:Nat) (q:Place):Prop:=mv q = q /\ ∀ tip,g.perm X ≠ .row q tip
def turned (mv:Place -> Place) (g:Gh) (X:Nat) (px:Perm):Gh:=⟨g.ι,fun b=>if b = X then px else (g.perm b).map mv,g.dy⟩
theorem RelF.turn (h:RelF E sl bx a w g) (hXc:∀ o,w.heap[X]? = some o -> immO o = false) (hX:(g.perm X ≠ .free /\ px ≠ .free) \/ (X = w.heap.size /\ px = .free)) (hpx:E.base <= X \/ px.rowless) (hbel:Bel E.base E.lent w w') (hsz:w'.heap.size = w.heap.size) (h1:∀ b,b ≠ X -> w'.heap[b]? = w.heap[b]?)
  (h2:∀ i v,ok E.base E.k0 g.perm X i -> w.cell? ⟨X,i,none⟩ = some v -> w'.cell? ⟨X,i,none⟩ = some v /\ okp (fun _=>px) X i)
  {sl':Sl} {bx':Bx} (hsl:∀ t x,sl' t = some x -> sl t = some x /\ ∀ (i:Nat) c,x.cs[i]? = some c -> (c.isOwn = true -> Kept mv g X (.slot t i)) /\ ∀ q,c.target = some q -> Kept mv g X q /\ ∀ m j,q = .box m j -> g.ι m ≠ X)
  (hbx:∀ n q,bx' n = some q -> bx n = some q /\ g.ι n ≠ X /\ ∀ (i:Nat) c,q.2[i]? = some c -> c.isOwn = true -> Kept mv g X (.box n i)) :
  RelF E sl' bx' a w' (turned mv g X px):=by
 have hXb:E.base <= X \/ E.lent X:=by
  rcases hX with hX | hX
  ·exact (h.lo X hX.1).1.imp id (·.1)
  ·rw [hX.1]; exact .inl h.base
 have hk:∀ b i v,(ctx E g a w).k b i -> w.cell? ⟨b,i,none⟩ = some v -> w'.cell? ⟨b,i,none⟩ = some v /\ (ctx E (turned mv g X px) a w').k b i:=fun b i v k1 k2=>by
  by_cases hb:b = X
  ·subst hb;obtain ⟨k3,k4⟩:=h2 i v k1 k2;refine ⟨k3,?_⟩;by_cases hbb:b < E.base
   ·simp only [ctx,ok,if_pos hbb] at k1;exact absurd k1 (E.hl b i (hXb.resolve_left (by omega)))
   simp only [ctx,ok,if_neg hbb,okp,turned,if_true];exact k4
  ·refine ⟨(World.cell?_of_block (w:=w) (h1 b hb)).trans k2,?_⟩;simp only [ctx,ok] at k1 ⊢;by_cases hbb:b < E.base
   ·simp only [if_pos hbb] at k1 ⊢; exact k1
   ·simp only [if_neg hbb,okp,turned,if_neg hb] at k1 ⊢;cases hp:g.perm b with
    | free=>simp [Perm.map]
    | box n=>rw [hp] at k1; exact k1.elim
    | row p tip=>rw [hp] at k1; exact k1
 have hk2:∀ b i v,(ctx E g a w).kp b i -> w.cell? ⟨b,i,none⟩ = some v -> w'.cell? ⟨b,i,none⟩ = some v /\ (ctx E (turned mv g X px) a w').kp b i:=kp_mono (fun b hb hn=>h1 b (fun e=>by subst e; rcases hXb with h | h; omega; exact hn h)) hk
 have him:∀ k u,Imm w k u -> Imm w' k u:=Imm.keep fun b o ho h5=>by
  have hb:b ≠ X:=fun e=>by
   subst e;rw [hXc o ho] at h5;cases h5
  rw [h1 b hb]; exact ho
 have hown:∀ q b tip,Kept mv g X q -> g.perm b = .row q tip -> (turned mv g X px).perm b = .row q tip /\ w'.heap[b]? = w.heap[b]?:=fun q b tip hq hp=>by
  have hb:b ≠ X:=fun e=>hq.2 tip (by rw [<- e]; exact hp)
  refine ⟨?_,h1 b hb⟩;simp only [turned,if_neg hb,hp,Perm.map,hq.1]
 refine ⟨fun t x hx=>?_,fun n e cs hn=>?_,fun n e cs hn=>h.nt n e cs (hbx n _ hn).1,fun b hb=>?_,h.below.trans hbel,by rw [hsz]; exact h.base,h.size,h.defers,fun l o hl=>?_,h.li,h.dyn⟩
 ·obtain ⟨k1,k2⟩:=hsl t x hx;refine (h.slots t x k1).mono hk hk2 (fun i y q b tip hy hq hp=>?_) (fun _ _ _ _=>rfl) (fun y q v hy hq hv=>?_) him
  ·rcases hq with ⟨ho,rfl⟩ | hq
   ·exact hown _ b tip ((k2 i y hy).1 ho) hp
   ·exact hown q b tip ((k2 i y hy).2 q hq).1 hp
  ·obtain ⟨i,hi⟩:=List.mem_iff_getElem?.1 hy;have:=((k2 i y hi).2 q hq).2;cases q with
   | slot t j=>exact hv
   | box n j=>exact (World.cell?_of_block (w:=w) (h1 (g.ι n) (this n j rfl))).trans hv
 ·obtain ⟨k1,k2,k3⟩:=hbx n _ hn;obtain ⟨b1,b2⟩:=h.boxes n e cs k1;refine ⟨?_,b2.mono (h1 _ k2) rfl (fun _=>rfl) fun i x y hx _ hc=>(hc x hx).mono hk hk2 (fun q b tip hq hp=>?_) (fun _ _=>rfl) (fun q v hq hv=>?_) him⟩
  ·show (turned mv g X px).perm (g.ι n) = .box n;simp only [turned,if_neg k2,b1,Perm.map]
  ·rcases hq with ⟨ho,rfl⟩ | hq
   ·exact hown _ b tip (k3 i x hx ho) hp
   ·rw [h.nt n e cs k1 x (List.mem_of_getElem? hx)] at hq; cases hq
  ·rw [h.nt n e cs k1 x (List.mem_of_getElem? hx)] at hq; cases hq
 ·simp only [turned] at hb;rw [hsz];split at hb
  ·rename_i hbX;subst hbX;rcases hX with hX | hX
   ·refine ⟨?_,(h.lo b hX.1).2⟩;rcases (h.lo b hX.1).1 with h' | h'
    ·exact .inl h'
    ·rcases hpx with hp | hp
     ·exact .inl hp
     ·exact .inr ⟨h'.1,by simp only [turned,if_true]; exact hp⟩
   ·exact absurd hX.2 hb
  ·rename_i hbX;obtain ⟨k1,k2⟩:=h.lo b (fun hf=>hb (by rw [hf]; rfl))
   exact ⟨k1.imp id fun q=>⟨q.1,by simp only [turned,if_neg hbX]; exact Perm.rowless_map q.2⟩,k2⟩
 ·obtain ⟨k1,k2⟩:=h.ko l o hl;have hlX:l ≠ X:=by
   rintro rfl
   rcases hX with hX | hX
   ·exact hX.1 k2
   ·have:=(Array.getElem?_eq_some_iff.1 k1).1; omega
  refine ⟨by rw [h1 l hlX]; exact k1,?_⟩
  simp only [turned,if_neg hlX,k2,Perm.map]
theorem turn_k (hXb:E.base <= X \/ E.lent X) (h1:∀ b,b ≠ X -> w'.heap[b]? = w.heap[b]?)
  (h2:∀ i v,ok E.base E.k0 g.perm X i -> w.cell? ⟨X,i,none⟩ = some v -> w'.cell? ⟨X,i,none⟩ = some v /\ okp (fun _=>px) X i) :
  ∀ b i v,(ctx E g a w).k b i -> w.cell? ⟨b,i,none⟩ = some v -> w'.cell? ⟨b,i,none⟩ = some v /\ (ctx E (turned mv g X px) a w').k b i:=fun b i v k1 k2=>by
 by_cases hb:b = X
 ·subst hb;obtain ⟨k3,k4⟩:=h2 i v k1 k2;refine ⟨k3,?_⟩;by_cases hbb:b < E.base
  ·simp only [ctx,ok,if_pos hbb] at k1;exact absurd k1 (E.hl b i (hXb.resolve_left (by omega)))
  simp only [ctx,ok,if_neg hbb,okp,turned,if_true];exact k4
 ·refine ⟨(World.cell?_of_block (w:=w) (h1 b hb)).trans k2,?_⟩;simp only [ctx,ok] at k1 ⊢;by_cases hbb:b < E.base
  ·simp only [if_pos hbb] at k1 ⊢; exact k1
  ·simp only [if_neg hbb,okp,turned,if_neg hb] at k1 ⊢;cases hp:g.perm b with
   | free=>simp [Perm.map]
   | box n=>rw [hp] at k1; exact k1.elim
   | row p tip=>rw [hp] at k1; exact k1
theorem turn_cell (hXb:E.base <= X \/ E.lent X) (h1:∀ b,b ≠ X -> w'.heap[b]? = w.heap[b]?)
  (h2:∀ i v,ok E.base E.k0 g.perm X i -> w.cell? ⟨X,i,none⟩ = some v -> w'.cell? ⟨X,i,none⟩ = some v /\ okp (fun _=>px) X i)
  {c:Cell} {p q:Place} {u:Value} (h:CV (ctx E g a w) p c u) (hpq:c.isOwn = true -> mv p = q /\ ∀ tip,g.perm X ≠ .row p tip) (ht:c.target = none) (hXf:∀ o,w.heap[X]? = some o -> immO o = false):CV (ctx E (turned mv g X px) a w') q c u:=by
 have hk:=turn_k (a:=a) (mv:=mv) hXb h1 h2;have hk2:∀ b i v,(ctx E g a w).kp b i -> w.cell? ⟨b,i,none⟩ = some v -> w'.cell? ⟨b,i,none⟩ = some v /\ (ctx E (turned mv g X px) a w').kp b i:=kp_mono (fun b hb hn=>h1 b (fun e=>by subst e; rcases hXb with h | h; omega; exact hn h)) hk
 cases c with
 | c x=>exact h
 | v x=>exact h
 | nilS=>exact h
 | lst t l=>exact DV.mono hk h
 | own e t l=>
  obtain ⟨⟨us,ho⟩,k3,k4⟩:=h;obtain ⟨hm,hX⟩:=hpq rfl;refine ⟨⟨us,ho.1,?_⟩,DV.mono hk k3,fun b hb=>?_⟩
  ·rcases ho.2 with hn | ⟨gb,cap,cur,e1,e2,e3,e4⟩
   ·exact .inl hn
   ·refine .inr ⟨gb,cap,cur,e1,e2,?_,e4⟩;have hbb:u.ownBlock = some gb:=by rw [e1]; rfl
    have hne:gb ≠ X:=fun e=>hX _ (by rw [<- e]; exact k4 gb hbb)
    show w'.heap[gb]? = _;rw [h1 gb hne];exact e3
  ·have hp:=k4 b hb;have hne:b ≠ X:=fun e=>hX _ (by rw [<- e]; exact hp)
   simp only [ctx,turned,if_neg hne];have hp':g.perm b = .row p (l.length * t.n):=hp;rw [hp',Perm.map,hm]
 | ali=>simp [Cell.target] at ht
 | re=>simp [Cell.target] at ht
 | ptr n off=>exact h
 | yld n=>exact h
 | sp n off len cap t=>exact h
 | pe n off t len i fo=>exact h
 | dp cs=>
  obtain ⟨b,off,e,hc⟩:=h;exact ⟨b,off,e,hc.mono hk2 hk⟩
 | dclo f dss=>
  obtain ⟨as,e,hl,hc⟩:=h;exact ⟨as,e,hl,fun i q ds hq hd=>(hc i q ds hq hd).mono hk hk⟩
 | clo f caps=>exact h
 | imm k=>exact Imm.keep (fun b o ho h5=>by
   have hb:b ≠ X:=fun e=>by subst e; rw [hXf o ho] at h5; cases h5
   exact (h1 b hb).trans ho) k u h
 | arr=>exact h
def inK (K:List Ty) (v:Value):Prop:=
 match v with
 | .int k _=>Ty.int k ∈ K
 | .bool _=>Ty.bool ∈ K
 | .string _=>Ty.str ∈ K
 | .slice _ _ _=>Ty.list .unit ∈ K
 | _=>False
theorem cells_length:∀ (t:Ty),t.cells.length = t.n
 | .pair a b=>by simp [Ty.cells,Ty.n,cells_length a,cells_length b]
 | .int _=>rfl
 | .bool=>rfl
 | .str=>rfl
 | .unit=>rfl
 | .list _=>rfl
theorem enc_cells {w:World} {k:Nat -> Nat -> Prop} {K:List Ty}:∀ {t:Ty} {x:t.T} {j:Nat} {d:D} {b:Ty} {u:Value},(enc t x)[j]? = some d -> t.cells[j]? = some (some b) -> DV w k d u -> b ∈ K -> inK K u
 | .int _,x,j,d,b,u,h,hb,hd,hK=>by
  cases j with
  | zero=>simp [enc] at h; simp [Ty.cells] at hb; subst h; subst hb; cases hd; exact hK
  | succ j=>simp [enc] at h
 | .bool,x,j,d,b,u,h,hb,hd,hK=>by
  cases j with
  | zero=>simp [enc] at h; simp [Ty.cells] at hb; subst h; subst hb; cases hd; exact hK
  | succ j=>simp [enc] at h
 | .str,x,j,d,b,u,h,hb,hd,hK=>by
  cases j with
  | zero=>simp [enc] at h; simp [Ty.cells] at hb; subst h; subst hb; cases hd; exact hK
  | succ j=>simp [enc] at h
 | .list t,x,j,d,b,u,h,hb,hd,hK=>by
  cases j with
  | zero=>
   simp [enc] at h; simp [Ty.cells] at hb; subst h; subst hb;obtain ⟨a,cap,e⟩:=hd.len';subst e;exact hK
  | succ j=>simp [enc] at h
 | .unit,x,j,d,b,u,h,hb,hd,hK=>by simp [enc] at h
 | .pair a b',x,j,d,b,u,h,hb,hd,hK=>by
  have hl:a.cells.length = a.n:=cells_length a;simp only [enc] at h;simp only [Ty.cells] at hb;rw [List.getElem?_append] at h hb;rw [enc_length] at h;rw [hl] at hb;split at h
  ·rename_i hj;rw [if_pos hj] at hb;exact enc_cells h hb hd hK
  ·rename_i hj;rw [if_neg hj] at hb;exact enc_cells h hb hd hK
theorem flat_cells:∀ {t:Ty},t.flat = true -> ∀ {j:Nat},j < t.n -> ∃ b,t.cells[j]? = some (some b) /\ b ∈ t.kin
 | .int k,_,j,h=>by
  have:j = 0:=by simp [Ty.n] at h; omega
  subst this;exact ⟨_,rfl,by simp [Ty.kin]⟩
 | .bool,_,j,h=>by
  have:j = 0:=by simp [Ty.n] at h; omega
  subst this;exact ⟨_,rfl,by simp [Ty.kin]⟩
 | .str,_,j,h=>by
  have:j = 0:=by simp [Ty.n] at h; omega
  subst this;exact ⟨_,rfl,by simp [Ty.kin]⟩
 | .list t,hf,j,h=>by cases hf
 | .unit,_,j,h=>by simp [Ty.n] at h
 | .pair a b,hf,j,h=>by
  simp only [Ty.flat,Bool.and_eq_true] at hf;have hl:∀ a:Ty,a.cells.length = a.n:=cells_length
  simp only [Ty.n] at h;simp only [Ty.cells,Ty.kin];rw [List.getElem?_append,hl];split
  ·rename_i hj;obtain ⟨c,h1,h2⟩:=flat_cells hf.1 hj;exact ⟨c,h1,List.mem_append.2 (.inl h2)⟩
  ·obtain ⟨c,h1,h2⟩:=flat_cells hf.2 (show j - a.n < b.n by omega)
   exact ⟨c,h1,List.mem_append.2 (.inr h2)⟩
theorem flat_under:∀ {t:Ty} {K:List Ty},t.flat = true -> t.under K = true
 | .int _,_,_=>rfl
 | .bool,_,_=>rfl
 | .str,_,_=>rfl
 | .unit,_,_=>rfl
 | .list t,_,h=>by cases h
 | .pair a b,K,h=>by
  simp only [Ty.flat,Bool.and_eq_true] at h;simp only [Ty.under,flat_under h.1,flat_under h.2]; rfl
theorem kindsOf_get:∀ {l:List (Option Ty)} {K:List Ty},kindsOf l = some K -> ∀ {j:Nat},j < l.length -> ∃ b,l[j]? = some (some b) /\ b ∈ K
 | [],K,h,j,hj=>by simp at hj
 | some t :: r,K,h,j,hj=>by
  simp only [kindsOf] at h;split at h
  ·rename_i l hl;injection h with h;subst h;cases j with
   | zero=>exact ⟨t,rfl,by simp⟩
   | succ j=>
    obtain ⟨b,h1,h2⟩:=kindsOf_get hl (show j < r.length by simpa using hj)
    exact ⟨b,h1,by simp [h2]⟩
  ·cases h
 | none :: r,K,h,j,hj=>by simp [kindsOf] at h
theorem flat_kin {w:World} {k:Nat -> Nat -> Prop} {t:Ty} {l:List t.T} {b cap n:Nat} {cur:Array Value} {e:TypeId} {z:Nat × Nat} (hf:t.flat = true) (h:DV w k (.lst t l) (.slice (some ⟨b,0,none⟩) n cap)) (hheap:w.heap[b]? = some (.cells cur e z)) {p:Nat} {v:Value} (hp:p < l.length * t.n) (hv:cur[p]? = some v):inK t.kin v:=by
 have hn:0 < t.n:=by
  rcases Nat.eq_zero_or_pos t.n with hz | hz
  ·rw [hz] at hp; omega
  ·exact hz
 have d1:p / t.n < l.length:=Nat.div_lt_of_lt_mul (by rw [Nat.mul_comm]; exact hp)
 have d2:p % t.n < t.n:=Nat.mod_lt _ hn;have d3:p / t.n * t.n + p % t.n = p:=by rw [Nat.mul_comm]; exact Nat.div_add_mod p t.n
 cases h with
 | emp=>simp at hp
 | lst t l b' off cap' x hc h1 hd hcap hm=>
  have h2:=(hc _ _ d1 d2).1;rw [Nat.zero_add,d3] at h2;have h3:x (p / t.n) (p % t.n) = v:=by
   simp only [World.cell?,hheap] at h2;rw [hv] at h2;exact (Option.some.inj h2).symm
  have hdd:=List.getElem?_eq_getElem (l:=enc t l[p / t.n]) (i:=p % t.n) (by rw [enc_length]; exact d2)
  have h4:=hd _ _ _ _ (List.getElem?_eq_getElem d1) hdd;obtain ⟨bk,c1,c2⟩:=flat_cells hf d2;rw [h3] at h4;exact enc_cells hdd c1 h4 c2
theorem DV.farL {w w':World} {k:Nat -> Nat -> Prop} {K:List Ty} {b:Nat} (hch:∀ i v,k b i -> w.cell? ⟨b,i,none⟩ = some v -> w'.cell? ⟨b,i,none⟩ = some v \/ inK K v) (hother:∀ k,k ≠ b -> w'.heap[k]? = w.heap[k]?)
  {t:Ty} (ih:∀ {x:t.T} {j:Nat} {d:D} {u:Value},(enc t x)[j]? = some d -> DV w k d u -> DV w' k d u /\ ¬ inK K u) {l:List t.T} {u:Value} (hd:DV w k (.lst t l) u):DV w' k (.lst t l) u:=by
 cases hd with
 | emp t a cap hm=>exact .emp t a cap hm
 | lst t l b' off cap f hc h1 hd hcap hm=>
  refine .lst t _ b' off cap f (fun i j hi hj=>?_) h1 (fun i j e d he hdd=>(ih hdd (hd i j e d he hdd)).1) hcap hm
  obtain ⟨h2,h3⟩:=hc i j hi hj;refine ⟨?_,h3⟩;by_cases hb:b' = b
  ·subst hb;rcases hch _ _ h3 h2 with h4 | h4
   ·exact h4
   ·exfalso;have hel:=enc_length t (l[i]'hi);have hdd:=List.getElem?_eq_getElem (l:=enc t (l[i]'hi)) (i:=j) (by rw [hel]; exact hj)
    exact (ih hdd (hd i j _ _ (List.getElem?_eq_getElem hi) hdd)).2 h4
  ·exact (World.cell?_of_block (w:=w) (hother b' hb)).trans h2
theorem DV.farS {w w':World} {k:Nat -> Nat -> Prop} {K:List Ty} {b:Nat} (hch:∀ i v,k b i -> w.cell? ⟨b,i,none⟩ = some v -> w'.cell? ⟨b,i,none⟩ = some v \/ inK K v) (hother:∀ k,k ≠ b -> w'.heap[k]? = w.heap[k]?) :
  ∀ {t:Ty} {x:t.T} {j:Nat} {d:D} {u:Value},t.farA K = true -> (enc t x)[j]? = some d -> DV w k d u -> DV w' k d u /\ ¬ inK K u
 | .int k,x,j,d,u,hf,h,hd=>by
  cases j with
  | zero=>
   simp [enc] at h; subst h;cases hd with
   | v _ h1=>exact ⟨.v _ h1,fun h2=>by simp [Ty.farA] at hf; exact hf h2⟩
  | succ j=>simp [enc] at h
 | .bool,x,j,d,u,hf,h,hd=>by
  cases j with
  | zero=>
   simp [enc] at h; subst h;cases hd with
   | v _ h1=>exact ⟨.v _ h1,fun h2=>by simp [Ty.farA] at hf; exact hf h2⟩
  | succ j=>simp [enc] at h
 | .str,x,j,d,u,hf,h,hd=>by
  cases j with
  | zero=>
   simp [enc] at h; subst h;cases hd with
   | v _ h1=>exact ⟨.v _ h1,fun h2=>by simp [Ty.farA] at hf; exact hf h2⟩
  | succ j=>simp [enc] at h
 | .unit,x,j,d,u,hf,h,hd=>by simp [enc] at h
 | .pair a b',x,j,d,u,hf,h,hd=>by
  simp only [Ty.farA,Bool.and_eq_true] at hf;simp only [enc] at h;rw [List.getElem?_append] at h;split at h
  ·exact DV.farS hch hother hf.1 h hd
  ·exact DV.farS hch hother hf.2 h hd
 | .list t,x,j,d,u,hf,h,hd=>by
  cases j with
  | succ j=>simp [enc] at h
  | zero=>
   simp [enc] at h; subst h;simp only [Ty.farA,Bool.and_eq_true] at hf;refine ⟨DV.farL hch hother (fun h hd=>DV.farS hch hother hf.2 h hd) hd,fun h2=>?_⟩
   obtain ⟨a,cap,e⟩:=hd.len';subst e;have h3:=hf.1;simp at h3;exact h3 h2
theorem DV.underS {w w':World} {k:Nat -> Nat -> Prop} {K:List Ty} {b:Nat} (hch:∀ i v,k b i -> w.cell? ⟨b,i,none⟩ = some v -> w'.cell? ⟨b,i,none⟩ = some v \/ inK K v) (hother:∀ k,k ≠ b -> w'.heap[k]? = w.heap[k]?) :
  ∀ {t:Ty} {x:t.T} {j:Nat} {d:D} {u:Value},t.under K = true -> (enc t x)[j]? = some d -> DV w k d u -> DV w' k d u
 | .int k,x,j,d,u,hf,h,hd=>by
  cases j with
  | zero=>simp [enc] at h; subst h; cases hd with | v _ h1=>exact .v _ h1
  | succ j=>simp [enc] at h
 | .bool,x,j,d,u,hf,h,hd=>by
  cases j with
  | zero=>simp [enc] at h; subst h; cases hd with | v _ h1=>exact .v _ h1
  | succ j=>simp [enc] at h
 | .str,x,j,d,u,hf,h,hd=>by
  cases j with
  | zero=>simp [enc] at h; subst h; cases hd with | v _ h1=>exact .v _ h1
  | succ j=>simp [enc] at h
 | .unit,x,j,d,u,hf,h,hd=>by simp [enc] at h
 | .pair a b',x,j,d,u,hf,h,hd=>by
  simp only [Ty.under,Bool.and_eq_true] at hf;simp only [enc] at h;rw [List.getElem?_append] at h;split at h
  ·exact DV.underS hch hother hf.1 h hd
  ·exact DV.underS hch hother hf.2 h hd
 | .list t,x,j,d,u,hf,h,hd=>by
  cases j with
  | succ j=>simp [enc] at h
  | zero=>
   simp [enc] at h; subst h;exact DV.farL hch hother (fun h hd=>DV.farS hch hother hf h hd) hd
theorem DV.apart {w w':World} {k:Nat -> Nat -> Prop} {K:List Ty} {b:Nat} (hch:∀ i v,k b i -> w.cell? ⟨b,i,none⟩ = some v -> w'.cell? ⟨b,i,none⟩ = some v \/ inK K v) (hother:∀ k,k ≠ b -> w'.heap[k]? = w.heap[k]?) {t:Ty} {l:List t.T} {u:Value} (hf:t.under K = true) (hne:∀ b',u.ownBlock = some b' -> b' ≠ b) (h:DV w k (.lst t l) u):DV w' k (.lst t l) u:=by
 cases h with
 | emp t a cap hm=>exact .emp t a cap hm
 | lst t l b' off cap x hc h1 hd hcap hm=>
  exact .lst t l b' off cap x (fun i j hi hj=>⟨(World.cell?_of_block (w:=w) (hother b' (hne b' rfl))).trans (hc i j hi hj).1,(hc i j hi hj).2⟩) h1 (fun i j e d he hdd=>DV.underS hch hother hf hdd (hd i j e d he hdd)) hcap hm
theorem D.far_sound {w w':World} {k:Nat -> Nat -> Prop} {K:List Ty} {b:Nat} (hch:∀ i v,k b i -> w.cell? ⟨b,i,none⟩ = some v -> w'.cell? ⟨b,i,none⟩ = some v \/ inK K v) (hother:∀ k,k ≠ b -> w'.heap[k]? = w.heap[k]?) {d:D} {u:Value} (hf:d.far K = true) (h:DV w k d u):DV w' k d u /\ ¬ inK K u:=by
 cases h with
 | v x h1=>
  refine ⟨.v _ h1,fun h2=>?_⟩
  cases u with
  | int k y=>simp [D.far] at hf; exact hf h2
  | bool y=>simp [D.far] at hf; exact hf h2
  | string y=>simp [D.far] at hf; exact hf h2
  | slice _ _ _=>simp [D.far] at hf
  | _=>exact h2
 | emp t a cap h1=>exact DV.farS hch hother (t:=.list t) (x:=[]) (j:=0) hf rfl (.emp t a cap h1)
 | lst t l b' off cap f hc h1 hd hcap hm=>exact DV.farS hch hother (t:=.list t) (x:=l) (j:=0) hf rfl (.lst t l b' off cap f hc h1 hd hcap hm)
 | clo f dss as x hl hc h1 hd=>simp [D.far] at hf
theorem DPV.far {w w':World} {kp k:Nat -> Nat -> Prop} {K:List Ty} {b:Nat} (hch:∀ i v,k b i -> w.cell? ⟨b,i,none⟩ = some v -> w'.cell? ⟨b,i,none⟩ = some v \/ inK K v) (hkp:∀ i,kp b i -> k b i) (hother:∀ k,k ≠ b -> w'.heap[k]? = w.heap[k]?) {b' off:Nat} {ds:List D} (hf:ds.all (D.far K) = true) (h:DPV w kp k b' off ds):DPV w' kp k b' off ds:=fun j d hd=>by
 obtain ⟨x,h1,h2,h3,h4⟩:=h j d hd;rw [List.all_eq_true] at hf;obtain ⟨h5,h6⟩:=D.far_sound hch hother (hf d (List.mem_of_getElem? hd)) h4;refine ⟨x,?_,h2,h3,h5⟩;by_cases hb:b' = b
 ·subst hb;exact (hch _ _ (hkp _ h2) h1).resolve_right h6
 ·exact (World.cell?_of_block (w:=w) (hother b' hb)).trans h1
theorem keeps_sound {c:Ctx} {w':World} {q p:Place} {b:Nat} {x:Cell} {u:Value} {tip:Nat} {K:List Ty} (hch:∀ i v,c.k b i -> c.w.cell? ⟨b,i,none⟩ = some v -> w'.cell? ⟨b,i,none⟩ = some v \/ inK K v) (hbc:∀ o,c.w.heap[b]? = some o -> immO o = false) (hkp:∀ i,c.kp b i -> c.k b i) (hb:c.perm b = .row q tip) (hother:∀ k,k ≠ b -> w'.heap[k]? = c.w.heap[k]?) {conc':Place -> Option Value}
  (hconc:∀ t j,conc' (.slot t j) = c.conc (.slot t j)) (h:CV c p x u) (hx:x.keeps q K = true) (hp:x.isOwn = true -> p ≠ q):CV ⟨w',c.k,c.perm,c.ι,conc',c.kp⟩ p x u:=by
 have row:∀ {q':Place} {e:Nat} {t:Ty} {l:List t.T},q' ≠ q -> t.under K = true -> (∃ us,c.w.ownsRow 0 e t.n u l.length us) -> DV c.w c.k (.lst t l) u -> (∀ b,u.ownBlock = some b -> c.perm b = .row q' (l.length * t.n)) ->
   (∃ us,w'.ownsRow 0 e t.n u l.length us) /\ DV w' c.k (.lst t l) u:=fun {q' e t l} hq hf ⟨us,ho⟩ hd hpm=>by
  have hne:∀ b',u.ownBlock = some b' -> b' ≠ b:=fun b' hb' e=>by
   have:=hpm b' hb';rw [e,hb] at this;injection this with this _;exact hq this.symm
  refine ⟨⟨us,ho.1,?_⟩,DV.apart hch hother hf hne hd⟩;rcases ho.2 with hn | ⟨gb,cap,cur,e1,e2,e3,e4⟩
  ·exact .inl hn
  ·refine .inr ⟨gb,cap,cur,e1,e2,?_,e4⟩;rw [hother gb (hne gb (by rw [e1]; rfl))]
   exact e3
 cases x with
 | c x=>exact h
 | v x=>exact h
 | nilS=>exact h
 | ptr n off=>exact h
 | yld n=>exact h
 | sp n off len cap t=>exact h
 | pe n off t len i fo=>exact h
 | clo f caps=>exact h
 | imm k=>exact Imm.keep (fun b' o ho h5=>by
   have hne:b' ≠ b:=fun e=>by subst e; rw [hbc o ho] at h5; cases h5
   rw [hother b' hne]; exact ho) k u h
 | arr=>exact h
 | lst t l=>
  simp only [Cell.keeps] at hx;exact DV.farL hch hother (fun h hd=>DV.farS hch hother hx h hd) h
 | dp cs=>
  obtain ⟨b',off,e,hd⟩:=h;exact ⟨b',off,e,DPV.far hch hkp hother hx hd⟩
 | dclo f dss=>
  obtain ⟨as,e,hl,hd⟩:=h;simp only [Cell.keeps] at hx;rw [List.all_eq_true] at hx;exact ⟨as,e,hl,fun i q' ds h1 h2=>DPV.far hch (fun _ h=>h) hother (hx ds (List.mem_of_getElem? h2)) (hd i q' ds h1 h2)⟩
 | own e t l=>
  obtain ⟨h1,h2,h3⟩:=h;obtain ⟨r1,r2⟩:=row (hp rfl) hx h1 h2 h3;exact ⟨r1,r2,h3⟩
 | ali q' e t l=>
  cases q' with
  | box n j=>simp [Cell.keeps] at hx
  | slot t0 j=>
   simp only [Cell.keeps,Bool.and_eq_true,decide_eq_true_eq] at hx;obtain ⟨h0,h1,h2,h3⟩:=h;obtain ⟨r1,r2⟩:=row hx.1 hx.2 h1 h2 h3;exact ⟨(hconc t0 j).trans h0,r1,r2,h3⟩
 | re q' t i fo=>
  cases q' with
  | box n j=>simp [Cell.keeps] at hx
  | slot t0 j=>
   obtain ⟨b',len,cap,h0,h1⟩:=h;exact ⟨b',len,cap,(hconc t0 j).trans h0,h1⟩
theorem Rel.rewriteI {s s':St} {q:Place} {e:Nat} {t:Ty} {l l':List t.T} {b cap:Nat} {cur cur':Array Value} (hr:Rel E s a w g) (hat:s.at? q = some (.own e t l)) (hconc:(ctx E g a w).conc q = some (.slice (some ⟨b,0,none⟩) l.length cap))
  {K:List Ty} (hheap:w.heap[b]? = some (.cells cur e (0,0))) (hund:t.under K = true) (hl:l'.length = l.length) (hsz:cur'.size = cur.size) (hchg:∀ p v,p < l.length * t.n -> cur[p]? = some v -> cur'[p]? = some v \/ inK K v)
  (hcur:∀ (i j:Nat) x d,l'[i]? = some x -> (enc t x)[j]? = some d -> ∃ y,cur'[i * t.n + j]? = some y /\ y.oneCell' = true /\ DV w (ctx E g a w).k d y) (hs:s.rewriteI q (.own e t l') K = some s') :
  Rel E s' a (w.setRow b cur') g:=by
 let w':=w.setRow b cur'
 have hb':w'.heap[b]? = some (.cells cur' e (0,0)):=setRow_heap w b _ _ e _ hheap;have hoth:∀ k,k ≠ b -> w'.heap[k]? = w.heap[k]?:=fun k hk=>setRow_other w _ k _ hk
 have hsize:w'.heap.size = w.heap.size:=by simp [w',World.setRow]
 obtain ⟨u0,hu0,hown⟩:=hr.at_sound hat;have hu:u0 = .slice (some ⟨b,0,none⟩) l.length cap:=by rw [hconc] at hu0; injection hu0 with hu0; exact hu0.symm
 subst hu;obtain ⟨⟨us0,hrow⟩,hdv,hpm⟩:=hown;have hperm:g.perm b = .row q (l.length * t.n):=hpm b rfl;have hcells:∃ cap' cur0,(⟨b,0,none⟩:Addr) = ⟨b,0,none⟩ /\ cap' = cap /\ cur0 = cur /\ l.length <= cap /\ cap <= maxLen /\ cur.size = cap * t.n:=by
  rcases hrow.2 with ⟨hn,_⟩ | ⟨gb,cap',cur0,e1,e2,e3,e4,e5,e6,e7⟩
  ·cases hn
  ·injection e1 with e1 _ e8;injection e1 with e1;injection e1 with e1;subst e1; subst e8;have e3':w.heap[b]? = some (.cells cur0 e (0,0)):=e3;rw [hheap] at e3';injection e3' with e3'
   injection e3' with e3'
   subst e3';exact ⟨cap,cur,rfl,rfl,rfl,e4,e5,e6⟩
 obtain ⟨_,_,_,_,_,c1,c2,c3⟩:=hcells;have hbase:E.base <= b:=(hr.lo b (by rw [hperm]; simp)).1.resolve_right fun h=>h.2 _ _ hperm
 have hch:∀ i v,(ctx E g a w).k b i -> (ctx E g a w).w.cell? ⟨b,i,none⟩ = some v -> w'.cell? ⟨b,i,none⟩ = some v \/ inK K v:=fun i v hk hv=>by
  have hlt:i < l.length * t.n:=by
   simp only [ctx,ok,okp,hperm,if_neg (show ¬ b < E.base by omega)] at hk
   exact hk
  have hv':cur[i]? = some v:=by simpa [ctx,World.cell?,hheap] using hv
  rcases hchg i v hlt hv' with h | h
  ·exact .inl (by simpa [World.cell?,hb'] using h)
  ·exact .inr h
 have hnew:CV (ctx E g a w') q (.own e t l') (.slice (some ⟨b,0,none⟩) l.length cap):=by
  have hle:l.length * t.n <= cur'.size:=by rw [hsz,c3]; exact Nat.mul_le_mul_right _ c1
  refine ⟨⟨cur'.toList.take (l'.length * t.n),by simp [hl]; omega,.inr ⟨b,cap,cur',by rw [hl],Nat.zero_le _,hb',by omega,c2,by rw [hsz,c3],rfl⟩⟩,?_,fun b2 hb2=>?_⟩
  ·rw [<- hl];refine DV.lst t l' b 0 cap (fun i j=>(cur'[i * t.n + j]?).getD undef) (fun i j hi hj=>?_) (fun i j hi hj=>?_) (fun i j x d hx hd=>?_) (by omega) c2
   ·obtain ⟨y,hy,_,_⟩:=hcur i j _ _ (List.getElem?_eq_getElem hi) (List.getElem?_eq_getElem (by rw [enc_length]; exact hj))
    refine ⟨?_,?_⟩
    ·simp only [World.cell?,Nat.zero_add,ctx,hb',hy]; rfl
    ·have hlt:=mul_get (n:=l.length) (show i < l.length by omega) hj
     simp only [ctx,ok,okp,hperm,if_neg (show ¬ b < E.base by omega)]
     omega
   ·obtain ⟨y,hy,h1,_⟩:=hcur i j _ _ (List.getElem?_eq_getElem hi) (List.getElem?_eq_getElem (by rw [enc_length]; exact hj))
    rw [hy]; exact h1
   ·obtain ⟨y,hy,h1,hd'⟩:=hcur i j x d hx hd;rw [hy]; exact DV.underS hch hoth hund hd hd'
  ·injection hb2 with hb2;subst hb2;show g.perm b = _;rw [hperm,hl]
 have keep:∀ {p:Place} {x:Cell} {u:Value},CV (ctx E g a w) p x u -> x.keeps q K = true -> (x.isOwn = true -> p ≠ q) -> CV (ctx E g a w') p x u:=fun {p x u} h hk hp=>
  keeps_sound (c:=ctx E g a w) (w':=w') hch (fun o ho=>by rw [show w.heap[b]? = some o from ho] at hheap; injection hheap with hheap; subst hheap; rfl) (fun i h=>by
   rcases h with h | h
   ·omega
   ·exact h) hperm hoth (fun _ _=>rfl) h hk hp
 have hbox:∀ n e' cs,s.boxes.lookup n = some (e',cs) -> g.ι n ≠ b:=fun n e' cs hn e=>by
  have:=(hr.boxes n e' cs hn).1;rw [e,hperm] at this;cases this
 have hlo:∀ b',g.perm b' ≠ .free -> (E.base <= b' \/ (E.lent b' /\ (g.perm b').rowless)) /\ b' < w'.heap.size:=fun b' hf=>by rw [hsize]; exact hr.lo b' hf
 have hbel:Bel E.base E.lent E.w0 w':=hr.below.trans ⟨rfl,rfl,rfl,by omega,fun k hk _=>hoth k (by omega)⟩
 have hko:∀ l o,g.dy.ko l = some o -> w'.heap[l]? = some o /\ g.perm l = .free:=fun l0 o hl0=>by
  obtain ⟨k1,k2⟩:=hr.ko l0 o hl0;exact ⟨by rw [hoth l0 (fun e=>by rw [e,hperm] at k2; cases k2)]; exact k1,k2⟩
 have slotK:∀ t1 x,s.slots.lookup t1 = some x -> x.cs.all (Cell.keeps q K) = true -> (∀ j,q = .slot t1 j -> False) -> SVR (ctx E g a w') (.slot t1) x (tv g.dy.out a t1):=fun t1 x hx hk hq=>by
  obtain ⟨us,e1,e2,e3,e4⟩:=hr.slots t1 x hx;refine ⟨us,e1,e2,e3,fun i c y hc hy=>⟨(e4 i c y hc hy).1,keep (e4 i c y hc hy).2 ?_ (fun _ e=>hq i e.symm)⟩⟩
  rw [List.all_eq_true] at hk;exact hk c (List.mem_of_getElem? hc)
 have boxK:∀ n e' cs,s.boxes.lookup n = some (e',cs) -> cs.all (Cell.keeps q K) = true -> (∀ j,q = .box n j -> False) -> g.perm (g.ι n) = .box n /\ BoxV (ctx E g a w') (g.ι n) n e' cs:=fun n e' cs hn hk hq=>by
  obtain ⟨h1,h2⟩:=hr.boxes n e' cs hn;refine ⟨h1,h2.mono (hoth _ (hbox n e' cs hn)) rfl (fun _=>rfl) fun i c y hc _ hcv=>keep (hcv c hc) ?_ (fun _ e=>hq i e.symm)⟩
  rw [List.all_eq_true] at hk;exact hk c (List.mem_of_getElem? hc)
 cases q with
 | slot t0 j0=>
  simp only [St.rewriteI] at hs;split at hs
  ·rename_i v hv;split at hs
   ·rename_i hall;injection hs with hs;subst hs;refine ⟨⟨(hr.uniq.slots.filter _).cons fun p hp=>?_,hr.uniq.boxes.filter _⟩,fun t1 x hx=>?_,fun n e' cs hn=>?_,fun n e' cs hn=>hr.nt n e' cs (lookup_filter hr.uniq.boxes hn).1,hlo,hbel,by rw [hsize]; exact hr.base,hr.size,hr.defers,hko,hr.li,hr.dyn⟩
    ·have:=(List.mem_filter.1 hp).2;simp at this;exact this.1
    ·simp only [List.lookup_cons] at hx;by_cases ht:t1 = t0
     ·subst ht;simp at hx;subst hx;simp only [St.at?,hv] at hat;obtain ⟨us,e1,e2,e3,e4⟩:=hr.slots t1 v hv;refine ⟨us,e1,e2,by simp [e3],fun i c y hc hy=>?_⟩
      simp only [List.getElem?_set] at hc;split at hc
      ·rename_i hi;subst hi;split at hc
       ·injection hc with hc;subst hc;have hy1:=(e4 j0 _ y hat hy).1;refine ⟨hy1,?_⟩;have hyc:(ctx E g a w).conc (.slot t1 j0) = some y:=by
         show (flat (tv g.dy.out a t1))[j0]? = some y;rw [e2]; exact hy
        rw [hconc] at hyc;injection hyc with hyc;rw [<- hyc];exact hnew
       ·cases hc
      ·rename_i hi;refine ⟨(e4 i c y hc hy).1,keep (e4 i c y hc hy).2 ?_ (fun _ e=>hi (by injection e with _ e; exact e.symm))⟩
       rw [List.all_eq_true] at hall;refine hall c (List.mem_of_getElem? (i:=i) ?_);rw [List.getElem?_set,if_neg hi];exact hc
     ·have hb2:(t1 == t0) = false:=by simpa using ht
      simp only [hb2] at hx;obtain ⟨k1,k2⟩:=lookup_filter hr.uniq.slots hx;simp at k2;exact slotK t1 x k1 (by rw [List.all_eq_true]; exact k2.2) (fun j e=>ht (by injection e with e _; exact e.symm))
    ·obtain ⟨k1,k2⟩:=lookup_filter hr.uniq.boxes hn;exact boxK n e' cs k1 k2 (fun j e=>by cases e)
   ·cases hs
  ·cases hs
 | box n0 j0=>
  simp only [St.rewriteI] at hs;split at hs
  ·rename_i e0 cs0 hv;split at hs
   ·rename_i hall;injection hs with hs;subst hs;refine ⟨⟨hr.uniq.slots.filter _,(hr.uniq.boxes.filter _).cons fun p hp=>?_⟩,fun t1 x hx=>?_,fun n e' cs hn=>?_,fun n e' cs hn=>?_,hlo,hbel,by rw [hsize]; exact hr.base,hr.size,hr.defers,hko,hr.li,hr.dyn⟩
    ·have:=(List.mem_filter.1 hp).2;simp at this;exact this.1
    ·obtain ⟨k1,k2⟩:=lookup_filter hr.uniq.slots hx;exact slotK t1 x k1 k2 (fun j e=>by cases e)
    ·simp only [List.lookup_cons] at hn;by_cases ht:n = n0
     ·subst ht;simp at hn;obtain ⟨rfl,rfl⟩:=hn;simp only [St.at?,hv] at hat;obtain ⟨us,e1,e2,e4⟩:=hr.norm hv;have hv1:=(St.box?_eq hv).1;refine ⟨(hr.boxes n e0 cs0 hv1).1,.mk (St.box?_eq hv).2 ⟨us,(hoth _ (hbox n e0 cs0 hv1)).trans e1,by simp [e2],fun i c y hc hy=>?_⟩⟩
      simp only [List.getElem?_set] at hc;split at hc
      ·rename_i hi;subst hi;split at hc
       ·injection hc with hc;subst hc;have hy1:=(e4 j0 _ y hat hy).1;refine ⟨hy1,?_⟩;have hyc:(ctx E g a w).conc (.box n j0) = some y:=by
         show w.cell? ⟨g.ι n,j0,none⟩ = some y;simpa [World.cell?,e1] using hy
        rw [hconc] at hyc;injection hyc with hyc;rw [<- hyc];exact hnew
       ·cases hc
      ·rename_i hi;refine ⟨(e4 i c y hc hy).1,keep (e4 i c y hc hy).2 ?_ (fun _ e=>hi (by injection e with _ e; exact e.symm))⟩
       rw [List.all_eq_true] at hall;refine hall c (List.mem_of_getElem? (i:=i) ?_);rw [List.getElem?_set,if_neg hi];exact hc
     ·have hb2:(n == n0) = false:=by simpa using ht
      simp only [hb2] at hn;obtain ⟨k1,k2⟩:=lookup_filter hr.uniq.boxes hn;simp at k2;exact boxK n e' cs k1 (by rw [List.all_eq_true]; exact k2.2) (fun j e=>ht (by injection e with e _; exact e.symm))
    ·simp only [List.lookup_cons] at hn;by_cases ht:n = n0
     ·subst ht;simp at hn;obtain ⟨rfl,rfl⟩:=hn;intro c hc;rcases List.mem_or_eq_of_mem_set hc with hc | rfl
      ·exact hr.nt n e0 cs0 (St.box?_eq hv).1 c hc
      ·rfl
     ·have hb2:(n == n0) = false:=by simpa using ht
      simp only [hb2] at hn;exact hr.nt n e' cs (lookup_filter hr.uniq.boxes hn).1
   ·cases hs
  ·cases hs
theorem lookup_dim {f:List Cell -> List Cell}:∀ {l:List (Nat × Nat × List Cell)} {n:Nat},(l.map fun p=>(p.1,p.2.1,f p.2.2)).lookup n = (l.lookup n).map fun q=>(q.1,f q.2)
 | [],n=>rfl
 | p :: l,n=>by
  rw [List.map_cons,List.lookup_cons,List.lookup_cons];by_cases h:n == p.1
  ·simp [h]
  ·simp only [h];exact lookup_dim
theorem Rel.dim {s:St} (hr:Rel E s a w g) (q:Place) (K:List Ty):Rel E (s.dim q K) a w g:=by
 have look:∀ n e cs,(s.dim q K).boxes.lookup n = some (e,cs) -> ∃ cs0,s.boxes.lookup n = some (e,cs0) /\ cs = cs0.map (Cell.left q K):=fun n e cs h=>by
  unfold St.dim at h;simp only at h;rw [lookup_dim (f:=fun l=>l.map (Cell.left q K))] at h
  cases hb:s.boxes.lookup n with
  | none=>rw [hb] at h; cases h
  | some p=>
   rw [hb] at h;simp only [Option.map_some,Option.some.injEq,Prod.mk.injEq] at h;obtain ⟨rfl,rfl⟩:=h;exact ⟨p.2,rfl,rfl⟩
 refine { hr with uniq:=⟨hr.uniq.slots,?_⟩,boxes:=fun n e cs hn=>?_,nt:=fun n e cs hn c hc=>?_ }
 ·show ((s.boxes.map fun p=>(p.1,p.2.1,p.2.2.map (Cell.left q K))).map (·.1)).Nodup
  rw [List.map_map];exact hr.uniq.boxes
 ·obtain ⟨cs0,h1,rfl⟩:=look n e cs hn;obtain ⟨b1,b2⟩:=hr.boxes n e cs0 h1;refine ⟨b1,b2.mono rfl (by simp) (fun he=>by obtain ⟨l,rfl,_⟩:=b2.2 he; simp [Cell.left,Cell.keeps]) fun i x y hx _ hcv=>?_⟩
  rw [List.getElem?_map] at hx;cases hc:cs0[i]? with
  | none=>rw [hc] at hx; cases hx
  | some c=>
   rw [hc] at hx;simp only [Option.map_some,Option.some.injEq] at hx;subst hx;unfold Cell.left;split
   ·exact hcv c hc
   ·trivial
 ·obtain ⟨cs0,h1,rfl⟩:=look n e cs hn;obtain ⟨c0,h2,rfl⟩:=List.mem_map.1 hc;unfold Cell.left;split
  ·exact hr.nt n e cs0 h1 c0 h2
  ·rfl
theorem dim_at {s:St} {q:Place} {c:Cell} {K:List Ty} (h:s.at? q = some c) (hk:c.keeps q K = true):(s.dim q K).at? q = some c:=by
 cases q with
 | slot t j=>exact h
 | box n j=>
  simp only [St.at?] at h ⊢;unfold St.box? at h ⊢;unfold St.dim;simp only;rw [lookup_dim (f:=fun l=>l.map (Cell.left (.box n j) K))]
  cases hb:s.boxes.lookup n with
  | none=>rw [hb] at h; cases h
  | some p=>
   rw [hb] at h;simp only [Option.map_some,List.getElem?_map] at h ⊢;split at h
   case h_2=>cases h
   rename_i e cs hp;split at hp
   case isFalse=>cases hp
   rename_i hlt;injection hp with hp;injection hp with hp1 hp2;subst hp1;subst hp2;rw [if_pos hlt];simp only [List.getElem?_map];rw [h];simp [Cell.left,hk]
theorem Rel.rewrite {s s':St} {q:Place} {e:Nat} {t:Ty} {l l':List t.T} {b cap:Nat} {cur cur':Array Value} (hr:Rel E s a w g) (hat:s.at? q = some (.own e t l)) (hconc:(ctx E g a w).conc q = some (.slice (some ⟨b,0,none⟩) l.length cap))
  {K:List Ty} (hheap:w.heap[b]? = some (.cells cur e (0,0))) (hund:t.under K = true) (hl:l'.length = l.length) (hsz:cur'.size = cur.size) (hchg:∀ p v,p < l.length * t.n -> cur[p]? = some v -> cur'[p]? = some v \/ inK K v)
  (hcur:∀ (i j:Nat) x d,l'[i]? = some x -> (enc t x)[j]? = some d -> ∃ y,cur'[i * t.n + j]? = some y /\ y.oneCell' = true /\ DV w (ctx E g a w).k d y) (hs:s.rewrite q (.own e t l') K = some s') :
  Rel E s' a (w.setRow b cur') g:=
 (hr.dim q K).rewriteI (dim_at hat hund) hconc hheap hund hl hsz hchg hcur hs
end
end Go.Proofs.YthnagpmnoncijaaGreat.M
