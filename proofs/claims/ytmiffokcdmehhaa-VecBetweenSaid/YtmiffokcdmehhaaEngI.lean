/- Slices that are made, and calls of functions without state; then all operations that set their temporary. -/
import Derived.Test.YtmiffokcdmehhaaEngH
import Derived.Great.BuildSlice
set_option linter.unusedVariables false
namespace Go.Proofs.Ytmiffokcdmehhaa.E
open Go Go.RowKit

section
variable {P : Program} {E : Env} {s : St} {a : Act} {w : World} {g : Gh} {o : Oper} {want : Bool} {h : Option Hint} {v : SV} {ob : Prop} {b : Option (Nat × List Cell)} {d : Nat} {r : Option Nat} {Q : Exit → Act → World → Prop} {sl : Sl} {bx : Bx}

theorem perm_new (hr : Rel E s a w g) : g.perm w.heap.size = .free := perm_newF hr.toF

/-- A new row of one's own, in a temporary. -/
theorem app_row (hF : RelF E sl bx a w g) (hdN : d < E.N) {e sz n cap : Nat} {us : List Value} {xs : List (List D)} {cur : Array Value} {w1 : World} (hw : Below w.heap.size w w1) (hw1 : w1.heap.size = w.heap.size)
    (hl : xs.length = n) (hsz : ∀ q ∈ xs, q.length = sz) (hcap : n ≤ cap) (hm : cap ≤ maxLen) (hcur : cur.size = cap * sz) (hus : cur.toList.take (n * sz) = us) (hlen : us.length = n * sz)
    (h1 : ∀ (i : Nat) y, us[i]? = some y → y.oneCell' = true) (hd : ∀ (i j : Nat) q x y, xs[i]? = some q → q[j]? = some x → us[i * sz + j]? = some y → DV w (ok E.base E.k0 g.perm) x y) :
    ∃ g', RelF E (slApp sl d ⟨.one, [.own e sz xs]⟩ none) (bxApp bx d none) (a.put (some d) (.slice (some ⟨w.heap.size, 0, none⟩) n cap)) (w1.alloc (.cells cur e)) g' := by
  let perm : Nat → Perm := fun b => if b = w.heap.size then .row (.slot d 0) (n * sz) else g.perm b
  have hbel : Below w.heap.size w (w1.alloc (.cells cur e)) := hw.trans ((Below.refl _ _).alloc (by omega) _)
  refine ⟨⟨g.ι, perm⟩, appF_grow hF hdN hbel (fun b hb => by simp only [perm]; rw [if_neg (by omega)]) (fun b hb hf => ?_) (SVR.of_one rfl ?_) rfl⟩
  · simp only [perm] at hf
    split at hf
    · simp; omega
    · have := (hF.lo b hf).2; simp; omega
  · refine newRow_own (g' := ⟨g.ι, perm⟩) (us := us) hF.base hw1 (fun b hb => hbel.block b hb) hl hsz hcap hm hcur hus hlen (by simp [perm]) h1 (fun i j q x y h2 h3 h4 => ?_)
    refine (hd i j q x y h2 h3 h4).mono fun b i z k1 k2 => ?_
    have hbl : b < w.heap.size := World.block_lt_of_cell? w ⟨b, i, none⟩ k2
    refine ⟨(hbel.cell (p := ⟨b, i, none⟩) hbl).trans k2, ?_⟩
    simp only [ok, okp, perm] at k1 ⊢
    rw [if_neg (show ¬ b = w.heap.size by omega)]
    exact k1

theorem mul_get {i j sz n : Nat} (hi : i < n) (hj : j < sz) : i * sz + j < n * sz := by
  have : (i + 1) * sz ≤ n * sz := Nat.mul_le_mul_right _ hi
  rw [Nat.succ_mul] at this; omega

theorem buildSlice_post {t : TypeId} {len : Nat} {parts : Array (Nat × Operand)} (hop : o.op = .buildSlice t len parts) (hc : acalm P want h s o = some (v, ob, b)) (hr : Rel E s a w g) (hF : RelF E sl bx a w g) (hd : o.dst = some d) (hdN : d < E.N) : o.wpIn (Fr r) 9 P a w (PostF E (slApp sl d v b) (bxApp bx d b)) Q := by
  unfold acalm at hc
  rw [hop] at hc
  simp only at hc
  split at hc
  · rename_i e hu
    split at hc
    · rename_i j z ps hj hz hps
      split at hc
      · simp at hc
      · rename_i hj0
        split at hc
        · simp at hc
        · rename_i hsmall
          split at hc
          · rename_i cs hf
            split at hc
            · rename_i ds hds
              simp at hc
              obtain ⟨rfl, _, rfl⟩ := hc
              obtain ⟨zv, zi, z1, z2, z3, z4, z5, z6⟩ := zeroCells_sound hz (ctx E g a w) (.slot 0)
              have hji : zi = j := by rw [hj] at z1; injection z1 with z1; exact z1.symm
              subst hji
              obtain ⟨vs, ev, hlv, hcv⟩ := evalParts_sound hps hr
              obtain ⟨f1, f2, f3⟩ := fill_zeros (c := ctx E g a w) (pl := .slot 0) (len * zi.size) z4 z6 z5 (by omega)
              obtain ⟨rs, g1, g2, g3, g4⟩ := fillCells_sound (c := ctx E g a w) (pl := .slot 0) (fun _ _ h => h) ps vs _ cs _ hf hlv f1 f2 f3 hcv
              have hlc : cs.length = len * zi.size := by
                have hfl : ∀ (l : List (Nat × List Cell)) (x y : List Cell), fillCells (fun i => some (i * zi.size, zi.size)) x l = some y → y.length = x.length := by
                  intro l
                  induction l with
                  | nil => intro x y hxy; simp [fillCells] at hxy; rw [hxy]
                  | cons q l ih =>
                    obtain ⟨qi, qv⟩ := q
                    intro x y hxy
                    simp only [fillCells] at hxy
                    split at hxy
                    · rw [ih _ _ hxy]
                      have hsf : ∀ (ys : List Cell) (x : List Cell) (i : Nat), (setFrom x i ys).length = x.length := by
                        intro ys
                        induction ys with
                        | nil => intro x i; rfl
                        | cons y ys ih => intro x i; simp [setFrom, ih]
                      exact hsf _ _ _
                    · simp at hxy
                rw [hfl _ _ _ hf]
                simp [zerosOf]
              obtain ⟨t1, t2⟩ := toDs_sound (c := ctx E g a w) (pl := .slot 0) hds
              have hrun : (execOp a.eval o).run P w = .ok (.value (.slice (some ⟨w.heap.size, 0, none⟩) len len)) (w.alloc (.cells rs e)) := by
                have hmap : (parts.map fun q => (q.1, a.eval q.2)).toList = vs := by rw [Array.toList_map, ← ev]
                simp only [execOp, hop, Sem.run_bind]
                by_cases h0 : len * zi.size = 0
                · have hl0 : len = 0 := by rcases Nat.mul_eq_zero.1 h0 with h | h <;> omega
                  subst hl0
                  have hp0 : parts.map (fun q => (q.1, a.eval q.2)) = vs.toArray := by apply Array.toList_inj.1; rw [hmap]
                  have r0 : Array.range 0 = (#[] : Array Nat) := rfl
                  rw [Nat.zero_mul, r0, Array.map_empty] at g1
                  simp [Instr.buildSlice, run_underlying hu, sizeOf, typeInfo, hj, newRow, hp0, r0, g1]
                · rw [run_buildSlice w t e len _ rs zi zv hu hj z2 (by omega) h0 (by rw [show (parts.map fun (i, x) => (i, a.eval x)).toList = vs from hmap]; exact g1)]
                  rfl
              refine wpIn_value (by rw [hop]; simp) hrun ?_
              rw [hd]
              have hrs : rs.toList.length = len * zi.size := by rw [Array.length_toList, g2, hlc]
              have hpos : 0 < zi.size := by omega
              have hlen2 : len ≤ 16777216 := Nat.le_trans (Nat.le_mul_of_pos_right _ hpos) (by omega)
              have hdl : ds.length = len * zi.size := by rw [t1, hlc]
              exact app_row hF hdN (xs := chunks zi.size len ds) (us := rs.toList) (w1 := w) (Below.refl _ _) rfl (chunks_length _ _ _) (chunks_sizes _ _ _ hdl) (Nat.le_refl _) (by simp only [maxLen]; omega) (by rw [← Array.length_toList, hrs])
                (by rw [List.take_of_length_le (by omega)]) hrs
                (fun i y hy => by
                  have hi : i < cs.length := by have := (List.getElem?_eq_some_iff.1 hy).1; omega
                  exact (g4 i _ y (List.getElem?_eq_getElem hi) (by simpa using hy)).1)
                (fun i j q x y h2 h3 h4 => t2 rs.toList (fun i x y hx hy => g4 i x y hx (by simpa using hy)) _ x y (chunks_get _ _ _ i j q x h2 h3) h4)
            · simp at hc
          · simp at hc
    · simp at hc
  · simp at hc

theorem evalArgs_sound : ∀ {l : List Operand} {args : List SV}, evalArgs s l = some args → Rel E s a w g → args.length = l.length ∧ ∀ (i : Nat) x y, args[i]? = some x → (l.map a.eval)[i]? = some y → ∃ pl, SVR (ctx E g a w) pl x y
  | [], args, h, _ => by simp [evalArgs] at h; subst h; simp
  | x :: r, args, h, hr => by
    simp only [evalArgs] at h
    split at h
    · rename_i z hz
      cases h1 : evalArgs s r with
      | none => simp [h1] at h
      | some l =>
        simp [h1] at h; subst h
        obtain ⟨l1, l2⟩ := evalArgs_sound h1 hr
        refine ⟨by simp [l1], fun i q y hq hy => ?_⟩
        cases i with
        | zero =>
          simp at hq hy; subst hq hy
          exact ⟨.slot 0, (copied (hr.eval hz)).1⟩
        | succ i => exact l2 i q y (by simpa using hq) (by simpa using hy)
    · simp at h

theorem plain_mono {c c' : Ctx} {p q : Place} {x : Cell} {u : Value} (hp : x.plain = true) (h : CV c p x u) (hk : ∀ b i v, c.k b i → c.w.cell? ⟨b, i, none⟩ = some v → c'.w.cell? ⟨b, i, none⟩ = some v ∧ c'.k b i) : CV c' q x u := by
  cases x with
  | v x => exact h
  | nilS => exact h
  | lst xs => exact DV.mono hk h
  | clo f caps =>
    cases caps with
    | nil => exact h
    | cons => simp [Cell.plain] at hp
  | _ => simp [Cell.plain] at hp

def reloc (d : Nat) : Perm → Perm
  | .row (.slot 0 i) tip => .row (.slot d i) tip
  | .row p tip => .row p tip
  | _ => .free

theorem okp_reloc {perm : Nat → Perm} {d b i : Nat} (h : okp perm b i) : okp (fun b => reloc d (perm b)) b i := by
  unfold okp at h ⊢
  dsimp only
  cases hp : perm b with
  | free => exact trivial
  | box n => rw [hp] at h; exact h.elim
  | row p tip =>
    rw [hp] at h
    cases p with
    | slot t j =>
      cases t with
      | zero => exact h
      | succ t => exact h
    | box n j => exact h

/-- What a function without state hands back, in a temporary of the caller's. -/
theorem res_sound {w w' : World} {perm : Nat → Perm} {rv : SV} {u : Value} (hr : Rel E s a w g) (hb : Below w.heap.size w w') (hlo : ∀ b, perm b ≠ .free → w.heap.size ≤ b ∧ b < w'.heap.size)
    (hres : rv.cs.all Cell.res = true) (hv : SVR ⟨w', ok w.heap.size (ok E.base E.k0 g.perm) perm, perm, fun _ => 0, fun _ => none⟩ (.slot 0) rv u) :
    SVR (ctx E ⟨g.ι, fun b => if b < w.heap.size then g.perm b else reloc d (perm b)⟩ a w') (.slot d) rv u := by
  obtain ⟨us, hu, hf, hl, hc⟩ := hv
  refine ⟨us, hu, hf, hl, fun i x y hx hy => ⟨(hc i x y hx hy).1, ?_⟩⟩
  have h2 := (hc i x y hx hy).2
  have hxr : x.res = true := by rw [List.all_eq_true] at hres; exact hres x (List.mem_of_getElem? hx)
  have hk : ∀ b i v, ok w.heap.size (ok E.base E.k0 g.perm) perm b i → w'.cell? ⟨b, i, none⟩ = some v → w'.cell? ⟨b, i, none⟩ = some v ∧ ok E.base E.k0 (fun b => if b < w.heap.size then g.perm b else reloc d (perm b)) b i := fun b i v k1 k2 => by
    refine ⟨k2, ?_⟩
    have hbase := hr.base
    by_cases hbl : b < w.heap.size
    · simp only [ok, if_pos hbl] at k1
      simp only [ok, okp, if_pos hbl]
      exact k1
    · simp only [ok, if_neg hbl] at k1
      simp only [ok]
      rw [if_neg (show ¬ b < E.base by omega)]
      have := okp_reloc (d := d) k1
      simp only [okp, if_neg hbl] at this ⊢
      exact this
  cases x with
  | own e sz xs =>
    obtain ⟨k1, k2, k3, k4⟩ := h2
    refine ⟨k1, k2, DV.mono hk k3, fun b hbb => ?_⟩
    have hp := k4 b hbb
    simp only at hp
    have hbl := (hlo b (by rw [hp]; simp)).1
    simp only [ctx]
    rw [if_neg (by omega), hp]
    rfl
  | v x => exact plain_mono hxr h2 hk
  | nilS => exact plain_mono hxr h2 hk
  | lst xs => exact plain_mono hxr h2 hk
  | clo f caps => exact plain_mono hxr h2 hk
  | ali => simp [Cell.res, Cell.plain] at hxr
  | ptr => simp [Cell.res, Cell.plain] at hxr
  | dp => simp [Cell.res, Cell.plain] at hxr
  | sp => simp [Cell.res, Cell.plain] at hxr

theorem callV_post {c : Call} {f : Operand} {rv : SV} {fn : Nat} {args : List SV} (hop : o.op = .call c) (hcal : c.callee = .value f) (hf : evalO s f = some ⟨.one, [.clo fn []]⟩) (hargs : evalArgs s c.args.toList = some args)
    (hpl : args.all (fun v => v.cs.all Cell.plain) = true) (hres : rv.cs.all Cell.res = true) (hP : PureC P fn args rv) (hr : Rel E s a w g) (hF : RelF E sl bx a w g) (hd : o.dst = some d) (hdN : d < E.N) (hvr : rv.refs d = false) :
    o.wpIn (Fr r) 9 P a w (PostF E (slApp sl d rv none) (bxApp bx d none)) Q := by
  have hfv : a.eval f = .func (.func fn) #[] #[] := by have := (hr.eval hf).one.2; simpa [CV] using this
  obtain ⟨hent, hcall⟩ := hP
  obtain ⟨hal, hav⟩ := evalArgs_sound hargs hr
  have hrun : (execOp a.eval o).run P w = .ok (.enter fn (c.args.map a.eval)) w := by
    simp only [execOp, hop, resolve, hcal, hfv, Sem.run_bind, Deferred.ofValue, Sem.run_pure, Result.andThen_ok, invoke]
    have := hent (#[] ++ c.args.map a.eval ++ #[]) w
    simpa using this
  refine wpIn_enter (by rw [hop]; simp) hrun ?_
  have hcl := hcall r w (ok E.base E.k0 g.perm) (c.args.toList.map a.eval) (by simp [hal]) (fun i x y hx hy => by
    obtain ⟨pl, us, e1, e2, e3, e4⟩ := hav i x y hx hy
    refine ⟨us, e1, e2, e3, fun j q z hq hz => ⟨(e4 j q z hq hz).1, ?_⟩⟩
    have hqp : q.plain = true := by
      rw [List.all_eq_true] at hpl
      have := hpl x (List.mem_of_getElem? hx)
      rw [List.all_eq_true] at this
      exact this q (List.mem_of_getElem? hq)
    exact plain_mono hqp (e4 j q z hq hz).2 (fun _ _ _ k1 k2 => ⟨k2, k1⟩))
  have hae : (c.args.toList.map a.eval).toArray = c.args.map a.eval := by apply Array.toList_inj.1; simp
  rw [hae] at hcl
  refine hcl.mono fun e w' he => ?_
  obtain ⟨u, perm, rfl, hb, hlo, hv⟩ := he
  refine ⟨u, rfl, ⟨g.ι, fun b => if b < w.heap.size then g.perm b else reloc d (perm b)⟩, ?_⟩
  rw [hd]
  refine appF_grow hF hdN hb (fun b hbl => by rw [if_pos hbl]) (fun b hbl hf => ?_) (res_sound hr hb hlo hres hv) hvr
  rw [if_neg (by omega)] at hf
  refine (hlo b fun h0 => hf ?_).2
  rw [h0]; rfl

/-- ALL OF THEM. -/
theorem acalm_sound (hc : acalm P want h s o = some (v, ob, b)) (hob : ob) (hr : Rel E s a w g) (hF : RelF E sl bx a w g) (hd : o.dst = some d) (hdN : d < E.N) (hvr : v.refs d = false) : o.wpIn (Fr r) 9 P a w (PostF E (slApp sl d v b) (bxApp bx d b)) Q := by
  have fin : ∀ (h : Option Hint), ((aval P want h s o.op).map fun q => (q.1, q.2, (none : Option (Nat × List Cell)))) = some (v, ob, b) → (∀ c, o.op ≠ .defer c) → o.wpIn (Fr r) 9 P a w (PostF E (slApp sl d v b) (bxApp bx d b)) Q := fun h hv hnd => by
    cases h1 : aval P want h s o.op with
    | none => simp [h1] at hv
    | some q =>
      simp only [h1, Option.map_some, Option.some.injEq, Prod.mk.injEq] at hv
      obtain ⟨rfl, rfl, rfl⟩ := hv
      exact aval_post h1 hob hr hF hd hdN hvr hnd
  have hc0 := hc
  unfold acalm at hc
  split at hc
  · rename_i e hop; exact alloc_post hop hc0 hr hF hd hdN
  · rename_i e x hop; exact box_post hop hc0 hr hF hd hdN
  · rename_i t len parts hop; exact buildSlice_post hop hc0 hr hF hd hdN
  · rename_i c hop
    split at hc
    · rename_i f rv hcal
      split at hc
      · rename_i fn args hf hargs
        split at hc
        · rename_i hpl
          simp only [Bool.and_eq_true] at hpl
          simp only [Option.some.injEq, Prod.mk.injEq] at hc
          obtain ⟨rfl, rfl, rfl⟩ := hc
          exact callV_post hop hcal hf hargs hpl.1 hpl.2 hob hr hF hd hdN hvr
        · simp at hc
      · simp at hc
    · split at hc
      · rename_i v1 ob1 h1
        split at hc
        · simp at hc
        · simp only [Option.some.injEq, Prod.mk.injEq] at hc
          obtain ⟨rfl, rfl, rfl⟩ := hc
          obtain ⟨h2, rfl⟩ := hob
          exact aval_post h1 h2 hr hF hd hdN hvr (by rw [hop]; simp)
      · simp at hc
    · exact fin _ hc (by rw [hop]; simp)
  · rename_i op hop1 hop2 hop3 hop4
    split at hc
    · rename_i v0
      split at hc
      · exact fin _ hc (by intro c hcc; simp_all)
      · split at hc
        · rename_i v1 ob1 h1
          split at hc
          · simp at hc
          · simp only [Option.some.injEq, Prod.mk.injEq] at hc
            obtain ⟨rfl, rfl, rfl⟩ := hc
            obtain ⟨h2, rfl⟩ := hob
            exact aval_post h1 h2 hr hF hd hdN hvr (by intro c hcc; rw [hcc] at h1; simp [aval] at h1)
        · simp at hc
    · split at hc
      · rename_i c1 ob1 h1
        simp only [Option.some.injEq, Prod.mk.injEq] at hc
        obtain ⟨rfl, rfl, rfl⟩ := hc
        obtain ⟨h2, rfl⟩ := hob
        exact aval_post h1 h2 hr hF hd hdN hvr (by intro c hcc; rw [hcc] at h1; simp [aval] at h1)
      · simp at hc
    · exact fin _ hc (by
        intro c hcc
        rw [hcc] at hc
        simp [aval] at hc)
end
end Go.Proofs.Ytmiffokcdmehhaa.E
