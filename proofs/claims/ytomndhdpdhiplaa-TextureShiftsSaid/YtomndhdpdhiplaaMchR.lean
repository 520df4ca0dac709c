/- A region that draws its order: whatever comes up next. -/
import Derived.Test.YtomndhdpdhiplaaMchQ
set_option linter.unusedVariables false
namespace Go.Proofs.Ytomndhdpdhiplaa.M
open Go Go.RowKit

def unl (L : Nat → Bool) : Nat → Nat
  | 0 => 0
  | n + 1 => unl L n + (if L n then 0 else 1)

theorem unl_zero {L : Nat → Bool} : ∀ {n : Nat}, unl L n = 0 → ∀ k, k < n → L k = true
  | 0, _, k, h => by omega
  | n + 1, h, k, hk => by
    simp only [unl] at h
    by_cases hn : L n = true
    · by_cases hkn : k = n
      · rw [hkn]; exact hn
      · exact unl_zero (n := n) (by omega) k (by omega)
    · simp [hn] at h

theorem unl_set {L L' : Nat → Bool} {i : Nat} (h : ∀ k, L' k = if k = i then true else L k) (hi : L i = false) : ∀ n, (i < n → unl L' n + 1 ≤ unl L n) ∧ (n ≤ i → unl L' n = unl L n)
  | 0 => ⟨fun h => by omega, fun _ => rfl⟩
  | n + 1 => by
    obtain ⟨h1, h2⟩ := unl_set h hi n
    refine ⟨fun hin => ?_, fun hin => ?_⟩
    · simp only [unl]
      by_cases hni : n = i
      · subst hni
        rw [h2 (Nat.le_refl _), h n, if_pos rfl, hi]
        simp
      · rw [h n, if_neg hni]
        have := h1 (by omega)
        omega
    · simp only [unl]
      have e : L' n = L n := by rw [h n, if_neg (by omega)]
      rw [h2 (by omega), e]

theorem unl_tail {L : Nat → Bool} {m : Nat} : ∀ n, (∀ k, m ≤ k → k < n → L k = false) → n - m ≤ unl L n
  | 0, _ => by omega
  | n + 1, h => by
    have := unl_tail (m := m) n (fun k h1 h2 => h k h1 (by omega))
    simp only [unl]
    by_cases hmn : m ≤ n
    · rw [h n hmn (by omega)]
      simp
      omega
    · omega

section
variable {P : Program} {E : Env} {ops : Array Oper} {N m : Nat} {res : List (Option Res)} {s0 s1 s2 : St} {b : List Nat} {hints : List (Nat × Hint)} {ob : Prop} {r : Option Nat} {Q : Exit → Act → World → Prop}

theorem ready_iff {i : Nat} {listed : Array Bool} : i ∈ Region.ready .any ops listed ↔ listed.getD i true = false ∧ ∃ o, ops[i]? = some o ∧ ∀ j ∈ edgesOf o, listed.getD j false = true := by
  rw [mem_ready]
  refine and_congr_right fun _ => exists_congr fun o => and_congr_right fun _ => ?_
  unfold edgesOf
  constructor
  · intro h j hj
    obtain ⟨e, he, rfl⟩ := List.mem_map.1 hj
    rw [List.mem_filter] at he
    exact h e (by simpa using he.1) he.2
  · intro h e he hb
    exact h e.on (List.mem_map.2 ⟨e, List.mem_filter.2 ⟨by simpa using he, hb⟩, rfl⟩)

theorem getD_tf {listed : Array Bool} {i : Nat} : listed.getD i true = false ↔ i < listed.size ∧ listed.getD i false = false := by
  rw [Array.getD_eq_getD_getElem?, Array.getD_eq_getD_getElem?]
  cases h : listed[i]? with
  | none =>
    have : listed.size ≤ i := Array.getElem?_eq_none_iff.1 h
    simp
    omega
  | some x =>
    have := (Array.getElem?_eq_some_iff.1 h).1
    simp [this]

theorem set_getD {listed : Array Bool} {i k : Nat} (hi : i < listed.size) : (listed.setIfInBounds i true).getD k false = if k = i then true else listed.getD k false := by
  rw [Array.getD_eq_getD_getElem?, Array.getD_eq_getD_getElem?, Array.getElem?_setIfInBounds]
  by_cases h : i = k
  · subst h; simp [hi]
  · rw [if_neg h, if_neg (Ne.symm h)]

/-- What comes ahead of an operation that may come up has come. -/
theorem before_listed (hb : b = befs ops.toList []) {listed : Array Bool} (hc : Closed ops fun k => listed.getD k false = true) {i k : Nat} {o : Oper} (ho : ops[i]? = some o) (he : ∀ j ∈ edgesOf o, listed.getD j false = true) (hk : (b.getD i 0).testBit k = true) : listed.getD k false = true ∨ k = i := by
  have hc' : Closed ops fun k => listed.getD k false = true ∨ k = i := fun j oj hj hl q hq => by
    rcases hl with hl | hl
    · exact .inl (hc j oj hj hl q hq)
    · subst hl
      rw [ho] at hj
      injection hj with hj
      subst hj
      exact .inl (he q hq)
  subst hb
  rw [List.getD_eq_getElem?_getD] at hk
  cases hq : (befs ops.toList [])[i]? with
  | none => rw [hq] at hk; simp at hk
  | some y =>
    rw [hq] at hk
    exact befs_sound hc' ops.toList [] (fun j => by simp) (by simp) i y hq k hk (.inr rfl)

/-- The writing end: one behind the other. -/
theorem tail_sound (hN : N = E.N) (hd : DF ops m res s0 b) (hb : b = befs ops.toList []) : ∀ (l : List Oper) (i fuel : Nat) (s : St) (ob : Prop) (listed : Array Bool) (a : Act) (w : World) (g : Gh), m ≤ i → i + l.length = ops.size → (∀ j o, l[j]? = some o → ops[i + j]? = some o) → listed.size = ops.size →
    (∀ k, k < ops.size → listed.getD k false = decide (k < i)) → l.length ≤ fuel → arun P N ops hints i l s = some (s2, ob) → ob → Rel E s a w g → (∀ a' w' g', Rel E s2 a' w' g' → Q .normal a' w') → wpAnyIn (Fr r) 9 P .any ops Q fuel listed a w
  | [], i, fuel, s, ob, listed, a, w, g, hmi, hil, hl, hls, hlk, hf, h, hob, hr, hQ => by
    simp [arun] at h
    obtain ⟨rfl, _⟩ := h
    refine wpAnyIn_done (List.eq_nil_iff_forall_not_mem.2 fun j hj => ?_) (hQ a w g hr) fuel
    rw [ready_iff, getD_tf] at hj
    have := hlk j (by omega)
    simp at hil
    rw [hj.1.2] at this
    simp at this
    omega
  | o :: l, i, fuel, s, ob, listed, a, w, g, hmi, hil, hl, hls, hlk, hf, h, hob, hr, hQ => by
    obtain ⟨f, rfl⟩ : ∃ f, fuel = f + 1 := ⟨fuel - 1, by simp at hf; omega⟩
    simp only [List.length_cons] at hil hf
    have ho : ops[i]? = some o := by simpa using hl 0 o rfl
    have hclosed : Closed ops fun k => listed.getD k false = true := fun k ok hk hlk' j hj => by
      have hks : k < ops.size := (Array.getElem?_eq_some_iff.1 hk).1
      have h1 := hd.edge k ok hk j hj
      have h2 : listed.getD k false = true := hlk'
      rw [hlk k hks] at h2
      show listed.getD j false = true
      rw [hlk j (by omega)]
      simp at h2 ⊢
      omega
    have hready : i ∈ Region.ready .any ops listed := by
      rw [ready_iff, getD_tf]
      refine ⟨⟨by omega, by rw [hlk i (by omega)]; simp⟩, o, ho, fun j hj => ?_⟩
      have := hd.edge i o ho j hj
      rw [hlk j (by omega)]
      simpa using this
    refine ⟨(fun h0 => by rw [h0] at hready; cases hready), fun i' hi' => ?_⟩
    have hii : i' = i := by
      rw [ready_iff, getD_tf] at hi'
      obtain ⟨⟨h1, h2⟩, o', ho', he'⟩ := hi'
      rw [hlk i' (by omega)] at h2
      simp at h2
      by_cases hgt : i < i'
      · have hbit := hd.tail i' i (by omega) (by omega) hgt
        rcases before_listed hb hclosed ho' he' hbit with h3 | h3
        · rw [hlk i (by omega)] at h3; simp at h3
        · omega
      · omega
    subst hii
    simp only [arun] at h
    split at h
    · rename_i s3 ob1 h1
      split at h
      · rename_i s4 ob2 h2
        simp only [Option.some.injEq, Prod.mk.injEq] at h
        obtain ⟨e4, e5⟩ := h
        rw [e4] at h2
        rw [← e5] at hob
        unfold wpOpIn
        rw [ho]
        refine astep_sound hN h1 hob.1 hr fun a' w' g' hr' => ?_
        exact tail_sound hN hd hb l (i' + 1) f s3 ob2 _ a' w' g' (by omega) (by omega) (fun j o' hj => by have := hl (j + 1) o' (by simpa using hj); rwa [show i' + 1 + j = i' + (j + 1) from by omega]) (by simpa using hls)
          (fun k hk => by
            rw [set_getD (by omega), hlk k hk]
            by_cases hki : k = i'
            · simp [hki]
            · simp [hki]; omega) (by omega) h2 hob.2 hr' hQ
      · simp at h
    · simp at h

/-- The whole. -/
theorem draw_sound (hN : N = E.N) (hm : m ≤ ops.size) (hd : DF ops m res s0 b) (hb : b = befs ops.toList []) (hstep : ∀ i, i < m → StepOk P N ops hints s0 res i) (hend : Txt s0 ops res m s1) (htail : arun P N ops hints m (ops.toList.drop m) s1 = some (s2, ob)) (hob : ob)
    (hQ : ∀ a' w' g', Rel E s2 a' w' g' → Q .normal a' w') : ∀ (fuel : Nat) (listed : Array Bool) (a : Act) (w : World) (g : Gh), listed.size = ops.size → Closed ops (fun k => listed.getD k false = true) → (∀ k, listed.getD k false = true → k < m) →
      unl (fun k => listed.getD k false) ops.size ≤ fuel → RelF E (slS s0 ops m res fun k => listed.getD k false) (bxS s0 ops m res fun k => listed.getD k false) a w g → wpAnyIn (Fr r) 9 P .any ops Q fuel listed a w := by
  -- where all that sets its temporary alone has come, the text's state is there
  have toEnd : ∀ {listed : Array Bool} {a : Act} {w : World} {g : Gh}, (∀ k, k < m → listed.getD k false = true) → RelF E (slS s0 ops m res fun k => listed.getD k false) (bxS s0 ops m res fun k => listed.getD k false) a w g → Rel E s1 a w g := fun hall hF => by
    refine RelF.toRel hend.ok (hF.weak (fun t x hx => ?_) (fun n y hy => ?_))
    · rcases hend.slots t x hx with ⟨k, q, c1, c2, c3, c4⟩ | ⟨c1, c2⟩
      · unfold slS
        cases hi : ixOf ops m t with
        | none => exact absurd c2 (ixOf_none hi k c1)
        | some k' =>
          obtain ⟨d1, d2⟩ := ixOf_some hi
          have := hd.inj k k' t c1 d1 c2 d2
          subst this
          simp only [hall k c1, if_true, c3, Option.map_some, c4]
      · unfold slS
        cases hi : ixOf ops m t with
        | none => exact c2
        | some k' =>
          obtain ⟨d1, d2⟩ := ixOf_some hi
          exact absurd d2 (c1 k' d1)
    · rcases hend.boxes n y hy with ⟨k, q, c1, c2, c3, c4⟩ | c2
      · unfold bxS
        cases hi : ixOf ops m n with
        | none => exact absurd c2 (ixOf_none hi k c1)
        | some k' =>
          obtain ⟨d1, d2⟩ := ixOf_some hi
          have := hd.inj k k' n c1 d1 c2 d2
          subst this
          simp only [hall k c1, if_true, c3, c4]
      · unfold bxS
        cases hi : ixOf ops m n with
        | none => exact c2
        | some k' =>
          obtain ⟨d1, d2⟩ := ixOf_some hi
          simp only [hall k' d1, if_true]
          cases hq : resAt res k' with
          | none => exact c2
          | some q =>
            cases hqb : q.box with
            | none => simp only [hqb]; exact c2
            | some y' =>
              have := (hd.s0bx k' q n y d1 hq (by rw [hqb]; rfl) c2).1
              rw [d2] at this
              exact absurd rfl this
  intro fuel
  induction fuel with
  | zero =>
    intro listed a w g hls hc hlm hu hF
    have hall := unl_zero (Nat.le_zero.1 hu)
    have hms : m = ops.size := by
      rcases Nat.lt_or_ge m ops.size with h | h
      · have := hlm m (hall m h); omega
      · omega
    have hr1 := toEnd (fun k hk => hall k (by omega)) hF
    have hdrop : ops.toList.drop m = [] := by rw [hms]; simp
    rw [hdrop] at htail
    simp [arun] at htail
    obtain ⟨rfl, _⟩ := htail
    refine ⟨List.eq_nil_iff_forall_not_mem.2 fun j hj => ?_, hQ a w g hr1⟩
    rw [ready_iff, getD_tf] at hj
    rw [hall j (by omega)] at hj
    cases hj.1.2
  | succ fuel ih =>
    intro listed a w g hls hc hlm hu hF
    refine ⟨fun h0 => ?_, fun i hi => ?_⟩
    · -- nothing may come up: all has come
      have hall : ∀ k, k < ops.size → listed.getD k false = true := by
        intro k
        induction k using Nat.strongRecOn with
        | _ k ihk =>
          intro hk
          by_cases hkl : listed.getD k false = true
          · exact hkl
          · exfalso
            have : k ∈ Region.ready .any ops listed := by
              rw [ready_iff, getD_tf]
              refine ⟨⟨by omega, by simpa using hkl⟩, ops[k], Array.getElem?_eq_getElem hk, fun j hj => ?_⟩
              have := hd.edge k _ (Array.getElem?_eq_getElem hk) j hj
              exact ihk j this (by omega)
            rw [h0] at this
            cases this
      have hms : m = ops.size := by
        rcases Nat.lt_or_ge m ops.size with h | h
        · have := hlm m (hall m h); omega
        · omega
      have hr1 := toEnd (fun k hk => hall k (by omega)) hF
      have hdrop : ops.toList.drop m = [] := by rw [hms]; simp
      rw [hdrop] at htail
      simp [arun] at htail
      obtain ⟨rfl, _⟩ := htail
      exact hQ a w g hr1
    · have hi0 := hi
      rw [ready_iff, getD_tf] at hi
      obtain ⟨⟨hisz, hiun⟩, o, ho, he⟩ := hi
      have bl : ∀ k, (b.getD i 0).testBit k = true → listed.getD k false = true ∨ k = i := fun k hk => before_listed hb hc ho he hk
      by_cases him : i < m
      · -- it sets its temporary alone
        obtain ⟨o', d, s, ho', hdst, htx, hcase⟩ := hstep i him
        have heo : o' = o := by rw [ho] at ho'; injection ho' with ho'; exact ho'.symm
        subst heo
        have hdi : dstOf ops i = some d := by simp [dstOf, ho, hdst]
        -- what it reads is there
        have look : ∀ t x, t ∈ opTmps o' ++ guardTmp ops o' → s.slots.lookup t = some x → slS s0 ops m res (fun k => listed.getD k false) t = some x := fun t x ht hx => by
          rcases htx.slots t x hx with ⟨k, q, c1, c2, c3, c4⟩ | ⟨c1, c2⟩
          · obtain ⟨e1, e2⟩ : k < i ∧ (b.getD i 0).testBit k = true := by
              rcases hd.opd i o' t k ho him ht (by omega) c2 with h | h
              · exact h
              · omega
            have hlk : listed.getD k false = true := by
              rcases bl k e2 with h | h
              · exact h
              · omega
            unfold slS
            cases hi : ixOf ops m t with
            | none => exact absurd c2 (ixOf_none hi k (by omega))
            | some k' =>
              obtain ⟨d1, d2⟩ := ixOf_some hi
              have := hd.inj k k' t (by omega) d1 c2 d2
              subst this
              simp only [hlk, if_true, c3, Option.map_some, c4]
          · unfold slS
            cases hi : ixOf ops m t with
            | none => exact c2
            | some k' =>
              obtain ⟨d1, d2⟩ := ixOf_some hi
              rcases hd.opd i o' t k' ho him ht d1 d2 with ⟨e1, _⟩ | ⟨e1, e2⟩
              · exact absurd d2 (c1 k' e1)
              · -- it is set behind: not yet
                have hun : listed.getD k' false = false := by
                  cases hl : listed.getD k' false with
                  | false => rfl
                  | true =>
                    obtain ⟨ok, hok⟩ : ∃ ok, ops[k']? = some ok := ⟨ops[k']'(by omega), Array.getElem?_eq_getElem (by omega)⟩
                    rcases before_listed hb hc hok (fun j hj => hc k' ok hok hl j hj) e2 with h | h
                    · rw [hiun] at h; cases h
                    · omega
                simp only [hun, Bool.false_eq_true, if_false]
                exact c2
        have hw : ∀ c, wanted s ops o' = some c → Region.wanted o' (yielded ops a.tmps) = c := fun c hc' => by
          unfold wanted at hc'
          unfold Region.wanted
          cases hg : o'.guard with
          | none => simp [hg] at hc'; simp [hc']
          | some q =>
            obtain ⟨j, bb⟩ := q
            simp only [hg] at hc'
            split at hc'
            · rename_i dd hdd
              split at hc'
              · rename_i x hl
                have hlk := look dd x (List.mem_append_right _ (by simp [guardTmp, hg, hdd])) hl
                exact asks_tmp (hF.slots dd x hlk) hc' hdd
              · simp at hc'
            · simp at hc'
        -- the next state
        have hset : ∀ k, (listed.setIfInBounds i true).getD k false = if k = i then true else listed.getD k false := fun k => set_getD hisz
        have hc2 : Closed ops fun k => (listed.setIfInBounds i true).getD k false = true := fun k ok hk hlk j hj => by
          simp only [hset] at hlk ⊢
          by_cases hki : k = i
          · subst hki
            rw [ho] at hk; injection hk with hk; subst hk
            split
            · rfl
            · exact he j hj
          · rw [if_neg hki] at hlk
            split
            · rfl
            · exact hc k ok hk hlk j hj
        have hlm2 : ∀ k, (listed.setIfInBounds i true).getD k false = true → k < m := fun k hk => by
          rw [hset] at hk
          by_cases hki : k = i
          · rw [hki]; exact him
          · rw [if_neg hki] at hk; exact hlm k hk
        have hu2 : unl (fun k => (listed.setIfInBounds i true).getD k false) ops.size ≤ fuel := by
          have := (unl_set (L := fun k => listed.getD k false) (L' := fun k => (listed.setIfInBounds i true).getD k false) (i := i) hset hiun ops.size).1 (by omega)
          omega
        have next : ∀ a' w' g', RelF E (slS s0 ops m res fun k => (listed.setIfInBounds i true).getD k false) (bxS s0 ops m res fun k => (listed.setIfInBounds i true).getD k false) a' w' g' → wpAnyIn (Fr r) 9 P .any ops Q fuel (listed.setIfInBounds i true) a' w' :=
          fun a' w' g' hF' => ih _ a' w' g' (by simpa using hls) hc2 hlm2 hu2 hF'
        -- nothing that is there hangs on its name
        have noHang : ∀ t x, slS s0 ops m res (fun k => listed.getD k false) t = some x → hangs ops res i x = false := fun t x hx => by
          unfold slS at hx
          have s0case : s0.slots.lookup t = some x → hangs ops res i x = false := hd.s0sl i t x him
          cases hi : ixOf ops m t with
          | none => simp only [hi] at hx; exact s0case hx
          | some k =>
            obtain ⟨d1, d2⟩ := ixOf_some hi
            simp only [hi] at hx
            split at hx
            · rename_i hlk
              cases hq : resAt res k with
              | none => simp [hq] at hx
              | some q =>
                simp [hq] at hx
                subst hx
                by_cases hh : hangs ops res i q.val = true
                · exfalso
                  have hki : k ≠ i := by rintro rfl; rw [hiun] at hlk; cases hlk
                  have hbit := hd.hang i k q him d1 hki hq (.inl hh)
                  -- k has come, so i has
                  have hko : ∃ ok, ops[k]? = some ok := ⟨ops[k]'(by omega), Array.getElem?_eq_getElem (by omega)⟩
                  obtain ⟨ok, hok⟩ := hko
                  rcases before_listed hb hc hok (fun j hj => hc k ok hok hlk j hj) hbit with h | h
                  · rw [hiun] at h; cases h
                  · exact hki h.symm
                · simpa using hh
            · exact s0case hx
        have noHangB : ∀ n y, bxS s0 ops m res (fun k => listed.getD k false) n = some y → boxHangs ops res i y.2 = false := fun n y hy => by
          unfold bxS at hy
          have s0case : s0.boxes.lookup n = some y → boxHangs ops res i y.2 = false := fun h => by
            cases hq : resAt res i with
            | none => simp [boxHangs, hdi, hq]
            | some q =>
              cases hqb : q.box with
              | none => simp [boxHangs, hdi, hq, hqb]
              | some z => exact (hd.s0bx i q n y him hq (by rw [hqb]; rfl) h).2
          cases hi : ixOf ops m n with
          | none => simp only [hi] at hy; exact s0case hy
          | some k =>
            obtain ⟨d1, d2⟩ := ixOf_some hi
            simp only [hi] at hy
            split at hy
            · rename_i hlk
              cases hq : resAt res k with
              | none => simp only [hq] at hy; exact s0case hy
              | some q =>
                simp only [hq] at hy
                cases hqb : q.box with
                | none => simp only [hqb] at hy; exact s0case hy
                | some z =>
                  simp only [hqb] at hy
                  injection hy with hy
                  subst hy
                  by_cases hh : boxHangs ops res i z.2 = true
                  · exfalso
                    have hki : k ≠ i := by rintro rfl; rw [hiun] at hlk; cases hlk
                    have hbit := hd.hang i k q him d1 hki hq (.inr ⟨z, hqb, hh⟩)
                    obtain ⟨ok, hok⟩ : ∃ ok, ops[k]? = some ok := ⟨ops[k]'(by omega), Array.getElem?_eq_getElem (by omega)⟩
                    rcases before_listed hb hc hok (fun j hj => hc k ok hok hlk j hj) hbit with h | h
                    · rw [hiun] at h; cases h
                    · exact hki h.symm
                  · simpa using hh
            · exact s0case hy
        have sl_other : ∀ t x, t ≠ d → slS s0 ops m res (fun k => (listed.setIfInBounds i true).getD k false) t = some x → slS s0 ops m res (fun k => listed.getD k false) t = some x := fun t x ht hx => by
          unfold slS at hx ⊢
          cases hi : ixOf ops m t with
          | none => simp only [hi] at hx ⊢; exact hx
          | some k =>
            obtain ⟨d1, d2⟩ := ixOf_some hi
            have hki : k ≠ i := by rintro rfl; rw [hdi] at d2; injection d2 with d2; exact ht d2.symm
            simp only [hi] at hx ⊢
            simp only [hset, hki, if_false] at hx
            exact hx
        have ixd : ixOf ops m d = some i := by
          cases hi : ixOf ops m d with
          | none => exact absurd hdi (ixOf_none hi i him)
          | some k =>
            obtain ⟨d1, d2⟩ := ixOf_some hi
            rw [hd.inj i k d him d1 hdi d2]
        unfold wpOpIn
        rw [ho]
        rcases hcase with ⟨hw0, hdN, hr0⟩ | ⟨hw1, hdN, v, obv, bb, hov, hac, hvr, hres⟩
        · simp only [hw false hw0, Bool.false_eq_true, if_false]
          rw [hdst]
          refine ⟨fun _ _ => trivial, next _ w g ((appF_put hF (by rw [← hN]; exact hdN) undef_svr rfl).weak (fun t x hx => ?_) (fun n y hy => ?_))⟩
          · unfold slApp
            by_cases htd : t = d
            · subst htd
              unfold slS at hx
              simp only [ixd, hset, if_true, hr0, Option.map_some] at hx
              simp only [if_true]
              exact hx
            · simp only [htd, if_false]
              have hx' := sl_other t x htd hx
              have hnh := noHang t x hx'
              simp only [hangs, hdi, hr0, Bool.or_eq_false_iff] at hnh
              simp only [hx', hnh.1, Option.isSome_none, Bool.false_and, Bool.or_self, Bool.false_eq_true, if_false]
          · unfold bxApp
            simp only
            unfold bxS at hy ⊢
            cases hi : ixOf ops m n with
            | none => simp only [hi] at hy ⊢; exact hy
            | some k =>
              simp only [hi] at hy ⊢
              by_cases hki : k = i
              · subst hki
                simp only [hset, if_true, hr0] at hy
                simp only [hiun, Bool.false_eq_true, if_false]
                exact hy
              · simp only [hset, hki, if_false] at hy
                exact hy
        · simp only [hw true hw1, if_true]
          -- from what it reads alone
          have hsub : Rel E (s.restrict o') a w g := by
            refine RelF.toRel ⟨htx.ok.slots.filter _, htx.ok.boxes.filter _⟩ (hF.weak (fun t x hx => ?_) (fun n y hy => ?_))
            · obtain ⟨c1, c2⟩ := lookup_filter htx.ok.slots hx
              exact look t x (List.mem_append_left _ (by simpa using c2)) c1
            · have hmem : n ∈ (s.restrict o').boxes.map (·.1) := List.mem_map.2 ⟨(n, y), lookup_mem hy, rfl⟩
              obtain ⟨c1, _⟩ := lookup_filter htx.ok.boxes hy
              rcases htx.boxes n y c1 with ⟨k, q, e1, e2, e3, e4⟩ | e2
              · obtain ⟨_, f2⟩ := hd.used i _ n k q him hres hmem (by omega) e2 e3 (by rw [e4]; rfl)
                have hlk : listed.getD k false = true := by
                  rcases bl k f2 with h | h
                  · exact h
                  · omega
                unfold bxS
                cases hi : ixOf ops m n with
                | none => exact absurd e2 (ixOf_none hi k (by omega))
                | some k' =>
                  obtain ⟨d1, d2⟩ := ixOf_some hi
                  have := hd.inj k k' n (by omega) d1 e2 d2
                  subst this
                  simp only [hlk, if_true, e3, e4]
              · unfold bxS
                cases hi : ixOf ops m n with
                | none => exact e2
                | some k' =>
                  obtain ⟨d1, d2⟩ := ixOf_some hi
                  simp only
                  split
                  · cases hq : resAt res k' with
                    | none => exact e2
                    | some q =>
                      cases hqb : q.box with
                      | none => simp only [hqb]; exact e2
                      | some y' =>
                        have := (hd.s0bx k' q n y d1 hq (by rw [hqb]; rfl) e2).1
                        rw [d2] at this
                        exact absurd rfl this
                  · exact e2
          refine Oper.wpIn_mono (fun a' w' hp => ?_) (acalm_sound hac hov hsub hF hdst (by rw [← hN]; exact hdN) hvr)
          obtain ⟨g', hg'⟩ := hp
          refine next a' w' g' (hg'.weak (fun t x hx => ?_) (fun n y hy => ?_))
          · unfold slApp
            by_cases htd : t = d
            · subst htd
              unfold slS at hx
              simp only [ixd, hset, if_true, hres, Option.map_some] at hx
              simp only [if_true]
              exact hx
            · simp only [htd, if_false]
              have hx' := sl_other t x htd hx
              have hnh := noHang t x hx'
              simp only [hangs, hdi, hres, Bool.or_eq_false_iff] at hnh
              simp only [hx', hnh.1, hnh.2, Bool.or_self]
              simp
          · unfold bxApp
            cases hbb : bb with
            | none =>
              simp only
              unfold bxS at hy ⊢
              cases hi : ixOf ops m n with
              | none => simp only [hi] at hy ⊢; exact hy
              | some k =>
                simp only [hi] at hy ⊢
                by_cases hki : k = i
                · subst hki
                  simp only [hset, if_true, hres, hbb] at hy
                  simp only [hiun, Bool.false_eq_true, if_false]
                  exact hy
                · simp only [hset, hki, if_false] at hy
                  exact hy
            | some bv =>
              simp only
              by_cases hnd : n = d
              · subst hnd
                unfold bxS at hy
                simp only [ixd, hset, if_true, hres, hbb] at hy
                simp only [if_true]
                exact hy
              · simp only [hnd, if_false]
                have hy' : bxS s0 ops m res (fun k => listed.getD k false) n = some y := by
                  unfold bxS at hy ⊢
                  cases hi : ixOf ops m n with
                  | none => simp only [hi] at hy ⊢; exact hy
                  | some k =>
                    obtain ⟨d1, d2⟩ := ixOf_some hi
                    have hki : k ≠ i := by rintro rfl; rw [hdi] at d2; injection d2 with d2; exact hnd d2.symm
                    simp only [hi] at hy ⊢
                    simp only [hset, hki, if_false] at hy
                    exact hy
                have hnh := noHangB n y hy'
                simp only [boxHangs, hdi, hres, hbb, Option.isSome_some, Bool.true_and] at hnh
                simp only [hy', hnh]
                simp
      · -- the writing end begins
        have hall : ∀ k, k < i → listed.getD k false = true := fun k hk => by
          rcases bl k (hd.tail i k (by omega) (by omega) hk) with h | h
          · exact h
          · omega
        have him' : i = m := by
          rcases Nat.lt_or_ge m i with h | h
          · have := hlm m (hall m h); omega
          · omega
        have hr1 := toEnd (fun k hk => hall k (by omega)) hF
        have hk : ∀ k, k < ops.size → listed.getD k false = decide (k < m) := fun k hk => by
          by_cases hkm : k < m
          · rw [hall k (by omega)]; simp [hkm]
          · cases hl : listed.getD k false with
            | false => simp [hkm]
            | true => exact absurd (hlm k hl) hkm
        have hfuel : (ops.toList.drop m).length ≤ fuel + 1 := by
          have := unl_tail (L := fun k => listed.getD k false) (m := m) ops.size (fun k h1 h2 => by rw [hk k h2]; simp; omega)
          simp
          omega
        have hw := tail_sound (r := r) (Q := Q) hN hd hb (ops.toList.drop m) m (fuel + 1) s1 ob listed a w g (Nat.le_refl _) (by simp; omega) (fun j o hj => by rw [List.getElem?_drop] at hj; simpa using hj) hls hk hfuel htail hob hr1 hQ
        exact hw.2 i hi0
end
end Go.Proofs.Ytomndhdpdhiplaa.M
