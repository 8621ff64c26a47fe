/- A region that draws its order, walked operation by operation: each operation keeps what the others have shown, so whatever order is picked the facts of all stand at the end. -/
import Derived.Test.YtaigmkpeaenpmaaDoorBase
import Derived.StillTailTactics
namespace Go.Proofs.YtaigmkpeaenpmaaDoor
set_option maxRecDepth 100000
open Go.RowKit
set_option linter.unusedVariables false
set_option linter.unusedSimpArgs false

def putAll : List Oper → List Value → Act → Act
  | o :: os, v :: vs, a => putAll os vs (a.put o.dst v)
  | _, _, a => a

/-- The value that an operation has left. -/
def left (a : Act) (o : Oper) : Value := match o.dst with | some d => a.tmps.getD d undef | none => undef

def apartDsts : List Oper → Bool
  | [] => true
  | o :: os => (match o.dst with | some d => os.all (fun p => p.dst != some d) | none => true) && apartDsts os

theorem put_size (a : Act) (d : Option Tmp) (v : Value) : (a.put d v).tmps.size = a.tmps.size := by
  cases d <;> simp [Act.put]
theorem put_defers' (a : Act) (d : Option Tmp) (v : Value) : (a.put d v).defers = a.defers := by
  cases d <;> simp [Act.put]
theorem put_other (a : Act) (d : Option Tmp) (v : Value) (t : Nat) (h : d ≠ some t) : (a.put d v).tmps[t]? = a.tmps[t]? := by
  cases d with
  | none => rfl
  | some d => simp only [Act.put]; rw [Array.getElem?_setIfInBounds_ne (by rintro rfl; exact h rfl)]
theorem put_here (a : Act) (t : Nat) (v : Value) : (a.put (some t) v).tmps[t]? = if t < a.tmps.size then some v else none := by
  simp only [Act.put, Array.getElem?_setIfInBounds_self]

theorem putAll_size : ∀ (os : List Oper) (vs : List Value) (a : Act), (putAll os vs a).tmps.size = a.tmps.size
  | [], _, _ => rfl
  | _ :: _, [], _ => rfl
  | o :: os, v :: vs, a => by rw [putAll, putAll_size os vs, put_size]
theorem putAll_defers : ∀ (os : List Oper) (vs : List Value) (a : Act), (putAll os vs a).defers = a.defers
  | [], _, _ => rfl
  | _ :: _, [], _ => rfl
  | o :: os, v :: vs, a => by rw [putAll, putAll_defers os vs, put_defers']
theorem putAll_other : ∀ (os : List Oper) (vs : List Value) (a : Act) (t : Nat), (∀ o ∈ os, o.dst ≠ some t) → (putAll os vs a).tmps[t]? = a.tmps[t]?
  | [], _, _, _, _ => rfl
  | _ :: _, [], _, _, _ => rfl
  | o :: os, v :: vs, a, t, h => by
    rw [putAll, putAll_other os vs _ t (fun o' ho => h o' (by simp [ho])), put_other _ _ _ _ (h o (by simp))]
theorem putAll_here : ∀ (os : List Oper) (vs : List Value) (a : Act) (i : Nat) (o : Oper) (t : Nat), apartDsts os = true → os.length = vs.length → os[i]? = some o → o.dst = some t →
    (putAll os vs a).tmps[t]? = if t < a.tmps.size then some (vs.getD i undef) else none
  | [], _, _, i, o, t, _, _, h, _ => by simp at h
  | _ :: _, [], _, _, _, _, _, hl, _, _ => by simp at hl
  | o' :: os, v :: vs, a, 0, o, t, ha, hl, hi, hd => by
    simp at hi; subst hi
    simp only [apartDsts, hd, Bool.and_eq_true, List.all_eq_true] at ha
    rw [putAll, putAll_other os vs _ t (fun p hp => by simpa using ha.1 p hp), hd, put_here]
    rfl
  | o' :: os, v :: vs, a, i + 1, o, t, ha, hl, hi, hd => by
    simp only [apartDsts, Bool.and_eq_true] at ha
    rw [putAll, putAll_here os vs _ i o t ha.2 (by simpa using hl) (by simpa using hi) hd, put_size]
    simp

theorem putAll_eq (os : List Oper) (a0 a : Act) (ha : apartDsts os = true) (hd : a.defers = a0.defers) (hs : a.tmps.size = a0.tmps.size)
    (hf : ∀ t, (∀ o ∈ os, o.dst ≠ some t) → a.tmps[t]? = a0.tmps[t]?) : a = putAll os (os.map (left a)) a0 := by
  obtain ⟨tmps, defers⟩ := a
  simp only at hd hs hf
  have h1 : (putAll os (os.map (left ⟨tmps, defers⟩)) a0).tmps = tmps := by
    apply Array.ext_getElem?
    intro t
    by_cases h : ∀ o ∈ os, o.dst ≠ some t
    · rw [putAll_other _ _ _ _ h, hf t h]
    · have ⟨o, ho, hdo⟩ : ∃ o ∈ os, o.dst = some t := by
        apply Classical.byContradiction
        intro hc
        exact h fun o ho hd => hc ⟨o, ho, hd⟩
      obtain ⟨i, hi⟩ := List.getElem?_of_mem ho
      rw [putAll_here os _ a0 i o t ha (by simp) hi hdo]
      by_cases hlt : t < a0.tmps.size
      · rw [if_pos hlt]
        simp only [List.getD_eq_getElem?_getD, List.getElem?_map, hi, Option.map_some, Option.getD_some, left, hdo]
        rw [Array.getD_eq_getD_getElem?, Array.getElem?_eq_getElem (by omega)]
        rfl
      · rw [if_neg hlt, Array.getElem?_eq_none (by omega)]
  have h2 := putAll_defers os (os.map (left ⟨tmps, defers⟩)) a0
  generalize hp : putAll os (os.map (left ⟨tmps, defers⟩)) a0 = p at *
  obtain ⟨pt, pd⟩ := p
  simp only at h1 h2
  rw [h1, h2, hd]

/-- Edges lead back. -/
def backB (ops : Array Oper) : Bool := (List.range ops.size).all fun i => match ops[i]? with
  | some o => o.after.all fun e => !Region.binds .any e || decide (e.on < i)
  | none => true

theorem done_of_ready {ops : Array Oper} (hb : backB ops = true) {listed : Array Bool} (hsz : listed.size = ops.size) (hr : Region.ready .any ops listed = []) :
    ∀ (n i : Nat), i < n → i < ops.size → listed.getD i false = true := by
  intro n
  induction n with
  | zero => intro i h; omega
  | succ n ih =>
    intro i hi hlt
    apply Classical.byContradiction
    intro hc
    have hmem : i ∈ Region.ready .any ops listed := by
      rw [mem_ready]
      refine ⟨?_, ops[i], Array.getElem?_eq_getElem hlt, fun e he hbd => ?_⟩
      · have : i < listed.size := by omega
        simp only [Array.getD_eq_getD_getElem?, Array.getElem?_eq_getElem this, Option.getD_some] at hc ⊢
        simpa using hc
      · have h := hb
        unfold backB at h
        rw [List.all_eq_true] at h
        have h' := h i (by simpa using hlt)
        rw [Array.getElem?_eq_getElem hlt] at h'
        simp only [Array.all_eq_true_iff_forall_mem] at h'
        have h2 := h' e he
        rw [hbd] at h2
        have h3 : e.on < i := by simpa using h2
        exact ih e.on (by omega) (by omega)
    rw [hr] at hmem
    simp at hmem

def unlisted (listed : Array Bool) (n : Nat) : Nat := ((List.range n).filter fun i => !listed.getD i true).length

theorem filter_flip (f g : Nat → Bool) (i : Nat) (hi : f i = true) (hg : g i = false) (h : ∀ j, j ≠ i → g j = f j) : ∀ l : List Nat, (l.filter g).length + (if i ∈ l then 1 else 0) ≤ (l.filter f).length
  | [] => by simp
  | x :: l => by
    have ih := filter_flip f g i hi hg h l
    by_cases hx : x = i
    · subst hx
      rw [List.filter_cons, List.filter_cons, hg, hi]
      by_cases hm : x ∈ l <;> simp only [hm, if_true, if_false] at ih <;> simp <;> omega
    · have hm : (i ∈ x :: l) ↔ i ∈ l := ⟨fun h => (List.mem_cons.1 h).resolve_left (fun e => hx e.symm), List.mem_cons_of_mem _⟩
      rw [List.filter_cons, List.filter_cons, h x hx]
      simp only [hm]
      cases f x <;> simp <;> omega
theorem unlisted_set {listed : Array Bool} {n i : Nat} (hi : i < n) (hs : listed.size = n) (h : listed.getD i true = false) : unlisted (listed.setIfInBounds i true) n + 1 ≤ unlisted listed n := by
  unfold unlisted
  have := filter_flip (fun j => !listed.getD j true) (fun j => !(listed.setIfInBounds i true).getD j true) i (by rw [h]; rfl) (by simp [hs, hi]) (fun j hj => by rw [getD_set_ne true (fun e => hj e.symm)]) (List.range n)
  rw [if_pos (by simpa using hi)] at this
  exact this

theorem wp_region_facts {P : Program} {id : Nat} {l : List Oper} {Q : Exit → Act → World → Prop} {a0 : Act} {w0 : World}
    (T : World → World → Prop) (Φ : Nat → Value → World → Prop)
    (hm : P.follows .mixedOrders = true) (hb : backB l.toArray = true) (ha : apartDsts l = true)
    (hT : ∀ w w' w'', T w w' → T w' w'' → T w w'') (hTr : ∀ w, T w w)
    (hst : ∀ i v w w', Φ i v w → T w w' → Φ i v w')
    (h0 : T w0 w0.drew)
    (hop : ∀ (i : Nat) (o : Oper), l[i]? = some o → ∀ (a : Act) (w : World), T w0 w → a.defers = a0.defers → a.tmps.size = a0.tmps.size → (∀ t, (∀ p ∈ l, p.dst ≠ some t) → a.tmps[t]? = a0.tmps[t]?) →
      (∀ e ∈ o.after, Region.binds .any e = true → ∀ p, l[e.on]? = some p → Φ e.on (left a p) w) →
      if Region.wanted o (yielded l.toArray a.tmps) then o.wp P a w (fun a' w' => ∃ v, a' = a.put o.dst v ∧ T w w' ∧ Φ i v w') Q else Φ i undef w)
    (hnone : ∀ (i : Nat) (o : Oper), l[i]? = some o → o.dst = none → ∀ w, T w0 w → Φ i undef w)
    (hbd : ∀ (i : Nat) (o : Oper) (d : Nat), l[i]? = some o → o.dst = some d → d < a0.tmps.size)
    (hend : ∀ vs w, vs.length = l.length → T w0 w → (∀ i, i < l.length → Φ i (vs.getD i undef) w) → Q .normal (putAll l vs a0) w) :
    (Code.region id l.toArray true).wp P Q a0 w0 := by
  refine wp_region_any hm ?_
  have hdst : ∀ (i j : Nat) (oi oj : Oper) (d : Nat), l[i]? = some oi → l[j]? = some oj → oi.dst = some d → oj.dst = some d → i = j := by
    clear hend hbd hnone hop hst h0 hb
    induction l with
    | nil => intro i j oi oj d h; simp at h
    | cons o l ih =>
      simp only [apartDsts, Bool.and_eq_true] at ha
      intro i j oi oj d hi hj h1 h2
      rcases i with _ | i <;> rcases j with _ | j
      · rfl
      · simp at hi hj; subst hi
        have h3 := ha.1
        rw [h1] at h3
        simp only [List.all_eq_true] at h3
        have := h3 oj (List.mem_of_getElem? hj)
        simp [h2] at this
      · simp at hi hj; subst hj
        have h3 := ha.1
        rw [h2] at h3
        simp only [List.all_eq_true] at h3
        have := h3 oi (List.mem_of_getElem? hi)
        simp [h1] at this
      · rw [ih ha.2 i j oi oj d (by simpa using hi) (by simpa using hj) h1 h2]
  have key : ∀ (fuel : Nat) (listed : Array Bool) (a : Act) (w : World), listed.size = l.length → unlisted listed l.length ≤ fuel → T w0 w → a.defers = a0.defers → a.tmps.size = a0.tmps.size →
      (∀ t, (∀ p ∈ l, p.dst ≠ some t) → a.tmps[t]? = a0.tmps[t]?) → (∀ (i : Nat) (o : Oper), l[i]? = some o → listed.getD i false = true → Φ i (left a o) w) →
      wpAny P .any l.toArray Q fuel listed a w := by
    intro fuel
    have fin : ∀ (listed : Array Bool) (a : Act) (w : World), listed.size = l.length → T w0 w → a.defers = a0.defers → a.tmps.size = a0.tmps.size →
      (∀ t, (∀ p ∈ l, p.dst ≠ some t) → a.tmps[t]? = a0.tmps[t]?) → (∀ (i : Nat) (o : Oper), l[i]? = some o → listed.getD i false = true → Φ i (left a o) w) →
      Region.ready .any l.toArray listed = [] → Q .normal a w := by
      intro listed a w hls hTw hdf hsz hfr hphi hr
      rw [putAll_eq l a0 a ha hdf hsz hfr]
      refine hend _ _ (by simp) hTw fun i hi => ?_
      rw [List.getD_eq_getElem?_getD, List.getElem?_map, List.getElem?_eq_getElem hi]
      exact hphi i _ (List.getElem?_eq_getElem hi) (done_of_ready hb (by simpa using hls) hr (i + 1) i (by omega) (by simpa using hi))
    induction fuel with
    | zero =>
      intro listed a w hls hc hTw hdf hsz hfr hphi
      have hr : Region.ready .any l.toArray listed = [] := by
        apply List.eq_nil_iff_forall_not_mem.2
        intro i hi
        rw [mem_ready] at hi
        obtain ⟨h1, o, ho, _⟩ := hi
        have hlt : i < l.length := by
          have := (Array.getElem?_eq_some_iff.1 ho).1
          simpa using this
        have := unlisted_set hlt hls h1
        omega
      exact ⟨hr, fin listed a w hls hTw hdf hsz hfr hphi hr⟩
    | succ fuel ih =>
      intro listed a w hls hc hTw hdf hsz hfr hphi
      refine ⟨fin listed a w hls hTw hdf hsz hfr hphi, fun i hi => ?_⟩
      rw [mem_ready] at hi
      obtain ⟨h1, o, ho, hall⟩ := hi
      have ho' : l[i]? = some o := by simpa using ho
      have hlt : i < l.length := (List.getElem?_eq_some_iff.1 ho').1
      have h2 := hop i o ho' a w hTw hdf hsz hfr fun e he hbd p hp => hphi e.on p hp (hall e he hbd)
      have nxt : ∀ (v : Value) (w' : World), T w w' → Φ i v w' → wpAny P .any l.toArray Q fuel (listed.setIfInBounds i true) (a.put o.dst v) w' := by
        intro v w' hTw' hv
        refine ih _ _ _ (by simpa using hls) (by have := unlisted_set hlt hls h1; omega) (hT _ _ _ hTw hTw') (by rw [put_defers', hdf]) (by rw [put_size, hsz]) (fun t ht => ?_) fun j p hp hj => ?_
        · rw [put_other _ _ _ _ (ht o (List.mem_of_getElem? ho')), hfr t ht]
        · by_cases hji : j = i
          · subst hji
            have hpo : p = o := by rw [ho'] at hp; exact (Option.some.inj hp).symm
            subst hpo
            cases hd : p.dst with
            | none => simp only [left, hd]; exact hnone j p ho' hd w' (hT _ _ _ hTw hTw')
            | some d =>
              simp only [left, hd, Array.getD_eq_getD_getElem?]
              rw [put_here, if_pos (by rw [hsz]; exact hbd j p d ho' hd)]
              exact hv
          · have hjl : listed.getD j false = true := by
              rwa [getD_set_ne false (fun e => hji e.symm)] at hj
            have h3 := hst j _ w w' (hphi j p hp hjl) hTw'
            have h4 : left (a.put o.dst v) p = left a p := by
              unfold left
              cases hd : p.dst with
              | none => rfl
              | some d =>
                simp only [Array.getD_eq_getD_getElem?]
                rw [put_other _ _ _ _ (fun e => hji (hdst j i p o d hp ho' hd e))]
            rw [h4]; exact h3
      unfold wpOp
      rw [ho]
      simp only
      split
      · rename_i hw
        rw [if_pos hw] at h2
        exact .inl (Oper.wp_mono (fun a' w' ⟨v, e, hTw', hv⟩ => by subst e; exact nxt v w' hTw' hv) h2)
      · rename_i hw
        rw [if_neg hw] at h2
        exact nxt undef w (hTr w) h2
  refine key l.toArray.size _ a0 _ (by simp) ?_ h0 rfl rfl (fun _ _ => rfl) ?_
  · unfold unlisted
    simpa using List.length_filter_le _ (List.range l.length)
  · intro i o hi h
    exact absurd h (by simp [Array.getD_eq_getD_getElem?, Array.getElem?_replicate]; split <;> simp)


/-- A region that draws its order, all of whose operations but a tail (that must come last, in its order) only read. -/
theorem wp_region_tail {P : Program} {id : Nat} {Q : Exit → Act → World → Prop} {a : Act} {w : World} {l : List Oper} (n : Nat) (hm : P.follows .mixedOrders = true) (hB : Region.lexTailB .any l.toArray n = true)
    (h : wpStill P l.toArray w.drew (fun a' => wpList P l.toArray Q (l.drop n) a' w.drew) (l.take n) a) : (Code.region id l.toArray true).wp P Q a w :=
  wp_region_still_tail n hm hB h
end Go.Proofs.YtaigmkpeaenpmaaDoor
