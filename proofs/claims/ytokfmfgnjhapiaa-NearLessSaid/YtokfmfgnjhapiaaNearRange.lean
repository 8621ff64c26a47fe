/- A range over near.All: what the loop's body owes, and what lies behind the loop. -/
import Derived.Test.YtokfmfgnjhapiaaNearAllIn
namespace Go.Proofs.Ytokfmfgnjhapiaa
open Go.RowKit Go.Shelf
attribute [local go_sem] Oper.semAt_some
set_option linter.unusedVariables false
set_option linter.unusedSimpArgs false

/-- How a round's body is left: only blocks that lay ahead of the loop have turned. -/
def BodyPost (I : List (List Int) → (Nat → Prop) → World → Prop) (Ix : List (List Int) → World → Prop) (B : Nat) (pre : List (List Int)) (T : Nat → Prop) (W : World) : Exit → Act → World → Prop
  | .normal, _, W' => Keeps (fun b => b < B) W W' ∧ I pre T W'
  | .ret, _, W' => Keeps (fun b => b < B) W W' ∧ Ix pre W'
  | _, _, _ => False

theorem putObj_keeps {S : Nat → Prop} (W : World) (l : Nat) (o : Obj) (hl : S l) : Keeps S W (W.putObj l o) :=
  (Keeps.of_grown (grownBy_putObj' W l o)).mono fun k _ e => by cases e; exact hl

set_option maxHeartbeats 1000000 in
theorem near_range {g : Operand} {p : Tmp} {assign body : Code} {Q : Exit → Act → World → Prop} {a : Act} {w : World} {m : Nat} (cb : Nat) (A : Option Addr) (xs : List Int) (n c : Nat)
    (hg : a.eval g = .func (.func 33) #[] #[.pointer (some ⟨cb, 0, none⟩)])
    (hx : xs.length = n) (hc : n ≤ c) (hcm : c ≤ maxLen) (hr : ∀ x ∈ xs, -9223372036854775808 ≤ x ∧ x ≤ 9223372036854775807)
    (I : List (List Int) → (Nat → Prop) → World → Prop) (Ix : List (List Int) → World → Prop) (hI : Steady I)
    (hIl : ∀ pre T W, I pre T W → W.cell? ⟨cb, 0, none⟩ = some (.slice A n c) ∧ IS W A xs)
    (hIb : ∀ pre T W W', I pre T W → Keeps (fun b => w.heap.size ≤ b ∧ b < w.heap.size + 2) W W' → I pre T W')
    (hIxb : ∀ pre W W', Ix pre W → Keeps (fun b => w.heap.size ≤ b ∧ b < w.heap.size + 2) W W' → Ix pre W')
    (h0 : I [] (fun _ => False) w) (a₁ : IRow → Act)
    (hassign : ∀ (e : IRow) (W : World) (K : Act → World → Prop), K (a₁ e) W →
      assign.wpIn (Fence.wide.inRound (w.heap.size + 1)) m Try.prog (Exit.then K (fun _ _ _ => False)) { tmps := (#[p].zip #[e.val]).foldl (fun t (p, v) => t.setIfInBounds p v) a.tmps, defers := [] } W)
    (hbody : ∀ pre T (e : IRow) (W : World), I pre T W → pre ++ [e.xs] <+: toldL xs → Fresh 0 W e → (∀ b, T b → w.heap.size ≤ b) →
      body.wpIn (Fence.wide.inRound (w.heap.size + 1)) m Try.prog (BodyPost I Ix w.heap.size (pre ++ [e.xs]) T W) (a₁ e) W)
    (hdone : ∀ T (W : World), I (toldL xs) T W → W.heap[w.heap.size]? = some (.deferred (some [])) → Q .normal { a with defers := { target := .collected w.heap.size, args := #[] } :: a.defers } W)
    (hstop : ∀ pre (W : World), pre <+: toldL xs → Ix pre W → W.heap[w.heap.size]? = some (.deferred (some [])) → Code.ret.wpIn Fence.wide m Try.prog Q { a with defers := { target := .collected w.heap.size, args := #[] } :: a.defers } W) :
    (Code.rangeFunc g #[p] assign body).wpIn Fence.wide m Try.prog Q a w := by
  refine wpIn_rangeFunc fun fn hfn => ?_
  obtain ⟨rec, hrec⟩ : ∃ rec : LoopState → Option Code → Loop, rec = fun st pe => { state := st, pending := pe, fn, tmps := a.tmps, params := #[p], assign, body, defers := w.heap.size } := ⟨_, rfl⟩
  obtain ⟨B, hB⟩ : ∃ B, w.heap.size = B := ⟨_, rfl⟩
  obtain ⟨W1, hW1⟩ : ∃ W1, (w.alloc (.deferred (some []))).alloc (.loop (rec .ready none)) = W1 := ⟨_, rfl⟩
  have hx1 : Ext w W1 := by rw [← hW1]; exact ((Ext.refl' w).alloc' _).alloc' _
  have hs1 : W1.heap.size = B + 2 := by rw [← hW1]; simp [hB]
  have hl1 : W1.heap[B + 1]? = some (.loop (rec .ready none)) := by
    rw [← hW1, ← hB]; have h1 := World.alloc_heap_new (w.alloc (.deferred (some []))) (.loop (rec .ready none)); rwa [World.size_alloc] at h1
  have hd1 : W1.heap[B]? = some (.deferred (some [])) := by
    rw [← hW1, ← hB]
    exact (((Ext.refl' (w.alloc (.deferred (some [])))).alloc' _).block _ (by simp)).trans (World.alloc_heap_new w _)
  refine ⟨w.heap.size + 1, [{ target := .collected w.heap.size, args := #[] }], W1, { target := .fn (.func 33) #[.pointer (some ⟨cb, 0, none⟩)], args := #[.func (.yield (w.heap.size + 1)) #[] #[]] }, W1, 33,
    #[.func (.yield (w.heap.size + 1)) #[] #[], .pointer (some ⟨cb, 0, none⟩)], W1, ?_, ?_, ?_, ?_, ?_, ?_⟩
  · rw [← hW1, hrec]; exact run_enterLoop_outer _ _ _ _ _
  · simp only [resolve, hg]
    simp [go_sem]
  · intro f' hf'; trivial
  · have eg := enters_of Try.func33 (by kernel_rfl) rfl
    simp [invoke, go_sem, eg]
  · intro h; cases h
  · rw [hB]
    rw [hB] at hIb hIxb hassign hbody hdone hstop
    refine callsIn_wide.2 ((callsIn_wide.1 (all_in (B + 1) m
      (fun pre T W => I pre T W ∧ W.heap[B + 1]? = some (.loop (rec .ready none)) ∧ W.heap[B]? = some (.deferred (some [])) ∧ (∀ b, T b → B + 2 ≤ b))
      (fun pre W => pre <+: toldL xs ∧ Ix pre W ∧ W.heap[B + 1]? = some (.loop (rec .done (some .ret))) ∧ W.heap[B]? = some (.deferred (some [])))
      ?_ cb A xs n c hx hc hcm hr (fun pre T W h => hIl pre T W h.1) ?_ W1 ⟨hI _ _ _ _ _ h0 (Keeps.of_ext hx1) (fun b hb => hb.elim), hl1, hd1, fun b hb => hb.elim⟩)).mono ?_)
    · -- the iterator's own steps
      rintro pre T T' W W' ⟨hi, hl, hd, ht⟩ hk ht'
      have hlt : B + 1 < W.heap.size := (Array.getElem?_eq_some_iff.1 hl).1
      refine ⟨hI _ _ _ _ _ hi hk ht', (hk.block _ hlt fun e => ?_).trans hl, (hk.block _ (by omega) fun e => ?_).trans hd, fun b hb => (ht' b hb).elim (ht b) fun q => by omega⟩
      · have := ht _ e; omega
      · have := ht _ e; omega
    · -- one round
      rintro pre T W e ⟨hi, hl, hd, ht⟩ hpre hf hbt hlt'
      have hlt : B + 1 < W.heap.size := (Array.getElem?_eq_some_iff.1 hl).1
      have hy := run_yield (P := Try.prog) (args := #[e.val]) hl (by rw [hrec]; rfl)
      rw [hrec] at hy
      refine ⟨fn, _, assign, body, hy, roundIn_of_wpIn hfn ?_⟩
      refine hassign e W _ ?_
      refine ⟨_, run_beginRound hl (by rw [hrec]), ?_⟩
      have hk0 : Keeps (fun b => B ≤ b ∧ b < B + 2) W (W.putObj (B + 1) (.loop { rec .ready none with state := .busy })) := putObj_keeps (S := fun b => B ≤ b ∧ b < B + 2) _ _ _ ⟨by omega, by omega⟩
      obtain ⟨W2, hW2⟩ : ∃ W2, W.putObj (B + 1) (.loop { rec .ready none with state := .busy }) = W2 := ⟨_, rfl⟩
      have hl2 : W2.heap[B + 1]? = some (.loop { rec .ready none with state := .busy }) := by rw [← hW2]; exact World.putObj_heap_same hlt
      have hd2 : W2.heap[B]? = some (.deferred (some [])) := by rw [← hW2]; exact (World.putObj_heap_other (by omega)).trans hd
      rw [hW2] at hk0 ⊢
      have hf2 : Fresh 0 W2 e := hf.keeps hk0 fun b hb q => by have := ht _ (hbt b hb); omega
      refine wpIn_mono (hbody pre T e W2 (hIb _ _ _ _ hi hk0) hpre hf2 (fun b hb => by have := ht b hb; omega)) ?_
      have fin : ∀ (jump : Option Code) (W3 : World), Keeps (fun b => b < B) W2 W3 →
          (Instr.endRound (B + 1) jump).run Try.prog W3 = .ok (.bool jump.isNone) (W3.putObj (B + 1) (.loop (rec (if jump.isNone then .ready else .done) jump))) ∧
          (W3.putObj (B + 1) (.loop (rec (if jump.isNone then .ready else .done) jump))).heap[B + 1]? = some (.loop (rec (if jump.isNone then .ready else .done) jump)) ∧
          (W3.putObj (B + 1) (.loop (rec (if jump.isNone then .ready else .done) jump))).heap[B]? = some (.deferred (some [])) := fun jump W3 hk3 => by
        have hlt2 : B + 1 < W2.heap.size := (Array.getElem?_eq_some_iff.1 hl2).1
        have hl3 : W3.heap[B + 1]? = some (.loop { rec .ready none with state := .busy }) := (hk3.block _ hlt2 (by omega)).trans hl2
        have hd3 : W3.heap[B]? = some (.deferred (some [])) := (hk3.block _ (by omega) (by omega)).trans hd2
        have hlt3 : B + 1 < W3.heap.size := (Array.getElem?_eq_some_iff.1 hl3).1
        have he := run_endRound (P := Try.prog) jump hl3
        rw [hrec] at he ⊢
        exact ⟨he, World.putObj_heap_same hlt3, (World.putObj_heap_other (by omega)).trans hd3⟩
      rintro ex a3 W3 hp
      cases ex with
      | normal =>
        obtain ⟨hk3, hi3⟩ := hp
        obtain ⟨he, hl4, hd4⟩ := fin none W3 hk3
        have hk4 : Keeps (fun b => B ≤ b ∧ b < B + 2) W3 (W3.putObj (B + 1) (.loop (rec .ready none))) := putObj_keeps (S := fun b => B ≤ b ∧ b < B + 2) _ _ _ ⟨by omega, by omega⟩
        refine ⟨_, _, he, .inl ⟨rfl, ⟨hIb _ _ _ _ hi3 hk4, hl4, hd4, ht⟩, ?_⟩⟩
        have hk5 : Keeps (fun b => b < B + 2) W (W3.putObj (B + 1) (.loop (rec .ready none))) :=
          ((hk0.mono fun k _ q => by omega).trans (hk3.mono fun k _ q => by omega)).trans (hk4.mono fun k _ q => by omega)
        exact hk5.mono fun k _ q => .inl fun hT => by have := ht k hT; omega
      | ret =>
        obtain ⟨hk3, hi3⟩ := hp
        obtain ⟨he, hl4, hd4⟩ := fin (some .ret) W3 hk3
        have hk4 : Keeps (fun b => B ≤ b ∧ b < B + 2) W3 (W3.putObj (B + 1) (.loop (rec .done (some .ret)))) := putObj_keeps (S := fun b => B ≤ b ∧ b < B + 2) _ _ _ ⟨by omega, by omega⟩
        exact ⟨_, _, he, .inr ⟨rfl, hpre, hIxb _ _ _ hi3 hk4, hl4, hd4⟩⟩
      | exit id => exact hp.elim
      | goto t => exact hp.elim
      | panic ch => exact hp.elim
      | outgrown => exact hp.elim
    · -- behind the loop
      rintro ee W2 ⟨⟨v, rfl⟩, (⟨T', ⟨hi, hl, hd, ht⟩, _⟩ | ⟨pre, _, hpre, hi, hl, hd⟩)⟩
      · have hk : ∀ o, Keeps (fun b => B ≤ b ∧ b < B + 2) W2 (W2.putObj (B + 1) o) := fun o => putObj_keeps (S := fun b => B ≤ b ∧ b < B + 2) _ _ _ ⟨by omega, by omega⟩
        exact ⟨none, _, (run_endLoop (P := Try.prog) hl (by rw [hrec]; simp)).trans (congrArg (fun x => Result.ok x _) (show (rec .ready none).pending = none by rw [hrec])), hdone _ _ (hIb _ _ _ _ hi (hk _)) ((World.putObj_heap_other (by omega)).trans hd)⟩
      · have hk : ∀ o, Keeps (fun b => B ≤ b ∧ b < B + 2) W2 (W2.putObj (B + 1) o) := fun o => putObj_keeps (S := fun b => B ≤ b ∧ b < B + 2) _ _ _ ⟨by omega, by omega⟩
        exact ⟨some .ret, _, (run_endLoop (P := Try.prog) hl (by rw [hrec]; simp)).trans (congrArg (fun x => Result.ok x _) (show (rec .done (some .ret)).pending = some .ret by rw [hrec])), hstop _ _ hpre (hIxb _ _ _ hi (hk _)) ((World.putObj_heap_other (by omega)).trans hd)⟩
end Go.Proofs.Ytokfmfgnjhapiaa
