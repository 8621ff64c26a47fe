/- A mutation's text is read as the mutation. -/
import Derived.Test.YtaigmkpeaenpmaaDoorMutFind
namespace Go.Proofs.YtaigmkpeaenpmaaDoor
set_option maxRecDepth 100000
open Go.RowKit
set_option linter.unusedVariables false
set_option linter.unusedSimpArgs false

def sufs (vs : List Int) : List UInt8 := vs.flatMap fun v => 32 :: Lib.itoa v
theorem textOf_split (w : List UInt8) (vs : List Int) : textOf w vs = w ++ sufs vs := by
  unfold textOf sufs
  induction vs generalizing w with
  | nil => simp
  | cons v vs ih => rw [List.foldl_cons, ih, List.flatMap_cons]; simp
theorem textOf_take (w : List UInt8) (vs : List Int) (i : Nat) : textOf w vs = textOf w (vs.take i) ++ sufs (vs.drop i) := by
  rw [textOf_split, textOf_split, List.append_assoc]
  congr 1
  unfold sufs
  rw [← List.flatMap_append, List.take_append_drop]
def ascOk (c : UInt8) : Bool := decide (c.toNat < 128) && !isBl c
theorem dig_ok {c : UInt8} (h : isDig c = true) : ascOk c = true := by
  have := (dig_iff c).1 h
  have hc : c = UInt8.ofNat c.toNat := by simp
  unfold ascOk isBl blanksL
  rw [hc]
  obtain ⟨n, hn⟩ : ∃ n, c.toNat = n := ⟨_, rfl⟩
  rw [hn] at this ⊢
  rcases (by omega : n = 48 ∨ n = 49 ∨ n = 50 ∨ n = 51 ∨ n = 52 ∨ n = 53 ∨ n = 54 ∨ n = 55 ∨ n = 56 ∨ n = 57) with e | e | e | e | e | e | e | e | e | e <;> subst e <;> decide
theorem itoa_ok (n : Int) : (Lib.itoa n).all ascOk = true := by
  have h : ∀ u, (Lib.decDigits u).all ascOk = true := fun u => by
    have := dec_all u
    rw [List.all_eq_true] at this ⊢
    exact fun c hc => dig_ok (this c hc)
  unfold Lib.itoa
  split
  · rw [List.all_cons, h]; decide
  · exact h _
theorem word_ok (k : Nat) : (wordK k).all ascOk = true := by unfold wordK; split <;> decide
theorem ok_bl {l : List UInt8} (h : l.all ascOk = true) : ∀ c ∈ l, isBl c = false := fun c hc => by
  have := List.all_eq_true.1 h c hc
  unfold ascOk at this
  rw [Bool.and_eq_true] at this
  simpa using this.2
theorem sufs_asc (vs : List Int) : (sufs vs).all (fun b => decide (b.toNat < 128)) = true := by
  unfold sufs
  rw [List.all_eq_true]
  intro c hc
  obtain ⟨v, _, hv⟩ := List.mem_flatMap.1 hc
  rcases List.mem_cons.1 hv with rfl | hv
  · decide
  · have := List.all_eq_true.1 (itoa_ok v) c hv
    unfold ascOk at this
    exact (Bool.and_eq_true _ _ ▸ this).1
theorem text_asc (k : Nat) (vs : List Int) : (textOf (wordK k) vs).all (fun b => decide (b.toNat < 128)) = true := by
  rw [textOf_split, List.all_append, sufs_asc, Bool.and_true, List.all_eq_true]
  intro c hc
  have := List.all_eq_true.1 (word_ok k) c hc
  unfold ascOk at this
  exact (Bool.and_eq_true _ _ ▸ this).1
theorem sufs_rest (vs : List Int) : sufs vs = [] ∨ ∃ c r, sufs vs = c :: r ∧ isBl c = true := by
  cases vs with
  | nil => exact .inl rfl
  | cons v vs => exact .inr ⟨32, _, rfl, rfl⟩
theorem text_len (k : Nat) (m1 m2 m3 : Int) (hk : k < 6) (hb : ∀ m ∈ [m1, m2, m3], -9223372036854775808 ≤ m ∧ m ≤ 9223372036854775807) : (textOf (wordK k) (valsK k m1 m2 m3)).length ≤ 100 := by
  rw [textOf_split, List.length_append]
  have hw := word_len k
  have hl : ∀ vs : List Int, (∀ v ∈ vs, v ∈ [m1, m2, m3]) → (sufs vs).length ≤ 21 * vs.length := fun vs => by
    induction vs with
    | nil => intro _; simp [sufs]
    | cons v vs ih =>
      intro h
      have h1 := itoa_len (hb v (h v (by simp))).1 (hb v (h v (by simp))).2
      have h2 := ih fun u hu => h u (by simp [hu])
      have : (sufs (v :: vs)).length = 1 + (Lib.itoa v).length + (sufs vs).length := by simp [sufs]; omega
      rw [this, List.length_cons]; omega
  have hv := vals_offs k hk m1 m2 m3
  have h3 := hl (valsK k m1 m2 m3) fun v h => by
    rw [hv.1] at h
    obtain ⟨o, ho, rfl⟩ := List.mem_map.1 h
    rcases hv.2.2 o ho with e | e | e <;> subst e <;> simp [valAt]
  have h4 : (valsK k m1 m2 m3).length ≤ 3 := by rw [hv.1, List.length_map]; exact hv.2.1
  omega
theorem vals_pos (k : Nat) (m1 m2 m3 : Int) (hk : k < 6) : 0 < (offsK k).length := by
  rcases (by omega : k = 0 ∨ k = 1 ∨ k = 2 ∨ k = 3 ∨ k = 4 ∨ k = 5) with e | e | e | e | e | e <;> subst e <;> decide

/-- The mutation's numbers as far as they are read. -/
def outC (k : Nat) (m1 m2 m3 : Int) (i o : Nat) : Int := if o ∈ (offsK k).take i then valAt m1 m2 m3 o else 0
theorem outC_zero (k : Nat) (m1 m2 m3 : Int) (o : Nat) : outC k m1 m2 m3 0 o = 0 := by simp [outC]
theorem outC_succ {k i : Nat} (m1 m2 m3 : Int) (hi : i < (offsK k).length) (o : Nat) : outC k m1 m2 m3 (i + 1) o = if o = (offsK k)[i] then valAt m1 m2 m3 o else outC k m1 m2 m3 i o := by
  unfold outC
  rw [List.take_succ_eq_append_getElem hi]
  simp only [List.mem_append, List.mem_singleton]
  by_cases h : o = (offsK k)[i]
  · rw [if_pos h, if_pos (.inr h)]
  · rw [if_neg h]
    by_cases h2 : o ∈ (offsK k).take i
    · rw [if_pos (.inl h2), if_pos h2]
    · rw [if_neg (fun e => e.elim h2 h), if_neg h2]

/-- A mutation's cells. -/
def Mut4 (w : World) (g k : Nat) (c : Nat → Int) : Prop := w.cell? ⟨g, 0, none⟩ = some (.int .i64 k) ∧ w.cell? ⟨g, 1, none⟩ = some (.int .i64 (c 1)) ∧ w.cell? ⟨g, 2, none⟩ = some (.int .i64 (c 2)) ∧ w.cell? ⟨g, 3, none⟩ = some (.int .i64 (c 3)) ∧ ∀ o, w.frozen? ⟨g, o, none⟩ = false
theorem Mut4.on {w w' : World} {g k : Nat} {c : Nat → Int} (h : Mut4 w g k c) (hx : Ext w w') : Mut4 w' g k c :=
  ⟨hx.cell' h.1, hx.cell' h.2.1, hx.cell' h.2.2.1, hx.cell' h.2.2.2.1, fun o => (World.frozen?_of_block (hx.block g (lt_of_cell h.1))).trans (h.2.2.2.2 o)⟩
theorem Mut4.keeps {w w' : World} {g k b : Nat} {c : Nat → Int} (h : Mut4 w g k c) (hx : Keeps (fun x => x = b) w w') (hb : g ≠ b) : Mut4 w' g k c :=
  ⟨hx.cell hb h.1, hx.cell hb h.2.1, hx.cell hb h.2.2.1, hx.cell hb h.2.2.2.1, fun o => (hx.frozen (p := ⟨g, o, none⟩) (show g < _ from lt_of_cell h.1) hb).trans (h.2.2.2.2 o)⟩
theorem Mut4.at {w : World} {g k o : Nat} {c : Nat → Int} (h : Mut4 w g k c) (ho : o = 1 ∨ o = 2 ∨ o = 3) : w.cell? ⟨g, o, none⟩ = some (.int .i64 (c o)) := by
  rcases ho with rfl | rfl | rfl
  · exact h.2.1
  · exact h.2.2.1
  · exact h.2.2.2.1
theorem Mut4.put {w : World} {g k o : Nat} {c c' : Nat → Int} {x : Int} (h : Mut4 w g k c) (ho : o = 1 ∨ o = 2 ∨ o = 3) (hc : ∀ j, c' j = if j = o then x else c j) : Mut4 (w.setCell ⟨g, o, none⟩ (.int .i64 x)) g k c' := by
  have hs := World.cell?_setCell_same' w ⟨g, o, none⟩ (.int .i64 x) (by rw [h.at ho]; rfl)
  have h1 := hc 1
  have h2 := hc 2
  have h3 := hc 3
  refine ⟨?_, ?_, ?_, ?_, fun j => ?_⟩
  · exact (World.cell?_setCell_other _ _ _ _ (by rcases ho with rfl | rfl | rfl <;> simp)).trans h.1
  · by_cases e : 1 = o
    · subst e; rw [hs, h1]; rfl
    · rw [h1, if_neg e]; exact (World.cell?_setCell_other _ _ _ _ (by simp <;> omega)).trans h.2.1
  · by_cases e : 2 = o
    · subst e; rw [hs, h2]; rfl
    · rw [h2, if_neg e]; exact (World.cell?_setCell_other _ _ _ _ (by simp <;> omega)).trans h.2.2.1
  · by_cases e : 3 = o
    · subst e; rw [hs, h3]; rfl
    · rw [h3, if_neg e]; exact (World.cell?_setCell_other _ _ _ _ (by simp <;> omega)).trans h.2.2.2.1
  · rw [World.frozen?_setCell]; exact h.2.2.2.2 j

theorem four_cells {w : World} {g : Nat} {c : Nat → Int} {a b d e : Value} (h : Mut4 w g 0 c) :
    let W := (((w.setCell ⟨g, 0, none⟩ a).setCell ⟨g, 1, none⟩ b).setCell ⟨g, 2, none⟩ d).setCell ⟨g, 3, none⟩ e
    W.cell? ⟨g, 0, none⟩ = some a ∧ W.cell? ⟨g, 1, none⟩ = some b ∧ W.cell? ⟨g, 2, none⟩ = some d ∧ W.cell? ⟨g, 3, none⟩ = some e := by
  intro W
  have o := fun (w : World) i j (v : Value) (h : i ≠ j) => World.cell?_setCell_other w ⟨g, j, none⟩ ⟨g, i, none⟩ v (by simp <;> omega)
  have s := fun (w : World) i (v : Value) (h : (w.cell? ⟨g, i, none⟩).isSome) => World.cell?_setCell_same' w ⟨g, i, none⟩ v h
  obtain ⟨h0, h1, h2, h3, -⟩ := h
  refine ⟨?_, ?_, ?_, ?_⟩
  · exact (o _ 0 3 _ (by decide)).trans ((o _ 0 2 _ (by decide)).trans ((o _ 0 1 _ (by decide)).trans (s _ 0 _ (by rw [h0]; rfl))))
  · exact (o _ 1 3 _ (by decide)).trans ((o _ 1 2 _ (by decide)).trans (s _ 1 _ (by rw [o _ 1 0 _ (by decide), h1]; rfl)))
  · exact (o _ 2 3 _ (by decide)).trans (s _ 2 _ (by rw [o _ 2 1 _ (by decide), o _ 2 0 _ (by decide), h2]; rfl))
  · exact s _ 3 _ (by rw [o _ 3 2 _ (by decide), o _ 3 1 _ (by decide), o _ 3 0 _ (by decide), h3]; rfl)

set_option maxHeartbeats 2000000 in
theorem read_good (k : Nat) (hk : k < 6) (m1 m2 m3 : Int) (w : World) (hb : ∀ m ∈ [m1, m2, m3], -9223372036854775808 ≤ m ∧ m ≤ 9223372036854775807) :
    Calls Tryd.prog 7 #[.string ⟨(textOf (wordK k) (valsK k m1 m2 m3)).toArray⟩] w fun e w' => (∃ c1 c2 c3, (c1 = outC k m1 m2 m3 3 1 ∧ c2 = outC k m1 m2 m3 3 2 ∧ c3 = outC k m1 m2 m3 3 3) ∧ e = .returned (.tuple #[.agg #[.int .i64 k, .int .i64 c1, .int .i64 c2, .int .i64 c3], .int .i64 0, .int .i64 0])) ∧ Ext w w' := by
  refine of_post fun R hR => ?_
  obtain ⟨S, hS⟩ : ∃ S : ByteArray, (⟨(textOf (wordK k) (valsK k m1 m2 m3)).toArray⟩ : ByteArray) = S := ⟨_, rfl⟩
  rw [hS]
  have hSl : S.data.toList = textOf (wordK k) (valsK k m1 m2 m3) := by rw [← hS]
  have hSz : S.size ≤ 100 := by have := text_len k m1 m2 m3 hk hb; rw [← hSl] at this; exact this
  have hasc : S.data.toList.all (fun b => decide (b.toNat < 128)) = true := by rw [hSl]; exact text_asc k _
  have HVO := vals_offs k hk m1 m2 m3
  have HNP := vals_pos k m1 m2 m3 hk
  obtain ⟨N, hN⟩ : ∃ N, (offsK k).length = N := ⟨_, rfl⟩
  have HVL : (valsK k m1 m2 m3).length = N := by rw [HVO.1, List.length_map, hN]
  obtain ⟨AT, hAT⟩ : ∃ AT : Nat → Nat, ∀ i, (textOf (wordK k) ((valsK k m1 m2 m3).take i)).length = AT i := ⟨_, fun _ => rfl⟩
  have hAS : ∀ i, AT i ≤ S.size := fun i => by
    have := congrArg List.length (textOf_take (wordK k) (valsK k m1 m2 m3) i)
    rw [← hSl, List.length_append, hAT] at this
    have e : S.data.toList.length = S.size := rfl
    omega
  obtain ⟨WB, hWB⟩ : ∃ WB : ByteArray, ⟨(wordK k).toArray⟩ = WB := ⟨_, rfl⟩
  have hwe : (WB.toList == (⟨#[]⟩ : ByteArray).toList) = false := by
    have : wordK k ≠ [] := by unfold wordK; split <;> simp
    rw [← hWB, toList_data, toList_data]; simpa using this
  have hwe2 : ¬ WB.toList = [] := by
    have : wordK k ≠ [] := by unfold wordK; split <;> simp
    rw [← hWB, toList_data]; simpa using this
  have hwe3 : ¬ WB = ⟨#[]⟩ := fun h => hwe2 (by rw [h, toList_data])
  have hwe4 : WB.toList.isEmpty = false := by cases h : WB.toList with | nil => exact absurd h hwe2 | cons => rfl
  have hwe5 : ¬ WB.toList = (⟨#[]⟩ : ByteArray).toList := fun h => hwe2 (by rw [h, toList_data])
  -- the pieces
  have P0 : ∀ w, Hid (Calls Tryd.prog 13 #[.string S, .int .i64 0] w fun e w' => (∃ a : Int, e = .returned (.tuple #[.string WB, .int .i64 a, .int .i64 (AT 0 : Nat)])) ∧ Ext w w') := fun w => Lib.hid ((piece_any S 0 [] (wordK k) (sufs (valsK k m1 m2 m3)) w (by rw [List.drop_zero, hSl, textOf_split]; rfl) (Nat.zero_le _) (by omega) hasc (by simp) (ok_bl (word_ok k)) (fun h => absurd (congrArg List.length h) (by unfold wordK; split <;> simp)) (sufs_rest _)).mono fun e w' ⟨he, hx⟩ => ⟨⟨(([] : List UInt8).length : Nat), he.trans (by rw [← hAT 0, List.take_zero]; rw [← hWB]; simp [textOf])⟩, hx⟩)
  have PI : ∀ i (x : Int), (valsK k m1 m2 m3)[i]? = some x → ∀ w, Hid (Calls Tryd.prog 13 #[.string S, .int .i64 (AT i : Nat)] w fun e w' =>
      (∃ a : Int, e = .returned (.tuple #[.string ⟨(Lib.itoa x).toArray⟩, .int .i64 a, .int .i64 (AT (i + 1) : Nat)])) ∧ Ext w w') := fun i x hvx w => Lib.hid (by
    have hi : i < N := by have := (List.getElem?_eq_some_iff.1 hvx).1; omega
    have hv : (valsK k m1 m2 m3)[i]'(by omega) = x := (List.getElem?_eq_some_iff.1 hvx).2
    have hd : (valsK k m1 m2 m3).drop i = x :: (valsK k m1 m2 m3).drop (i + 1) := by rw [List.drop_eq_getElem_cons (by omega), hv]
    have ht : (valsK k m1 m2 m3).take (i + 1) = (valsK k m1 m2 m3).take i ++ [x] := by rw [List.take_succ_eq_append_getElem (by omega), hv]
    have hsp := textOf_take (wordK k) (valsK k m1 m2 m3) i
    rw [hd] at hsp
    refine (piece_any S (AT i) [32] (Lib.itoa x) (sufs ((valsK k m1 m2 m3).drop (i + 1))) w ?_ (hAS i) (by omega) hasc (by simp [isBl, blanksL]) (ok_bl (itoa_ok _)) (fun h => absurd h ?_) (sufs_rest _)).mono ?_
    · rw [hSl, hsp, ← hAT i, List.drop_left]; rfl
    · unfold Lib.itoa; split
      · simp
      · exact dec_ne _
    · rintro e w' ⟨rfl, hx⟩
      refine ⟨⟨((AT i + [32].length : Nat) : Int), ?_⟩, hx⟩
      have : AT (i + 1) = AT i + [32].length + (Lib.itoa x).length := by
        rw [← hAT (i + 1), ht, textOf_snoc, List.length_append, hAT i]; simp; omega
      rw [this]; try rfl)
  have PE : ∀ w, Hid (Calls Tryd.prog 13 #[.string S, .int .i64 (AT N : Nat)] w fun e w' => (∃ a b : Int, e = .returned (.tuple #[.string ⟨#[]⟩, .int .i64 a, .int .i64 b])) ∧ Ext w w') := fun w => Lib.hid ((piece_any S (AT N) [] [] [] w (by rw [hSl, ← hAT N, List.take_of_length_le (by omega)]; simp) (hAS N) (by omega) hasc (by simp) (by simp) (fun _ => rfl) (.inl rfl)).mono fun e w' ⟨he, hx⟩ => ⟨⟨_, _, he⟩, hx⟩)
  have HFI : ∀ g pw w, Tab w g → w.cell? ⟨pw, 0, none⟩ = some (.string WB) → Hid (Calls Tryd.prog 14 #[.slice (some ⟨g, 0, none⟩) 6 6, .func (.func 15) #[] #[.pointer (some ⟨pw, 0, none⟩)]] w fun e w' => e = .returned (.int .i64 k) ∧ Ext w w') := fun g pw w ht hw => Lib.hid (find_any g pw k w hk ht (by rw [hWB]; exact hw))
  have HTN := fun w t => Lib.hid (tab_new w t)
  have HTB : ∀ w g, Tab w g → Hid (w.cell? ⟨g, k * 3 + 2, none⟩ = some (.func (.func (useK k)) #[] #[])) := fun w g h => Lib.hid (h k hk).2.2
  obtain ⟨hus, hent⟩ := useK_uses k hk
  have HU := fun b w => Lib.hid (hus b w)
  have HBM : ∀ o ∈ offsK k, Hid (-9223372036854775808 ≤ valAt m1 m2 m3 o ∧ valAt m1 m2 m3 o ≤ 9223372036854775807) := fun o ho => Lib.hid (hb _ (by rcases HVO.2.2 o ho with e | e | e <;> subst e <;> simp [valAt]))
  have HPA : ∀ o (ho : o ∈ offsK k) w, Hid (Calls Tryd.prog 16 #[.string ⟨(Lib.itoa (valAt m1 m2 m3 o)).toArray⟩] w fun e w' => e = .returned (.tuple #[.int .i64 (valAt m1 m2 m3 o), .int .i64 0]) ∧ Ext w w') := fun o ho w => Lib.hid (by
    have := itoa_len (HBM o ho).out.1 (HBM o ho).out.2
    have e : (⟨(Lib.itoa (valAt m1 m2 m3 o)).toArray⟩ : ByteArray).size = (Lib.itoa (valAt m1 m2 m3 o)).length := by simp [ByteArray.size]
    exact whole_parse_ok _ (valAt m1 m2 m3 o) w (by omega) (formL_itoa _) (parse_itoa _ (HBM o ho).out.1 (HBM o ho).out.2))
  have HOS := fun i (hi : i < (offsK k).length) o => Lib.hid (outC_succ m1 m2 m3 hi o)
  have HOZ := fun o => Lib.hid (outC_zero k m1 m2 m3 o)
  have HOF : ∀ o, Hid (outC k m1 m2 m3 N o = outC k m1 m2 m3 3 o) := fun o => Lib.hid (by unfold outC; rw [List.take_of_length_le (by omega), List.take_of_length_le (by omega)])
  have HVOH := Lib.hid HVO
  have HNH := Lib.hid hN
  have hN3 : N ≤ 3 := by rw [← hN]; exact HVO.2.1
  rw [hN] at HU
  have hk6 : (k : Int) < 6 := by omega
  have hS4 : ∀ i, AT i ≤ 100 := fun i => Nat.le_trans (hAS i) hSz
  unfold Enters at hent
  clear hb hSl hSz hasc HVO HVL hAT hAS hS hus HBM hN HNP
  generalize useK k = f at *
  clear hWB
  go_enter Tryd.func7, Tryd.ntmps7
  go_wp2_with fail
  refine (P0 _).out.mono ?_
  rintro e w1 ⟨⟨a, rfl⟩, hx⟩
  have HZ : Hid (Mut4 w1 w.heap.size 0 fun _ => 0) := Lib.hid ⟨hx.cell' (by simp), hx.cell' (by simp), hx.cell' (by simp), hx.cell' (by simp), fun o => (World.frozen?_of_block (hx.block w.heap.size (by simp))).trans (by simp)⟩
  have HX1 := Lib.hid (((Ext.refl' w).alloc' _).trans' hx)
  clear hx P0
  go_wp2_with fail
  refine (ways_any _).mono ?_
  rintro e w2 ⟨rfl, hx⟩
  have cwb := hx.cell' (p := ⟨w1.heap.size, 0, none⟩) (v := .string WB) (by simp)
  have HX2 := Lib.hid (((Ext.refl' w1).alloc' _).trans' hx)
  clear hx
  have cwb' := fun o => ((Ext.refl' w2).alloc' o).cell' cwb
  have HTN2 := (HTN w2 44)
  clear hwe hwe2 hwe3 hwe4 hwe5
  go_wp2_with (refine wpList_store_new _ rfl 44 _ _ rfl rfl _ waysV _ rfl rfl (by kernel_rfl) rfl (by decide) ?_)
  refine (HFI w2.heap.size w1.heap.size _ HTN2.out (cwb' _)).out.mono ?_
  rintro e w3 ⟨rfl, hx⟩
  have ctb := (HTB _ _ (HTN2.out.on hx)).out
  have HX3 := Lib.hid (((Ext.refl' w2).alloc' _).trans' hx)
  have ctb' := fun o => ((Ext.refl' w3).alloc' o).cell' ctb
  clear hx cwb cwb' HTN2 HFI HTN HTB ctb
  go_wp2_with fail
  refine (HU w3.heap.size _).out.mono ?_
  rintro u w4 ⟨g2, rfl, hcell, hx⟩
  have HPT := Lib.hid hcell
  have HB4 : Hid (Mut4 w4 w3.heap.size k fun o => outC k m1 m2 m3 0 o) := Lib.hid ⟨hx.cell' (by simp), (hx.cell' (v := .int .i64 0) (by simp)).trans (by show _ = some (Value.int .i64 (outC k m1 m2 m3 0 1)); rw [(HOZ 1).out]), (hx.cell' (v := .int .i64 0) (by simp)).trans (by show _ = some (Value.int .i64 (outC k m1 m2 m3 0 2)); rw [(HOZ 2).out]), (hx.cell' (v := .int .i64 0) (by simp)).trans (by show _ = some (Value.int .i64 (outC k m1 m2 m3 0 3)); rw [(HOZ 3).out]), fun o => (World.frozen?_of_block (hx.block w3.heap.size (by simp))).trans (by simp)⟩
  have HX24 := Lib.hid (HX3.out.trans' (((Ext.refl' w3).alloc' _).trans' hx))
  have hg3 : w3.heap.size < w4.heap.size := Nat.lt_of_lt_of_le (by simp) hx.size
  have HL : Hid (w.heap.size < w3.heap.size) := Lib.hid (Nat.lt_of_lt_of_le (lt_of_cell HZ.out.1) (Nat.le_trans HX2.out.size HX3.out.size))
  have HZ4 : Hid (Mut4 w4 w.heap.size 0 fun _ => 0) := Lib.hid (HZ.out.on (HX2.out.trans' HX24.out))
  have HX4 := Lib.hid (HX1.out.trans' (HX2.out.trans' HX24.out))
  clear hcell hx ctb' HU HX3 HX24 HX1 HX2 HZ HOZ
  generalize w3.heap.size = go at *
  go_wp2_with fail
  go_loopw [7, 47] (fun av iv wr => ∃ i : Nat, iv = .int .i64 i ∧ i ≤ N ∧ av = .int .i64 (AT i : Nat) ∧ Hid (Keeps (fun b => b = go) w4 wr) ∧
      Hid (Mut4 wr go k fun o => outC k m1 m2 m3 i o)) (fun _ iv _ => N - (intOf iv).toNat)
  case atStart => exact ⟨0, rfl, Nat.zero_le _, rfl, Lib.hid (Keeps.refl _ _), HB4⟩
  case round =>
    obtain ⟨i, rfl, hi, rfl, HKR, HCR⟩ := hrel
    by_cases hlt : i < N
    · have hio : i < (offsK k).length := by rw [HNH.out]; exact hlt
      obtain ⟨b, o, hA, hc⟩ := HPT.out.at_ (k := i) (by unfold Ptrs; simpa using hio)
      simp only [Option.some.injEq, Addr.mk.injEq, and_true] at hA
      obtain ⟨rfl, rfl⟩ := hA
      have hne : ¬ g2 = go := fun e => by
        subst e
        have h2 := HB4.out
        unfold Mut4 at h2
        rcases (by omega : i = 0 ∨ i = 1 ∨ i = 2) with e | e | e <;> subst e
        · rw [Nat.zero_add, h2.1] at hc; simp [Ptrs] at hc
        · rw [Nat.zero_add, h2.2.1] at hc; simp [Ptrs] at hc
        · rw [Nat.zero_add, h2.2.2.1] at hc; simp [Ptrs] at hc
      have c1 := HKR.out.cell hne hc
      simp only [Ptrs, List.getElem_map, Nat.zero_add] at c1
      have hm := List.getElem_mem hio
      have ho := HVOH.out.2.2 _ hm
      have HP := HPA _ hm
      have HPC := PI i (valAt m1 m2 m3 (offsK k)[i]) (by rw [HVOH.out.1, List.getElem?_map, List.getElem?_eq_getElem hio]; rfl)
      have HOI : Hid (∀ o, outC k m1 m2 m3 (i + 1) o = if o = (offsK k)[i] then valAt m1 m2 m3 (offsK k)[i] else outC k m1 m2 m3 i o) := Lib.hid fun o => by
        rw [(HOS i hio o).out]
        by_cases e : o = (offsK k)[i]
        · rw [if_pos e, if_pos e, e]
        · rw [if_neg e, if_neg e]
      clear hc hm HPA PI HOS PE HOF HZ4 HX4 HL
      generalize (offsK k)[i] = of at *
      generalize valAt m1 m2 m3 of = x at *
      have HO := Lib.hid ho
      go_wp2_with fail
      refine (HPC _).out.mono ?_
      rintro e w5 ⟨⟨a5, rfl⟩, hx5⟩
      go_wp2_with fail
      refine (HP _).out.mono ?_
      rintro e w6 ⟨rfl, hx6⟩
      have HM6 := Lib.hid (HCR.out.on (hx5.trans' hx6))
      have HK6 := Lib.hid (HKR.out.trans (Keeps.of_ext (hx5.trans' hx6)))
      have cv := HM6.out.at ho
      have fv := HM6.out.2.2.2.2 of
      generalize outC k m1 m2 m3 i of = y at cv
      clear hx5 hx6 HPC HP HKR HCR ho c1
      go_wp2_with fail
      go_roundw
      case rel => exact ⟨i + 1, by go_num, by omega, rfl, Lib.hid (HK6.out.setCell rfl _), Lib.hid (HM6.out.put HO.out HOI.out)⟩
      case measure => simp [intOf]; omega
    · obtain rfl : i = N := by omega
      go_wp2_with fail
      refine (PE _).out.mono ?_
      rintro e w6 ⟨⟨a, b, rfl⟩, hx⟩
      have HM6 := Lib.hid (HCR.out.on hx)
      have HZ6 := Lib.hid ((HZ4.out.keeps HKR.out (Nat.ne_of_lt HL.out)).on hx)
      have HX6 : Hid (Ext w w6) := Lib.hid (Keeps.below HX4.out (HKR.out.trans (Keeps.of_ext hx)) fun b hb e => by have := HL.out; omega)
      obtain ⟨q0, q1, q2, q3, -⟩ := HM6.out
      obtain ⟨z0, z1, z2, z3, zf⟩ := HZ6.out
      have zf0 := zf 0
      have zf1 := zf 1
      have zf2 := zf 2
      have zf3 := zf 3
      dsimp only at q1 q2 q3 z1 z2 z3
      rw [(HOF 1).out] at q1
      rw [(HOF 2).out] at q2
      rw [(HOF 3).out] at q3
      clear HPA PI HOS PE HOF HZ4 HX4 hx HKR HCR zf
      generalize hc1 : outC k m1 m2 m3 3 1 = c1 at q1
      have HE1 := Lib.hid hc1.symm
      clear hc1
      generalize hc2 : outC k m1 m2 m3 3 2 = c2 at q2
      have HE2 := Lib.hid hc2.symm
      clear hc2
      generalize hc3 : outC k m1 m2 m3 3 3 = c3 at q3
      have HE3 := Lib.hid hc3.symm
      clear hc3
      go_wp2_with fail
      obtain ⟨f0, f1, f2, f3⟩ := four_cells (a := .int .i64 k) (b := .int .i64 c1) (d := .int .i64 c2) (e := .int .i64 c3) HZ6.out
      have HXF : Hid (Ext w _) := Lib.hid (Keeps.below HX6.out (((((Keeps.refl (fun b => b = w.heap.size) w6).setCell (p := ⟨w.heap.size, 0, none⟩) rfl (.int .i64 k)).setCell (p := ⟨w.heap.size, 1, none⟩) rfl (.int .i64 c1)).setCell (p := ⟨w.heap.size, 2, none⟩) rfl (.int .i64 c2)).setCell (p := ⟨w.heap.size, 3, none⟩) rfl (.int .i64 c3)) fun b hb e => by omega)
      exact bodyPost_ret (v := .tuple #[.agg #[.int .i64 k, .int .i64 c1, .int .i64 c2, .int .i64 c3], .int .i64 0, .int .i64 0]) (by simp [results, Tryd.results7, go_sem, f0, f1, f2, f3]) rfl (hR.out _ _ ⟨⟨c1, c2, c3, ⟨HE1.out, HE2.out, HE3.out⟩, rfl⟩, HXF.out⟩)
end Go.Proofs.YtaigmkpeaenpmaaDoor
