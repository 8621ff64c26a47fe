/- What MutateDoes answers. -/
import Derived.Test.YtokfmfgnjhapiaaTwoCopies
namespace Go.Proofs.Ytokfmfgnjhapiaa
open Go.RowKit
set_option linter.unusedVariables false
set_option linter.unusedSimpArgs false

theorem few_any (a b : Option Addr) (n c m d : Nat) (w : World) (hn : n ≤ maxLen) (hm : m ≤ maxLen) :
    Calls Try.prog 12 #[.agg #[.slice a n c, .slice b m d]] w fun e w' => e = .returned (.bool (decide (n ≤ 60 ∧ m ≤ 60))) ∧ Ext w w' := by
  refine of_post fun R hR => ?_
  unfold maxLen at hn hm
  go_enter Try.func12, Try.ntmps12
  go_wp2
  all_goals exact hR.out _ _ ⟨ret_b rfl (by simp; try omega), (Ext.refl' w).alloc' _⟩

theorem real_any (m0 m1 m2 m3 : Int) (w : World) :
    Calls Try.prog 13 #[.agg #[.int .i64 m0, .int .i64 m1, .int .i64 m2, .int .i64 m3]] w fun e w' => e = .returned (.agg #[.int .i64 m0, .int .i64 m1, .int .i64 m2, .int .i64 m3]) ∧ Ext w w' := by
  refine of_post fun R hR => ?_
  go_enter Try.func13, Try.ntmps13
  go_wp2
  exact bodyPost_ret (v := .agg #[.int .i64 m0, .int .i64 m1, .int .i64 m2, .int .i64 m3]) (by simp [results, Try.results13, go_sem]) rfl (hR.out _ _ ⟨rfl, ((Ext.refl' w).alloc' _).alloc' _⟩)

theorem doF_length {m0 m1 m2 m3 : Int} {xs ys zs : List Int} (h : doF m0 m1 m2 m3 xs ys = some zs) (hx : xs.length ≤ 60) (hy : ys.length ≤ 60) : zs.length ≤ 1000 := by
  unfold doF at h
  repeat' (split at h)
  all_goals first
    | cases h; done
    | (injection h with h; subst h; simp [turned]; omega)

/-- Too long: only the example is asked. -/
theorem does_long (m0 m1 m2 m3 : Int) (a b : Option Addr) (n c m d : Nat) (w : World) (hn : n ≤ maxLen) (hm : m ≤ maxLen) (h : ¬ (n ≤ 60 ∧ m ≤ 60)) :
    Calls Try.prog 3 #[.agg #[.int .i64 m0, .int .i64 m1, .int .i64 m2, .int .i64 m3], .agg #[.slice a n c, .slice b m d]] w fun e w' => e = .returned (.bool true) ∧ Ext w w' := by
  refine of_post fun R hR => ?_
  have hb : decide (n ≤ 60 ∧ m ≤ 60) = false := by simpa using h
  have HF := fun W => Lib.hid (few_any a b n c m d W hn hm)
  have HA := fun W => Lib.hid (awake_any W)
  clear h
  go_enter Try.func3, Try.ntmps3
  go_wp2_with fail
  refine (HA _).out.mono ?_
  rintro e w1 ⟨rfl, hx⟩
  have q0 := hx.cell' (p := ⟨w.heap.size + 1, 0, none⟩) (v := .slice a n c) (by simp)
  have q1 := hx.cell' (p := ⟨w.heap.size + 1, 1, none⟩) (v := .slice b m d) (by simp)
  have HX := Lib.hid ((((Ext.refl' w).alloc' _).alloc' _).trans' hx)
  clear hx
  go_wp2_with fail
  refine (HF _).out.mono ?_
  rintro e w2 ⟨rfl, hx⟩
  rw [hb]
  have HX2 := Lib.hid (HX.out.trans' hx)
  clear hx q0 q1
  go_wp2_with fail
  refine (HA _).out.mono ?_
  rintro e w3 ⟨rfl, hx⟩
  have HX3 := Lib.hid (HX2.out.trans' hx)
  clear hx
  go_wp2_with fail
  exact hR.out _ _ ⟨rfl, HX3.out⟩

set_option maxHeartbeats 1000000 in
theorem does_short (m0 m1 m2 m3 : Int) (A B : Option Addr) (xs ys : List Int) (n c m d : Nat) (w : World) (hA : IS w A xs) (hB : IS w B ys) (hx : xs.length = n) (hy : ys.length = m) (hn : n ≤ 60) (hm : m ≤ 60) (hc : n ≤ c) (hd : m ≤ d) :
    Calls Try.prog 3 #[.agg #[.int .i64 m0, .int .i64 m1, .int .i64 m2, .int .i64 m3], .agg #[.slice A n c, .slice B m d]] w fun e w' => e = .returned (.bool true) ∧ Ext w w' := by
  refine of_post fun R hR => ?_
  have hb : decide (n ≤ 60 ∧ m ≤ 60) = true := by simpa using And.intro hn hm
  have HF := fun W => Lib.hid (few_any A B n c m d W (by unfold maxLen; omega) (by unfold maxLen; omega))
  have HW := fun W => Lib.hid (awake_any W)
  have HA := Lib.hid hA
  have HB := Lib.hid hB
  have Hx := Lib.hid hx
  have Hy := Lib.hid hy
  clear hA hB hx hy
  go_enter Try.func3, Try.ntmps3
  go_wp2_with fail
  refine (HW _).out.mono ?_
  rintro e w1 ⟨rfl, hx⟩
  have q0 := hx.cell' (p := ⟨w.heap.size + 1, 0, none⟩) (v := .slice A n c) (by simp)
  have q1 := hx.cell' (p := ⟨w.heap.size + 1, 1, none⟩) (v := .slice B m d) (by simp)
  have r0 := hx.cell' (p := ⟨w.heap.size, 0, none⟩) (v := .int .i64 m0) (by simp)
  have r1 := hx.cell' (p := ⟨w.heap.size, 1, none⟩) (v := .int .i64 m1) (by simp)
  have r2 := hx.cell' (p := ⟨w.heap.size, 2, none⟩) (v := .int .i64 m2) (by simp)
  have r3 := hx.cell' (p := ⟨w.heap.size, 3, none⟩) (v := .int .i64 m3) (by simp)
  have HX := Lib.hid ((((Ext.refl' w).alloc' _).alloc' _).trans' hx)
  clear hx
  go_wp2_with fail
  refine (HF _).out.mono ?_
  rintro e w2 ⟨rfl, hx⟩
  rw [hb]
  have s0 := hx.cell' q0
  have s1 := hx.cell' q1
  have t0 := hx.cell' r0
  have t1 := hx.cell' r1
  have t2 := hx.cell' r2
  have t3 := hx.cell' r3
  have HX2 := Lib.hid (HX.out.trans' hx)
  clear hx q0 q1 r0 r1 r2 r3 HX hb
  go_wp2_with fail
  refine wp_region_facts Ext (fun i v W => match i with
    | 0 => ∃ g, v = .slice (some ⟨g, 0, none⟩) 0 0 ∧ W.ownsRow w2.heap.size 3 1 v 0 []
    | 1 => v = .pointer (some ⟨w.heap.size + 1, 0, none⟩)
    | 2 => v = .slice A n c
    | 3 => Copy w2.heap.size xs v W
    | 4 => ∃ g, v = .slice (some ⟨g, 0, none⟩) 0 0 ∧ W.ownsRow w2.heap.size 3 1 v 0 []
    | 5 => v = .pointer (some ⟨w.heap.size + 1, 1, none⟩)
    | 6 => v = .slice B m d
    | 7 => Copy w2.heap.size ys v W
    | 8 => Copy w2.heap.size xs v W
    | 9 => Copy w2.heap.size ys v W
    | _ => True) (by kernel_rfl) (by kernel_rfl) (by kernel_rfl) (fun _ _ _ h k => Ext.trans' h k) (fun _ => Ext.refl' _) ?_ ((Ext.refl' _).drewN' 1) ?_ ?_ ?_ ?_
  · intro i v W W' h hx
    match i with
    | 0 => obtain ⟨g, e, ho⟩ := h; exact ⟨g, e, own_ext ho hx⟩
    | 1 => exact h
    | 2 => exact h
    | 3 => exact Copy.ext h hx
    | 4 => obtain ⟨g, e, ho⟩ := h; exact ⟨g, e, own_ext ho hx⟩
    | 5 => exact h
    | 6 => exact h
    | 7 => exact Copy.ext h hx
    | 8 => exact Copy.ext h hx
    | 9 => exact Copy.ext h hx
    | _ + 10 => trivial
  · intro i o ho a W hT hdf hsz hfr hdep
    have hlt : i < 10 := (List.getElem?_eq_some_iff.1 ho).1
    have hfr3 := ev_frame (hfr 3 (by decide))
    have hev3 : a.eval (.tmp 3) = .pointer (some ⟨w.heap.size + 1, 0, none⟩) := (ev_tmp a 3).trans hfr3
    have u0 := hT.cell' s0
    have u1 := hT.cell' s1
    match i, hlt with
    | 0, _ =>
      obtain rfl := Option.some.inj ho
      rw [if_pos (wanted_none rfl)]
      exact wp_of_run (v := .slice (some ⟨W.heap.size, 0, none⟩) 0 0) (w' := W.alloc (.cells #[] 3)) (by simp [execOp, go_sem]) ⟨_, rfl, (Ext.refl' _).alloc' _, _, rfl, own_mono (own_empty W 3 1) hT.size⟩
    | 1, _ =>
      obtain rfl := Option.some.inj ho
      rw [if_pos (wanted_none rfl)]
      exact wp_of_run (v := .pointer (some ⟨w.heap.size + 1, 0, none⟩)) (w' := W) (by simp only [execOp, hev3]; simp [go_sem]) ⟨_, rfl, Ext.refl' _, rfl⟩
    | 2, _ =>
      obtain rfl := Option.some.inj ho
      rw [if_pos (wanted_none rfl)]
      have h1 : a.eval (.tmp 21) = .pointer (some ⟨w.heap.size + 1, 0, none⟩) := hdep ⟨1, .data⟩ (by simp) rfl _ rfl
      exact wp_of_run (v := .slice A n c) (w' := W) (by simp only [execOp, h1]; simp [go_sem, u0]) ⟨_, rfl, Ext.refl' _, rfl⟩
    | 3, _ =>
      obtain rfl := Option.some.inj ho
      rw [if_pos (wanted_none rfl)]
      obtain ⟨g, h1, h2⟩ := hdep ⟨0, .data⟩ (by simp) rfl _ rfl
      have h1' : a.eval (.tmp 20) = .slice (some ⟨g, 0, none⟩) 0 0 := h1
      have h3 : a.eval (.tmp 22) = .slice A n c := hdep ⟨2, .data⟩ (by simp) rfl _ rfl
      rw [h1] at h2
      obtain ⟨v', w', hr, hcp, hx⟩ := run_append_empty w2.heap.size 24 g W A xs c h2 ((cells_of_IS HA.out).ext (HX2.out.trans' hT)) (by rw [Hx.out]; omega) hT.size
      rw [Hx.out] at hr
      exact wp_of_run (v := v') (w' := w') (by simp only [execOp, resolve, invoke, builtin, Sem.run_bind, Sem.run_pure, Result.andThen_ok, List.map_toArray, List.map_cons, List.map_nil, h1', h3, hr]) ⟨_, rfl, hx, hcp⟩
    | 4, _ =>
      obtain rfl := Option.some.inj ho
      rw [if_pos (wanted_none rfl)]
      exact wp_of_run (v := .slice (some ⟨W.heap.size, 0, none⟩) 0 0) (w' := W.alloc (.cells #[] 3)) (by simp [execOp, go_sem]) ⟨_, rfl, (Ext.refl' _).alloc' _, _, rfl, own_mono (own_empty W 3 1) hT.size⟩
    | 5, _ =>
      obtain rfl := Option.some.inj ho
      rw [if_pos (wanted_none rfl)]
      exact wp_of_run (v := .pointer (some ⟨w.heap.size + 1, 1, none⟩)) (w' := W) (by simp only [execOp, hev3]; simp [go_sem]) ⟨_, rfl, Ext.refl' _, rfl⟩
    | 6, _ =>
      obtain rfl := Option.some.inj ho
      rw [if_pos (wanted_none rfl)]
      have h1 : a.eval (.tmp 25) = .pointer (some ⟨w.heap.size + 1, 1, none⟩) := hdep ⟨5, .data⟩ (by simp) rfl _ rfl
      exact wp_of_run (v := .slice B m d) (w' := W) (by simp only [execOp, h1]; simp [go_sem, u1]) ⟨_, rfl, Ext.refl' _, rfl⟩
    | 7, _ =>
      obtain rfl := Option.some.inj ho
      rw [if_pos (wanted_none rfl)]
      obtain ⟨g, h1, h2⟩ := hdep ⟨4, .data⟩ (by simp) rfl _ rfl
      have h1' : a.eval (.tmp 24) = .slice (some ⟨g, 0, none⟩) 0 0 := h1
      have h3 : a.eval (.tmp 26) = .slice B m d := hdep ⟨6, .data⟩ (by simp) rfl _ rfl
      rw [h1] at h2
      obtain ⟨v', w', hr, hcp, hx⟩ := run_append_empty w2.heap.size 24 g W B ys d h2 ((cells_of_IS HB.out).ext (HX2.out.trans' hT)) (by rw [Hy.out]; omega) hT.size
      rw [Hy.out] at hr
      exact wp_of_run (v := v') (w' := w') (by simp only [execOp, resolve, invoke, builtin, Sem.run_bind, Sem.run_pure, Result.andThen_ok, List.map_toArray, List.map_cons, List.map_nil, h1', h3, hr]) ⟨_, rfl, hx, hcp⟩
    | 8, _ =>
      obtain rfl := Option.some.inj ho
      rw [if_pos (wanted_none rfl)]
      exact wp_of_run (v := a.eval (.tmp 23)) (w' := W) (by simp only [execOp, Sem.run_pure]) ⟨_, rfl, Ext.refl' _, hdep ⟨3, .data⟩ (by simp) rfl _ rfl⟩
    | 9, _ =>
      obtain rfl := Option.some.inj ho
      rw [if_pos (wanted_none rfl)]
      exact wp_of_run (v := a.eval (.tmp 27)) (w' := W) (by simp only [execOp, Sem.run_pure]) ⟨_, rfl, Ext.refl' _, hdep ⟨7, .data⟩ (by simp) rfl _ rfl⟩
    | j + 10, h => omega
  · intro i o ho hd
    have hlt : i < 10 := (List.getElem?_eq_some_iff.1 ho).1
    match i, hlt with
    | 0, _ | 1, _ | 2, _ | 3, _ | 4, _ | 5, _ | 6, _ | 7, _ | 8, _ | 9, _ => obtain rfl := Option.some.inj ho; simp at hd
    | j + 10, h => omega
  · intro i o dd ho hd
    have hlt : i < 10 := (List.getElem?_eq_some_iff.1 ho).1
    match i, hlt with
    | 0, _ | 1, _ | 2, _ | 3, _ | 4, _ | 5, _ | 6, _ | 7, _ | 8, _ | 9, _ => obtain rfl := Option.some.inj ho; simp at hd; subst hd; simp
    | j + 10, h => omega
  · intro vs w3 hvs hT hΦ
    match vs, hvs with
    | [v0, v1, v2, v3, v4, v5, v6, v7, v8, v9], _ =>
      have p8 : Copy w2.heap.size xs v8 w3 := hΦ 8 (by decide)
      have p9 : Copy w2.heap.size ys v9 w3 := hΦ 9 (by decide)
      clear hΦ
      obtain ⟨ga, ca, rfl, hoa⟩ := p8
      obtain ⟨gb, cb, rfl, hob⟩ := p9
      have HOA := Lib.hid hoa
      have HOB := Lib.hid hob
      have s0' := hT.cell' s0
      have s1' := hT.cell' s1
      have t0' := hT.cell' t0
      have t1' := hT.cell' t1
      have t2' := hT.cell' t2
      have t3' := hT.cell' t3
      have HX3 := Lib.hid (HX2.out.trans' hT)
      clear hT hoa hob s0 s1 t0 t1 t2 t3
      rw [Hx.out, Hy.out]
      have HD : ∀ W, Hid (Ext w3 W) → Hid (Calls Try.prog 14 #[.agg #[.int .i64 m0, .int .i64 m1, .int .i64 m2, .int .i64 m3], .slice (some ⟨ga, 0, none⟩) n ca, .slice (some ⟨gb, 0, none⟩) m cb] W (Done W (doF m0 m1 m2 m3 xs ys) (doCode m0))) := fun W hW => Lib.hid (by
        have h1 := own_ext HOA.out hW.out
        have h2 := own_ext HOB.out hW.out
        have := do_any m0 m1 m2 m3 (some ⟨ga, 0, none⟩) (some ⟨gb, 0, none⟩) xs ys ca cb W (cellsAt_of_own h1) (cellsAt_of_own h2) (by rw [Hx.out]; omega) (by rw [Hy.out]; omega) (own_le h1) (own_le h2)
        rwa [Hx.out, Hy.out] at this)
      have HRF : ∀ W, Hid (Ext w3 W) → Hid (Calls Try.prog 15 #[.agg #[.int .i64 m0, .int .i64 m1, .int .i64 m2, .int .i64 m3], .slice A n c, .slice B m d] W (RDone W (doF m0 m1 m2 m3 xs ys) (doCode m0))) := fun W hW => Lib.hid (by
        have hx' := HX3.out.trans' hW.out
        have := ref_any m0 m1 m2 m3 A B xs ys c d W (HA.out.ext hx') (HB.out.ext hx') (by rw [Hx.out]; omega) (by rw [Hy.out]; omega)
        rwa [Hx.out, Hy.out] at this)
      have HIA : ∀ W cc, Hid (OwnI W w2.heap.size (.slice (some ⟨ga, 0, none⟩) n cc)  xs) → Hid (Ext w W) → Hid (Calls Try.prog 16 #[.slice (some ⟨ga, 0, none⟩) n cc, .slice A n c] W fun e w' => e = .returned (.bool true) ∧ ∃ q, w' = W.drewN q) := fun W cc hO hW => Lib.hid (by
        have h1 := hO.out
        unfold OwnI at h1
        rw [← Hx.out] at h1
        have := ints_any (some ⟨ga, 0, none⟩) A xs xs cc c W (IS_of_own h1) (HA.out.ext hW.out) (by rw [Hx.out]; unfold maxLen; omega) (by rw [Hx.out]; unfold maxLen; omega)
        rw [Hx.out] at this
        simpa using this)
      have HIB : ∀ W cc, Hid (OwnI W w2.heap.size (.slice (some ⟨gb, 0, none⟩) m cc)  ys) → Hid (Ext w W) → Hid (Calls Try.prog 16 #[.slice (some ⟨gb, 0, none⟩) m cc, .slice B m d] W fun e w' => e = .returned (.bool true) ∧ ∃ q, w' = W.drewN q) := fun W cc hO hW => Lib.hid (by
        have h1 := hO.out
        unfold OwnI at h1
        rw [← Hy.out] at h1
        have := ints_any (some ⟨gb, 0, none⟩) B ys ys cc d W (IS_of_own h1) (HB.out.ext hW.out) (by rw [Hy.out]; unfold maxLen; omega) (by rw [Hy.out]; unfold maxLen; omega)
        rw [Hy.out] at this
        simpa using this)
      have hlen : ∀ zs, doF m0 m1 m2 m3 xs ys = some zs → zs.length ≤ 1000 := by
        intro zs hz
        exact doF_length hz (by rw [Hx.out]; exact hn) (by rw [Hy.out]; exact hm)
      generalize doF m0 m1 m2 m3 xs ys = r at *
      generalize doCode m0 = code at *
      simp only [putAll, Act.put, List.setIfInBounds_toArray, List.set_cons_succ, List.set_cons_zero]
      go_wp2_with fail
      refine (real_any m0 m1 m2 m3 _).mono ?_
      rintro e w4 ⟨rfl, hx4⟩
      have HX4 := Lib.hid hx4
      have s0 := hx4.cell' s0'
      have s1 := hx4.cell' s1'
      have t0 := hx4.cell' t0'
      have t1 := hx4.cell' t1'
      have t2 := hx4.cell' t2'
      have t3 := hx4.cell' t3'
      clear hx4 s0' s1' t0' t1' t2' t3'
      go_wp2_with fail
      refine (HD _ HX4).out.mono ?_
      intro e w5 hd5
      cases r with
      | none =>
        obtain ⟨rfl, hx5⟩ := hd5
        have HX5 := Lib.hid (HX4.out.trans' hx5)
        have s0' := hx5.cell' s0
        have s1' := hx5.cell' s1
        have t0' := hx5.cell' t0
        have t1' := hx5.cell' t1
        have t2' := hx5.cell' t2
        have t3' := hx5.cell' t3
        clear hx5 s0 s1 t0 t1 t2 t3
        go_wp2_with fail
        refine (HRF _ HX5).out.mono ?_
        intro e w6 hd6
        obtain ⟨rfl, hx6⟩ := hd6
        have HX6 := Lib.hid (HX5.out.trans' hx6)
        have s0 := hx6.cell' s0'
        have s1 := hx6.cell' s1'
        clear hx6 s0' s1' t0' t1' t2' t3'
        go_wp2_with fail
        refine (ints_any none none [] [] 0 0 _ (fun h => absurd rfl h) (fun h => absurd rfl h) (by decide) (by decide)).mono ?_
        rintro e w7 ⟨rfl, q, rfl⟩
        go_wp2_with fail
        refine wp_loop_rounds 1 ?_
        rw [rounds_succ]
        go_wp2_with fail
        refine (HIA _ ca (Lib.hid (by have := (own_ext HOA.out HX6.out); unfold OwnI; rw [Hx.out] at this ⊢; exact this)) (Lib.hid ((HX3.out.trans' HX6.out).drewN' q))).out.mono ?_
        rintro e w8 ⟨rfl, q2, rfl⟩
        go_wp2_with fail
        refine (HIB _ cb (Lib.hid (by have := (own_ext HOB.out HX6.out); unfold OwnI; rw [Hy.out] at this ⊢; exact this)) (Lib.hid ((HX3.out.trans' HX6.out).drewN' _))).out.mono ?_
        rintro e w9 ⟨rfl, q3, rfl⟩
        go_wp2_with fail
        exact hR.out _ _ ⟨rfl, (HX3.out.trans' HX6.out).drewN' _⟩
      | some zs =>
        obtain ⟨g, cp, rfl, ho, hx5⟩ := done_some hd5
        have hL := hlen zs rfl
        have HO5 := Lib.hid ho
        have HX5 := Lib.hid (HX4.out.trans' hx5)
        have HX45 := Lib.hid hx5
        have s0' := hx5.cell' s0
        have s1' := hx5.cell' s1
        have t0' := hx5.cell' t0
        have t1' := hx5.cell' t1
        have t2' := hx5.cell' t2
        have t3' := hx5.cell' t3
        clear hx5 t0 t1 t2 t3 ho hlen
        go_wp2_with fail
        refine (HRF _ HX5).out.mono ?_
        intro e w6 hd6
        obtain ⟨v6, rfl, ho6, hx6⟩ := hd6
        obtain ⟨A6, c6, rfl⟩ := own_form ho6
        have HX6 := Lib.hid (HX5.out.trans' hx6)
        have HX46 := Lib.hid (HX45.out.trans' hx6)
        have HI : ∀ W, Hid (Ext w6 W) → Hid (Calls Try.prog 16 #[.slice (some ⟨g, 0, none⟩) zs.length cp, .slice A6 zs.length c6] W fun e w' => e = .returned (.bool true) ∧ ∃ q, w' = W.drewN q) := fun W hW => Lib.hid (by
          have := ints_any (some ⟨g, 0, none⟩) A6 zs zs cp c6 W (IS_of_own (own_ext (own_ext HO5.out hx6) hW.out)) (IS_of_own (own_ext ho6 hW.out)) (by unfold maxLen; omega) (by unfold maxLen; omega)
          simpa using this)
        have HO6 := Lib.hid (show ∃ cells, w6.ownsRow w4.heap.size 3 1 (.slice (some ⟨g, 0, none⟩) zs.length cp) zs.length cells from ⟨_, own_ext HO5.out hx6⟩)
        clear hx6 ho6 s0' s1' t0' t1' t2' t3' HO5
        generalize zs.length = L at *
        go_wp2_with fail
        refine (HI _ (Lib.hid (Ext.refl' _))).out.mono ?_
        rintro e w7 ⟨rfl, q, rfl⟩
        clear HI HRF HD
        go_wp2_with fail
        go_loopw [11, 56] (fun _ t wr => ∃ k : Nat, k ≤ L ∧ t = .int .i64 k ∧ Hid (∃ cells, wr.ownsRow w4.heap.size 3 1 (.slice (some ⟨g, 0, none⟩) L cp) L cells) ∧ Hid (Ext w4 wr)) (fun _ t _ => L - (intOf t).toNat)
        case atStart => exact ⟨0, Nat.zero_le _, rfl, Lib.hid (by obtain ⟨cells, h⟩ := HO6.out; exact ⟨cells, h⟩), Lib.hid (HX46.out.drewN' q)⟩
        case round =>
          obtain ⟨k, hk, rfl, HOr, HXr⟩ := hrel
          by_cases hlt : k < L
          · obtain ⟨cells, hcs⟩ := HOr.out
            have c1 := hcs.cellAt k (by omega)
            have f1 := hcs.frozenAt k
            have hst := hcs.stored k (.int .i64 (-7))
            have hlc : k < cells.length := by have := hcs.1; omega
            rw [List.getElem?_eq_getElem hlc] at c1
            generalize cells[k] = u at c1
            have HST := Lib.hid hst
            have HLT := Lib.hid (hcs.lt g rfl)
            clear hst hcs hlc
            go_wp2
            go_roundw
            case rel => exact ⟨k + 1, by omega, by go_num, Lib.hid ⟨_, HST.out.1⟩, Lib.hid (ext_grown_from HXr.out HST.out.2 fun j e => by injection e with e; subst e; exact HLT.out.1)⟩
            case measure => simp [intOf]; omega
          · obtain rfl : k = L := by omega
            clear hlt
            have r0 := HXr.out.cell' s0
            have r1 := HXr.out.cell' s1
            go_wp2_with fail
            refine (HIA _ ca (Lib.hid (by have := own_ext (own_ext HOA.out HX4.out) HXr.out; unfold OwnI; rw [Hx.out] at this ⊢; exact this)) (Lib.hid ((HX3.out.trans' HX4.out).trans' HXr.out))).out.mono ?_
            rintro e w8 ⟨rfl, q2, rfl⟩
            go_wp2_with fail
            refine (HIB _ cb (Lib.hid (by have := own_ext (own_ext HOB.out HX4.out) HXr.out; unfold OwnI; rw [Hy.out] at this ⊢; exact this)) (Lib.hid (((HX3.out.trans' HX4.out).trans' HXr.out).drewN' _))).out.mono ?_
            rintro e w9 ⟨rfl, q3, rfl⟩
            go_wp2_with fail
            exact hR.out _ _ ⟨rfl, ((HX3.out.trans' HX4.out).trans' HXr.out).drewN' _⟩
end Go.Proofs.Ytokfmfgnjhapiaa
