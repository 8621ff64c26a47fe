/- The document's put. -/
import Derived.Test.YtokfmfgnjhapiaaNearRef
import Derived.Deep.RegionHeld3
namespace Go.Proofs.Ytokfmfgnjhapiaa
open Go.RowKit
set_option linter.unusedVariables false
set_option linter.unusedSimpArgs false

theorem step_append_src {P : Program} {w : World} {ops : Array Oper} {o : Oper} {a : Act} {K : Act → World → Prop} {Q : Exit → Act → World → Prop} {E : Prop} (hgd : o.guard = none) (s x : Operand) (t : TypeId)
    (ho : o.op = .call { callee := .builtin .append, args := #[s, x], argTypes := #[t, t] })
    (base : Nat) (e : TypeId) (i : TypeInfo) (z : Value) (size bytes : Nat) (ht : P.underlying t = some (.slice e)) (hi : P.info? e = some i) (hz : i.zero = some z)
    (hsize : i.size = size) (hby : i.bytes = bytes) (hzs : z.cells.size = size) (hsz : 0 < size)
    (v : Value) (n : Nat) (xs : List Value) (hs : a.eval s = v) (hown : w.ownsRow base e size v n xs)
    (A : Option Addr) (m c : Nat) (news : List Value) (hx : a.eval x = .slice A m c) (hl : news.length = m * size) (hr : CellsAt w A news) (h1 : ∀ u ∈ news, u.oneCell' = true)
    (hbytes : (n + m) * bytes ≤ 140737488355328) (h63 : n + m ≤ maxLen) (hbase : base ≤ w.heap.size)
    (h : ∀ v' w', w'.ownsRow base e size v' (n + m) (xs ++ news) → w.grownBy w' v.ownBlock → (v'.ownBlock = v.ownBlock ∨ v'.ownBlock = some w.heap.size) → K (a.put o.dst v') w') :
    if Region.wanted o (yielded ops a.tmps) = true then Oper.wp P o a w K Q else E := by
  have hw : Region.wanted o (yielded ops a.tmps) = true := by simp [Region.wanted, hgd]
  rw [if_pos hw]
  exact wp_append_src w s x t ho base e i z size bytes ht hi hz hsize hby hzs hsz v n xs hs hown A m c news hx hl hr h1 hbytes h63 hbase h

theorem own_empty_at {X : World} {g : Nat} {t : TypeId} (h : X.heap[g]? = some (.cells #[] t)) : X.ownsRow 0 t 1 (.slice (some ⟨g, 0, none⟩) 0 0) 0 [] :=
  ⟨rfl, .inr ⟨g, 0, #[], rfl, Nat.zero_le _, h, Nat.le_refl _, Nat.zero_le _, by simp, by simp⟩⟩

/-- One append of put, as a step of its region: the row is the call's own, all that lay in w stands. -/
theorem put_step {w X : World} {ops : Array Oper} {o : Oper} {a : Act} {K : Act → World → Prop} {Q : Exit → Act → World → Prop} {E : Prop} (hgd : o.guard = none) (s x : Operand)
    (ho : o.op = .call { callee := .builtin .append, args := #[s, x], argTypes := #[41, 41] })
    (v : Value) (n : Nat) (us : List Value) (hs : a.eval s = v) (hown : Hid (X.ownsRow 0 24 1 v n us)) (hX : Hid (Ext w X)) (hb : Hid (∀ b, v.ownBlock = some b → w.heap.size ≤ b))
    (A : Option Addr) (m c : Nat) (news : List Value) (hx : a.eval x = .slice A m c) (hl : Hid (news.length = m)) (hr : Hid (CellsAt X A news)) (h1 : Hid (∀ u ∈ news, u.oneCell' = true)) (hsm : Hid (n + m ≤ 1000000))
    (h : ∀ v' W', Hid (W'.ownsRow 0 24 1 v' (n + m) (us ++ news)) → Hid (Ext w W') → Hid (∀ b, v'.ownBlock = some b → w.heap.size ≤ b) → Hid (∀ p u, X.cell? p = some u → v.ownBlock ≠ some p.block → W'.cell? p = some u) → K (a.put o.dst v') W') :
    if Region.wanted o (yielded ops a.tmps) = true then Oper.wp Try.prog o a X K Q else E := by
  obtain ⟨i0, hi, hz0, hz1, hz2⟩ := info_parts infoInts
  have h2 := hsm.out
  refine step_append_src hgd s x 41 ho 0 24 i0 (.slice none 0 0) 1 24 Try.underlying41 hi hz0 hz1 hz2 rfl (by decide) v n us hs hown.out A m c news hx (by rw [hl.out]; simp) hr.out h1.out (by omega) (by unfold maxLen; omega) (Nat.zero_le _) ?_
  intro v' W' hO hG hB
  refine h v' W' (Lib.hid hO) (Lib.hid (ext_grown_from hX.out hG fun k e => hb.out k e)) (Lib.hid fun b hb' => ?_) (Lib.hid fun p u hc hne => hG.cell hc fun e => hne e.symm)
  rcases hB with e | e
  · exact hb.out b (e ▸ hb')
  · rw [e] at hb'; cases hb'; exact hX.out.size

theorem out_of_own {w : World} {v : Value} {n : Nat} {us : List IRow} (h : w.ownsRow 0 24 1 v n (us.map IRow.val)) (hn : us.length = n) (hf : ∀ e ∈ us, Fresh 0 w e) : Out w v us := by
  subst hn
  obtain ⟨A, c, rfl⟩ := own_form h
  refine ⟨A, c, rfl, ?_, ?_, cellsAt_of_own h, hf⟩
  · rcases h.2 with ⟨h1, h2⟩ | ⟨g, cap, cur, h1, _, _, h2, _⟩
    · simp only [Value.slice.injEq] at h1; omega
    · simp only [Value.slice.injEq] at h1; omega
  · rcases h.2 with ⟨h1, h2⟩ | ⟨g, cap, cur, h1, _, _, _, h2, _⟩
    · simp only [Value.slice.injEq] at h1; omega
    · simp only [Value.slice.injEq] at h1; omega

theorem putE_at {rows : List IRow} {e : IRow} {k : Nat} (hk : k < rows.length) : putE (rows.drop k) e = if lessL rows[k].xs e.xs = true then rows[k] :: putE (rows.drop (k + 1)) e else if rows[k].xs = e.xs then rows.drop k else e :: rows.drop k := by
  rw [List.drop_eq_getElem_cons hk, putE]

set_option maxRecDepth 100000 in
set_option maxHeartbeats 4000000 in
theorem put_any (A : Option Addr) (rows : List IRow) (n c : Nat) (e : IRow) (w : World) (hA : CellsAt w A (rows.map IRow.val)) (hr : ∀ r ∈ rows, Fresh 0 w r) (he : Fresh 0 w e) (hx : rows.length = n) (hn : n ≤ 100000) (hc : n ≤ c) (hcm : c ≤ maxLen) :
    Calls Try.prog 31 #[.slice A n c, e.val] w fun q w' => (∃ v', q = .returned v' ∧ Out w' v' (putE rows e)) ∧ Ext w w' := by
  refine of_post fun R hR => ?_
  have hcm0 := Lib.hid hcm
  unfold maxLen at hcm
  have HA := Lib.hid hA
  have Hr := Lib.hid hr
  have He := Lib.hid he
  have Hx := Lib.hid hx
  clear hA hr he hx
  have hval : e.val = .slice e.A e.xs.length e.c := rfl
  have HL := fun (r : IRow) (hr : Fresh 0 w r) q => Lib.hid (less_any r.A e.A r.xs e.xs r.c e.c (w.drewN q) (IS_of_cells hr.ok) (IS_of_cells He.out.ok) (Nat.le_trans hr.le hr.cap) (Nat.le_trans He.out.le He.out.cap))
  have HSM := fun (r : IRow) (hr : Fresh 0 w r) q => Lib.hid (same_any r.A e.A r.xs e.xs r.c e.c (w.drewN q) (IS_of_cells hr.ok) (IS_of_cells He.out.ok) (Nat.le_trans hr.le hr.cap) (Nat.le_trans He.out.le He.out.cap))
  rw [hval]
  have hen' := Lib.hid hval
  clear hval
  generalize hen : e.xs.length = en at *
  have Hen := Lib.hid hen
  have hval : e.val = .slice e.A en e.c := hen'.out
  have HV := Lib.hid hval
  clear hen hval hen'
  go_enter Try.func31, Try.ntmps31
  go_wp2_with fail
  go_loopw [5] (fun i wr => ∃ k q : Nat, i = .int .i64 k ∧ k ≤ n ∧ wr = w.drewN q ∧ Hid (putE rows e = rows.take k ++ putE (rows.drop k) e)) (fun i _ => n - (intOf i).toNat)
  case atStart => exact ⟨0, 0, rfl, Nat.zero_le _, rfl, Lib.hid rfl⟩
  case round =>
    obtain ⟨k, q, rfl, hk, rfl, HPE⟩ := hrel
    by_cases hlt : k < n
    · have hkr : k < rows.length := by rw [Hx.out]; exact hlt
      have HPA := Lib.hid (putE_at (e := e) hkr)
      have HFR := Lib.hid (Hr.out _ (List.getElem_mem hkr))
      have HTK := Lib.hid (List.take_succ_eq_append_getElem hkr)
      obtain ⟨b, o, hAe, hcell⟩ := HA.out.at_ (k := k) (by simpa using hkr)
      subst hAe
      simp only [List.getElem_map] at hcell
      have hrv : rows[k].val = .slice rows[k].A rows[k].xs.length rows[k].c := rfl
      rw [hrv] at hcell
      clear hrv
      have HLK := fun q => HL _ HFR.out q
      have HSK := fun q => HSM _ HFR.out q
      clear HL HSM
      generalize rows[k] = r at *
      generalize hrn : r.xs.length = rn at *
      have Hrn := Lib.hid hrn
      clear hrn
      have cD := HA.out.cut k c (by simp [Hx.out]; omega)
      obtain ⟨A1, hA1⟩ : ∃ A1, (if c = k then (some (⟨b, o, none⟩ : Addr)) else Option.map (fun x => x.add k) (some (⟨b, o, none⟩ : Addr))) = A1 := ⟨_, rfl⟩
      rw [hA1] at cD
      have HCD := Lib.hid cD
      clear cD
      have hD : ∀ X, Hid (Ext w X) → Hid (CellsAt X A1 ((rows.drop k).map IRow.val)) := fun X hX => Lib.hid (by rw [List.map_drop]; exact HCD.out.ext hX.out)
      have hD2 : ∀ X, Hid (Ext w X) → Hid (CellsAt X (some ⟨b, o + k, none⟩) ((rows.drop k).map IRow.val)) := fun X hX => Lib.hid (by
        have h1 := HA.out.drop k
        simp only [Option.map_some, addr_add] at h1
        rw [List.map_drop]; exact h1.ext hX.out)
      have hck : ¬ c = k := by omega
      have hD3 : ∀ X, Hid (Ext w X) → Hid (CellsAt X (if c = k then some ⟨b, o, none⟩ else some ⟨b, o + k, none⟩) ((rows.drop k).map IRow.val)) := fun X hX => by rw [if_neg hck]; exact hD2 X hX
      have i1 : (0 : Int) ≤ k := by omega
      have i2 : (k : Int) ≤ n := by omega
      have i3 : (k : Int) ≤ c := by omega
      go_wp2_with fail
      refine (HLK q).out.mono ?_
      rintro u w1 ⟨rfl, nq, rfl⟩
      cases hb : lessL r.xs e.xs with
      | true =>
        have HPN : Hid (putE rows e = rows.take (k + 1) ++ putE (rows.drop (k + 1)) e) := Lib.hid (by
          rw [HPE.out, HPA.out, if_pos hb, HTK.out, List.append_assoc]; rfl)
        clear hb
        go_wp2_with fail
        go_roundw
        case rel => exact ⟨k + 1, q + nq, by go_num, by omega, rfl, HPN⟩
        case measure => simp [intOf]; omega
      | false =>
        have Hb := Lib.hid hb
        clear hb
        rw [World.drewN_drewN]
        go_wp2_with fail
        refine (HSK (q + nq)).out.mono ?_
        rintro u w2 ⟨rfl, nq2, rfl⟩
        rw [World.drewN_drewN]
        by_cases hse : r.xs = e.xs
        · rw [decide_eq_true hse]
          have HPN : Hid (putE rows e = rows) := Lib.hid (by
            rw [HPE.out, HPA.out, if_neg (by rw [Hb.out]; simp), if_pos hse, List.take_append_drop])
          clear hse
          have HO : Hid (Out (w.drewN (q + nq + nq2)) (.slice (some (⟨b, o, none⟩ : Addr)) n c) (putE rows e)) := Lib.hid (by
            rw [HPN.out]
            exact ⟨_, c, by rw [Hx.out], by rw [Hx.out]; exact hc, hcm0.out, HA.out.ext ((Ext.refl' w).drewN' _), fun x hx => (Hr.out x hx).on ((Ext.refl' w).drewN' _)⟩)
          go_wp2_with fail
          exact hR.out _ _ ⟨⟨_, rfl, HO.out⟩, (Ext.refl' w).drewN' _⟩
        · rw [decide_eq_false hse]
          have HPN : Hid (putE rows e = rows.take k ++ e :: rows.drop k) := Lib.hid (by
            rw [HPE.out, HPA.out, if_neg (by rw [Hb.out]; simp), if_neg hse])
          clear HPE hse
          have HPE := HPN
          clear HPN
          go_wp2_with fail
          have hE1 : ∀ q, Hid (((w.drewN q).alloc (.cells #[] 24)).ownsRow 0 24 1 (.slice (some ⟨w.heap.size, 0, none⟩) 0 0) 0 []) := fun q => Lib.hid (own_empty_at (heap_alloc_new (w.drewN q) _))
          have hE2 : ∀ q, Hid ((((w.drewN q).alloc (.cells #[] 24)).alloc (.cells #[.slice e.A en e.c] 24)).ownsRow 0 24 1 (.slice (some ⟨w.heap.size, 0, none⟩) 0 0) 0 []) := fun q => Lib.hid (own_ext (hE1 q).out ((Ext.refl' _).alloc' _))
          have hE3 : ∀ q, Hid ((((w.drewN q).alloc (.cells #[.slice e.A en e.c] 24)).alloc (.cells #[] 24)).ownsRow 0 24 1 (.slice (some ⟨w.heap.size + 1, 0, none⟩) 0 0) 0 []) := fun q => Lib.hid (by
            have h1 := own_empty_at (X := ((w.drewN q).alloc (.cells #[.slice e.A en e.c] 24)).alloc (.cells #[] 24)) (heap_alloc_new ((w.drewN q).alloc (.cells #[.slice e.A en e.c] 24)) (.cells #[] 24))
            rw [World.size_alloc] at h1
            exact h1)
          have hL2 : ∀ q, Hid ((((w.drewN q).alloc (.cells #[] 24)).alloc (.cells #[.slice e.A en e.c] 24)).cell? ⟨w.heap.size + 1, 0, none⟩ = some (.slice e.A en e.c)) := fun q => Lib.hid (by
            have h1 := new_cell ((w.drewN q).alloc (.cells #[] 24)) (.slice e.A en e.c) 24
            rw [World.size_alloc] at h1
            exact h1)
          have hL3 : ∀ q, Hid ((((w.drewN q).alloc (.cells #[.slice e.A en e.c] 24)).alloc (.cells #[] 24)).cell? ⟨w.heap.size, 0, none⟩ = some (.slice e.A en e.c)) := fun q => Lib.hid (((Ext.refl' _).alloc' _).cell' (new_cell (w.drewN q) (.slice e.A en e.c) 24))
          have hX1 : ∀ q o, Hid (Ext w ((w.drewN q).alloc o)) := fun q o => Lib.hid (((Ext.refl' w).drewN' q).alloc' o)
          have hX2 : ∀ q o o', Hid (Ext w (((w.drewN q).alloc o).alloc o')) := fun q o o' => Lib.hid ((((Ext.refl' w).drewN' q).alloc' o).alloc' o')
          have hB1 : Hid (∀ b, (Value.slice (some ⟨w.heap.size, 0, none⟩) 0 0).ownBlock = some b → w.heap.size ≤ b) := Lib.hid fun b hb => by simp [Value.ownBlock] at hb; omega
          have hB2 : Hid (∀ b, (Value.slice (some ⟨w.heap.size + 1, 0, none⟩) 0 0).ownBlock = some b → w.heap.size ≤ b) := Lib.hid fun b hb => by simp [Value.ownBlock] at hb; omega
          have hT : ∀ X, Hid (Ext w X) → Hid (CellsAt X (some (⟨b, o, none⟩ : Addr)) ((rows.take k).map IRow.val)) := fun X hX => Lib.hid (by rw [List.map_take]; exact (HA.out.take k).ext hX.out)
          have hTl : Hid (((rows.take k).map IRow.val).length = k) := Lib.hid (by rw [List.length_map, List.length_take, Hx.out]; omega)
          have hDl : Hid (((rows.drop k).map IRow.val).length = n - k) := Lib.hid (by simp [Hx.out])
          have hone : ∀ l : List IRow, Hid (∀ u ∈ l.map IRow.val, u.oneCell' = true) := fun l => Lib.hid fun u hu => by obtain ⟨y, _, rfl⟩ := List.mem_map.1 hu; rfl
          have hone1 : Hid (∀ u ∈ [Value.slice e.A en e.c], u.oneCell' = true) := Lib.hid fun u hu => by simp only [List.mem_singleton] at hu; subst hu; rfl
          have hs1 : Hid (0 + k ≤ 1000000) := Lib.hid (by omega)
          have hs2 : Hid (0 + k + 1 ≤ 1000000) := Lib.hid (by omega)
          have hs3 : Hid (0 + k + 1 + (n - k) ≤ 1000000) := Lib.hid (by omega)
          have hN : ∀ (X : World) o, Hid (CellsAt (X.alloc (.cells #[.slice e.A en e.c] o)) (some ⟨X.heap.size, 0, none⟩) [.slice e.A en e.c]) := fun X o => Lib.hid (cellsAt_new X [_] o)
          have hone' : ∀ (X : World) b, X.cell? ⟨b, 0, none⟩ = some (.slice e.A en e.c) → Hid (CellsAt X (some ⟨b, 0, none⟩) [.slice e.A en e.c]) := fun X b h => Lib.hid fun _ => ⟨b, 0, rfl, fun j u hu => by
            cases j with
            | zero => simp at hu; rw [← hu]; exact h
            | succ j => simp at hu⟩
          have hne2 : (Value.slice (some ⟨w.heap.size, 0, none⟩) 0 0).ownBlock ≠ some (w.heap.size + 1) := by simp [Value.ownBlock]
          have hne3 : (Value.slice (some ⟨w.heap.size + 1, 0, none⟩) 0 0).ownBlock ≠ some w.heap.size := by simp [Value.ownBlock]
          go_region_held3 (fun W => True) (exact trivial)
            (first
              | (refine put_step rfl _ _ rfl (.slice (some ⟨w.heap.size, 0, none⟩) 0 0) 0 [] rfl (hE1 _) (hX1 _ _) hB1 (some (⟨b, o, none⟩ : Addr)) k c ((rows.take k).map IRow.val) rfl hTl (hT _ (hX1 _ _)) (hone _) hs1 ?_; intro v4 W4 HO4 HX4 HB4 HC4; clear HC4)
              | (refine put_step rfl _ _ rfl (.slice (some ⟨w.heap.size, 0, none⟩) 0 0) 0 [] rfl (hE2 _) (hX2 _ _ _) hB1 (some (⟨b, o, none⟩ : Addr)) k c ((rows.take k).map IRow.val) rfl hTl (hT _ (hX2 _ _ _)) (hone _) hs1 ?_; intro v4 W4 HO4 HX4 HB4 HC4; have HL4 := hone' W4 _ (HC4.out _ _ (hL2 _).out hne2); clear HC4)
              | (refine put_step rfl _ _ rfl (.slice (some ⟨w.heap.size + 1, 0, none⟩) 0 0) 0 [] rfl (hE3 _) (hX2 _ _ _) hB2 (some (⟨b, o, none⟩ : Addr)) k c ((rows.take k).map IRow.val) rfl hTl (hT _ (hX2 _ _ _)) (hone _) hs1 ?_; intro v4 W4 HO4 HX4 HB4 HC4; have HL4 := hone' W4 _ (HC4.out _ _ (hL3 _).out hne3); clear HC4)
              | (refine put_step rfl _ _ rfl v4 (0 + k) _ rfl (Lib.hid (HO4.out.alloc _)) (Lib.hid (HX4.out.alloc' _)) HB4 (some ⟨W4.heap.size, 0, none⟩) 1 1 [.slice e.A en e.c] rfl (Lib.hid rfl) (hN _ _) hone1 hs2 ?_; intro v7 W7 HO7 HX7 HB7 _)
              | (refine put_step rfl _ _ rfl v4 (0 + k) _ rfl HO4 HX4 HB4 (some ⟨_, 0, none⟩) 1 1 [.slice e.A en e.c] rfl (Lib.hid rfl) HL4 hone1 hs2 ?_; intro v7 W7 HO7 HX7 HB7 _)
              | (refine put_step rfl _ _ rfl v7 (0 + k + 1) _ rfl HO7 HX7 HB7 A1 (n - k) (c - k) ((rows.drop k).map IRow.val) rfl hDl (hD _ HX7) (hone _) hs3 ?_; intro v9 W9 HO9 HX9 HB9 _)
              | (refine put_step rfl _ _ rfl v7 (0 + k + 1) _ rfl HO7 HX7 HB7 (some ⟨b, o + k, none⟩) (n - k) (c - k) ((rows.drop k).map IRow.val) rfl hDl (hD2 _ HX7) (hone _) hs3 ?_; intro v9 W9 HO9 HX9 HB9 _)
              | (refine put_step rfl _ _ rfl v7 (0 + k + 1) _ rfl HO7 HX7 HB7 (if c = k then some ⟨b, o, none⟩ else some ⟨b, o + k, none⟩) (n - k) (c - k) ((rows.drop k).map IRow.val) rfl hDl (hD3 _ HX7) (hone _) hs3 ?_; intro v9 W9 HO9 HX9 HB9 _)
              | (trace_state; fail))
          all_goals
            have HF : Hid (∃ v', Ending.returned v9 = .returned v' ∧ Out W9 v' (putE rows e)) := Lib.hid (by
              refine ⟨v9, rfl, ?_⟩
              rw [HPE.out]
              refine out_of_own (us := rows.take k ++ e :: rows.drop k) (n := 0 + k + 1 + (n - k)) (by have h1 := HO9.out; simp only [List.nil_append] at h1; simpa [HV.out] using h1) (by simp [Hx.out]; omega) fun r hr => ?_
              have hr9 : ∀ r ∈ rows, Fresh 0 W9 r := fun r h => (Hr.out r h).on HX9.out
              rcases List.mem_append.1 hr with h | h
              · exact hr9 r (List.mem_of_mem_take h)
              · rcases List.mem_cons.1 h with h | h
                · rw [h]; exact He.out.on HX9.out
                · exact hr9 r (List.mem_of_mem_drop h))
            clear HO9 HB9
            go_wp2_with fail
            exact hR.out _ _ ⟨HF.out, HX9.out⟩
    · have hnl : ¬ (k : Int) < n := by omega
      have HPE2 : Hid (putE rows e = rows.take k ++ e :: rows.drop k) := Lib.hid (by
        have h1 := HPE.out
        have h2 : rows.drop k = [] := List.drop_of_length_le (by rw [Hx.out]; omega)
        rw [h2] at h1 ⊢
        simpa [putE] using h1)
      clear HPE
      have HPE := HPE2
      clear HPE2
      have cD := HA.out.cut k c (by simp [Hx.out]; omega)
      obtain ⟨A1, hA1⟩ : ∃ A1, (if c = k then A else Option.map (fun x => x.add k) A) = A1 := ⟨_, rfl⟩
      rw [hA1] at cD
      have HCD := Lib.hid cD
      clear cD
      have hD : ∀ X, Hid (Ext w X) → Hid (CellsAt X A1 ((rows.drop k).map IRow.val)) := fun X hX => Lib.hid (by rw [List.map_drop]; exact HCD.out.ext hX.out)
      have i1 : (0 : Int) ≤ k := by omega
      have i2 : (k : Int) ≤ n := by omega
      have i3 : (k : Int) ≤ c := by omega
      go_wp2_with fail
      have hE1 : ∀ q, Hid (((w.drewN q).alloc (.cells #[] 24)).ownsRow 0 24 1 (.slice (some ⟨w.heap.size, 0, none⟩) 0 0) 0 []) := fun q => Lib.hid (own_empty_at (heap_alloc_new (w.drewN q) _))
      have hE2 : ∀ q, Hid ((((w.drewN q).alloc (.cells #[] 24)).alloc (.cells #[.slice e.A en e.c] 24)).ownsRow 0 24 1 (.slice (some ⟨w.heap.size, 0, none⟩) 0 0) 0 []) := fun q => Lib.hid (own_ext (hE1 q).out ((Ext.refl' _).alloc' _))
      have hE3 : ∀ q, Hid ((((w.drewN q).alloc (.cells #[.slice e.A en e.c] 24)).alloc (.cells #[] 24)).ownsRow 0 24 1 (.slice (some ⟨w.heap.size + 1, 0, none⟩) 0 0) 0 []) := fun q => Lib.hid (by
        have h1 := own_empty_at (X := ((w.drewN q).alloc (.cells #[.slice e.A en e.c] 24)).alloc (.cells #[] 24)) (heap_alloc_new ((w.drewN q).alloc (.cells #[.slice e.A en e.c] 24)) (.cells #[] 24))
        rw [World.size_alloc] at h1
        exact h1)
      have hL2 : ∀ q, Hid ((((w.drewN q).alloc (.cells #[] 24)).alloc (.cells #[.slice e.A en e.c] 24)).cell? ⟨w.heap.size + 1, 0, none⟩ = some (.slice e.A en e.c)) := fun q => Lib.hid (by
        have h1 := new_cell ((w.drewN q).alloc (.cells #[] 24)) (.slice e.A en e.c) 24
        rw [World.size_alloc] at h1
        exact h1)
      have hL3 : ∀ q, Hid ((((w.drewN q).alloc (.cells #[.slice e.A en e.c] 24)).alloc (.cells #[] 24)).cell? ⟨w.heap.size, 0, none⟩ = some (.slice e.A en e.c)) := fun q => Lib.hid (((Ext.refl' _).alloc' _).cell' (new_cell (w.drewN q) (.slice e.A en e.c) 24))
      have hX1 : ∀ q o, Hid (Ext w ((w.drewN q).alloc o)) := fun q o => Lib.hid (((Ext.refl' w).drewN' q).alloc' o)
      have hX2 : ∀ q o o', Hid (Ext w (((w.drewN q).alloc o).alloc o')) := fun q o o' => Lib.hid ((((Ext.refl' w).drewN' q).alloc' o).alloc' o')
      have hB1 : Hid (∀ b, (Value.slice (some ⟨w.heap.size, 0, none⟩) 0 0).ownBlock = some b → w.heap.size ≤ b) := Lib.hid fun b hb => by simp [Value.ownBlock] at hb; omega
      have hB2 : Hid (∀ b, (Value.slice (some ⟨w.heap.size + 1, 0, none⟩) 0 0).ownBlock = some b → w.heap.size ≤ b) := Lib.hid fun b hb => by simp [Value.ownBlock] at hb; omega
      have hT : ∀ X, Hid (Ext w X) → Hid (CellsAt X A ((rows.take k).map IRow.val)) := fun X hX => Lib.hid (by rw [List.map_take]; exact (HA.out.take k).ext hX.out)
      have hTl : Hid (((rows.take k).map IRow.val).length = k) := Lib.hid (by rw [List.length_map, List.length_take, Hx.out]; omega)
      have hDl : Hid (((rows.drop k).map IRow.val).length = n - k) := Lib.hid (by simp [Hx.out])
      have hone : ∀ l : List IRow, Hid (∀ u ∈ l.map IRow.val, u.oneCell' = true) := fun l => Lib.hid fun u hu => by obtain ⟨y, _, rfl⟩ := List.mem_map.1 hu; rfl
      have hone1 : Hid (∀ u ∈ [Value.slice e.A en e.c], u.oneCell' = true) := Lib.hid fun u hu => by simp only [List.mem_singleton] at hu; subst hu; rfl
      have hs1 : Hid (0 + k ≤ 1000000) := Lib.hid (by omega)
      have hs2 : Hid (0 + k + 1 ≤ 1000000) := Lib.hid (by omega)
      have hs3 : Hid (0 + k + 1 + (n - k) ≤ 1000000) := Lib.hid (by omega)
      have hN : ∀ (X : World) o, Hid (CellsAt (X.alloc (.cells #[.slice e.A en e.c] o)) (some ⟨X.heap.size, 0, none⟩) [.slice e.A en e.c]) := fun X o => Lib.hid (cellsAt_new X [_] o)
      have hone' : ∀ (X : World) b, X.cell? ⟨b, 0, none⟩ = some (.slice e.A en e.c) → Hid (CellsAt X (some ⟨b, 0, none⟩) [.slice e.A en e.c]) := fun X b h => Lib.hid fun _ => ⟨b, 0, rfl, fun j u hu => by
        cases j with
        | zero => simp at hu; rw [← hu]; exact h
        | succ j => simp at hu⟩
      have hne2 : (Value.slice (some ⟨w.heap.size, 0, none⟩) 0 0).ownBlock ≠ some (w.heap.size + 1) := by simp [Value.ownBlock]
      have hne3 : (Value.slice (some ⟨w.heap.size + 1, 0, none⟩) 0 0).ownBlock ≠ some w.heap.size := by simp [Value.ownBlock]
      go_region_held3 (fun W => True) (exact trivial)
        (first
          | (refine put_step rfl _ _ rfl (.slice (some ⟨w.heap.size, 0, none⟩) 0 0) 0 [] rfl (hE1 _) (hX1 _ _) hB1 A k c ((rows.take k).map IRow.val) rfl hTl (hT _ (hX1 _ _)) (hone _) hs1 ?_; intro v4 W4 HO4 HX4 HB4 HC4; clear HC4)
          | (refine put_step rfl _ _ rfl (.slice (some ⟨w.heap.size, 0, none⟩) 0 0) 0 [] rfl (hE2 _) (hX2 _ _ _) hB1 A k c ((rows.take k).map IRow.val) rfl hTl (hT _ (hX2 _ _ _)) (hone _) hs1 ?_; intro v4 W4 HO4 HX4 HB4 HC4; have HL4 := hone' W4 _ (HC4.out _ _ (hL2 _).out hne2); clear HC4)
          | (refine put_step rfl _ _ rfl (.slice (some ⟨w.heap.size + 1, 0, none⟩) 0 0) 0 [] rfl (hE3 _) (hX2 _ _ _) hB2 A k c ((rows.take k).map IRow.val) rfl hTl (hT _ (hX2 _ _ _)) (hone _) hs1 ?_; intro v4 W4 HO4 HX4 HB4 HC4; have HL4 := hone' W4 _ (HC4.out _ _ (hL3 _).out hne3); clear HC4)
          | (refine put_step rfl _ _ rfl v4 (0 + k) _ rfl (Lib.hid (HO4.out.alloc _)) (Lib.hid (HX4.out.alloc' _)) HB4 (some ⟨W4.heap.size, 0, none⟩) 1 1 [.slice e.A en e.c] rfl (Lib.hid rfl) (hN _ _) hone1 hs2 ?_; intro v7 W7 HO7 HX7 HB7 _)
          | (refine put_step rfl _ _ rfl v4 (0 + k) _ rfl HO4 HX4 HB4 (some ⟨_, 0, none⟩) 1 1 [.slice e.A en e.c] rfl (Lib.hid rfl) HL4 hone1 hs2 ?_; intro v7 W7 HO7 HX7 HB7 _)
          | (refine put_step rfl _ _ rfl v7 (0 + k + 1) _ rfl HO7 HX7 HB7 A1 (n - k) (c - k) ((rows.drop k).map IRow.val) rfl hDl (hD _ HX7) (hone _) hs3 ?_; intro v9 W9 HO9 HX9 HB9 _))
      all_goals
        have HF : Hid (∃ v', Ending.returned v9 = .returned v' ∧ Out W9 v' (putE rows e)) := Lib.hid (by
          refine ⟨v9, rfl, ?_⟩
          rw [HPE.out]
          refine out_of_own (us := rows.take k ++ e :: rows.drop k) (n := 0 + k + 1 + (n - k)) (by have h1 := HO9.out; simp only [List.nil_append] at h1; simpa [HV.out] using h1) (by simp [Hx.out]; omega) fun r hr => ?_
          have hr9 : ∀ r ∈ rows, Fresh 0 W9 r := fun r h => (Hr.out r h).on HX9.out
          rcases List.mem_append.1 hr with h | h
          · exact hr9 r (List.mem_of_mem_take h)
          · rcases List.mem_cons.1 h with h | h
            · rw [h]; exact He.out.on HX9.out
            · exact hr9 r (List.mem_of_mem_drop h))
        clear HO9 HB9
        go_wp2_with fail
        exact hR.out _ _ ⟨HF.out, HX9.out⟩
end Go.Proofs.Ytokfmfgnjhapiaa
