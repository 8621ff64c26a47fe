/- near's row: what is put in by changes: one number made less; two exchanged. -/
import Derived.Test.YtokfmfgnjhapiaaNearSpans
namespace Go.Proofs.Ytokfmfgnjhapiaa
open Go.RowKit
set_option linter.unusedVariables false
set_option linter.unusedSimpArgs false

def nth (xs : List Int) (k : Nat) : Int := xs[k]?.getD 0
def downs (xs : List Int) (k : Nat) : List (List Int) :=
  if 0 < nth xs k then [xs.set k 0, xs.set k (nth xs k / 2), xs.set k (nth xs k - 1)] else []
def turnsL (xs : List Int) (k : Nat) : List (List Int) :=
  if 0 < k ∧ nth xs k < nth xs (k - 1) then [(xs.set k (nth xs (k - 1))).set (k - 1) (nth xs k)] else []
def chgL (xs : List Int) (k : Nat) : List (List Int) := downs xs k ++ turnsL xs k

theorem with_fresh (A : Option Addr) (xs : List Int) (n c : Nat) (i : Nat) (d : Int) (w : World) (hA : IS w A xs) (hx : xs.length = n) (hn : n ≤ 1000000) (hi : i < n) :
    Calls Try.prog 56 #[.slice A n c, .int .i64 i, .int .i64 d] w fun e w' => ∃ q : IRow, e = .returned q.val ∧ q.xs = xs.set i d ∧ Fresh w.heap.size w' q ∧ Ext w w' :=
  (with_any A xs n c i d w hA hx hn hi).mono fun e w' ⟨⟨g, cp, h1, ho⟩, hx'⟩ => by
    obtain ⟨q, hq, hqx, hf⟩ := fresh_of_own (n := (xs.set i d).length) ho rfl
    exact ⟨q, by rw [h1, hq], hqx, hf, hx'⟩

set_option maxHeartbeats 2000000 in
theorem changes_near (A : Option Addr) (xs : List Int) (n c : Nat) (r : Nat) (v : Value) (H : List IRow) (L : List (List Int)) (w0 w : World) (hB : Built w0 w r v H L) (hA : IS w0 A xs) (hx : xs.length = n) (hn : n ≤ 200) (hr : ∀ x ∈ xs, -9223372036854775808 ≤ x ∧ x ≤ 9223372036854775807) (hl : L.length ≤ 1000) :
    Calls Try.prog 37 #[.pointer (some ⟨r, 0, none⟩), .slice A n c] w fun e w' => (∃ u, e = .returned u) ∧ ∃ v' H', Built w0 w' r v' H' (L ++ (List.range n).flatMap (chgL xs)) := by
  refine of_post fun R hR => ?_
  have HB := Lib.hid hB
  have HA := Lib.hid hA
  have Hx := Lib.hid hx
  have Hr := Lib.hid hr
  clear hB hA hx hr
  have hlen : ∀ k, ((List.range k).flatMap (chgL xs)).length ≤ 4 * k := fun k => by
    induction k with
    | zero => simp
    | succ k ih =>
      rw [List.range_succ, List.flatMap_append, List.length_append]
      have : (chgL xs k).length ≤ 4 := by
        unfold chgL downs turnsL
        split <;> split <;> simp
      simp only [List.flatMap_singleton]
      omega
  have Hlen := Lib.hid hlen
  clear hlen
  go_enter Try.func37, Try.ntmps37
  go_wp2_with fail
  go_loopw [9] (fun iv wr => ∃ (k : Nat) (v' : Value) (H' : List IRow), iv = .int .i64 k ∧ k ≤ n ∧ Hid (Built w0 wr r v' H' (L ++ (List.range k).flatMap (chgL xs)))) (fun iv _ => n - (intOf iv).toNat)
  case atStart => exact ⟨0, v, H, rfl, Nat.zero_le _, Lib.hid (by simpa using HB.out)⟩
  case round =>
    obtain ⟨k, v', H', rfl, hk, HW⟩ := hrel
    by_cases hlt : k < n
    · have hkx : k < xs.length := by rw [Hx.out]; exact hlt
      have HA1 := Lib.hid (HA.out.ext HW.out.ext)
      obtain ⟨b, o, rfl, hc⟩ := HA1.out (by intro h; rw [h] at hkx; simp at hkx)
      have c1 := hc k hkx
      have HC := Lib.hid hc
      clear hc
      have hb := Hr.out (xs[k]) (List.getElem_mem hkx)
      have HXK : Hid (nth xs k = xs[k]?.getD 0) := Lib.hid rfl
      rw [List.getElem?_eq_getElem hkx, Option.getD_some] at c1 HXK
      generalize xs[k] = x at *
      have HLK := Lib.hid (Hlen.out k)
      obtain ⟨LK, hLK⟩ : ∃ LK, L ++ (List.range k).flatMap (chgL xs) = LK := ⟨_, rfl⟩
      rw [hLK] at HW
      have HLN : Hid (LK.length ≤ 2000) := Lib.hid (by rw [← hLK, List.length_append]; have := HLK.out; omega)
      have HLS : Hid (L ++ (List.range (k + 1)).flatMap (chgL xs) = LK ++ downs xs k ++ turnsL xs k) := Lib.hid (by
        rw [List.range_succ, List.flatMap_append, ← List.append_assoc, hLK]; simp [chgL])
      clear hLK
      by_cases hpos : 0 < x
      · have HDN : Hid (downs xs k = [xs.set k 0, xs.set k (x / 2), xs.set k (x - 1)]) := Lib.hid (by unfold downs; rw [HXK.out, if_pos hpos])
        have hdv : x.tdiv 2 = x / 2 := Int.tdiv_eq_ediv_of_nonneg (by omega)
        obtain ⟨y, hy⟩ : ∃ y, x / 2 = y := ⟨_, rfl⟩
        have hy0 : 0 ≤ y := by omega
        have hy1 : y ≤ x := by omega
        rw [hy] at hdv HDN
        clear hy
        obtain ⟨z, hz⟩ : ∃ z, x - 1 = z := ⟨_, rfl⟩
        have hz0 : 0 ≤ z := by omega
        rw [hz] at HDN
        go_wp2_with fail
        refine (with_fresh _ xs n c k 0 _ HA1.out Hx.out (by omega) hlt).mono ?_
        rintro e w1 ⟨q1, rfl, hq1, hf1, hx1⟩
        have HP1 := Lib.hid (HW.out.push_any hx1 hf1 (by have := HLN.out; omega))
        clear hx1 hf1 c1
        go_wp2_with fail
        refine HP1.out.mono ?_
        rintro e w2 ⟨⟨u1, rfl⟩, v2, H2, hb2⟩
        rw [hq1] at hb2
        have HW2 := Lib.hid hb2
        clear hb2 hq1
        go_wp2_with fail
        refine (with_fresh _ xs n c k y _ (HA.out.ext HW2.out.ext) Hx.out (by omega) hlt).mono ?_
        rintro e w3 ⟨q2, rfl, hq2, hf2, hx2⟩
        have HP2 := Lib.hid (HW2.out.push_any hx2 hf2 (by have := HLN.out; simp; omega))
        clear hx2 hf2
        go_wp2_with fail
        refine HP2.out.mono ?_
        rintro e w4 ⟨⟨u2, rfl⟩, v3, H3, hb3⟩
        rw [hq2] at hb3
        have HW3 := Lib.hid hb3
        clear hb3 hq2
        go_wp2_with fail
        refine (with_fresh _ xs n c k z _ (HA.out.ext HW3.out.ext) Hx.out (by omega) hlt).mono ?_
        rintro e w5 ⟨q3, rfl, hq3, hf3, hx3⟩
        have HP3 := Lib.hid (HW3.out.push_any hx3 hf3 (by have := HLN.out; simp; omega))
        clear hx3 hf3
        go_wp2_with fail
        refine HP3.out.mono ?_
        rintro e w6 ⟨⟨u3, rfl⟩, v4, H4, hb4⟩
        rw [hq3] at hb4
        have HWB : Hid (Built w0 w6 r v4 H4 (LK ++ downs xs k)) := Lib.hid (by rw [HDN.out]; simpa using hb4)
        have HLB : Hid ((LK ++ downs xs k).length ≤ 2010) := Lib.hid (by rw [HDN.out]; have := HLN.out; simp; omega)
        clear hb4 hq3
        by_cases hk0 : k = 0
        · subst hk0
          try simp only [Nat.add_zero] at c1
          have HTN : Hid (turnsL xs 0 = []) := Lib.hid (by unfold turnsL; simp)
          go_wp2_with fail
          go_roundw
          case rel => exact ⟨1, _, _, by go_num, by omega, Lib.hid (by rw [HLS.out, HTN.out, List.append_nil]; exact HWB.out)⟩
          case measure => simp [intOf]; omega
        · have hkp : (0 : Int) < k := by omega
          have hkx1 : k - 1 < xs.length := by omega
          have hq1 : (k : Int) - 1 = ((k - 1 : Nat) : Int) := by omega
          have d1 := (HA.out.ext HWB.out.ext)
          obtain ⟨b1, o1, hbo, hd⟩ := d1 (by intro h; rw [h] at hkx; simp at hkx)
          simp only [Option.some.injEq, Addr.mk.injEq, and_true] at hbo
          obtain ⟨rfl, rfl⟩ := hbo
          have d2 := hd (k - 1) hkx1
          have d3 := hd k hkx
          clear hd
          have HXP : Hid (nth xs (k - 1) = xs[k - 1]?.getD 0) := Lib.hid rfl
          generalize xs[k - 1]?.getD 0 = p at *
          generalize hkj : k - 1 = j at *
          have Hkj := Lib.hid hkj
          clear hkj
          have hjn : (j : Int) < n := by have := Hkj.out; omega
          by_cases htp : x < p
          · have HTN : Hid (turnsL xs k = [(xs.set k p).set j x]) := Lib.hid (by unfold turnsL; rw [Hkj.out, HXP.out, HXK.out, if_pos ⟨by omega, htp⟩])
            go_wp2_with fail
            refine (with_any _ xs n c k p _ (HA.out.ext HWB.out.ext) Hx.out (by omega) hlt).mono ?_
            rintro e w7 ⟨⟨g, cp, rfl, ho⟩, hx7⟩
            have ho7 : w6.heap.size ≤ g ∧ g < w7.heap.size := World.ownsRow.lt ho g rfl
            have ho' : w7.ownsRow w6.heap.size 3 1 (.slice (some ⟨g, 0, none⟩) n cp) n ((xs.set k p).map I64) := by
              have h7 := ho; unfold OwnI at h7; rwa [List.length_set, Hx.out] at h7
            have hs7 := ho'.stored j (I64 x)
            have hcj := ho'.cellAt j (by have := Hkj.out; omega)
            have hfj := ho'.frozenAt j
            obtain ⟨uj, huj⟩ : ∃ uj, ((xs.set k p).map I64)[j]? = some (I64 uj) := by
              have h8 : j < (xs.set k p).length := by rw [List.length_set]; have := Hkj.out; omega
              exact ⟨(xs.set k p)[j], by rw [List.getElem?_map, List.getElem?_eq_getElem h8]; rfl⟩
            rw [huj] at hcj
            unfold I64 at hcj
            have hle7 := own_le ho'
            have hk7 : Ext w6 (w7.setCell ⟨g, j, none⟩ (I64 x)) := ext_grown_from hx7 hs7.2 (fun kk e => by cases e; exact ho7.1)
            obtain ⟨q4, hq4, hqx4, hf4⟩ := fresh_of_own (xs := (xs.set k p).set j x) (n := n) (by rw [List.map_set]; exact hs7.1) (by simp [Hx.out])
            have HP4 := Lib.hid (HWB.out.push_any hk7 hf4 (by have := HLB.out; omega))
            rw [← hq4] at HP4
            have HQ4 := Lib.hid hqx4
            unfold I64 at HP4
            clear ho ho' hs7 hk7 hqx4 hq4 hf4 hx7 huj d2 d3
            go_wp2_with fail
            refine HP4.out.mono ?_
            rintro e w8 ⟨⟨u4, rfl⟩, v5, H5, hb5⟩
            rw [HQ4.out] at hb5
            have HW5 : Hid (Built w0 w8 r v5 H5 (L ++ (List.range (k + 1)).flatMap (chgL xs))) := Lib.hid (by rw [HLS.out, HTN.out]; exact hb5)
            clear hb5
            go_wp2_with fail
            go_roundw
            case rel => exact ⟨k + 1, _, _, by go_num, by omega, HW5⟩
            case measure => simp [intOf]; omega
          · have HTN : Hid (turnsL xs k = []) := Lib.hid (by unfold turnsL; rw [Hkj.out, HXP.out, HXK.out, if_neg (fun h => htp h.2)])
            have htp' : p ≤ x := by omega
            clear htp
            go_wp2_with fail
            go_roundw
            case rel => exact ⟨k + 1, _, _, by go_num, by omega, Lib.hid (by rw [HLS.out, HTN.out, List.append_nil]; exact HWB.out)⟩
            case measure => simp [intOf]; omega
      · have HDN : Hid (downs xs k = []) := Lib.hid (by unfold downs; rw [HXK.out, if_neg hpos])
        have HWB : Hid (Built w0 wr r v' H' (LK ++ downs xs k)) := Lib.hid (by rw [HDN.out]; simpa using HW.out)
        have HLB : Hid ((LK ++ downs xs k).length ≤ 2010) := Lib.hid (by rw [HDN.out]; have := HLN.out; simp; omega)
        have hpos' : x ≤ 0 := by omega
        by_cases hk0 : k = 0
        · subst hk0
          try simp only [Nat.add_zero] at c1
          have HTN : Hid (turnsL xs 0 = []) := Lib.hid (by unfold turnsL; simp)
          go_wp2_with fail
          go_roundw
          case rel => exact ⟨1, _, _, by go_num, by omega, Lib.hid (by rw [HLS.out, HTN.out, List.append_nil]; exact HWB.out)⟩
          case measure => simp [intOf]; omega
        · have hkp : (0 : Int) < k := by omega
          have hkx1 : k - 1 < xs.length := by omega
          have hq1 : (k : Int) - 1 = ((k - 1 : Nat) : Int) := by omega
          have d1 := (HA.out.ext HWB.out.ext)
          obtain ⟨b1, o1, hbo, hd⟩ := d1 (by intro h; rw [h] at hkx; simp at hkx)
          simp only [Option.some.injEq, Addr.mk.injEq, and_true] at hbo
          obtain ⟨rfl, rfl⟩ := hbo
          have d2 := hd (k - 1) hkx1
          have d3 := hd k hkx
          clear hd
          have HXP : Hid (nth xs (k - 1) = xs[k - 1]?.getD 0) := Lib.hid rfl
          generalize xs[k - 1]?.getD 0 = p at *
          generalize hkj : k - 1 = j at *
          have Hkj := Lib.hid hkj
          clear hkj
          have hjn : (j : Int) < n := by have := Hkj.out; omega
          by_cases htp : x < p
          · have HTN : Hid (turnsL xs k = [(xs.set k p).set j x]) := Lib.hid (by unfold turnsL; rw [Hkj.out, HXP.out, HXK.out, if_pos ⟨by omega, htp⟩])
            go_wp2_with fail
            refine (with_any _ xs n c k p _ (HA.out.ext HWB.out.ext) Hx.out (by omega) hlt).mono ?_
            rintro e w7 ⟨⟨g, cp, rfl, ho⟩, hx7⟩
            have ho7 : wr.heap.size ≤ g ∧ g < w7.heap.size := World.ownsRow.lt ho g rfl
            have ho' : w7.ownsRow wr.heap.size 3 1 (.slice (some ⟨g, 0, none⟩) n cp) n ((xs.set k p).map I64) := by
              have h7 := ho; unfold OwnI at h7; rwa [List.length_set, Hx.out] at h7
            have hs7 := ho'.stored j (I64 x)
            have hcj := ho'.cellAt j (by have := Hkj.out; omega)
            have hfj := ho'.frozenAt j
            obtain ⟨uj, huj⟩ : ∃ uj, ((xs.set k p).map I64)[j]? = some (I64 uj) := by
              have h8 : j < (xs.set k p).length := by rw [List.length_set]; have := Hkj.out; omega
              exact ⟨(xs.set k p)[j], by rw [List.getElem?_map, List.getElem?_eq_getElem h8]; rfl⟩
            rw [huj] at hcj
            unfold I64 at hcj
            have hle7 := own_le ho'
            have hk7 : Ext wr (w7.setCell ⟨g, j, none⟩ (I64 x)) := ext_grown_from hx7 hs7.2 (fun kk e => by cases e; exact ho7.1)
            obtain ⟨q4, hq4, hqx4, hf4⟩ := fresh_of_own (xs := (xs.set k p).set j x) (n := n) (by rw [List.map_set]; exact hs7.1) (by simp [Hx.out])
            have HP4 := Lib.hid (HWB.out.push_any hk7 hf4 (by have := HLB.out; omega))
            rw [← hq4] at HP4
            have HQ4 := Lib.hid hqx4
            unfold I64 at HP4
            clear ho ho' hs7 hk7 hqx4 hq4 hf4 hx7 huj d2 d3
            go_wp2_with fail
            refine HP4.out.mono ?_
            rintro e w8 ⟨⟨u4, rfl⟩, v5, H5, hb5⟩
            rw [HQ4.out] at hb5
            have HW5 : Hid (Built w0 w8 r v5 H5 (L ++ (List.range (k + 1)).flatMap (chgL xs))) := Lib.hid (by rw [HLS.out, HTN.out]; exact hb5)
            clear hb5
            go_wp2_with fail
            go_roundw
            case rel => exact ⟨k + 1, _, _, by go_num, by omega, HW5⟩
            case measure => simp [intOf]; omega
          · have HTN : Hid (turnsL xs k = []) := Lib.hid (by unfold turnsL; rw [Hkj.out, HXP.out, HXK.out, if_neg (fun h => htp h.2)])
            have htp' : p ≤ x := by omega
            clear htp
            go_wp2_with fail
            go_roundw
            case rel => exact ⟨k + 1, _, _, by go_num, by omega, Lib.hid (by rw [HLS.out, HTN.out, List.append_nil]; exact HWB.out)⟩
            case measure => simp [intOf]; omega
    · obtain rfl : k = n := by omega
      go_wp2_with fail
      go_end0
      exact hR.out _ _ ⟨⟨_, rfl⟩, v', H', HW.out⟩
end Go.Proofs.Ytokfmfgnjhapiaa
