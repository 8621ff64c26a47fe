/- The document's Do: duplicate. -/
import Derived.Test.YtokfmfgnjhapiaaRefLoops
namespace Go.Proofs.Ytokfmfgnjhapiaa
open Go.RowKit
set_option linter.unusedVariables false
set_option linter.unusedSimpArgs false

def dupG (xs : List Int) (i k d n : Nat) (j : Nat) : List Int :=
  (if j = d then gather (fun t => [xs[i + t]?.getD 0]) (k - i) else []) ++ (if j < n then [xs[j]?.getD 0] else [])

theorem dupG_len (xs : List Int) (i k d n : Nat) (hk : k ≤ n) : ∀ j, (gather (dupG xs i k d n) j).length ≤ j + (if d < j then n else 0)
  | 0 => by simp [gather]
  | j + 1 => by
    rw [gather_succ, List.length_append]
    have h1 := dupG_len xs i k d n hk j
    have h2 := gather_one_length (fun t => [xs[i + t]?.getD 0]) (fun _ => by simp) (k - i)
    generalize (gather (dupG xs i k d n) j).length = L at *
    unfold dupG
    rw [List.length_append]
    by_cases hd : j = d
    · subst hd
      simp only [if_true, Nat.lt_irrefl, if_false, Nat.lt_succ_self] at h1 ⊢
      split <;> simp only [List.length_cons, List.length_nil] <;> omega
    · rw [if_neg hd]
      have : (d < j + 1) ↔ d < j := by omega
      simp only [this]
      split <;> simp only [List.length_cons, List.length_nil] <;> omega

set_option maxRecDepth 100000 in
set_option maxHeartbeats 2000000 in
theorem ref_do3 (i k d : Nat) (A B : Option Addr) (xs : List Int) (n m c b : Nat) (w : World) (hA : IS w A xs) (hx : xs.length = n) (hn : n ≤ 1000) (hm : m ≤ 1000) (hik : i ≤ k) (hkn : k ≤ n) (hdn : d ≤ n) :
    Calls Try.prog 15 #[.agg #[.int .i64 3, .int .i64 i, .int .i64 k, .int .i64 d], .slice A n c, .slice B m b] w (RefDone w (gather (dupG xs i k d n) (n + 1))) := by
  obtain ⟨g, hg⟩ : ∃ g : Nat → List Int, g = dupG xs i k d n := ⟨_, rfl⟩
  obtain ⟨g2, hg2⟩ : ∃ g2 : Nat → List Int, g2 = fun t => [xs[i + t]?.getD 0] := ⟨_, rfl⟩
  rw [← hg]
  have hgd : ∀ j, g j = (if j = d then gather g2 (k - i) else []) ++ (if j < n then [xs[j]?.getD 0] else []) := by intro j; rw [hg, hg2]; rfl
  have Hgd := Lib.hid hgd
  have Hg2 := Lib.hid hg2
  have hgl : ∀ j, (gather g j).length ≤ j + n := by
    intro j; rw [hg]
    have := dupG_len xs i k d n hkn j
    split at this <;> omega
  have Hgl := Lib.hid hgl
  have Hgl2 := Lib.hid (gather_one_length g2 (fun j => by rw [hg2]; simp))
  clear hg hg2 hgd hgl
  refine of_post fun R hR => ?_
  have hmay : mayP 3 i k d n m := by unfold mayP; omega
  have HM := fun o => Lib.hid (may_any 3 i k d n m (w.alloc o) hn hm)
  have hb : decide (mayP 3 i k d n m) = true := by simpa using hmay
  have HA := Lib.hid hA
  have Hx := Lib.hid hx
  clear hA hmay hx
  go_enter Try.func15, Try.ntmps15
  go_wp2_with fail
  refine (HM _).out.mono ?_
  rintro e w1 ⟨rfl, hxt⟩
  rw [hb]
  have q0 := hxt.cell' (p := ⟨w.heap.size, 0, none⟩) (v := .int .i64 3) (by simp)
  have q1 := hxt.cell' (p := ⟨w.heap.size, 1, none⟩) (v := .int .i64 i) (by simp)
  have q2 := hxt.cell' (p := ⟨w.heap.size, 2, none⟩) (v := .int .i64 k) (by simp)
  have q3 := hxt.cell' (p := ⟨w.heap.size, 3, none⟩) (v := .int .i64 d) (by simp)
  have HX := Lib.hid (((Ext.refl' w).alloc' _).trans' hxt)
  clear hxt HM hb
  go_wp2_with fail
  go_loopw [8, 13, 14] (fun u t _ wr => ∃ j : Nat, j ≤ n + 1 ∧ t = .int .i64 j ∧ Hid (OwnI wr w1.heap.size u (gather g j)) ∧ Hid (Ext w1 wr)) (fun _ t _ _ => n + 1 - (intOf t).toNat)
  case atStart => exact ⟨0, Nat.zero_le _, rfl, Lib.hid (OwnI.nil _ _), Lib.hid (Ext.refl' _)⟩
  case round =>
    obtain ⟨j, hj, rfl, HO, HXr⟩ := hrel
    by_cases hlt : j ≤ n
    · have HGS := Lib.hid (gather_succ g j)
      have hl : (gather g j).length ≤ 100000 := by have := Hgl.out j; omega
      have HL := Lib.hid hl
      clear hl
      by_cases hjd : j = d
      · -- the piece is put in
        subst hjd
        have p1 := HXr.out.cell' q1
        have p2 := HXr.out.cell' q2
        have p3 := HXr.out.cell' q3
        go_wp2_with fail
        obtain ⟨wo, rfl⟩ : ∃ wo : World, wo = wr := ⟨_, rfl⟩
        clear p1 p2 p3
        go_loopw [8, 14] (fun u t wr => ∃ q : Nat, i + q ≤ k ∧ t = .int .i64 (i + q : Nat) ∧ Hid (OwnI wr w1.heap.size u (gather g j ++ gather g2 q)) ∧ Hid (Ext w1 wr)) (fun _ t _ => k - (intOf t).toNat)
        case atStart => exact ⟨0, hik, rfl, by simpa [gather_zero] using HO, HXr⟩
        case round =>
          obtain ⟨q, hq, rfl, HO1, HX1⟩ := hrel
          have p2 := HX1.out.cell' q2
          have p3 := HX1.out.cell' q3
          by_cases hlt2 : i + q < k
          · obtain ⟨bb, o, rfl, hc⟩ := HA.out (by intro h; have := Hx.out; simp [h] at this; omega)
            have c0 := (HX.out.trans' HX1.out).cell' (hc (i + q) (by rw [Hx.out]; omega))
            have hgk : g2 q = [xs[i + q]?.getD 0] := by rw [Hg2.out]
            have hl : (gather g j ++ gather g2 q).length ≤ 1000000 := by have := HL.out; have := Hgl2.out q; rw [List.length_append]; omega
            have HGS2 := Lib.hid (gather_succ g2 q)
            have hqn : i + q < n := by omega
            clear hc
            generalize xs[i + q]?.getD 0 = x at *
            have HGK := Lib.hid hgk
            have HL2 := Lib.hid hl
            clear hgk hl
            go_wp2_with (at_builtin; go_must (refine wpList_append_I rfl _ _ rfl _ _ rfl HO1 HX1 x rfl HL2.out ?_); intro u' w2 HO2 HX2)
            go_roundw
            case rel => exact ⟨q + 1, by omega, by go_num, by rw [HGS2.out, HGK.out, ← List.append_assoc]; exact HO2, HX2⟩
            case measure => simp [intOf]; omega
          · obtain rfl : q = k - i := by omega
            clear hlt2
            by_cases hjn : j < n
            · obtain ⟨bb, o, rfl, hc⟩ := HA.out (by intro h; have := Hx.out; simp [h] at this; omega)
              have c0 := (HX.out.trans' HX1.out).cell' (hc j (by rw [Hx.out]; omega))
              have hgk : g j = gather g2 (k - i) ++ [xs[j]?.getD 0] := by rw [Hgd.out, if_pos rfl, if_pos hjn]
              have hl : (gather g j ++ gather g2 (k - i)).length ≤ 1000000 := by have := HL.out; have := Hgl2.out (k - i); rw [List.length_append]; omega
              clear hc
              generalize xs[j]?.getD 0 = x at *
              have HGK := Lib.hid hgk
              have HL2 := Lib.hid hl
              clear hgk hl
              go_wp2_with (at_builtin; go_must (refine wpList_append_I rfl _ _ rfl _ _ rfl HO1 HX1 x rfl HL2.out ?_); intro u' w2 HO2 HX2)
              go_roundw
              case rel => exact ⟨j + 1, by omega, by go_num, by rw [HGS.out, HGK.out, ← List.append_assoc]; exact HO2, HX2⟩
              case measure => simp [intOf]; omega
            · have hgk : g j = gather g2 (k - i) := by rw [Hgd.out, if_pos rfl, if_neg hjn, List.append_nil]
              have HGK := Lib.hid hgk
              clear hgk
              go_wp2
              go_roundw
              case rel => exact ⟨j + 1, by omega, by go_num, by rw [HGS.out, HGK.out]; exact HO1, HX1⟩
              case measure => simp [intOf]; omega
      · have hjb : ((j : Int) == d) = false := by simp; omega
        have p1 := HXr.out.cell' q1
        have p3 := HXr.out.cell' q3
        go_wp2_with fail
        refine wp_loop_rounds 1 ?_
        rw [rounds_succ]
        by_cases hjn : j < n
        · obtain ⟨bb, o, rfl, hc⟩ := HA.out (by intro h; have := Hx.out; simp [h] at this; omega)
          have c0 := (HX.out.trans' HXr.out).cell' (hc j (by rw [Hx.out]; omega))
          have hgk : g j = [xs[j]?.getD 0] := by rw [Hgd.out, if_neg hjd, if_pos hjn]; rfl
          clear hc
          generalize xs[j]?.getD 0 = x at *
          have HGK := Lib.hid hgk
          clear hgk hjd
          go_wp2_with (at_builtin; go_must (refine wpList_append_I rfl _ _ rfl _ _ rfl HO HXr x rfl (by have := HL.out; omega) ?_); intro u' w2 HO2 HX2)
          go_roundw
          case rel => exact ⟨j + 1, by omega, by go_num, by rw [HGS.out, HGK.out]; exact HO2, HX2⟩
          case measure => simp [intOf]; omega
        · have hgk : g j = [] := by rw [Hgd.out, if_neg hjd, if_neg hjn]; rfl
          have HGK := Lib.hid hgk
          clear hgk hjd
          go_wp2
          go_roundw
          case rel => exact ⟨j + 1, by omega, by go_num, by rw [HGS.out, HGK.out, List.append_nil]; exact HO, HXr⟩
          case measure => simp [intOf]; omega
    · obtain rfl : j = n + 1 := by omega
      clear hlt
      go_wp2
      exact hR.out _ _ ⟨_, rfl, own_mono HO.out HX.out.size, HX.out.trans' HXr.out⟩
end Go.Proofs.Ytokfmfgnjhapiaa
