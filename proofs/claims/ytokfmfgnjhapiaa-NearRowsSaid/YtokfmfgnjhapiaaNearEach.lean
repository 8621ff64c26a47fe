/- each: all of a row are told, each once, in order; over a plain closure. -/
import Derived.Test.YtokfmfgnjhapiaaEachLaw
namespace Go.Proofs.Ytokfmfgnjhapiaa
open Go.RowKit
set_option linter.unusedVariables false
set_option linter.unusedSimpArgs false

def rowLen (r : Nat) (w : World) : Nat := match w.cell? ⟨r, 0, none⟩ with | some (.slice _ n _) => n | _ => 0

set_option maxHeartbeats 1000000 in
theorem each_any (fy : FuncId) (lb : Array Value) (J : List (List Int) → (Nat → Prop) → World → Prop) (Jx : List (List Int) → World → Prop) (ALL : List (List Int)) (hJ : Steady J) (hent : Enters Try.prog fy)
    (hY : ∀ pre T W e, J pre T W → pre ++ [e.xs] <+: ALL → Fresh 0 W e → (∀ b, blk e = some b → T b) → (∀ b, T b → b < W.heap.size) → Calls Try.prog fy (#[e.val] ++ lb) W (YPost J Jx pre T e W))
    (r : Nat) (T : Nat → Prop) (v : Value) (H : List IRow) (p0 D : List (List Int)) (w : World) (hH : Held T w r v H) (hr : Rising D) (hE : EInv [] D (H.map IRow.xs)) (hp : p0 ++ D <+: ALL) (h0 : J p0 T w) (hn : H.length ≤ 100000) (hsh : ∀ y ∈ D, y.length ≤ 1000000) :
    Calls Try.prog 36 #[.pointer (some ⟨r, 0, none⟩), .func (.func fy) #[] lb] w (EPost J Jx ALL (p0 ++ D)) := by
  refine of_post fun R hR => ?_
  have HY := fun pre T W e a b c d f => Lib.hid (hY pre T W e a b c d f)
  have HS := Lib.hid (ESt.init hH hE h0 hn)
  have HRI := Lib.hid hr
  have HSH := Lib.hid hsh
  have HP := Lib.hid hp
  have HJ := Lib.hid hJ
  clear hY hH hr hE hp h0 hn hJ hsh
  unfold Enters at hent
  go_enter Try.func36, Try.ntmps36
  go_wp2_with fail
  go_loopw [5, 6] (fun lv fv wr => ∃ pre rest T v' H' q, lv = IRow.val q ∧ fv = .bool (pre.isEmpty) ∧ Hid (ESt J p0 D r pre rest T v' H' q wr)) (fun _ _ wr => rowLen r wr)
  case atStart => exact ⟨[], D, T, v, H, _, rfl, rfl, HS⟩
  case round =>
    obtain ⟨pre, rest, T1, v1, H1, q, rfl, rfl, HST⟩ := hrel
    have hc := HST.out.held.row.row.cell
    obtain ⟨A1, c1, hv1⟩ := own_form HST.out.held.row.row.own
    have HV1 := Lib.hid hv1
    rw [hv1] at hc
    clear hv1
    have hfew := HST.out.few
    by_cases hz : H1 = []
    · have HZ := Lib.hid hz
      have hl0 : H1.length = 0 := by rw [hz]; rfl
      rw [hl0] at hc
      clear hz hl0
      go_wp2_with fail
      refine (len_row _ 0 _ _ (Nat.zero_le _)).mono ?_
      rintro e w1 ⟨rfl, rfl⟩
      have hrest := HST.out.inv
      rw [HZ.out] at hrest
      have hre := hrest.done
      have HEND : Hid (EPost J Jx ALL (p0 ++ D) (.returned (.bool true)) w1) := Lib.hid (.inl ⟨rfl, T1, by have h1 := HST.out.st; rw [HST.out.all, hre, List.append_nil]; exact h1, HST.out.held.lt⟩)
      clear hrest hre
      go_wp2_with fail
      exact hR.out _ _ HEND.out
    · have hpos : 0 < H1.length := List.length_pos_iff.2 hz
      generalize hn1 : H1.length = n1 at *
      have Hn1 := Lib.hid hn1
      clear hn1 hz
      go_wp2_with fail
      refine (len_row _ n1 _ _ (by unfold maxLen; omega)).mono ?_
      rintro e w1 ⟨rfl, rfl⟩
      have HPOP := Lib.hid (pop_any r v1 H1 w1 HST.out.held.row HST.out.held.heap (by rw [Hn1.out]; exact hpos) (by rw [Hn1.out]; exact hfew))
      go_wp2_with fail
      refine HPOP.out.mono ?_
      rintro e w2 ⟨x, rfl, hpp⟩
      obtain ⟨v2, H2, hl2, hpd⟩ := HST.out.pop HJ.out HRI.out hpp
      rw [Hn1.out] at hl2
      have HL2 := Lib.hid hl2
      have HPD := Lib.hid hpd
      have hrl : rowLen r w1 = n1 := by unfold rowLen; rw [hc]
      have hta := fun W => assert_ints x.A x.xs.length x.c W
      have hval : x.val = .slice x.A x.xs.length x.c := rfl
      have hqal : q.val = .slice q.A q.xs.length q.c := rfl
      clear hpp hl2 hpd
      rw [hval, hqal]
      cases hpre : pre with
      | nil =>
        have HL : Hid (pre.getLast? ≠ some x.xs) := Lib.hid (by rw [hpre]; simp)
        have HX3 := Lib.hid (Ext.refl' w2)
        have HCL := Lib.hid (clone_any x.A x.xs x.xs.length x.c w2 (IS_of_cells HPD.out.xfresh.ok) rfl (HSH.out _ (by obtain ⟨rr, h1, _⟩ := HPD.out.next HL.out; rw [HPD.out.all, h1]; simp)))
        have Hpe := Lib.hid hpre
        clear hpre
        generalize hmn : x.xs.length = mn at *
        generalize hqn : q.xs.length = qn at *
        go_wp2_with fail
        refine HCL.out.mono ?_
        rintro e w4 ⟨⟨cv, rfl, hown⟩, hx4⟩
        obtain ⟨c, rfl, hcx, hfc⟩ := fresh_of_own hown rfl
        obtain ⟨rest', hrd⟩ := HPD.out.copied HJ.out HL.out HX3.out hx4 hfc hcx
        have hpre : (p0 ++ pre) ++ [x.xs] <+: ALL := by
          have h1 := HP.out
          rw [hrd.all] at h1
          exact List.IsPrefix.trans ⟨rest', by simp⟩ h1
        have HYC := HY _ _ _ x hrd.st hpre hrd.xfresh (fun b hb => (hrd.xout b hb).1) hrd.held.lt
        have HRD := Lib.hid hrd
        have HPRE := Lib.hid hpre
        rw [hval] at HYC
        clear hown hx4 hcx hfc hrd hpre
        go_wp2_with fail
        refine HYC.out.mono ?_
        rintro e w5 (⟨rfl, hj5, hk5⟩ | ⟨rfl, hjx⟩)
        · have HST5 := Lib.hid (HRD.out.round hj5 hk5)
          have hm5 : rowLen r w5 < n1 := by
            obtain ⟨A5, c5, hv5⟩ := own_form HST5.out.held.row.row.own
            have h5 := HST5.out.held.row.row.cell
            rw [hv5] at h5
            unfold rowLen
            rw [h5]
            have := HL2.out
            simp only
            omega
          clear hj5 hk5
          go_wp2_with fail
          go_roundw
          case rel => exact ⟨pre ++ [x.xs], rest', _, _, _, c, rfl, by simp, HST5⟩
          case measure => rw [hrl]; exact hm5
        · have HEND : Hid (EPost J Jx ALL (p0 ++ D) (.returned (.bool false)) w5) := Lib.hid (.inr ⟨rfl, _, HPRE.out, hjx⟩)
          clear hjx
          go_wp2_with fail
          exact hR.out _ _ HEND.out
      | cons pa pt =>
        have HEQ := Lib.hid (equal_any x.A q.A x.xs q.xs x.c q.c w2 (IS_of_cells HPD.out.xfresh.ok) (IS_of_cells HPD.out.fresh.ok) (Nat.le_trans HPD.out.xfresh.le HPD.out.xfresh.cap) (Nat.le_trans HPD.out.fresh.le HPD.out.fresh.cap))
        have HLQ : Hid (pre.getLast? = some q.xs) := Lib.hid (HPD.out.last (by rw [hpre]; simp))
        have Hpe := Lib.hid hpre
        clear hpre
        have HCLW := fun W (hx : Ext w2 W) (hle : x.xs.length ≤ 1000000) => Lib.hid (clone_any x.A x.xs x.xs.length x.c W (IS.ext (IS_of_cells HPD.out.xfresh.ok) hx) rfl hle)
        generalize hmn : x.xs.length = mn at *
        generalize hqn : q.xs.length = qn at *
        go_wp2_with fail
        refine HEQ.out.mono ?_
        rintro e w3 ⟨rfl, nq, rfl⟩
        by_cases hxq : x.xs = q.xs
        · rw [decide_eq_true hxq]
          have HST3 := Lib.hid (HPD.out.again HJ.out (by rw [HLQ.out, hxq]) ((Ext.refl' w2).drewN' nq))
          have hm5 : rowLen r (w2.drewN nq) < n1 := by
            obtain ⟨A5, c5, hv5⟩ := own_form HST3.out.held.row.row.own
            have h5 := HST3.out.held.row.row.cell
            rw [hv5] at h5
            unfold rowLen
            rw [h5]
            have := HL2.out
            simp only
            omega
          clear hxq
          go_wp2_with fail
          go_roundw
          case rel => exact ⟨pre, rest, _, _, _, q, hqal.symm, by rw [Hpe.out]; rfl, HST3⟩
          case measure => rw [hrl]; exact hm5
        · rw [decide_eq_false hxq]
          have HL : Hid (pre.getLast? ≠ some x.xs) := Lib.hid (by rw [HLQ.out]; exact fun e => hxq (Option.some.inj e).symm)
          have HX3 := Lib.hid ((Ext.refl' w2).drewN' nq)
          have HCL := HCLW _ HX3.out (by rw [← hmn]; exact HSH.out _ (by obtain ⟨rr, h1, _⟩ := HPD.out.next HL.out; rw [HPD.out.all, h1]; simp))
          clear hxq
          go_wp2_with fail
          refine HCL.out.mono ?_
          rintro e w4 ⟨⟨cv, rfl, hown⟩, hx4⟩
          obtain ⟨c, rfl, hcx, hfc⟩ := fresh_of_own hown rfl
          obtain ⟨rest', hrd⟩ := HPD.out.copied HJ.out HL.out HX3.out hx4 hfc hcx
          have hpre : (p0 ++ pre) ++ [x.xs] <+: ALL := by
            have h1 := HP.out
            rw [hrd.all] at h1
            exact List.IsPrefix.trans ⟨rest', by simp⟩ h1
          have HYC := HY _ _ _ x hrd.st hpre hrd.xfresh (fun b hb => (hrd.xout b hb).1) hrd.held.lt
          have HRD := Lib.hid hrd
          have HPRE := Lib.hid hpre
          rw [hval] at HYC
          clear hown hx4 hcx hfc hrd hpre
          go_wp2_with fail
          refine HYC.out.mono ?_
          rintro e w5 (⟨rfl, hj5, hk5⟩ | ⟨rfl, hjx⟩)
          · have HST5 := Lib.hid (HRD.out.round hj5 hk5)
            have hm5 : rowLen r w5 < n1 := by
              obtain ⟨A5, c5, hv5⟩ := own_form HST5.out.held.row.row.own
              have h5 := HST5.out.held.row.row.cell
              rw [hv5] at h5
              unfold rowLen
              rw [h5]
              have := HL2.out
              simp only
              omega
            clear hj5 hk5
            go_wp2_with fail
            go_roundw
            case rel => exact ⟨pre ++ [x.xs], rest', _, _, _, c, rfl, by simp, HST5⟩
            case measure => rw [hrl]; exact hm5
          · have HEND : Hid (EPost J Jx ALL (p0 ++ D) (.returned (.bool false)) w5) := Lib.hid (.inr ⟨rfl, _, HPRE.out, hjx⟩)
            clear hjx
            go_wp2_with fail
            exact hR.out _ _ HEND.out
end Go.Proofs.Ytokfmfgnjhapiaa
