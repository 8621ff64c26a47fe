/- The terms' parser: a part of a pick. -/
import Derived.Test.YtnpaikdaogikcaaGreatDoorG23
import Derived.Deep.RegionWith

namespace Go.Proofs.YtnpaikdaogikcaaGreatDoor
set_option maxRecDepth 100000
open Go.RowKit
set_option linter.unusedVariables false
set_option linter.unusedSimpArgs false
attribute [local go_sem ↓ 2000] app_hide
set_option maxHeartbeats 40000000 in
theorem pick1_any (S : ByteArray) (pb xb ob base i a j : Nat) (wt : Int) (t : T) (ws : List Int) (ts : List T) (u v : Value) (ics : List (List Value)) (w : World) (hS : S.size ≤ 100000) (hi : i ≤ S.size)
    (hpb : pb < base) (hxb : xb < base) (hob : ob < base) (hd1 : pb ≠ xb) (hd2 : pb ≠ ob) (hd3 : xb ≠ ob) (hlen : ws.length ≤ 100000) (hlt : ts.length ≤ 100000)
    (hst : PSt pb xb ob base S i ws ts u v ics w) (hwt : weightAt (tl S) i = some (wt, a)) (hT : TermOK S a t j) :
    Calls Tryz.prog 101 #[.pointer (some ⟨xb, 0, none⟩), .pointer (some ⟨ob, 0, none⟩)] w fun e w' => e = .returned (.tuple #[]) ∧ Keeps (KP pb ob base) w w' ∧ ∃ u' v' ics', PSt pb xb ob base S j (ws ++ [wt]) (ts ++ [t]) u' v' ics' w' := by
  refine of_post fun R hR => ?_
  have HPA := Lib.hid hst.pa
  have HXB := Lib.hid hst.box
  have HOB := Lib.hid hst.out
  have HRO := Lib.hid hst.row
  have hcx := HXB.out.cell 0
  have HHD := fun w h => Lib.hid (hasT S i pb 0 w h hi hS 91 isDig (enters_of Tryz.func91 (by kernel_rfl) rfl) digitT)
  clear hst
  have HDG : Hid ((atP isDig (tl S) (blanks (tl S) i) = false ∧ wt = 1 ∧ a = i) ∨ (atP isDig (tl S) (blanks (tl S) i) = true ∧ ∃ e, numAt (tl S) (blanks (tl S) i) false = some (wt, e) ∧ mark (tl S) e [58] = some a ∧ e ≤ S.size)) := Lib.hid (by
    unfold weightAt at hwt
    cases hdg : atP isDig (tl S) (blanks (tl S) i)
    · rw [hdg, if_neg (by simp)] at hwt
      exact .inl ⟨rfl, by simp at hwt; exact hwt.1.symm, by simp at hwt; exact hwt.2.symm⟩
    · rw [hdg, if_pos rfl] at hwt
      refine .inr ⟨rfl, ?_⟩
      cases hn : numAt (tl S) (blanks (tl S) i) false with
      | none => rw [hn] at hwt; simp at hwt
      | some p =>
        obtain ⟨n, e⟩ := p
        rw [hn] at hwt
        simp only [] at hwt
        cases hm : mark (tl S) e [58] with
        | none => rw [hm] at hwt; simp at hwt
        | some a2 =>
          rw [hm] at hwt
          simp at hwt
          obtain ⟨rfl, rfl⟩ := hwt
          exact ⟨e, rfl, hm, (numAt_len hn).2⟩)
  clear hwt
  generalize hdg : atP isDig (tl S) (blanks (tl S) i) = dg at *
  go_enter Tryz.func101, Tryz.ntmps101
  go_upto_if 4 with (go_at_call 94; refine (HHD _ HPA.out).out.mono ?_; rintro e w ⟨rfl, hw⟩; obtain rfl := hw)
  go_cut [2] (fun s wx => s = .int .i64 wt ∧ Hid (PM 66 pb S a 0 0 w wx))
  case first =>
    obtain ⟨rfl, rfl, rfl⟩ | ⟨rfl, e, hn, hm, hes⟩ := HDG.out
    · go_wp2_with fail
      go_meet
      exact ⟨rfl, Lib.hid (PM.same HPA.out)⟩
    · have HNU := Lib.hid (fun w h => numberT S i pb 0 false wt e w h hi hS hn)
      have HND := Lib.hid (fun w h => needT S ⟨#[58]⟩ e a pb 0 w h hes hS (by decide) (by decide) hm (.inl (by decide)))
      have HK0 := Lib.hid (Keeps.refl (fun b => b = pb) w)
      clear hn hm hes
      go_wp2_with (first
        | (go_at_call 96; refine (HNU.out _ HPA.out).mono ?_; rintro r w1 ⟨rfl, hm⟩; replace HPA := Lib.hid hm.at_; replace HK0 := Lib.hid (HK0.out.trans hm.keeps); have hcx := (HXB.out.keeps HK0.out hd1.symm).cell 0; clear hm)
        | (go_at_call 29; refine (HND.out _ HPA.out).mono ?_; rintro r w2 ⟨rfl, hm⟩; replace HPA := Lib.hid hm.at_; replace HK0 := Lib.hid (HK0.out.trans hm.keeps); clear hm))
      go_meet
      exact ⟨rfl, Lib.hid ⟨HK0.out, HPA.out⟩⟩
  obtain ⟨rfl, HC⟩ := hcut
  clear HDG HHD hi hdg
  have HKE := Lib.hid (HC.out.keeps.mono (S' := KP pb ob base) fun k _ e => .inl e)
  replace HPA := Lib.hid HC.out.at_
  replace HXB := Lib.hid (HXB.out.keeps HC.out.keeps hd1.symm)
  replace HOB := Lib.hid (HOB.out.keeps HC.out.keeps hd2.symm)
  replace HRO := Lib.hid (HRO.out.keeps HC.out.keeps fun b hb e => by omega)
  have HTT := Lib.hid hT
  have HL1 : Hid ((ws.map I64).length ≤ 1000000) := Lib.hid (by rw [List.length_map]; omega)
  have HL2 : Hid (ts.length ≤ 1000000) := Lib.hid (by omega)
  replace hcx := HXB.out.cell 0
  have hco := HOB.out.cell
  have hxl := HXB.out.lt
  have hol := HOB.out.lt
  clear hT HC
  have HN1 : Hid (¬ KP pb ob base xb) := Lib.hid (by unfold KP; omega)
  have HB1 : Hid (∀ b, base ≤ b → ¬ b = pb) := Lib.hid (by intro b hb; omega)
  have HB2 : Hid (∀ b, u.ownBlock = some b → ¬ (b = pb ∨ b = xb ∨ b = ob)) := Lib.hid (by intro b hb; have := (HRO.out.own.lt b hb).1; omega)
  have HB3 : Hid (∀ b, v.ownBlock = some b → ¬ (b = pb ∨ b = xb ∨ b = ob)) := Lib.hid (by intro b hb; have := (HRO.out.row.own.lt b hb).1; omega)
  have HDD := Lib.hid (And.intro hd1 (And.intro hd2 hd3))
  have HBS := Lib.hid (And.intro hpb (And.intro hxb hob))
  clear hd1 hd2 hd3 hpb hxb hob hlen hlt
  go_upto_region 4 with fail
  go_region_with (first
    | (go_at_call 30; refine (HTT.out pb _ HPA.out).mono ?_; rintro e w2 ⟨⟨⟨cs, rfl, hr⟩, hk⟩, hpa⟩; obtain ⟨x0, x1, x2, x3, x4, x5, x6, x7, x8, x9, y0, y1, y2, y3, y4, y5, y6, y7, y8, y9, z0, z1, z2, z3, z4, z5, z6, rfl⟩ := RdT.thirteenA hr; have HR := Lib.hid hr; have HK := Lib.hid hk; replace HPA := Lib.hid hpa; have HFA := Lib.hid HRO.out.far; replace HXB := Lib.hid (HXB.out.keeps hk fun e => HDD.out.1 e.symm); replace HOB := Lib.hid (HOB.out.keeps hk fun e => HDD.out.2.1 e.symm); replace HRO := Lib.hid (HRO.out.keeps hk HB1.out); replace HKE := Lib.hid (HKE.out.trans (hk.mono fun k _ e => .inl e)); clear hcx hco hxl hol; have hcx := HXB.out.cell 0; have hco := HOB.out.cell; have hxl := HXB.out.lt; have hol := HOB.out.lt; clear hr hk hpa)
    | (refine upon_push1 HRO 28 _ (.int .i64 0) 8 Tryz.underlying28 infoInt rfl (.int .i64 wt) rfl _ ((Blk.new _ _ _).cell 0) (by first | exact (ext_al _ _).drewN' 1 | exact ext_al _ _) HL1 (by decide) ?_; intro u1 w3 HR1 HK3; obtain ⟨A1, k1, rfl⟩ := own_form HR1.out.own; replace HRO := HR1; replace HPA := Lib.hid (Blk.keeps HPA.out HK3.out (by have := HBS.out; omega)); replace HXB := Lib.hid (HXB.out.keeps HK3.out (by have := HBS.out; omega)); replace HOB := Lib.hid (HOB.out.keeps HK3.out (by have := HBS.out; omega)); replace HKE := Lib.hid (HKE.out.trans (HK3.out.mono fun k _ e => .inr (.inr e))); clear hcx hco hxl hol HR1 HK3; have hcx := HXB.out.cell 0; have hco := HOB.out.cell; have hxl := HXB.out.lt; have hol := HOB.out.lt)
    | (refine upon_pushT HRO 47 _ (.agg zero13a) 232 Tryz.underlying47 info13P rfl t _ (Lib.hid (RdT.mono HFA.out _ _ HR.out)) _ (cellsAt_new' _ _ _) (by first | exact ext_al _ _ | exact (ext_al _ _).drewN' 1) HL2 (by decide) ?_; intro v1 w4 ics1 HR1 HK3; obtain ⟨A2, k2, rfl⟩ := own_form HR1.out.row.own; replace HRO := HR1; replace HPA := Lib.hid (Blk.keeps HPA.out HK3.out (by have := HBS.out; omega)); replace HXB := Lib.hid (HXB.out.keeps HK3.out (by have := HBS.out; omega)); replace HOB := Lib.hid (HOB.out.keeps HK3.out (by have := HBS.out; omega)); replace HKE := Lib.hid (HKE.out.trans (HK3.out.mono fun k _ e => .inr (.inr e))); clear hcx hco hxl hol HR1 HK3; have hcx := HXB.out.cell 0; have hco := HOB.out.cell; have hxl := HXB.out.lt; have hol := HOB.out.lt; have hfo := HOB.out.frozen))
  all_goals
    go_wp2_with fail
    rw [show (List.map I64 ws ++ [Value.int IntKind.i64 wt]).length = ws.length + 1 by simp, show (ts ++ [t]).length = ts.length + 1 by simp] at HRO
    exact bodyPost_end (results_none Tryz.results101 _ _ _) rfl (hR.out _ _ ⟨rfl, pick_fin HPA HXB HOB HRO HKE HDD HBS⟩)
theorem pick1_H (S : ByteArray) (hS : S.size ≤ 100000) : Pick1H S := fun pb xb ob base i a j wt t ws ts u v ics w h1 h2 h3 h4 h5 h6 h7 h8 h9 h10 h11 h12 => pick1_any S pb xb ob base i a j wt t ws ts u v ics w hS h1 h2 h3 h4 h5 h6 h7 h8 h9 h10 h11 h12
end Go.Proofs.YtnpaikdaogikcaaGreatDoor
