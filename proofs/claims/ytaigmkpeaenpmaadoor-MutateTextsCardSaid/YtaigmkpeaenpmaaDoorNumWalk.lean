/- whole.form, whole.Parse (where it tells a number), whole.Text. -/
import Derived.Test.YtaigmkpeaenpmaaDoorBase
import Derived.Test.YtaigmkpeaenpmaaDoorNumText
import Derived.Test.YtaigmkpeaenpmaaDoorShelf
import Derived.Lib.OthersKept
import Derived.Laws.RangeAny
import Derived.Lib.SmallJoins
import Derived.Lib.LaidTab
namespace Go.Proofs.YtaigmkpeaenpmaaDoor
set_option maxRecDepth 100000
open Go.RowKit Go.Sort Go.Joins
set_option linter.unusedVariables false
set_option linter.unusedSimpArgs false

theorem toList_data (d : ByteArray) : d.toList = d.data.toList := ByteArray.toList_eq d

set_option maxHeartbeats 1000000 in
theorem form_any (s : ByteArray) (w : World) (hs : s.size ≤ 281474976710656) :
    Calls Tryd.prog 35 #[.string s] w fun e w' => e = .returned (.bool (formL s.data.toList)) ∧ Ext w w' := by
  refine of_post fun R hR => ?_
  go_enter Tryd.func35, Tryd.ntmps35
  go_wp2_with fail
  refine (Tryd.strings_TrimPrefix _ _ _).mono ?_
  rintro e w1 ⟨rfl, hw1⟩
  obtain rfl : w = w1 := hw1.symm
  obtain ⟨d, hd⟩ : ∃ d : ByteArray, d = ⟨(Lib.trimPrefix s.data.toList [45]).toArray⟩ := ⟨_, rfl⟩
  have HD : Hid (formL s.data.toList = formD d.data.toList) := Lib.hid (by rw [hd]; rfl)
  rw [← hd]
  clear hd
  have HTL : Hid (d.toList = d.data.toList) := Lib.hid (toList_data d)
  by_cases he : d.toList = []
  · have HF : Hid (formL s.data.toList = false) := Lib.hid (by rw [HD.out, ← HTL.out, he]; rfl)
    go_wp2_with fail
    exact hR.out _ _ ⟨ret_bb rfl HF.out.symm, Ext.refl' _⟩
  · have he1 : d.toList.isEmpty = false := by simpa using he
    have hsz : 0 < d.size := by
      rcases Nat.eq_zero_or_pos d.size with h | h
      · exact absurd (by rw [HTL.out]; exact List.eq_nil_of_length_eq_zero h) he
      · exact h
    have H0 : Hid (d.data.toList.head? = some d[0]) := Lib.hid (by rw [List.head?_eq_getElem?]; rw [List.getElem?_eq_getElem (by simpa using hsz)]; rfl)
    have HE := Lib.hid he
    clear he
    by_cases c : (d[0].toNat : Int) = 48 ∧ (d.toList == [48]) = false
    · obtain ⟨c0, c1⟩ := c
      have HF : Hid (formL s.data.toList = false) := Lib.hid (by
        have h48 : d[0] = 48 := UInt8.toNat_inj.1 (by show d[0].toNat = 48; omega)
        rw [HD.out]; unfold formD; rw [H0.out, h48, ← HTL.out, c1, he1]; rfl)
      go_wp2_with fail
      exact hR.out _ _ ⟨ret_bb rfl HF.out.symm, Ext.refl' _⟩
    · have HF : Hid (formL s.data.toList = d.data.toList.all isDig) := Lib.hid (by
        rw [HD.out]; unfold formD; rw [H0.out, ← HTL.out, he1]
        by_cases c1 : d.toList = [48]
        · rw [c1]; simp
        · have c2 : (d.toList == [48]) = false := by simpa using c1
          have c0 : ¬ (d[0] = 48) := fun h => c ⟨by rw [h]; rfl, c2⟩
          have c3 : ((some d[0] : Option UInt8) == some 48) = false := by simpa using c0
          rw [c3]; rfl)
      have hcase : ((d[0].toNat : Int) = 48 ∧ (d.toList == [48]) = true) ∨ ¬ (d[0].toNat : Int) = 48 := by
        by_cases c0 : (d[0].toNat : Int) = 48
        · exact .inl ⟨c0, by cases h : (d.toList == [48]) with | true => rfl | false => exact absurd ⟨c0, h⟩ c⟩
        · exact .inr c0
      clear c
      rcases hcase with ⟨c0, c1⟩ | c0
      all_goals
        go_wp2_with fail
        go_loopw [5] (fun _ wr => ∃ pos, pos ≤ d.size ∧ wr.heap[w.heap.size]? = some (.stringIter d pos) ∧ Hid (d.data.toList.all isDig = (d.data.toList.drop pos).all isDig) ∧ Hid (Ext w wr)) (fun _ wr => d.size - wr.iterPos w.heap.size)
        case atStart => exact ⟨0, Nat.zero_le _, World.iter_heap w d 0, Lib.hid rfl, Lib.hid ((Ext.refl' w).alloc' _)⟩
        case round =>
          obtain ⟨pos, hpos, hit, HA, HX⟩ := hrel
          by_cases hp : pos < d.size
          · have hip : wr.iterPos w.heap.size = pos := by simp [World.iterPos, hit]
            have HST : Hid ((d.data.toList.drop pos).all isDig = (isDig d[pos] && (d.data.toList.drop (pos + 1)).all isDig)) := Lib.hid (by
              rw [List.drop_eq_getElem_cons (by simpa using hp), List.all_cons]; rfl)
            by_cases ha : d[pos].toNat < 128
            · have hnx : ∀ ty, (Instr.next (.pointer (some ⟨w.heap.size, 0, none⟩)) true ty).run Tryd.prog wr = _ := fun ty => Lib.run_next_ascii_at wr w.heap.size d pos ty hit hp ha
              have HX2 : Hid (Ext w (wr.iterAt w.heap.size d (pos + 1))) := Lib.hid (Lib.below_iterAt HX.out (Nat.le_refl _) _ _)
              have HI2 : Hid ((wr.iterAt w.heap.size d (pos + 1)).heap[w.heap.size]? = some (.stringIter d (pos + 1))) := Lib.hid (Lib.iterAt_heap _ _ _ _ _ hit)
              have HIT := Lib.hid hit
              have HIP := Lib.hid hip
              generalize wr.iterAt w.heap.size d (pos + 1) = w2 at *
              have HDG : Hid (isDig d[pos] = true ↔ 48 ≤ d[pos].toNat ∧ d[pos].toNat ≤ 57) := Lib.hid (dig_iff _)
              generalize d[pos] = x at *
              clear hit hip
              by_cases hd : 48 ≤ x.toNat ∧ x.toNat ≤ 57
              · have HN : Hid (d.data.toList.all isDig = (d.data.toList.drop (pos + 1)).all isDig) := Lib.hid (by rw [HA.out, HST.out, HDG.out.2 hd]; rfl)
                obtain ⟨d1, d2⟩ := hd
                have d1' : ¬ (x.toNat : Int) < 48 := by omega
                have d2' : ¬ (57 : Int) < x.toNat := by omega
                go_wp2_with fail
                go_roundw
                case rel => exact ⟨pos + 1, hp, HI2.out, HN, HX2⟩
                case measure =>
                  have := HIP.out
                  have h2 : w2.iterPos w.heap.size = pos + 1 := by simp [World.iterPos, HI2.out]
                  omega
              · have HFF : Hid (d.data.toList.all isDig = false) := Lib.hid (by
                  rw [HA.out, HST.out]
                  cases h : isDig x with
                  | true => exact absurd (HDG.out.1 h) hd
                  | false => rfl)
                by_cases d1 : (x.toNat : Int) < 48
                · go_wp2_with fail
                  exact hR.out _ _ ⟨ret_bb rfl (by rw [HF.out, HFF.out]), HX2.out⟩
                · have d2 : (57 : Int) < x.toNat := by omega
                  go_wp2_with fail
                  exact hR.out _ _ ⟨ret_bb rfl (by rw [HF.out, HFF.out]), HX2.out⟩
            · have hhi := decode_high d pos hp (by omega)
              have hnx : ∀ ty, (Instr.next (.pointer (some ⟨w.heap.size, 0, none⟩)) true ty).run Tryd.prog wr = _ := fun ty => Lib.run_next_any_at wr w.heap.size d pos ty hit hp
              have HX2 : Hid (Ext w (wr.iterAt w.heap.size d (pos + (Utf8.decode d pos).2))) := Lib.hid (Lib.below_iterAt HX.out (Nat.le_refl _) _ _)
              generalize wr.iterAt w.heap.size d (pos + (Utf8.decode d pos).2) = w2 at *
              generalize (Utf8.decode d pos).1 = r at *
              have HFF : Hid (d.data.toList.all isDig = false) := Lib.hid (by
                rw [HA.out, HST.out]
                cases h : isDig d[pos] with
                | true => have := (dig_iff _).1 h; omega
                | false => rfl)
              have d1 : ¬ (r : Int) < 48 := by omega
              have d2 : (57 : Int) < r := by omega
              clear hit hip ha
              go_wp2_with fail
              exact hR.out _ _ ⟨ret_bb rfl (by rw [HF.out, HFF.out]), HX2.out⟩
          · obtain rfl : pos = d.size := by omega
            have hnx : ∀ ty, (Instr.next (.pointer (some ⟨w.heap.size, 0, none⟩)) true ty).run Tryd.prog wr = _ := fun ty => Lib.run_next_end_at wr w.heap.size d d.size ty hit hp
            have HT : Hid (d.data.toList.all isDig = true) := Lib.hid (by rw [HA.out, List.drop_of_length_le (by simp)]; rfl)
            clear hit
            go_wp2_with fail
            exact hR.out _ _ ⟨ret_bb rfl (by rw [HF.out, HT.out]), HX.out⟩

theorem ext_grow (w : World) (k : Nat) (os : Array Obj) : Ext w (grow (w.drewN k) os) :=
  ⟨rfl, rfl, rfl, by simp [grow], fun i hi => by show (w.heap ++ os)[i]? = w.heap[i]?; rw [Array.getElem?_append_left hi]⟩
/-- The table that FormatInt reads. -/
def Pow (w : World) : Prop := Lib.TabIs Tryd.prog w "internal/strconv.uint64pow10" .u64 Lib.pow10Tab
def powG : Nat := 0
theorem gPow : Tryd.prog.globalNamed "internal/strconv.uint64pow10" = some powG := by kernel_rfl
theorem Pow.on {w w' : World} (h : Pow w) (hx : Ext w w') : Pow w' := by
  unfold Pow Lib.TabIs World.var? at *
  rw [gPow] at h ⊢
  simp only [Option.bind_some] at h ⊢
  rw [hx.block powG]
  · exact h
  · rcases Nat.lt_or_ge powG w.heap.size with hl | hl
    · exact hl
    · rw [Array.getElem?_eq_none hl] at h; cases h

theorem whole_text (n : Int) (w : World) (h0 : -9223372036854775808 ≤ n) (h1 : n ≤ 9223372036854775807) (hp : Pow w) :
    Calls Tryd.prog 12 #[.int .i64 n] w fun e w' => e = .returned (.string ⟨(Lib.itoa n).toArray⟩) ∧ Ext w w' := by
  refine of_post fun R hR => ?_
  have HC := Lib.hid (Tryd.strconv_FormatInt_10 n h0 h1 w hp)
  clear h0 h1
  go_enter Tryd.func12, Tryd.ntmps12
  go_wp2_with fail
  refine HC.out.mono ?_
  rintro e w1 ⟨rfl, k, os, rfl⟩
  have HX := Lib.hid (ext_grow w k os)
  generalize grow (w.drewN k) os = w2 at *
  go_wp2_with fail
  exact hR.out _ _ ⟨rfl, HX.out⟩

theorem whole_parse_ok (s : ByteArray) (n : Int) (w : World) (hs : s.size ≤ 281474976710656) (hf : formL s.data.toList = true) (hn : Lib.parseIntB 64 s.data.toList = .ok n) :
    Calls Tryd.prog 16 #[.string s] w fun e w' => e = .returned (.tuple #[.int .i64 n, .int .i64 0]) ∧ Ext w w' := by
  refine of_post fun R hR => ?_
  have HF := fun w => Lib.hid (form_any s w hs)
  rw [hf] at HF
  have HC := fun w => Lib.hid (Tryd.strconv_ParseInt_10_at64_ok s (by omega) n hn w)
  clear hf hn
  go_enter Tryd.func16, Tryd.ntmps16
  go_wp2_with fail
  refine (HF _).out.mono ?_
  rintro e w1 ⟨rfl, hx⟩
  have HX := Lib.hid hx
  clear hx
  go_wp2_with fail
  refine (HC _).out.mono ?_
  rintro e w2 ⟨rfl, hw⟩
  have HX2 : Hid (Ext w w2) := Lib.hid (by
    rcases hw with rfl | ⟨t, rfl⟩
    · exact HX.out
    · exact HX.out.trans' (below_bytesWorld _ _ _ _ (Nat.le_refl _)))
  clear hw
  go_wp2_with fail
  exact hR.out _ _ ⟨rfl, HX2.out⟩
end Go.Proofs.YtaigmkpeaenpmaaDoor
