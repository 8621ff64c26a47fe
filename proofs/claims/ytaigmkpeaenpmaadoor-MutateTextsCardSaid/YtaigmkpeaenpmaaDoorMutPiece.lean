/- The pieces of a mutation's text. -/
import Derived.Test.YtaigmkpeaenpmaaDoorMutText
import Derived.Shelf.Strings.SlTrimAscii
import Derived.Lib.IndexBytes
namespace Go.Proofs.YtaigmkpeaenpmaaDoor
set_option maxRecDepth 100000
open Go.RowKit
set_option linter.unusedVariables false
set_option linter.unusedSimpArgs false

def blanksL : List UInt8 := [32, 9, 10, 13]
def isBl (c : UInt8) : Bool := blanksL.contains c
theorem trim_piece {pre tok rest : List UInt8} (hp : ∀ c ∈ pre, isBl c = true) (ht : ∀ c ∈ tok, isBl c = false) (htr : tok = [] → rest = []) : Lib.trimLeftS (pre ++ (tok ++ rest)) blanksL = tok ++ rest := by
  unfold Lib.trimLeftS
  induction pre with
  | nil =>
    cases tok with
    | nil => rw [htr rfl]; rfl
    | cons c t =>
      have := ht c (by simp)
      unfold isBl at this
      rw [List.nil_append, List.cons_append, List.dropWhile_cons, if_neg (by rw [this]; simp)]
  | cons c p ih =>
    have := hp c (by simp)
    unfold isBl at this
    rw [List.cons_append, List.dropWhile_cons, if_pos this]
    exact ih fun d hd => hp d (by simp [hd])
theorem index_piece {tok rest : List UInt8} (ht : ∀ c ∈ tok, isBl c = false) (hr : rest = [] ∨ ∃ c r, rest = c :: r ∧ isBl c = true) : Lib.indexAny (tok ++ rest) blanksL = if rest = [] then -1 else (tok.length : Int) := by
  induction tok with
  | nil =>
    rcases hr with rfl | ⟨c, r, rfl, hc⟩
    · rfl
    · unfold isBl at hc
      rw [List.nil_append, Lib.indexAny, if_pos hc, if_neg (by simp)]; rfl
  | cons c t ih =>
    have h1 := ih fun d hd => ht d (by simp [hd])
    have h2 := ht c (by simp)
    unfold isBl at h2
    rw [List.cons_append, Lib.indexAny, if_neg (by rw [h2]; simp), h1]
    by_cases h : rest = []
    · rw [if_pos h, if_pos h]; rfl
    · rw [if_neg h, if_neg h, if_neg]
      · simp
      · simp

theorem h116K : (Tryd.prog.info? (Tryd.lays161_ren.t 116)).map (fun i => (i.zero, i.size)) = some (some (.agg (Array.replicate 256 (.bool false))), 256) := by kernel_rfl
theorem trim_any (s : ByteArray) (w : World) : Calls Tryd.prog 33 #[.string s, .string ⟨#[32, 9, 10, 13]⟩] w fun e w' => e = .returned (.string ⟨(Lib.trimLeftS s.data.toList blanksL).toArray⟩) ∧ Ext w w' :=
  Any.strings_TrimLeft_laid Tryd.lays161 h116K s ⟨#[32, 9, 10, 13]⟩ w (by decide) (ascii_of_all (by decide))
theorem index_any' (s : ByteArray) (w : World) (hs : s.size < 4294967281) (ha : s.data.toList.all (fun b => decide (b.toNat < 128)) = true) : Calls Tryd.prog 34 #[.string s, .string ⟨#[32, 9, 10, 13]⟩] w fun e w' => e = .returned (.int .i64 (Lib.indexAny s.data.toList blanksL)) ∧ Ext w w' :=
  Tryd.strings_IndexAny_laid s ⟨#[32, 9, 10, 13]⟩ w hs (by decide) (ascii_of_all ha) (ascii_of_all (by decide))

set_option maxHeartbeats 1000000 in
theorem piece_any (s : ByteArray) (a : Nat) (pre tok rest : List UInt8) (w : World) (hs : s.data.toList.drop a = pre ++ (tok ++ rest)) (ha : a ≤ s.size) (hz : s.size ≤ 1000) (hasc : s.data.toList.all (fun b => decide (b.toNat < 128)) = true)
    (hp : ∀ c ∈ pre, isBl c = true) (ht : ∀ c ∈ tok, isBl c = false) (htr : tok = [] → rest = []) (hr : rest = [] ∨ ∃ c r, rest = c :: r ∧ isBl c = true) :
    Calls Tryd.prog 13 #[.string s, .int .i64 a] w fun e w' => e = .returned (.tuple #[.string ⟨tok.toArray⟩, .int .i64 ((a + pre.length : Nat) : Int), .int .i64 ((a + pre.length + tok.length : Nat) : Int)]) ∧ Ext w w' := by
  refine of_post fun R hR => ?_
  have hlen : a + (pre.length + (tok.length + rest.length)) = s.size := by
    have h1 := congrArg List.length hs
    rw [List.length_drop] at h1
    simp only [List.length_append] at h1
    have : s.data.toList.length = s.size := rfl
    omega
  have HTR := fun w => Lib.hid (trim_any (s.extract a s.size) w)
  rw [Lib.extract_to_end, hs, trim_piece hp ht htr] at HTR
  have hb : (⟨(tok ++ rest).toArray⟩ : ByteArray).size = tok.length + rest.length := by show (tok ++ rest).toArray.size = _; simp
  have HIX := fun w => Lib.hid (index_any' ⟨(tok ++ rest).toArray⟩ w (by rw [hb]; omega) (by
    rw [List.all_eq_true] at hasc ⊢
    intro c hc
    refine hasc c (List.mem_of_mem_drop (i := a) ?_)
    rw [hs]; simp only [List.mem_append]; exact .inr (by simpa using hc)))
  have hdl : (⟨(tok ++ rest).toArray⟩ : ByteArray).data.toList = tok ++ rest := rfl
  rw [hdl, index_piece ht hr] at HIX
  have HEX : Hid ((⟨(tok ++ rest).toArray⟩ : ByteArray).extract 0 tok.length = ⟨tok.toArray⟩) := Lib.hid (by apply ByteArray.ext; apply Array.ext'; simp [ByteArray.data_extract])
  have HB := Lib.hid hb
  have HLN := Lib.hid hlen
  have HDF : Hid ((rest = []) = (rest.length = 0)) := Lib.hid (by simp)
  clear hs hasc hp ht htr hr hdl
  generalize (⟨(tok ++ rest).toArray⟩ : ByteArray) = q at *
  generalize hpl : pre.length = pl at *
  generalize htl : tok.length = tl at *
  generalize hrl : rest.length = rl at *
  have h1 : (a : Int) ≤ s.size := by omega
  have h2 : (s.size : Int) ≤ 1000 := by omega
  have h3 : (q.size : Int) = (tl : Int) + rl := by omega
  have H3 := Lib.hid h3
  have h4 : (s.size : Int) - q.size = ((a + pl : Nat) : Int) := by omega
  have H4 := Lib.hid h4
  have h5 : (tl : Int) ≤ q.size := by omega
  have h6 : (a : Int) + pl + tl ≤ 1000 := by omega
  have h7 : (q.size : Int) ≤ 1000 := by omega
  have h8 : (0 : Int) ≤ (s.size : Int) - q.size := by omega
  clear h3 hb hpl htl hrl hlen h4
  by_cases h0 : rest = []
  · rw [if_pos h0] at HIX
    have hr0 : rl = 0 := by rw [← HDF.out]; exact h0
    have h3' : (q.size : Int) = tl := by have := H3.out; omega
    have H3' := Lib.hid h3'
    clear h0 h3'
    go_enter Tryd.func13, Tryd.ntmps13
    go_wp2_with fail
    refine (HTR _).out.mono ?_
    rintro e w1 ⟨rfl, hx⟩
    have HX := Lib.hid hx
    clear hx
    go_wp2_with fail
    refine (HIX _).out.mono ?_
    rintro e w2 ⟨rfl, hx⟩
    have HX2 := Lib.hid (HX.out.trans' hx)
    clear hx
    go_wp2_with fail
    refine bodyPost_ret (v := .tuple #[.string ⟨tok.toArray⟩, .int .i64 ((a + pl : Nat) : Int), .int .i64 ((a + pl + tl : Nat) : Int)]) ?_ rfl (hR.out _ _ ⟨rfl, HX2.out⟩)
    rw [← H4.out, ← HEX.out]
    have h9 := H3'.out
    have h10 := H4.out
    have h11 : q.size = tl := by omega
    simp [results, Tryd.results13, go_sem]
    refine ⟨?_, by omega⟩
    rw [← h11]; apply ByteArray.ext; apply Array.ext'; simp [ByteArray.data_extract]
  · rw [if_neg h0] at HIX
    clear h0
    go_enter Tryd.func13, Tryd.ntmps13
    go_wp2_with fail
    refine (HTR _).out.mono ?_
    rintro e w1 ⟨rfl, hx⟩
    have HX := Lib.hid hx
    clear hx
    go_wp2_with fail
    refine (HIX _).out.mono ?_
    rintro e w2 ⟨rfl, hx⟩
    have HX2 := Lib.hid (HX.out.trans' hx)
    clear hx
    go_wp2_with fail
    refine bodyPost_ret (v := .tuple #[.string ⟨tok.toArray⟩, .int .i64 ((a + pl : Nat) : Int), .int .i64 ((a + pl + tl : Nat) : Int)]) ?_ rfl (hR.out _ _ ⟨rfl, HX2.out⟩)
    rw [← H4.out, ← HEX.out]
    simp [results, Tryd.results13, go_sem]
    have := H4.out; omega
end Go.Proofs.YtaigmkpeaenpmaaDoor
