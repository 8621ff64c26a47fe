/- A place, by weights. -/
import Derived.Test.YtnpaikdaogikcaaGreatDoorG02
import Derived.Lib.ItoaNum
import Derived.Lib.ParseIntBTie
import Derived.Lib.Strings
import Derived.Test.YtnpaikdaogikcaaGreatDoorG01

namespace Go.Proofs.YtnpaikdaogikcaaGreatDoor
set_option maxRecDepth 100000
open Go.RowKit
set_option linter.unusedVariables false
set_option linter.unusedSimpArgs false

theorem method_at {P : Program} {t e : TypeId} {name : String} {K : FuncId} {fuel : Nat} {a : Addr} {w : World}
    (h : (P.info? t).bind (fun i => (i.methods.find? (fun m => m.name == name)).map (fun m => (m.path, m.func))) = some (#[], some (K, true)))
    (ht : P.underlying t = some (.pointer e)) : (method (fuel + 1) t (.pointer (some a)) name).run P w = .ok (K, .pointer (some a)) w := by
  obtain ⟨i, hi, h⟩ := Option.bind_eq_some_iff.1 h
  obtain ⟨m, hm, h⟩ := Option.map_eq_some_iff.1 h
  simp only [Prod.mk.injEq] at h
  obtain ⟨hp, hf⟩ := h
  unfold method
  simp [typeInfo, hi, hm, hp, hf, follow, receiverAt, run_underlying ht, Place.get]

theorem meth_next (n sb : Nat) (W : World) : (method (n + 1) 58 (.pointer (some ⟨sb, 0, none⟩)) "Next").run Tryz.prog W = .ok (319, .pointer (some ⟨sb, 0, none⟩)) W :=
  method_at (e := 63) (by kernel_rfl) Tryz.underlying58
def sumL (l : List Int) : Int := l.foldl (· + ·) 0
/-- The place of a number among weights. -/
def placeL : List Int → Int → Nat
  | [], _ => 0
  | w :: l, n => if n < w then 0 else placeL l (n - w) + 1
theorem sum_acc (l : List Int) : ∀ a : Int, l.foldl (· + ·) a = a + sumL l := by
  induction l with
  | nil => intro a; simp [sumL]
  | cons x l ih => intro a; unfold sumL; rw [List.foldl_cons, List.foldl_cons, ih, ih (0 + x)]; omega
theorem sum_cons (x : Int) (l : List Int) : sumL (x :: l) = x + sumL l := by
  unfold sumL; rw [List.foldl_cons, sum_acc]; simp [sumL]
theorem sum_take (l : List Int) (i : Nat) (h : i < l.length) : sumL (l.take (i + 1)) = sumL (l.take i) + l[i] := by
  induction l generalizing i with
  | nil => simp at h
  | cons x l ih => cases i with
    | zero => simp [sum_cons, sumL]
    | succ i => have := ih i (by simpa using h); simp only [List.take_succ_cons, sum_cons, List.getElem_cons_succ, this]; omega
theorem sum_nonneg (l : List Int) (h : ∀ n ∈ l, 1 ≤ n) : 0 ≤ sumL l := by
  induction l with
  | nil => simp [sumL]
  | cons x l ih => rw [sum_cons]; have := h x (by simp); have := ih fun n hn => h n (by simp [hn]); omega
theorem sum_le (l : List Int) (h : ∀ n ∈ l, 1 ≤ n ∧ n ≤ 1000) : sumL l ≤ 1000 * l.length := by
  induction l with
  | nil => simp [sumL]
  | cons x l ih => rw [sum_cons, List.length_cons]; have := h x (by simp); have := ih fun n hn => h n (by simp [hn]); push_cast; omega
theorem sum_take_le (l : List Int) (h : ∀ n ∈ l, 1 ≤ n) (i : Nat) : sumL (l.take i) ≤ sumL l := by
  induction l generalizing i with
  | nil => simp
  | cons x l ih => cases i with
    | zero => have := sum_nonneg (x :: l) h; simpa [sumL] using this
    | succ i => have := ih (fun n hn => h n (by simp [hn])) i; simp only [List.take_succ_cons, sum_cons]; omega
theorem place_drop (l : List Int) (n : Int) (i : Nat) (hi : i ≤ l.length) (h : sumL (l.take i) ≤ n) (hp : ∀ x ∈ l, 1 ≤ x) : placeL l n = i + placeL (l.drop i) (n - sumL (l.take i)) := by
  induction i generalizing l n with
  | zero => simp [sumL]
  | succ i ih =>
    cases l with
    | nil => simp at hi
    | cons x l =>
      rw [List.take_succ_cons, sum_cons] at h
      have h0 := sum_nonneg (l.take i) (fun y hy => hp y (List.mem_cons.2 (.inr (List.mem_of_mem_take hy))))
      rw [placeL, if_neg (by omega), List.drop_succ_cons, List.take_succ_cons, sum_cons, ih l (n - x) (by simpa using hi) (by omega) (fun y hy => hp y (by simp [hy]))]
      rw [show n - x - sumL (l.take i) = n - (x + sumL (l.take i)) by omega]; omega
theorem cells_keep {w w' : World} {A : Option Addr} {cs : List Value} {sb : Nat} (h : CellsAt w A cs) (hk : Keeps (fun b => b = sb) w w') (hne : ∀ b o, A = some ⟨b, o, none⟩ → b ≠ sb) : CellsAt w' A cs := fun hn => by
  obtain ⟨b, o, e, hc⟩ := h hn
  exact ⟨b, o, e, fun k u hu => hk.cell (hne b o e) (hc k u hu)⟩
set_option maxHeartbeats 2000000 in
theorem weighT (sb u : Nat) (l ws : List Int) (A : Option Addr) (c : Nat) (w : World) (h : Src w sb u l) (hu : u < l.length) (hl : l.length ≤ 10000) (h0 : 0 ≤ l[u]) (hlt : l[u] < sumL ws) (hc : CellsAt w A (ws.map I64)) (hne : ∀ b o, A = some ⟨b, o, none⟩ → b ≠ sb)
    (hw : ∀ n ∈ ws, 1 ≤ n ∧ n ≤ 1000) (hn : ws.length ≤ 64) :
    Calls Tryz.prog 318 #[.iface 58 (.pointer (some ⟨sb, 0, none⟩)), .slice A ws.length c] w fun e w' => e = .returned (.tuple #[.int .i64 (placeL ws l[u]), .int .i64 0]) ∧ Keeps (fun b => b = sb) w w' ∧ Src w' sb (u + 1) l := by
  refine of_post fun R hR => ?_
  have hsle := sum_le ws hw
  have HNX := Lib.hid (nextS sb u l (sumL ws) w h hu hl h0 hlt (by omega))
  have HCA := Lib.hid hc
  have HW := Lib.hid hw
  have HNE := Lib.hid hne
  have HTK := fun i h => Lib.hid (sum_take ws i h)
  have HTL := Lib.hid (sum_take_le ws fun n hn => (hw n hn).1)
  have HNN := Lib.hid (sum_nonneg ws fun n hn => (hw n hn).1)
  have HPL := Lib.hid (fun (i : Nat) (hi : i ≤ ws.length) (hq : sumL (ws.take i) ≤ l[u]) => place_drop ws l[u] i hi hq fun n hn => (hw n hn).1)
  have HLT := Lib.hid hlt
  have H0 := Lib.hid h0
  clear h hc hw hne hlt h0 hl
  generalize l[u] = x at *
  go_enter Tryz.func318, Tryz.ntmps318
  go_wp2_with fail
  go_loopw [6, 14] (fun sv iv wr => ∃ i : Nat, iv = .int .i64 i ∧ i ≤ ws.length ∧ sv = .int .i64 (sumL (ws.take i)) ∧ wr = w) (fun _ iv _ => ws.length - (intOf iv).toNat)
  case atStart => exact ⟨0, rfl, Nat.zero_le _, rfl, rfl⟩
  case round =>
    obtain ⟨i, rfl, hi, rfl, rfl⟩ := hrel
    by_cases hil : i < ws.length
    · obtain ⟨b, o, rfl, hcell⟩ := HCA.out (by simp; rintro rfl; simp at hil)
      have hci : wr.cell? ⟨b, o + i, none⟩ = some (.int .i64 ws[i]) := hcell i _ (by rw [List.getElem?_map, List.getElem?_eq_getElem hil]; rfl)
      obtain ⟨hd1, hd2⟩ := HW.out _ (List.getElem_mem hil)
      have htk := (HTK i hil).out
      have g1 := HTL.out i
      have g2 := HTL.out (i + 1)
      have g0 : 0 ≤ sumL (ws.take i) := sum_nonneg _ fun y hy => (HW.out y (List.mem_of_mem_take hy)).1
      have k1 : ¬ ws[i] < 1 := by omega
      have k2 : ¬ (1000 : Int) < ws[i] := by omega
      have k3 : ¬ (64 : Int) < ws.length := by omega
      have HQ := Lib.hid htk
      clear hcell htk HTK HTL
      generalize ws[i] = y at *
      generalize sumL (ws.take i) = q at *
      go_wp2_with fail
      go_roundw
      case rel => exact ⟨i + 1, by go_num, hil, by rw [HQ.out], trivial⟩
      case measure => simp [intOf]; omega
    · obtain rfl : i = ws.length := by omega
      rw [List.take_length]
      have hz : ¬ sumL ws = 0 := by have := HLT.out; have := H0.out; omega
      have hs1 : 0 ≤ sumL ws := HNN.out
      have hz2 : (sumL ws == 0) = false := by simpa using hz
      generalize hsm : sumL ws = sm at *
      have HSM := Lib.hid hsm
      clear hsm
      have hmn := fun n W => meth_next n sb W
      go_wp2_with (go_at_call 319; refine HNX.out.mono ?_; rintro e w2 ⟨rfl, hk, hs⟩; have HK := Lib.hid hk; have HS2 := Lib.hid hs; clear hk hs)
      have HCB := Lib.hid (cells_keep HCA.out HK.out HNE.out)
      clear hmn hz hz2 hs1
      go_loopw [9, 40] (fun nv iv wr => ∃ i : Nat, iv = .int .i64 i ∧ i ≤ ws.length ∧ nv = .int .i64 (x - sumL (ws.take i)) ∧ Hid (sumL (ws.take i) ≤ x) ∧ wr = w2) (fun _ iv _ => ws.length - (intOf iv).toNat)
      case atStart => exact ⟨0, rfl, Nat.zero_le _, by simp [sumL], Lib.hid (by simpa [sumL] using H0.out), rfl⟩
      case round =>
        obtain ⟨i, rfl, hi2, rfl, HQ, rfl⟩ := hrel
        by_cases hil : i < ws.length
        · obtain ⟨b, o, rfl, hcell⟩ := HCB.out (by simp; rintro rfl; simp at hil)
          have hci : wr.cell? ⟨b, o + i, none⟩ = some (.int .i64 ws[i]) := hcell i _ (by rw [List.getElem?_map, List.getElem?_eq_getElem hil]; rfl)
          have hpl := HPL.out i hi2 HQ.out
          rw [List.drop_eq_getElem_cons hil, placeL] at hpl
          have htk := (HTK i hil).out
          obtain ⟨hd1, hd2⟩ := HW.out _ (List.getElem_mem hil)
          have g0 : 0 ≤ sumL (ws.take i) := sum_nonneg _ fun y hy => (HW.out y (List.mem_of_mem_take hy)).1
          have g1 := HQ.out
          have gx : x ≤ 100000 := by have := HLT.out; omega
          by_cases hlt2 : x - sumL (ws.take i) < ws[i]
          · rw [if_pos hlt2] at hpl
            have HPE := Lib.hid hpl
            clear hpl hcell HTK HTL HPL
            generalize ws[i] = y at *
            generalize sumL (ws.take i) = q at *
            go_wp2_with fail
            exact hR.out _ _ ⟨by rw [HPE.out]; rfl, HK.out, HS2.out⟩
          · have HQ3 : Hid (sumL (ws.take (i + 1)) ≤ x) := Lib.hid (by rw [htk]; omega)
            have HQ4 : Hid (x - sumL (ws.take (i + 1)) = x - sumL (ws.take i) - ws[i]) := Lib.hid (by rw [htk]; omega)
            clear hpl hcell HTK HTL HPL htk
            generalize ws[i] = y at *
            generalize sumL (ws.take i) = q at *
            go_wp2_with fail
            go_roundw
            case rel => exact ⟨i + 1, by go_num, hil, by rw [HQ4.out], HQ3, trivial⟩
            case measure => simp [intOf]; omega
        · exfalso
          obtain rfl : i = ws.length := by omega
          have h1 := HQ.out
          rw [List.take_length] at h1
          have h2 := HLT.out
          have h3 := HSM.out
          omega
end Go.Proofs.YtnpaikdaogikcaaGreatDoor

/- Numbers' texts, in plain words: figures of four decimal digits put together are the decimal numeral. -/
namespace Go.Proofs.YtnpaikdaogikcaaGreatDoor
set_option maxRecDepth 100000
open Go

def figs (m : Nat) : List Nat := if h : m = 0 then [] else (m % 10000) :: figs (m / 10000)
termination_by m
decreasing_by omega
def inner (more : Bool) : Nat → Nat → List UInt8 → List UInt8
  | 0, _, s => s
  | k + 1, f, s => inner more k (f / 10) (if decide (0 < f) || more then UInt8.ofNat (48 + f % 10) :: s else s)
def outer : List Nat → List UInt8 → List UInt8
  | [], s => s
  | f :: r, s => outer r (inner (!r.isEmpty) 4 f s)

theorem figs_zero : figs 0 = [] := by rw [figs]; simp
theorem figs_pos {m : Nat} (h : 0 < m) : figs m = (m % 10000) :: figs (m / 10000) := by rw [figs, dif_neg (by omega)]
theorem figs_lt : ∀ (m : Nat), ∀ f ∈ figs m, f < 10000 := by
  intro m
  induction m using Nat.strongRecOn with
  | _ m ih =>
    rcases Nat.eq_zero_or_pos m with rfl | h
    · rw [figs_zero]; simp
    · rw [figs_pos h]
      intro f hf
      rcases List.mem_cons.1 hf with rfl | hf
      · exact Nat.mod_lt _ (by decide)
      · exact ih _ (by omega) f hf
theorem figs_len : ∀ (k m : Nat), m < 10000 ^ k → (figs m).length ≤ k
  | 0, m, h => by
    have : m = 0 := by simpa using h
    subst this; rw [figs_zero]; simp
  | k + 1, m, h => by
    rcases Nat.eq_zero_or_pos m with rfl | h0
    · rw [figs_zero]; simp
    · rw [figs_pos h0, List.length_cons]
      have := figs_len k (m / 10000) (by rw [Nat.pow_succ] at h; omega)
      omega
theorem figs_empty {m : Nat} : figs m = [] ↔ m = 0 := by
  constructor
  · intro h
    rcases Nat.eq_zero_or_pos m with h0 | h0
    · exact h0
    · rw [figs_pos h0] at h; cases h
  · rintro rfl; exact figs_zero

theorem dec_small {u : Nat} (h : u < 10) : Lib.decDigits u = [UInt8.ofNat (48 + u)] := by rw [Lib.decDigits, dif_pos h]
theorem dec_big {u : Nat} (h : ¬ u < 10) : Lib.decDigits u = Lib.decDigits (u / 10) ++ [UInt8.ofNat (48 + u % 10)] := by rw [Lib.decDigits, dif_neg h]

theorem inner_last {f : Nat} (h0 : 0 < f) (h : f < 10000) (s : List UInt8) : inner false 4 f s = Lib.decDigits f ++ s := by
  have e1 : f / 10 / 10 = f / 100 := by omega
  have e2 : f / 100 / 10 = f / 1000 := by omega
  simp only [inner, Bool.or_false, decide_eq_true_eq, e1, e2]
  rw [if_pos h0]
  by_cases h1 : f < 10
  · rw [if_neg (by omega : ¬ 0 < f / 1000), if_neg (by omega : ¬ 0 < f / 100), if_neg (by omega : ¬ 0 < f / 10), dec_small h1, Nat.mod_eq_of_lt h1]; rfl
  · rw [dec_big h1, if_pos (by omega : 0 < f / 10)]
    by_cases h2 : f / 10 < 10
    · rw [if_neg (by omega : ¬ 0 < f / 1000), if_neg (by omega : ¬ 0 < f / 100), dec_small h2, Nat.mod_eq_of_lt h2]; rfl
    · rw [dec_big h2, if_pos (by omega : 0 < f / 100), e1]
      by_cases h3 : f / 100 < 10
      · rw [if_neg (by omega : ¬ 0 < f / 1000), dec_small h3, Nat.mod_eq_of_lt h3]; simp
      · rw [dec_big h3, if_pos (by omega : 0 < f / 1000), e2, dec_small (by omega : f / 1000 < 10), Nat.mod_eq_of_lt (by omega : f / 1000 < 10)]; simp
theorem inner_more (f q : Nat) (hq : 0 < q) (hf : f < 10000) (s : List UInt8) : Lib.decDigits q ++ inner true 4 f s = Lib.decDigits (10000 * q + f) ++ s := by
  have e1 : (10000 * q + f) / 10 = 1000 * q + f / 10 := by omega
  have e2 : (1000 * q + f / 10) / 10 = 100 * q + f / 100 := by omega
  have e3 : (100 * q + f / 100) / 10 = 10 * q + f / 1000 := by omega
  have e4 : (10 * q + f / 1000) / 10 = q := by omega
  have m1 : (10000 * q + f) % 10 = f % 10 := by omega
  have m2 : (1000 * q + f / 10) % 10 = f / 10 % 10 := by omega
  have m3 : (100 * q + f / 100) % 10 = f / 10 / 10 % 10 := by omega
  have m4 : (10 * q + f / 1000) % 10 = f / 10 / 10 / 10 % 10 := by omega
  rw [dec_big (by omega : ¬ 10000 * q + f < 10), e1, dec_big (by omega : ¬ 1000 * q + f / 10 < 10), e2, dec_big (by omega : ¬ 100 * q + f / 100 < 10), e3, dec_big (by omega : ¬ 10 * q + f / 1000 < 10), e4, m1, m2, m3, m4]
  simp [inner]
theorem outer_figs : ∀ (m : Nat), 0 < m → ∀ s, outer (figs m) s = Lib.decDigits m ++ s := by
  intro m
  induction m using Nat.strongRecOn with
  | _ m ih =>
    intro h s
    rw [figs_pos h, outer]
    rcases Nat.eq_zero_or_pos (m / 10000) with h0 | h0
    · rw [h0, figs_zero, outer]
      have : m % 10000 = m := by omega
      rw [this]
      exact inner_last h (by omega) s
    · have hn : (figs (m / 10000)).isEmpty = false := by rw [figs_pos h0]; rfl
      rw [hn, ih _ (by omega) h0]
      have := inner_more (m % 10000) (m / 10000) h0 (Nat.mod_lt _ (by decide)) s
      rw [Nat.div_add_mod] at this
      exact this

/-- A number's text, as the document puts it together. -/
def numText (n : Int) : List UInt8 := if n = 0 then [48] else if n < 0 then 45 :: outer (figs n.natAbs) [] else outer (figs n.natAbs) []
theorem numText_itoa (n : Int) : numText n = Lib.itoa n := by
  unfold numText Lib.itoa
  by_cases h : n = 0
  · subst h; rw [if_pos rfl, if_neg (by decide)]; rw [dec_small (by decide)]; rfl
  · rw [if_neg h]
    by_cases h1 : n < 0
    · rw [if_pos h1, if_pos h1, outer_figs _ (by omega), List.append_nil]
    · rw [if_neg h1, if_neg h1, outer_figs _ (by omega), List.append_nil]
      congr 1; omega

def isDig (c : UInt8) : Bool := 48 ≤ c && c ≤ 57
/-- A number's form, behind the sign. -/
def formD (l : List UInt8) : Bool := !l.isEmpty && !(l.head? == some 48 && !(l == [48])) && l.all isDig
def formL (l : List UInt8) : Bool := formD (Lib.trimPrefix l [45])
theorem dig_iff (c : UInt8) : isDig c = true ↔ 48 ≤ c.toNat ∧ c.toNat ≤ 57 := by
  unfold isDig; rw [Bool.and_eq_true, decide_eq_true_iff, decide_eq_true_iff, UInt8.le_iff_toNat_le, UInt8.le_iff_toNat_le]; rfl
theorem dig_nat {d : Nat} (h : d < 10) : (UInt8.ofNat (48 + d)).toNat = 48 + d := by rw [UInt8.toNat_ofNat']; omega

theorem parse_append (l r : List UInt8) : ∀ acc, Lib.parseUint10 acc (l ++ r) = match Lib.parseUint10 acc l with | .ok a => Lib.parseUint10 a r | .syntax => .syntax | .range => .range := by
  induction l with
  | nil => intro acc; rfl
  | cons c l ih =>
    intro acc
    rw [List.cons_append, Lib.parseUint10, Lib.parseUint10]
    split
    · split
      · rfl
      · split
        · rfl
        · exact ih _
    · rfl
theorem parse_dec : ∀ (u : Nat), u < 18446744073709551616 → Lib.parseUint10 0 (Lib.decDigits u) = .ok u := by
  intro u
  induction u using Nat.strongRecOn with
  | _ u ih =>
    intro h
    by_cases h1 : u < 10
    · rw [dec_small h1, Lib.parseUint10, dig_nat h1, if_pos (by omega), if_neg (by omega), if_neg (by omega), Lib.parseUint10]
      congr 1; omega
    · rw [dec_big h1, parse_append, ih (u / 10) (by omega) (by omega)]
      simp only
      have hm : u % 10 < 10 := by omega
      rw [Lib.parseUint10, dig_nat hm, if_pos (by omega), if_neg (by omega), if_neg (by omega), Lib.parseUint10]
      congr 1; omega
theorem dec_ne (u : Nat) : Lib.decDigits u ≠ [] := by
  by_cases h : u < 10
  · rw [dec_small h]; simp
  · rw [dec_big h]; simp
theorem dec_all : ∀ (u : Nat), (Lib.decDigits u).all isDig = true := by
  intro u
  induction u using Nat.strongRecOn with
  | _ u ih =>
    by_cases h : u < 10
    · rw [dec_small h, List.all_cons, List.all_nil, Bool.and_true, dig_iff, dig_nat h]; omega
    · rw [dec_big h, List.all_append, ih _ (by omega), List.all_cons, List.all_nil, Bool.and_true, Bool.true_and, dig_iff, dig_nat (by omega)]; omega
theorem dec_head : ∀ (u : Nat), 0 < u → ∃ c r, Lib.decDigits u = c :: r ∧ c ≠ 48 ∧ isDig c = true := by
  intro u
  induction u using Nat.strongRecOn with
  | _ u ih =>
    intro h0
    by_cases h : u < 10
    · refine ⟨_, [], dec_small h, fun e => ?_, by rw [dig_iff, dig_nat h]; omega⟩
      have := congrArg UInt8.toNat e
      rw [dig_nat h] at this
      have h48 : (48 : UInt8).toNat = 48 := rfl
      omega
    · obtain ⟨c, r, h1, h2, h3⟩ := ih (u / 10) (by omega) (by omega)
      exact ⟨c, r ++ [UInt8.ofNat (48 + u % 10)], by rw [dec_big h, h1]; rfl, h2, h3⟩
theorem dec_first (u : Nat) : ∃ c r, Lib.decDigits u = c :: r ∧ isDig c = true := by
  cases h : Lib.decDigits u with
  | nil => exact absurd h (dec_ne u)
  | cons c r =>
    have := dec_all u
    rw [h, List.all_cons, Bool.and_eq_true] at this
    exact ⟨c, r, rfl, this.1⟩
theorem formD_dec (u : Nat) : formD (Lib.decDigits u) = true := by
  unfold formD
  rw [dec_all u, Bool.and_true]
  rcases Nat.eq_zero_or_pos u with rfl | h
  · rw [dec_small (by decide)]; rfl
  · obtain ⟨c, r, h1, h2, _⟩ := dec_head u h
    rw [h1]
    have : ((c :: r).head? == some 48) = false := by simpa using h2
    rw [this]; rfl
theorem formL_itoa (n : Int) : formL (Lib.itoa n) = true := by
  unfold formL Lib.itoa
  by_cases h : n < 0
  · rw [if_pos h]
    have : Lib.trimPrefix (45 :: Lib.decDigits n.natAbs) [45] = Lib.decDigits n.natAbs := by simp [Lib.trimPrefix, Lib.hasPrefix]
    rw [this]; exact formD_dec _
  · rw [if_neg h]
    obtain ⟨c, r, h1, h2⟩ := dec_first n.toNat
    have hc : c ≠ 45 := fun e => by rw [e] at h2; exact absurd h2 (by decide)
    have : Lib.trimPrefix (Lib.decDigits n.toNat) [45] = Lib.decDigits n.toNat := by
      rw [h1]; unfold Lib.trimPrefix
      rw [if_neg]
      simp [Lib.hasPrefix]; exact fun e => hc e.symm
    rw [this]; exact formD_dec _
theorem parse_itoa (n : Int) (h0 : -9223372036854775808 ≤ n) (h1 : n ≤ 9223372036854775807) : Lib.parseIntB 64 (Lib.itoa n) = .ok n := by
  rw [Lib.parseIntB_64]
  unfold Lib.itoa
  by_cases h : n < 0
  · rw [if_pos h]
    unfold Lib.atoiAll
    have e45 : (45 : UInt8).toNat = 45 := rfl
    simp only [e45, or_true, if_true]
    unfold Lib.parseMag
    rw [if_neg (dec_ne _), parse_dec _ (by omega)]
    simp only [not_true_eq_false, false_and, if_false, true_and]
    rw [if_neg (by omega)]
    congr 1; omega
  · rw [if_neg h]
    obtain ⟨c, r, h2, h3⟩ := dec_first n.toNat
    have hd := (dig_iff c).1 h3
    have hm : Lib.parseMag (c :: r) = .ok n.toNat := by
      unfold Lib.parseMag
      rw [if_neg (by simp), ← h2, parse_dec _ (by omega)]
    rw [h2]
    unfold Lib.atoiAll
    have e1 : ¬ (c.toNat = 43 ∨ c.toNat = 45) := by omega
    have e2 : ¬ c.toNat = 45 := by omega
    dsimp only
    rw [if_neg e1, hm]
    dsimp only
    rw [if_neg (by omega), if_neg (by omega), if_neg e2]
    congr 1; omega
end Go.Proofs.YtnpaikdaogikcaaGreatDoor

/- The document's grammar of generators, as plain functions on bytes: what stands behind a place. -/
namespace Go.Proofs.YtnpaikdaogikcaaGreatDoor
set_option maxRecDepth 100000
set_option linter.unusedVariables false
set_option linter.unusedSimpArgs false

abbrev Bs := List UInt8
/-- A text as a value. -/
abbrev sv (l : Bs) : Value := .string ⟨l.toArray⟩

inductive V where
  | mk (kind : Int) (truth : Bool) (num : Int) (str : Bs) (items : List V) (keys : List Bs)
abbrev V.none : V := .mk 0 false 0 [] [] []
abbrev V.ofBool (b : Bool) : V := .mk 1 b 0 [] [] []
abbrev V.ofInt (n : Int) : V := .mk 2 false n [] [] []
abbrev V.ofStr (s : Bs) : V := .mk 3 false 0 s [] []
inductive E where
  | mk (op name : Bs) (lit : V) (args : List E)
structure I where
  name : Bs
  n : Int
  key : Bs
inductive T where
  | mk (kind : Int) (name : Bs) (lit : V) (keys : List Bs) (weights : List Int) (parts : List T) (exprs : List E) (isos : List I)
structure D where
  name : Bs
  term : T

def isBl (c : UInt8) : Bool := c == 32 || c == 9 || c == 10 || c == 13
def isLet (c : UInt8) : Bool := (decide (97 ≤ c.toNat) && decide (c.toNat ≤ 122)) || (decide (65 ≤ c.toNat) && decide (c.toNat ≤ 90))
def isGo (c : UInt8) : Bool := isLet c || isDig c || c == 95
/-- The place behind bytes that are so. -/
def spanW (p : UInt8 → Bool) (s : Bs) (i : Nat) : Nat := i + ((s.drop i).takeWhile p).length
def blanks (s : Bs) (i : Nat) : Nat := spanW isBl s i
def atP (p : UInt8 → Bool) (s : Bs) (i : Nat) : Bool := match s[i]? with | some c => p c | none => false
def cut (s : Bs) (i j : Nat) : Bs := (s.drop i).take (j - i)
def word (s : Bs) (i : Nat) : Bs × Nat := if atP isLet s (blanks s i) then (cut s (blanks s i) (spanW isGo s (blanks s i)), spanW isGo s (blanks s i)) else ([], i)
def mark (s : Bs) (i : Nat) (t : Bs) : Option Nat := if t.isPrefixOf (s.drop (blanks s i)) then some (blanks s i + t.length) else none

/-- The number of digits. -/
def natOf (l : Bs) : Nat := l.foldl (fun n c => 10 * n + (c.toNat - 48)) 0

def isPt (n : Nat) : Bool := decide (n < 55296) || (decide (57343 < n) && decide (n ≤ 1114111))
def ptBytes (n : Nat) : Bs := (Utf8.encode n).data.toList
def firstPt (r : Bs) : Option (Nat × Nat) :=
  if r = [] then none
  else if (Utf8.decode ⟨r.toArray⟩ 0).1 = 65533 ∧ (Utf8.decode ⟨r.toArray⟩ 0).2 = 1 then none else some (Utf8.decode ⟨r.toArray⟩ 0)
def hexOf (c : UInt8) : Option Nat :=
  if 48 ≤ c.toNat ∧ c.toNat ≤ 57 then some (c.toNat - 48) else if 97 ≤ c.toNat ∧ c.toNat ≤ 102 then some (c.toNat - 87) else if 65 ≤ c.toNat ∧ c.toNat ≤ 70 then some (c.toNat - 55) else none
def hexGo : Nat → Bs → Nat → Option Nat
  | 0, _, n => some n
  | k + 1, c :: r, n => match hexOf c with | some d => hexGo k r (n * 16 + d) | none => none
  | _ + 1, [], _ => none
def hex4 (r : Bs) : Option Nat := hexGo 4 r 0
def escLetter (c : UInt8) : Option Nat :=
  if c = 34 then some 34 else if c = 92 then some 92 else if c = 47 then some 47 else if c = 98 then some 8 else if c = 102 then some 12 else if c = 110 then some 10 else if c = 114 then some 13 else if c = 116 then some 9 else none
/-- The point of what stands behind a backslash, and how many bytes that has. -/
def esc (t : Bs) : Option (Nat × Nat) :=
  match t with
  | [] => none
  | c :: u => match escLetter c with
    | some n => some (n, 1)
    | none => if c = 117 then
        match hex4 u with
        | none => none
        | some n => if isPt n then some (n, 5)
          else if n < 56320 ∧ u[4]? = some 92 ∧ u[5]? = some 117 then
            match hex4 (u.drop 6) with
            | some lo => if 56320 ≤ lo ∧ lo ≤ 57343 then some (65536 + (n - 55296) * 1024 + (lo - 56320), 11) else none
            | none => none
          else none
      else none
/-- A string's points, behind its first mark: and how many bytes. -/
def strGo : Nat → Bs → List Nat → Nat → Option (List Nat × Nat)
  | 0, _, _, _ => none
  | _ + 1, [], _, _ => none
  | f + 1, c :: t, acc, k =>
    if c.toNat < 32 then none
    else if c = 34 then some (acc, k + 1)
    else if c = 92 then match esc t with | none => none | some (n, m) => strGo f (t.drop m) (acc ++ [n]) (k + 1 + m)
    else match firstPt (c :: t) with | none => none | some (n, m) => strGo f ((c :: t).drop m) (acc ++ [n]) (k + m)
/-- A string that begins with its mark: its bytes, how many bytes it took. -/
def strOf (r : Bs) : Option (Bs × Nat) := match strGo r.length (r.drop 1) [] 1 with | some (l, k) => some (l.flatMap ptBytes, k) | none => none
/-- A string at a place: its bytes, the place behind it. -/
def strAt (s : Bs) (i : Nat) : Option (Bs × Nat) := match strOf (s.drop i) with | some (t, k) => some (t, i + k) | none => none

/-- A number's text, that begins at a place, perhaps with a sign. -/
def numAt (s : Bs) (i : Nat) (sign : Bool) : Option (Int × Nat) :=
  let first := if sign ∧ s[i]? = some 45 then i + 1 else i
  let e := spanW isDig s first
  if e = first ∨ (first + 1 < e ∧ s[first]? = some 48) then none
  else if first = i then (if natOf (cut s first e) ≤ 9223372036854775807 then some ((natOf (cut s first e) : Int), e) else none)
  else (if natOf (cut s first e) ≤ 9223372036854775808 then some (-(natOf (cut s first e) : Int), e) else none)

/-! ### Expressions -/
def asc (s : String) : Bs := s.toUTF8.data.toList
abbrev calls1 : List Bs := [[108, 101, 110], [115, 117, 109], [109, 105, 110], [109, 97, 120], [97, 108, 108], [97, 110, 121], [107, 101, 121, 115]]
abbrev calls2 : List Bs := [[104, 97, 115], [99, 111, 117, 110, 116], [115, 116, 97, 114, 116, 115], [101, 110, 100, 115], [106, 111, 105, 110]]
def among (l : List Bs) (w : Bs) : Bool := l.any fun k => decide (k = w)
def arity (w : Bs) : Nat := if among calls1 w = true then 1 else if among calls2 w = true then 2 else 0
abbrev kOr : Bs := [111, 114]
abbrev kAnd : Bs := [97, 110, 100]
abbrev kNot : Bs := [110, 111, 116]
abbrev kTrue : Bs := [116, 114, 117, 101]
abbrev kFalse : Bs := [102, 97, 108, 115, 101]
abbrev kNull : Bs := [110, 117, 108, 108]
abbrev kThis : Bs := [116, 104, 105, 115]
abbrev kNeg : Bs := [110, 101, 103]
abbrev kGet : Bs := [103, 101, 116]
abbrev kAt : Bs := [97, 116]
abbrev kLit : Bs := [108, 105, 116]
abbrev kVar : Bs := [118, 97, 114]
abbrev kwRes : List Bs := [kOr, kAnd, kNot, kTrue, kFalse, kNull, kThis]
def kw (w : Bs) : Bool := among kwRes w
def isName (s : Bs) : Bool := s != [] && word s 0 == (s, s.length) && !kw s && arity s == 0

def signsOf : Nat → List Bs
  | 3 => [[61, 61], [33, 61], [60, 61], [62, 61], [60], [62]]
  | 4 => [[43], [45]]
  | 5 => [[42], [47], [37]]
  | _ => []
def firstMark (s : Bs) (i : Nat) : List Bs → Option (Bs × Nat)
  | [] => none
  | t :: l => match mark s i t with | some e => some (t, e) | none => firstMark s i l
def between (s : Bs) (i n : Nat) : Option (Bs × Nat) :=
  if n = 0 then (if (word s i).1 = kOr then some (word s i) else none)
  else if n = 1 then (if (word s i).1 = kAnd then some (word s i) else none)
  else firstMark s i (signsOf n)
def keyAt (s : Bs) (i : Nat) : Option (Bs × Nat) := if (word s i).1 ≠ [] then some (word s i) else if s[blanks s i]? = some 34 then strAt s (blanks s i) else none

inductive EG where
  | level (at_ n : Nat)
  | chain (x : E) (at_ n : Nat)
  | part (x : E) (at_ : Nat)
  | one (at_ : Nat)
  | call (name : Bs) (args : List E) (at_ : Nat)
abbrev ER := Option (Option (E × Nat))
def lit (v : V) : E := .mk kLit [] v []
def un (op : Bs) (x : E) : E := .mk op [] .none [x]
def bin (op : Bs) (x y : E) : E := .mk op [] .none [x, y]
/-- On with what was read; an error stays one. -/
def ER.on {α β : Type} (r : Option (Option (α × Nat))) (k : α → Nat → Option (Option (β × Nat))) : Option (Option (β × Nat)) :=
  match r with
  | none => none
  | some none => some none
  | some (some (x, e)) => k x e
def numLit (s : Bs) (i : Nat) : ER := some (match numAt s i false with
  | none => none
  | some (n, e) => if atP isGo s e then none else some (lit (.ofInt n), e))
def parseE (s : Bs) : Nat → EG → ER
  | 0, _ => none
  | f + 1, .level i n =>
    if n = 2 then (if (word s i).1 = kNot then ER.on (parseE s f (.level (word s i).2 2)) fun x e => some (some (un kNot x, e)) else parseE s f (.level i 3))
    else if n = 6 then (match mark s i [45] with
      | some e => ER.on (parseE s f (.level e 6)) fun x e => some (some (un kNeg x, e))
      | none => ER.on (parseE s f (.one i)) fun x e => parseE s f (.part x e))
    else ER.on (parseE s f (.level i (n + 1))) fun x e => parseE s f (.chain x e n)
  | f + 1, .chain x i n => match between s i n with
    | none => some (some (x, i))
    | some (op, e) => ER.on (parseE s f (.level e (n + 1))) fun y e2 => if n = 3 then some (some (bin op x y, e2)) else parseE s f (.chain (bin op x y) e2 n)
  | f + 1, .part x i => match mark s i [46] with
    | some e => (match keyAt s e with
      | none => some none
      | some (k, e2) => parseE s f (.part (.mk kGet k .none [x]) e2))
    | none => match mark s i [91] with
      | none => some (some (x, i))
      | some e => ER.on (parseE s f (.level e 0)) fun y e2 => match mark s e2 [93] with
        | none => some none
        | some e3 => parseE s f (.part (bin kAt x y) e3)
  | f + 1, .one i =>
    if atP isDig s (blanks s i) then numLit s (blanks s i)
    else if s[blanks s i]? = some 34 then some ((strAt s (blanks s i)).map fun p => (lit (.ofStr p.1), p.2))
    else match mark s i [40] with
      | some e => ER.on (parseE s f (.level e 0)) fun x e2 => some ((mark s e2 [41]).map fun e3 => (x, e3))
      | none =>
        if (word s i).1 = [] ∨ (word s i).1 = kOr ∨ (word s i).1 = kAnd ∨ (word s i).1 = kNot then some none
        else if (word s i).1 = kTrue then some (some (lit (.ofBool true), (word s i).2))
        else if (word s i).1 = kFalse then some (some (lit (.ofBool false), (word s i).2))
        else if (word s i).1 = kNull then some (some (lit .none, (word s i).2))
        else if (word s i).1 = kThis then some (some (.mk kThis [] .none [], (word s i).2))
        else if 0 < arity (word s i).1 then (match mark s (word s i).2 [40] with
          | none => some none
          | some e => parseE s f (.call (word s i).1 [] e))
        else some (some (.mk kVar (word s i).1 .none [], (word s i).2))
  | f + 1, .call name args i => ER.on (parseE s f (.level i 0)) fun x e => match mark s e [41] with
    | some b => some (if args.length + 1 < arity name then none else some (.mk name [] .none (args ++ [x]), b))
    | none => match mark s e [44] with
      | none => some none
      | some e2 => if args.length + 1 = arity name then some none else parseE s f (.call name (args ++ [x]) e2)

def maxL : List Nat → Nat
  | [] => 0
  | a :: l => max a (maxL l)
mutual
def E.depth : E → Nat
  | .mk _ _ _ args => E.depths args + 1
def E.depths : List E → Nat
  | [] => 0
  | x :: l => max (E.depth x) (E.depths l)
end
def prefixE (s : Bs) (f i : Nat) : ER := ER.on (parseE s f (.level i 0)) fun x e => some (if 32 < x.depth then none else some (x, e))

/-! ### Isos -/
abbrev isos0 : List Bs := [[110, 101, 103], [102, 108, 105, 112], [114, 101, 118], [115, 119, 97, 112], [98, 111, 120], [115, 104, 111, 119], [99, 104, 97, 114, 115], [112, 97, 105, 114, 115]]
def isoUses (w : Bs) : Option Nat :=
  if among isos0 w = true then some 0
  else if w = [112, 108, 117, 115] ∨ w = [116, 105, 109, 101, 115] then some 1
  else if w = [116, 97, 103] then some 2 else none
def isoOne (s : Bs) (i : Nat) : Option (I × Nat) :=
  match isoUses (word s i).1 with
  | none => none
  | some 0 => some (⟨(word s i).1, 0, []⟩, (word s i).2)
  | some 1 => (match numAt s (blanks s (word s i).2) true with
    | none => none
    | some (n, e) => if (word s i).1 = [116, 105, 109, 101, 115] ∧ n = 0 then none else some (⟨(word s i).1, n, []⟩, e))
  | some _ => if s[blanks s (word s i).2]? = some 34 then (strAt s (blanks s (word s i).2)).map fun p => (⟨(word s i).1, 0, p.1⟩, p.2) else none
def isosAt (s : Bs) : Nat → List I → Nat → Option (Option (List I × Nat))
  | 0, _, _ => none
  | f + 1, acc, i => match isoOne s i with
    | none => some none
    | some (x, e) => match mark s e [124] with
      | none => some (some (acc ++ [x], e))
      | some e2 => isosAt s f (acc ++ [x]) e2

/-! ### Terms -/
abbrev kJust : Bs := [106, 117, 115, 116]
abbrev kInt : Bs := [105, 110, 116]
abbrev kPick : Bs := [112, 105, 99, 107]
abbrev kList : Bs := [108, 105, 115, 116]
abbrev kText : Bs := [116, 101, 120, 116]
abbrev kLet : Bs := [108, 101, 116]
abbrev kFrom : Bs := [102, 114, 111, 109]
abbrev kIn : Bs := [105, 110]
abbrev kWhere : Bs := [119, 104, 101, 114, 101]
abbrev kMap : Bs := [109, 97, 112]
abbrev kwList : List Bs := [kJust, kInt, kPick, kList, kText, kLet, kFrom, kIn, kWhere, kMap]
def keyword (w : Bs) : Bool := among kwList w
def textAt (s : Bs) (i : Nat) : Option (Bs × Nat) := if s[blanks s i]? = some 34 then strAt s (blanks s i) else none
abbrev TR := Option (Option (T × Nat))
def tJust (v : V) : T := .mk 0 [] v [] [] [] [] []
def justAt (s : Bs) (i : Nat) : Option (T × Nat) :=
  if (word s i).1 = kNull then some (tJust .none, (word s i).2)
  else if (word s i).1 = kTrue then some (tJust (.ofBool true), (word s i).2)
  else if (word s i).1 = kFalse then some (tJust (.ofBool false), (word s i).2)
  else if s[blanks s i]? = some 45 ∨ atP isDig s (blanks s i) then (numAt s (blanks s i) true).map fun p => (tJust (.ofInt p.1), p.2)
  else (textAt s i).map fun p => (tJust (.ofStr p.1), p.2)
/-- A pick's weight, and the place where its part begins. -/
def weightAt (s : Bs) (i : Nat) : Option (Int × Nat) :=
  if atP isDig s (blanks s i) then (match numAt s (blanks s i) false with
    | none => none
    | some (n, e) => (mark s e [58]).map fun e2 => (n, e2))
  else some (1, i)
inductive TG where
  | term (at_ : Nat)
  | tuple (parts : List T) (at_ : Nat)
  | record (keys : List Bs) (parts : List T) (at_ : Nat)
  | pick (weights : List Int) (parts : List T) (at_ : Nat)
def orFail {α β : Type} (o : Option α) (k : α → Option (Option (β × Nat))) : Option (Option (β × Nat)) := match o with | none => some none | some a => k a
/-- A comma, an expression, a comma, an expression, the end. -/
def boundsAt (s : Bs) (f i : Nat) (k : List E → T) : TR :=
  orFail (mark s i [44]) fun a => ER.on (prefixE s f a) fun x b => orFail (mark s b [44]) fun c => ER.on (prefixE s f c) fun y d => orFail (mark s d [41]) fun e => some (some (k [x, y], e))
def parseT (s : Bs) : Nat → TG → TR
  | 0, _ => none
  | f + 1, .term i => match mark s i [91] with
    | some e => (match mark s e [93] with
      | some e2 => some (some (.mk 3 [] .none [] [] [] [] [], e2))
      | none => parseT s f (.tuple [] e))
    | none => match mark s i [123] with
      | some e => (match mark s e [125] with
        | some e2 => some (some (.mk 4 [] .none [] [] [] [] [], e2))
        | none => parseT s f (.record [] [] e))
      | none =>
        let w := (word s i).1
        let at0 := (word s i).2
        if w = [] ∨ w = kFrom ∨ w = kIn then some none
        else if w = kJust then some (justAt s at0)
        else if w = kLet then
          let n := (word s at0).1
          if isName n = false ∨ keyword n = true then some none
          else orFail (mark s (word s at0).2 [61]) fun a => ER.on (parseT s f (.term a)) fun x b =>
            if (word s b).1 ≠ kFrom then some none else ER.on (prefixE s f (word s b).2) fun e c =>
              if (word s c).1 ≠ kIn then some none else ER.on (parseT s f (.term (word s c).2)) fun y d => some (some (.mk 8 n .none [] [] [x, y] [e] [], d))
        else if w = kInt then orFail (mark s at0 [40]) fun a => ER.on (prefixE s f a) fun x b => orFail (mark s b [44]) fun c => ER.on (prefixE s f c) fun y d => orFail (mark s d [41]) fun e => some (some (.mk 1 [] .none [] [] [] [x, y] [], e))
        else if w = kPick then orFail (mark s at0 [40]) fun a => parseT s f (.pick [] [] a)
        else if w = kList then orFail (mark s at0 [40]) fun a => ER.on (parseT s f (.term a)) fun x b => boundsAt s f b fun es => .mk 5 [] .none [] [] [x] es []
        else if w = kText then orFail (mark s at0 [40]) fun a => orFail (textAt s a) fun p => boundsAt s f p.2 fun es => .mk 6 [] (.ofStr p.1) [] [] [] es []
        else if w = kWhere then orFail (mark s at0 [40]) fun a => ER.on (parseT s f (.term a)) fun x b => orFail (mark s b [44]) fun c => ER.on (prefixE s f c) fun y d => orFail (mark s d [41]) fun e => some (some (.mk 9 [] .none [] [] [x] [y] [], e))
        else if w = kMap then orFail (mark s at0 [40]) fun a => ER.on (isosAt s f [] a) fun l b => orFail (mark s b [44]) fun c => ER.on (parseT s f (.term c)) fun x d => orFail (mark s d [41]) fun e => some (some (.mk 10 [] .none [] [] [x] [] l, e))
        else some (some (.mk 7 w .none [] [] [] [] [], at0))
  | f + 1, .tuple parts i => ER.on (parseT s f (.term i)) fun x e => match mark s e [93] with
    | some e2 => some (some (.mk 3 [] .none [] [] (parts ++ [x]) [] [], e2))
    | none => orFail (mark s e [44]) fun e2 => parseT s f (.tuple (parts ++ [x]) e2)
  | f + 1, .record keys parts i => orFail (textAt s i) fun p => orFail (mark s p.2 [58]) fun a => ER.on (parseT s f (.term a)) fun x e => match mark s e [125] with
    | some e2 => some (some (.mk 4 [] .none (keys ++ [p.1]) [] (parts ++ [x]) [] [], e2))
    | none => orFail (mark s e [44]) fun e2 => parseT s f (.record (keys ++ [p.1]) (parts ++ [x]) e2)
  | f + 1, .pick weights parts i => orFail (weightAt s i) fun p => ER.on (parseT s f (.term p.2)) fun x e => match mark s e [41] with
    | some e2 => some (some (.mk 2 [] .none [] (weights ++ [p.1]) (parts ++ [x]) [] [], e2))
    | none => orFail (mark s e [44]) fun e2 => parseT s f (.pick (weights ++ [p.1]) (parts ++ [x]) e2)
mutual
def T.depth : T → Nat
  | .mk _ _ _ _ _ parts _ _ => T.depths parts + 1
def T.depths : List T → Nat
  | [] => 0
  | x :: l => max (T.depth x) (T.depths l)
end
/-- The definitions from a place on. -/
def defsAt (s : Bs) : Nat → List D → Nat → Option (Option (List D × Nat))
  | 0, _, _ => none
  | f + 1, acc, i =>
    if acc ≠ [] ∧ s.length ≤ blanks s i then some (some (acc, i))
    else if (word s i).1 = [] ∨ keyword (word s i).1 = true then some none
    else orFail (mark s (word s i).2 [61]) fun a => ER.on (parseT s f (.term a)) fun x e => orFail (mark s e [59]) fun e2 => defsAt s f (acc ++ [⟨(word s i).1, x⟩]) e2
/-- A grammar's definitions; none: it is no grammar's text. -/
def parseD (s : Bs) (f : Nat) : Option (Option (List D)) :=
  if 8192 < s.length then some none else match defsAt s f [] 0 with
  | none => none
  | some none => some none
  | some (some (l, _)) => some (if l.any (fun d => decide (32 < d.term.depth)) then none else some l)
end Go.Proofs.YtnpaikdaogikcaaGreatDoor
