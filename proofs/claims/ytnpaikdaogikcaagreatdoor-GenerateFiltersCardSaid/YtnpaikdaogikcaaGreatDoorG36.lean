/- The linker: a text of one definition, of a number or a pick of such, is a grammar. -/
import Derived.Test.YtnpaikdaogikcaaGreatDoorG29
import Derived.Test.YtnpaikdaogikcaaGreatDoorG34
import Derived.Test.YtnpaikdaogikcaaGreatDoorG35
import Derived.Test.YtnpaikdaogikcaaGreatDoorG32
import Derived.Test.YtnpaikdaogikcaaGreatDoorG33
import Derived.Test.YtnpaikdaogikcaaGreatDoorG04

namespace Go.Proofs.YtnpaikdaogikcaaGreatDoor
set_option maxRecDepth 100000
open Go.RowKit
set_option linter.unusedVariables false
set_option linter.unusedSimpArgs false

mutual
theorem GoodT.link : ∀ (t : T), GoodT t → LinkT t
  | .mk kind name lit keys weights parts exprs isos, h => by
    simp only [GoodT] at h
    simp only [LinkT]
    rcases h with ⟨h1, _, h3⟩ | ⟨h1, h2, h3, h4⟩
    · exact .inl ⟨h1, h3⟩
    · exact .inr (.inl ⟨h1, GoodTs.link parts h2, h3, h4⟩)
theorem GoodTs.link : ∀ (l : List T), GoodTs l → LinkTs l
  | [], _ => by simp only [LinkTs]
  | x :: l, h => by simp only [GoodTs] at h; simp only [LinkTs]; exact ⟨GoodT.link x h.1, GoodTs.link l h.2⟩
end
theorem readT (S : ByteArray) (hS : S.size ≤ 8192) (nm : Bs) (t : T) (f : Nat) (hp : parseD (tl S) f = some (some [⟨nm, t⟩])) (hg : GoodT t) (hn : nm.length ≤ 1000) (hs : t.size ≤ 1000) (w : World) :
    Calls Tryz.prog 5 #[.string S] w fun e w' => (∃ gb ts, e = .returned (.tuple #[.pointer (some ⟨gb, 0, none⟩), .int .i64 0, .int .i64 0]) ∧ Gram w' gb nm ts ∧ RdT Any w' t ts) ∧ Ext w w' := by
  have hp1 : (∃ e, defsAt (tl S) f [] 0 = some (some ([⟨nm, t⟩], e))) ∧ ∀ d ∈ ([⟨nm, t⟩] : List D), d.term.depth ≤ 32 := by
    unfold parseD at hp
    rw [if_neg (by rw [tl_len]; omega)] at hp
    cases hd : defsAt (tl S) f [] 0 with
    | none => rw [hd] at hp; simp at hp
    | some r => cases r with
      | none => rw [hd] at hp; simp at hp
      | some q =>
        obtain ⟨l, e⟩ := q
        rw [hd] at hp
        simp only [Option.some.injEq] at hp
        split at hp
        · cases hp
        · next hn =>
          cases hp
          refine ⟨⟨e, rfl⟩, fun d hd => ?_⟩
          simp only [List.any_eq_true, decide_eq_true_eq, not_exists, not_and] at hn
          have := hn d hd; omega
  obtain ⟨⟨e0, hd0⟩, hdep⟩ := hp1
  exact readG S hS nm t (defsOK_of S (by omega) (pick1_H S (by omega)) [⟨nm, t⟩] (by simpa using hg) f 0 e0 [] hd0 (Nat.zero_le _)) (hdep ⟨nm, t⟩ (by simp)) (GoodT.link t hg) hn hs w
end Go.Proofs.YtnpaikdaogikcaaGreatDoor

/- A script of numbers; a text of weights is read; the document's example. -/
namespace Go.Proofs.YtnpaikdaogikcaaGreatDoor
set_option maxRecDepth 100000
open Go.RowKit
set_option linter.unusedVariables false
set_option linter.unusedSimpArgs false

theorem scriptT (A : Option Addr) (xs : List Int) (c : Nat) (w : World) (hA : CellsAt w A (xs.map I64)) (h0 : xs ≠ []) (hx : xs.length ≤ 10000) :
    Calls Tryz.prog 7 #[.slice A xs.length c] w fun e w' => (∃ sb, e = .returned (.iface 58 (.pointer (some ⟨sb, 0, none⟩))) ∧ w.heap.size ≤ sb ∧ Src w' sb 0 xs) ∧ Ext w w' := by
  refine of_post fun R hR => ?_
  have HC := Lib.hid (cloneI A xs c w hA (by omega))
  have HN := Lib.hid h0
  generalize hn : xs.length = n at *
  have HL := Lib.hid hn
  clear hA hx hn h0
  go_enter Tryz.func7, Tryz.ntmps7
  go_wp2_with (go_at_call 13; refine HC.out.mono ?_; rintro e w2 ⟨⟨A', c', rfl, hA', hb⟩, hx2⟩; have HA := Lib.hid hA'; have HB := Lib.hid hb; have HX := Lib.hid hx2; clear hA' hb hx2)
  refine hR.out _ _ ⟨⟨w2.heap.size, rfl, HX.out.size, A', c', ?_, HA.out.ext (ext_al _ _), ?_⟩, HX.out.trans' (ext_al _ _)⟩
  · rw [HL.out]; exact Blk.new w2 _ _
  · rintro b o rfl
    obtain ⟨b2, o2, e2, hc⟩ := HA.out (by simpa using HN.out)
    cases e2
    cases hxs : xs with
    | nil => exact absurd hxs HN.out
    | cons x l => exact lt_of_cell (hc 0 (I64 x) (by rw [hxs]; rfl))
theorem goods_just (l : List (Nat × Nat)) : GoodTs (l.map fun p => tJust (.ofInt p.2)) ∧ T.sizes (l.map fun p => tJust (.ofInt p.2)) = l.length := by
  induction l with
  | nil => exact ⟨trivial, rfl⟩
  | cons p l ih => exact ⟨⟨.inl ⟨rfl, rfl, rfl⟩, ih.1⟩, by rw [List.map_cons, T.sizes, ih.2, List.length_cons]; simp only [tJust, T.size, T.sizes]; omega⟩
/-- A text of weights is read. -/
theorem readW (l : List (Nat × Nat)) (hl : ∀ p ∈ l, 1 ≤ p.1 ∧ p.1 < 10 ∧ p.2 < 10) (h0 : l ≠ []) (hn : l.length ≤ 10) (S : ByteArray) (hS : tl S = textB l) (w : World) :
    Calls Tryz.prog 5 #[.string S] w fun e w' => (∃ gb ts, e = .returned (.tuple #[.pointer (some ⟨gb, 0, none⟩), .int .i64 0, .int .i64 0]) ∧ Gram w' gb [97] ts ∧ RdT Any w' (tPickN (l.map fun p => (p.1 : Int)) (l.map fun p => (p.2 : Int))) ts) ∧ Ext w w' := by
  have hp := defs_read l (fun p hp => (hl p hp).2) h0 hn
  have e : ((l.map fun p => (p.2 : Int)).map fun n => tJust (.ofInt n)) = l.map fun p => tJust (.ofInt p.2) := by rw [List.map_map]; rfl
  have hsz : S.size ≤ 8192 := by
    have h1 : (tl S).length = S.size := tl_len S
    have := textB_len l
    rw [hS] at h1
    simp only [textB, headB, List.length_append, List.length_cons, List.length_nil] at h1
    omega
  rw [← hS, ← e] at hp
  refine readT S hsz [97] _ 20 hp ?_ (by decide) ?_ w
  · refine .inr ⟨rfl, ?_, by simpa using (by omega : l.length ≤ 64), ?_⟩
    · rw [e]; exact (goods_just l).1
    · intro n hn
      obtain ⟨p, hp, rfl⟩ := List.mem_map.1 hn
      have := hl p hp
      omega
  · simp only [T.size]; rw [e, (goods_just l).2]; omega
set_option maxHeartbeats 4000000 in
theorem awake19 (w : World) : Calls Tryz.prog 4 #[] w fun e w' => e = .returned (.bool true) ∧ Ext w w' := by
  refine of_post fun R hR => ?_
  have HRD := Lib.hid (readW [(1, 1), (9, 2)] (by decide) (by decide) (by decide) ⟨#[97, 32, 61, 32, 112, 105, 99, 107, 40, 49, 58, 32, 106, 117, 115, 116, 32, 49, 44, 32, 57, 58, 32, 106, 117, 115, 116, 32, 50, 41, 59]⟩ (by decide) w)
  have HSC := fun W A c h => Lib.hid (scriptT A [0, 9] c W h (by simp) (by simp))
  have HMN := fun (gb sb : Nat) (w0 : World) (ts : List Value) (hT) (W : World) (hx) (hsb) (hg) (h) => Lib.hid (manyN gb sb [0, 9] [1, 9] [1, 2] rfl w0 [97] ts hT 5 W hx hsb hg (by decide) h (by decide) (by decide) 2 (by decide) (by decide) (by decide) (by decide) (by decide))
  go_enter Tryz.func4, Tryz.ntmps4
  have HOL : Hid (outL [1, 9] [1, 2] (([0, 9] : List Int).take 2) = [(1, 0), (2, 1)]) := Lib.hid (by decide)
  have HW0 : Hid (w.heap.size ≤ w.heap.size) := Lib.hid (Nat.le_refl _)
  go_upto_region 5 with (first
    | (go_at_call 5; refine HRD.out.mono ?_; rintro e w1 ⟨⟨gb, ts, rfl, hg, hT⟩, hx⟩; have HG := Lib.hid hg; have HT := Lib.hid hT; have HX1 := Lib.hid hx; have HXA := Lib.hid (ext_al w1 (.cells #[.int .i64 0, .int .i64 9] 3)); have HCA := Lib.hid (cellsAt_new w1 [I64 0, I64 9] 3); clear hg hT hx)
    | (go_at_call 7; refine (HSC _ (some ⟨w1.heap.size, 0, none⟩) 2 HCA.out).out.mono ?_; rintro e w2 ⟨⟨sb, rfl, hsb, hs⟩, hx⟩; have HSB := Lib.hid hsb; have HS := Lib.hid hs; have HX2 := Lib.hid (HXA.out.trans' hx); clear hsb hs hx)
    | (go_at_call 8; go_loud (refine (HMN gb sb w1 ts HT.out w2 HX2.out (Nat.le_trans HXA.out.size HSB.out) HG.out HS.out).out.mono ?_); rintro e w3 ⟨⟨A3, c3, ics, rfl, hall, hcs⟩, hk⟩; have HALL := Lib.hid hall; have HCS := Lib.hid hcs; have HK := Lib.hid hk; clear hall hcs hk))
  have hall := HALL.out
  rw [HOL.out] at hall
  cases hall with
  | cons h1 t =>
  cases t with
  | cons h2 t2 =>
  cases t2
  obtain ⟨Z1, e1, Z2, e2, D, dc, rfl, _⟩ := h1
  obtain ⟨Z3, e3, Z4, e4, D2, dc2, rfl, _⟩ := h2
  obtain ⟨b, o, rfl, _, hcell⟩ := HCS.out (by simp)
  have hc1 : w3.cell? ⟨b, o + 2, none⟩ = some (.int .i64 1) := hcell 2 _ rfl
  have hc2 : w3.cell? ⟨b, o + 8 + 2, none⟩ = some (.int .i64 2) := by rw [Nat.add_assoc]; exact hcell 10 _ rfl
  have HSL := Lib.hid HS.out.lt
  clear hcell HCS HALL HMN HSC HRD
  go_wp2_with fail
  refine hR.out _ _ ⟨rfl, Keeps.below (HX1.out.trans' HX2.out) HK.out fun k hk e => ?_⟩
  have h1 : k = sb := e
  subst h1
  exact absurd hk (Nat.not_lt.2 (Nat.le_trans HX1.out.size (Nat.le_trans HXA.out.size HSB.out)))
end Go.Proofs.YtnpaikdaogikcaaGreatDoor

/- GenerateWeighs: what its loops keep. -/
namespace Go.Proofs.YtnpaikdaogikcaaGreatDoor
set_option maxRecDepth 100000
open Go.RowKit
set_option linter.unusedVariables false
set_option linter.unusedSimpArgs false

def U8n (x : Nat) : Value := .int .u8 x
theorem infoIntG : (Tryz.prog.info? 3).map (fun i => (i.zero, i.size, i.bytes)) = some (some (.int .i64 0), 1, 8) := by kernel_rfl
theorem madeG (n : Nat) : madeCells #[Value.int .i64 0] n = ((List.replicate n (0 : Int)).map I64).toArray := by
  apply Array.toList_inj.1
  rw [toList_madeCells_one]
  simp [I64]
theorem ownMadeG (w : World) (n : Nat) (hn : n ≤ maxLen) : (w.alloc (.cells (madeCells #[Value.int .i64 0] n) 3)).ownsRow w.heap.size 3 1 (.slice (some ⟨w.heap.size, 0, none⟩) n n) n ((List.replicate n (0 : Int)).map I64) := by
  rw [madeG]
  refine ⟨by simp, .inr ⟨w.heap.size, n, _, rfl, Nat.le_refl _, heap_alloc_new w _, Nat.le_refl _, hn, by simp, ?_⟩⟩
  rw [List.take_of_length_le (by simp)]
theorem digs10 : ∀ n < 10, ((⟨#[48, 49, 50, 51, 52, 53, 54, 55, 56, 57]⟩ : ByteArray).extract n (n + 1)) = ⟨#[dg n]⟩ := by decide
theorem digs8 : ∀ n < 8, ((⟨#[48, 49, 50, 51, 52, 53, 54, 55]⟩ : ByteArray).extract n (n + 1)) = ⟨#[dg n]⟩ := by decide
theorem tl_app (a b : ByteArray) : tl (a ++ b) = tl a ++ tl b := by simp [tl, ByteArray.data_append]
theorem wei_len (ps : List Nat) : (wei ps).length = ps.length := by simp [wei]
theorem wei_take (ps : List Nat) (i : Nat) (h : i < ps.length) : sumL (wei (ps.take (i + 1))) = sumL (wei (ps.take i)) + ((1 + ps[i]?.getD 0 % 9 : Nat) : Int) := by
  have e : ∀ k, wei (ps.take k) = (wei ps).take k := fun k => by unfold wei; rw [List.map_take]
  rw [e, e, sum_take _ _ (by rw [wei_len]; exact h)]
  have e2 : ps[i]?.getD 0 = ps[i] := by rw [List.getElem?_eq_getElem h]; rfl
  rw [e2]
  simp [wei]
theorem take_ne (ps : List Nat) (i : Nat) (h : i < ps.length) (h0 : 0 < i) : ps.take i ≠ [] := by
  intro e
  have := congrArg List.length e
  rw [List.length_take, List.length_nil] at this
  omega
/-- One item more. -/
theorem text_more (ps : List Nat) (i : Nat) (h : i < ps.length) (s : ByteArray) (hs : tl s = bodyB (itm (ps.take i))) (hi : i < 8) (n : Nat) (hn : n = 1 + ps[i]?.getD 0 % 9) :
    (0 < i → tl ((s ++ ⟨#[44, 32]⟩) ++ (((⟨#[48, 49, 50, 51, 52, 53, 54, 55, 56, 57]⟩ : ByteArray).extract n (n + 1) ++ ⟨#[58, 32, 106, 117, 115, 116, 32]⟩) ++ (⟨#[48, 49, 50, 51, 52, 53, 54, 55]⟩ : ByteArray).extract i (i + 1))) = bodyB (itm (ps.take (i + 1)))) ∧
    (i = 0 → tl (s ++ (((⟨#[48, 49, 50, 51, 52, 53, 54, 55, 56, 57]⟩ : ByteArray).extract n (n + 1) ++ ⟨#[58, 32, 106, 117, 115, 116, 32]⟩) ++ (⟨#[48, 49, 50, 51, 52, 53, 54, 55]⟩ : ByteArray).extract i (i + 1))) = bodyB (itm (ps.take (i + 1)))) := by
  rw [List.getElem?_eq_getElem h, Option.getD_some] at hn
  rw [itm_take ps i h, digs10 n (by omega), digs8 i hi, ← hn]
  constructor
  · intro h0
    rw [bodyB_snoc _ (itm_ne _ (take_ne ps i h h0))]
    simp only [tl_app, hs]
    simp [tl, itemB]
  · intro h0
    subst h0
    simp only [tl_app, hs]
    simp [tl, itemB, itm, bodyB]
theorem wei_sum (ps : List Nat) (h : ps.length ≤ 8) : 0 ≤ sumL (wei ps) ∧ sumL (wei ps) ≤ 8000 ∧ (ps ≠ [] → 1 ≤ sumL (wei ps)) := by
  have h1 := sum_nonneg (wei ps) fun n hn => (wei_good ps n hn).1
  have h2 := sum_le (wei ps) (wei_good ps)
  rw [wei_len] at h2
  refine ⟨h1, by omega, fun hne => ?_⟩
  cases ps with
  | nil => exact absurd rfl hne
  | cons x l =>
    have h3 := sum_nonneg (wei l) fun n hn => (wei_good l n hn).1
    show 1 ≤ sumL (((1 + x % 9 : Nat) : Int) :: wei l)
    rw [sum_cons]
    omega
theorem text_all (l : List (Nat × Nat)) (s : ByteArray) (h : tl s = bodyB l) : tl (((⟨#[97, 32, 61, 32, 112, 105, 99, 107, 40]⟩ : ByteArray) ++ s) ++ ⟨#[41, 59]⟩) = textB l := by
  simp only [tl_app, h]
  simp [tl, textB, headB]
end Go.Proofs.YtnpaikdaogikcaaGreatDoor
