/- The plain law: by each number below the sum each place comes as often as its weight says. -/
import Derived.Test.YtmhdcnaibleihaaGreatDoorG02
import Derived.Test.YtmhdcnaibleihaaGreatDoorG20
import Derived.Test.YtmhdcnaibleihaaGreatDoorG07
import Derived.Test.YtmhdcnaibleihaaGreatDoorG03

namespace Go.Proofs.YtmhdcnaibleihaaGreatDoor
set_option maxRecDepth 100000
open Go.RowKit
set_option linter.unusedVariables false
set_option linter.unusedSimpArgs false

/-- How many numbers below n fall into place i. -/
def fallL (ws : List Int) (i n : Nat) : Nat := (List.range n).countP fun k : Nat => placeL ws (k : Int) == i
theorem place_lt (ws : List Int) (n : Int) (h0 : 0 ≤ n) (h : n < sumL ws) : placeL ws n < ws.length := by
  induction ws generalizing n with
  | nil => simp [sumL] at h; omega
  | cons w l ih =>
    rw [sum_cons] at h
    unfold placeL
    split
    · simp
    · have := ih (n - w) (by omega) (by omega); simp; omega
theorem count_shift (w : Nat) (p : Nat → Bool) (n : Nat) : (List.range (w + n)).countP p = (List.range w).countP p + (List.range n).countP fun k => p (w + k) := by
  rw [List.range_add, List.countP_append, List.countP_map]; rfl
theorem count_all (p : Nat → Bool) (n : Nat) (h : ∀ k < n, p k = true) : (List.range n).countP p = n := by
  rw [List.countP_eq_length.2 (fun k hk => h k (List.mem_range.1 hk))]; simp
theorem count_none (p : Nat → Bool) (n : Nat) (h : ∀ k < n, p k = false) : (List.range n).countP p = 0 := by
  rw [List.countP_eq_zero]; intro k hk; simp [h k (List.mem_range.1 hk)]
/-- Each place comes as often as its weight says. -/
theorem fall_all (ws : List Int) (h : ∀ n ∈ ws, 1 ≤ n) (i : Nat) (hi : i < ws.length) : (fallL ws i (sumL ws).toNat : Int) = ws[i] := by
  induction ws generalizing i with
  | nil => simp at hi
  | cons w l ih =>
    have hw := h w (by simp)
    have hl : ∀ n ∈ l, 1 ≤ n := fun n hn => h n (by simp [hn])
    have hs := sum_nonneg l hl
    have e : (sumL (w :: l)).toNat = w.toNat + (sumL l).toNat := by rw [sum_cons]; omega
    unfold fallL
    rw [e, count_shift]
    have hlow : ∀ k : Nat, k < w.toNat → placeL (w :: l) (k : Int) = 0 := fun k hk => by unfold placeL; rw [if_pos (by omega)]
    have hhigh : ∀ k : Nat, placeL (w :: l) ((w.toNat + k : Nat) : Int) = placeL l (k : Int) + 1 := fun k => by
      rw [placeL, if_neg (by omega)]; congr 2; omega
    cases i with
    | zero =>
      rw [count_all _ _ (fun k hk => by simp [hlow k hk]), count_none _ _ (fun k _ => by show (placeL (w :: l) ((w.toNat + k : Nat) : Int) == 0) = false; rw [hhigh k]; rfl)]
      simp; omega
    | succ i =>
      rw [count_none _ _ (fun k hk => by simp [hlow k hk])]
      have := ih hl i (by simpa using hi)
      unfold fallL at this
      have e2 : (fun k : Nat => placeL (w :: l) ((w.toNat + k : Nat) : Int) == i + 1) = fun k : Nat => placeL l (k : Int) == i := by
        funext k; rw [hhigh k]; simp
      rw [e2]
      simpa using this
theorem fall_succ (ws : List Int) (i n : Nat) : fallL ws i (n + 1) = fallL ws i n + if placeL ws (n : Int) = i then 1 else 0 := by
  unfold fallL; rw [List.range_succ, List.countP_append, List.countP_singleton]; simp
theorem fall_le (ws : List Int) (i n : Nat) : fallL ws i n ≤ n := by
  unfold fallL; exact Nat.le_trans List.countP_le_length (by simp)
/-- The numbers from 0 up. -/
def upto (n : Nat) : List Int := (List.range n).map fun i : Nat => (i : Int)
theorem upto_succ (n : Nat) : upto (n + 1) = upto n ++ [(n : Int)] := by unfold upto; rw [List.range_succ]; simp
theorem upto_len (n : Nat) : (upto n).length = n := by simp [upto]
theorem upto_mem (n : Nat) : ∀ v ∈ upto n, 0 ≤ v ∧ v < (n : Int) := by
  intro v hv
  obtain ⟨i, hi, rfl⟩ := List.mem_map.1 hv
  have := List.mem_range.1 hi
  omega
theorem upto_get (n i : Nat) (h : i < n) : (upto n)[i]? = some (i : Int) := by unfold upto; simp [List.getElem?_range h]
theorem upto_ne (n : Nat) (h : 0 < n) : upto n ≠ [] := by intro e; have := upto_len n; rw [e] at this; simp at this; omega
/-- How often each place came. -/
def cntL (ws : List Int) (len u : Nat) : List Int := (List.range len).map fun i => (fallL ws i u : Int)
theorem cnt_len (ws : List Int) (len u : Nat) : (cntL ws len u).length = len := by simp [cntL]
theorem cnt_get (ws : List Int) (len u i : Nat) (h : i < len) : (cntL ws len u)[i]? = some (fallL ws i u : Int) := by unfold cntL; simp [List.getElem?_range h]
theorem cnt_zero (ws : List Int) (len : Nat) : cntL ws len 0 = List.replicate len 0 := by
  unfold cntL; apply List.ext_getElem <;> simp [fallL]
theorem cnt_succ (ws : List Int) (len u pl : Nat) (hp : placeL ws (u : Int) = pl) (h : pl < len) : cntL ws len (u + 1) = (cntL ws len u).set pl ((fallL ws pl u : Int) + 1) := by
  apply List.ext_getElem
  · simp [cntL]
  · intro i h1 h2
    simp only [cntL, List.getElem_map, List.getElem_range, List.getElem_set, fall_succ, hp]
    by_cases e : pl = i
    · subst e; simp
    · simp [e]
end Go.Proofs.YtmhdcnaibleihaaGreatDoor

/- Many draws by a script: each a pick of numbers. -/
namespace Go.Proofs.YtmhdcnaibleihaaGreatDoor
set_option maxRecDepth 100000
open Go.RowKit
set_option linter.unusedVariables false
set_option linter.unusedSimpArgs false

/-- A result: its number, its one draw. -/
def RdR (p : Nat → Prop) (w : World) (x : Int × Nat) (cs : List Value) : Prop := ∃ Z1 e1 Z2 e2 D dc, cs = (resC x.1 Z1 e1 Z2 e2 D dc).toList ∧ CellsFrom p w D [I64 x.2]
theorem movesR : Moves RdR := ⟨fun _ _ _ _ _ _ h r => by
  obtain ⟨Z1, e1, Z2, e2, D, dc, h1, h2⟩ := r
  exact ⟨Z1, e1, Z2, e2, D, dc, h1, h _ _ h2⟩⟩
/-- What is drawn by the numbers of a script. -/
def outL (ws ns : List Int) (l : List Int) : List (Int × Nat) := l.map fun v => (ns[placeL ws v]?.getD 0, placeL ws v)
theorem outL_take (ws ns l : List Int) (u : Nat) (h : u < l.length) : outL ws ns (l.take (u + 1)) = outL ws ns (l.take u) ++ [(ns[placeL ws (l[u]?.getD 0)]?.getD 0, placeL ws (l[u]?.getD 0))] := by
  unfold outL; rw [List.take_add_one, List.map_append]; simp [List.getElem?_eq_getElem h]
theorem info8Z : (Tryz.prog.info? 39).map (fun i => (i.zero, i.size, i.bytes)) = some (some (.agg zero8r), 8, 120) := by kernel_rfl
set_option maxHeartbeats 8000000 in
theorem manyN (gb sb : Nat) (l ws ns : List Int) (hlen : ns.length = ws.length) (w0 : World) (nm : Bs) (ts : List Value) (hT : RdT Any w0 (tPickN ws ns) ts) (most : Nat) (w : World) (hx : Ext w0 w) (hsb : w0.heap.size ≤ sb) (hg : Gram w0 gb nm ts) (hn : nm.length ≤ 1000)
    (h : Src w sb 0 l) (hs : 1 < most) (hm : most ≤ 65536) (m : Nat) (hml : m ≤ l.length) (hl : l.length ≤ 10000) (hv : ∀ v ∈ l, 0 ≤ v ∧ v < sumL ws) (hw : ∀ n ∈ ws, 1 ≤ n ∧ n ≤ 1000) (hws : ws.length ≤ 64) :
    Calls Tryz.prog 6 #[.pointer (some ⟨gb, 0, none⟩), sv nm, .iface 47 (.pointer (some ⟨sb, 0, none⟩)), .int .i64 most, .int .i64 1, .int .i64 m] w fun e w' => (∃ A c ics, e = .returned (.slice A m c) ∧ All2 (RdR (Fr w.heap.size) w') (outL ws ns (l.take m)) ics ∧ CellsFrom (Fr w.heap.size) w' A ics.flatten) ∧ Keeps (fun b => b = sb) w w' := by
  refine of_post fun R hR => ?_
  have HDR := Lib.hid (fun (u : Nat) (hu : u < l.length) (W : World) (hx2 : Ext w0 W) (hS : Src W sb u l) => drawN gb sb u l ws ns hlen w0 nm ts hT most W hx2 hsb (hg.on hx2) hn hS hs hm hu hl (hv _ (List.getElem_mem hu)).1 (hv _ (List.getElem_mem hu)).2 hw hws _ rfl (by rw [List.getElem?_eq_getElem hu]; exact place_lt ws _ (hv _ (List.getElem_mem hu)).1 (hv _ (List.getElem_mem hu)).2))
  have HX := Lib.hid hx
  have HSB := Lib.hid hsb
  have HS := Lib.hid h
  have HML := Lib.hid hml
  have HLL := Lib.hid hl
  have g1 : (m : Int) ≤ 10000 := by omega
  have g2 : (0 : Int) ≤ m := by omega
  clear hT hx hsb hg hn h hs hm hml hl hv hw hws
  have HBS : Hid (sb < w.heap.size) := Lib.hid HS.out.lt
  have HOL : Hid (∀ u, u ≤ m → (outL ws ns (l.take u)).length = u) := Lib.hid fun u hu => by have := HML.out; simp [outL]; omega
  go_enter Tryz.func6, Tryz.ntmps6
  go_wp2_with fail
  go_loopw [18, 13] (fun iv ov wr => ∃ (u : Nat) (ics : List (List Value)), u ≤ m ∧ iv = .int .i64 u ∧ Hid (RowOf RdR 39 8 w.heap.size wr ov (outL ws ns (l.take u)) ics) ∧ Hid (Keeps (fun b => b = sb) w wr) ∧ Hid (Src wr sb u l)) (fun iv _ _ => m - (intOf iv).toNat)
  case atStart => exact ⟨0, [], Nat.zero_le _, rfl, Lib.hid (RowOf.nil _ _ _ _ _), Lib.hid (Keeps.refl _ _), HS⟩
  case round =>
    obtain ⟨u, ics, hu, rfl, HRW, HK, HSU⟩ := hrel
    obtain ⟨A, c, rfl⟩ := HRW.out.form
    rw [HOL.out u hu] at *
    by_cases hlt : u < m
    · have hul : u < l.length := by have := HML.out; omega
      have HX1 : Hid (Ext w0 wr) := Lib.hid (Keeps.below HX.out HK.out fun k hk e => by have h1 : k = sb := e; have := HSB.out; omega)
      have HD1 := Lib.hid (HDR.out u hul wr HX1.out HSU.out)
      have HOU := Lib.hid (outL_take ws ns l u hul)
      have HLE : Hid (u ≤ 10000) := Lib.hid (by have := HLL.out; omega)
      have HLN : Hid ((outL ws ns (l.take u)).length ≤ 1000000) := Lib.hid (by rw [HOL.out u hu]; have := HLE.out; omega)
      generalize hx : (ns[placeL ws (l[u]?.getD 0)]?.getD 0) = x at *
      generalize hp : placeL ws (l[u]?.getD 0) = pl at *
      have HXX := Lib.hid hx
      have HPP := Lib.hid hp
      clear hx hp
      have g3 : (u : Int) < m := by omega
      clear hlt
      go_upto_region 6 with ((go_at_call 10; refine HD1.out.mono ?_; rintro e w1 ⟨⟨Z1, e1, Z2, e2, D, dc, rfl, hD, hb⟩, hk, hs⟩; have HK1 := Lib.hid hk; have HS1 := Lib.hid hs; have HXL := Lib.hid (ext_al w1 (.cells (resC x Z1 e1 Z2 e2 D dc) 39)); have HRW1 := Lib.hid ((HRW.out.keeps movesR hk (fun b hb e => by have h1 : b = sb := e; have := HBS.out; omega)).on movesR HXL.out); have HRD1 : Hid (RdR (fun b => w.heap.size ≤ b ∧ (Value.slice A u c).ownBlock ≠ some b) (w1.alloc (.cells (resC x Z1 e1 Z2 e2 D dc) 39)) (x, pl) (resC x Z1 e1 Z2 e2 D dc).toList) := Lib.hid ⟨Z1, e1, Z2, e2, D, dc, rfl, fun hn => by
            obtain ⟨b, o, e, hc⟩ := hD hn
            have h1 := hb b o e
            refine ⟨b, o, e, ⟨?_, fun e2 => ?_⟩, fun k v hv => HXL.out.cell' (hc k v hv)⟩
            · have := HK.out.size; omega
            · have := (HRW.out.own.lt b e2).2; omega⟩; have HON : Hid (∀ u ∈ (resC x Z1 e1 Z2 e2 D dc).toList, u.oneCell' = true) := Lib.hid (by simp [Value.oneCell']); have hsz : w.heap.size ≤ (w1.alloc (.cells (resC x Z1 e1 Z2 e2 D dc) 39)).heap.size := Nat.le_trans HK.out.size (Nat.le_trans HK1.out.size HXL.out.size); clear hD hb hk hs))
      go_wp2_with (at_builtin; go_must (refine wpList_grow movesR rfl _ _ 29 rfl (.agg zero8r) 120 Tryz.underlying29 info8Z rfl (by decide) [_, _, _, _, _, _, _, _] rfl (x, pl) rfl HRW1 HRD1 HON.out (by rw [World.size_alloc]; rfl) HLN.out (by decide) hsz ?_); intro v2 wE HRE HPU)
      go_roundw
      case rel =>
        have HG : Hid (Keeps (fun b => b = sb ∨ w.heap.size ≤ b) w wE) := Lib.hid (((HK.out.trans HK1.out).mono fun k _ e => .inl e).trans ((Keeps.of_ext HXL.out).trans ((Keeps.of_grown HPU.out.grown).mono fun k _ e => .inr (HRW1.out.own.lt k e).1)))
        have hrow := HRE.out
        rw [← HOU.out] at hrow
        refine ⟨u + 1, _, by omega, by go_num, Lib.hid hrow, Lib.hid (HG.out.mono fun k hk e => e.elim id fun h => by omega), Lib.hid ((HS1.out.on HXL.out).keeps (Keeps.of_grown HPU.out.grown) fun b hb e => by have := (HRW1.out.own.lt b e).1; have := HBS.out; omega)⟩
      case measure => simp [intOf]; omega
    · obtain rfl : u = m := by omega
      go_wp2_with fail
      exact hR.out _ _ ⟨⟨A, c, ics, rfl, HRW.out.reads movesR, by have h := HRW.out.own; rw [HOL.out _ (Nat.le_refl _)] at h; exact cellsFrom_own h⟩, HK.out⟩
end Go.Proofs.YtmhdcnaibleihaaGreatDoor

/- The texts of GenerateWeighs: a pick of numbers with weights: how they are read. -/
namespace Go.Proofs.YtmhdcnaibleihaaGreatDoor
set_option maxRecDepth 100000
open Go.RowKit
set_option linter.unusedVariables false
set_option linter.unusedSimpArgs false

def dg (n : Nat) : UInt8 := UInt8.ofNat (48 + n)
theorem dg_facts : ∀ n < 10, isBl (dg n) = false ∧ isDig (dg n) = true ∧ isLet (dg n) = false ∧ isGo (dg n) = true ∧ (dg n).toNat = 48 + n := by decide
def itemB (p : Nat × Nat) : Bs := [dg p.1, 58, 32, 106, 117, 115, 116, 32, dg p.2]
def bodyB : List (Nat × Nat) → Bs
  | [] => []
  | [p] => itemB p
  | p :: q :: l => itemB p ++ 44 :: 32 :: bodyB (q :: l)
def headB : Bs := [97, 32, 61, 32, 112, 105, 99, 107, 40]
def textB (l : List (Nat × Nat)) : Bs := headB ++ (bodyB l ++ [41, 59])
theorem blanks_drop {s r : Bs} {i : Nat} (h : s.drop i = r) : blanks s i = i + (r.takeWhile isBl).length := by unfold blanks spanW; rw [h]
theorem span_drop {p : UInt8 → Bool} {s r : Bs} {i : Nat} (h : s.drop i = r) : spanW p s i = i + (r.takeWhile p).length := by unfold spanW; rw [h]
theorem at_drop {s r : Bs} {i : Nat} (h : s.drop i = r) : s[i]? = r.head? := by rw [← h, List.head?_drop]
theorem atP_drop {p : UInt8 → Bool} {s r : Bs} {i : Nat} (h : s.drop i = r) : atP p s i = match r.head? with | some c => p c | none => false := by unfold atP; rw [at_drop h]; cases r.head? <;> rfl
theorem drop_more {s r : Bs} {i : Nat} (k : Nat) (h : s.drop i = r) : s.drop (i + k) = r.drop k := by rw [← h, List.drop_drop]
theorem cut_drop {s r : Bs} {i j : Nat} (h : s.drop i = r) : cut s i (i + j) = r.take j := by unfold cut; rw [h]; congr 1; omega
theorem mark_drop {s r : Bs} {i : Nat} (t : Bs) (h : s.drop i = r) : mark s i t = if t.isPrefixOf (r.drop (r.takeWhile isBl).length) then some (i + (r.takeWhile isBl).length + t.length) else none := by
  unfold mark; rw [blanks_drop h, drop_more _ h]
theorem word_drop {s r : Bs} {i : Nat} (h : s.drop i = r) : word s i = match (r.drop (r.takeWhile isBl).length).head? with
    | some c => if isLet c then ((r.drop (r.takeWhile isBl).length).takeWhile isGo, i + (r.takeWhile isBl).length + ((r.drop (r.takeWhile isBl).length).takeWhile isGo).length) else ([], i)
    | none => ([], i) := by
  unfold word
  rw [blanks_drop h, atP_drop (drop_more _ h), span_drop (drop_more _ h), cut_drop (drop_more _ h)]
  cases (r.drop (r.takeWhile isBl).length).head? with
  | none => rfl
  | some c =>
    simp only []
    split
    · congr 1
      exact List.prefix_iff_eq_take.1 (List.takeWhile_prefix _) |>.symm
    · rfl
theorem isBl_32 : isBl 32 = true := by decide
theorem num_drop {s r : Bs} {i : Nat} (sign : Bool) {d c : UInt8} (h : s.drop i = d :: c :: r) (hd : isDig d = true) (h45 : d ≠ 45) (hc : isDig c = false) : numAt s i sign = some (((d.toNat - 48 : Nat) : Int), i + 1) := by
  have h1 : s[i]? = some d := at_drop h
  unfold numAt
  have hf : (if (sign : Prop) ∧ s[i]? = some 45 then i + 1 else i) = i := by rw [h1]; simp [h45]
  simp only [hf]
  have he : spanW isDig s i = i + 1 := by rw [span_drop h, List.takeWhile_cons, hd]; simp [hc]
  rw [he]
  have hcut : cut s i (i + 1) = [d] := by rw [cut_drop h]; rfl
  rw [hcut]
  have hn : natOf [d] = d.toNat - 48 := by simp [natOf]
  rw [hn]
  have := d.toNat_lt
  rw [if_neg (by simp), if_pos trivial, if_pos (by omega)]

theorem item_read {s rest : Bs} {i w v : Nat} {c : UInt8} {bl : Bs} (f : Nat) (hw : w < 10) (hv : v < 10) (hc : c = 44 ∨ c = 41) (hb : bl = [] ∨ bl = [32]) (h : s.drop i = bl ++ (itemB (w, v) ++ c :: rest)) :
    weightAt s i = some ((w : Int), i + bl.length + 2) ∧ parseT s (f + 1) (.term (i + bl.length + 2)) = some (some (tJust (.ofInt v), i + bl.length + 9)) ∧
    s.drop (i + bl.length + 9) = c :: rest := by
  obtain ⟨b1, b2, b3, b4, b5⟩ := dg_facts w hw
  obtain ⟨v1, v2, v3, v4, v5⟩ := dg_facts v hv
  have hbl : (s.drop i).takeWhile isBl = bl := by
    rw [h]
    rcases hb with rfl | rfl
    · simp [itemB, b1, List.takeWhile_cons]
    · simp [itemB, b1, isBl_32, List.takeWhile_cons]
  have h0 : s.drop (i + bl.length) = dg w :: 58 :: 32 :: 106 :: 117 :: 115 :: 116 :: 32 :: dg v :: c :: rest := by
    rw [drop_more _ h, List.drop_left' rfl]; rfl
  have hB : blanks s i = i + bl.length := by rw [blanks_drop rfl, hbl]
  generalize i + bl.length = k at *
  have h1 := drop_more 1 h0
  have h2 := drop_more 2 h0
  have h6 := drop_more 7 h0
  have h7 := drop_more 8 h0
  simp only [List.drop_succ_cons, List.drop_zero] at h1 h2 h6 h7
  have n45 : ∀ n < 10, dg n ≠ 45 ∧ dg n ≠ 34 := by decide
  have w45 := n45 w hw
  have v45 := n45 v hv
  refine ⟨?_, ?_, by have := drop_more 9 h0; simpa using this⟩
  · unfold weightAt
    rw [hB, atP_drop h0]
    simp only [List.head?_cons, b2, if_true]
    rw [num_drop false h0 b2 w45.1 (by decide)]
    simp only []
    rw [mark_drop _ h1]
    simp [isBl, b5]
  · have hW : word s (k + 2) = (kJust, k + 7) := by
      rw [word_drop h2]
      simp [isBl, isLet, isGo, isDig]
    have hW2 : word s (k + 7) = ([], k + 7) := by
      rw [word_drop h6]
      simp [isBl_32, v1, v3, List.takeWhile_cons]
    have hm1 : mark s (k + 2) [91] = none := by rw [mark_drop _ h2]; simp [isBl]
    have hm2 : mark s (k + 2) [123] = none := by rw [mark_drop _ h2]; simp [isBl]
    have hB2 : blanks s (k + 7) = k + 8 := by rw [blanks_drop h6]; simp [isBl_32, v1, List.takeWhile_cons]
    have hd : ¬ isDig c = true := by rcases hc with rfl | rfl <;> decide
    rw [parseT, hm1, hm2]
    simp only [hW]
    rw [if_neg (by decide), if_pos trivial]
    unfold justAt
    rw [hW2, hB2, num_drop true h7 v2 v45.1 (by simpa using hd), atP_drop h7]
    simp [kNull, kTrue, kFalse, v2, v5]

theorem items_read {s rest : Bs} : ∀ (l : List (Nat × Nat)) (f i : Nat) (bl : Bs) (ws : List Int) (ts : List T), (∀ p ∈ l, p.1 < 10 ∧ p.2 < 10) → l ≠ [] → l.length < f → (bl = [] ∨ bl = [32]) → s.drop i = bl ++ (bodyB l ++ 41 :: rest) →
    ∃ j, parseT s f (.pick ws ts i) = some (some (.mk 2 [] .none [] (ws ++ l.map fun p => (p.1 : Int)) (ts ++ l.map fun p => tJust (.ofInt p.2)) [] [], j)) ∧ s.drop j = rest
  | [], _, _, _, _, _, _, h, _, _, _ => absurd rfl h
  | [p], 0, _, _, _, _, _, _, hf, _, _ => by simp at hf
  | p :: q :: l, 0, _, _, _, _, _, _, hf, _, _ => by simp at hf
  | [p], 1, _, _, _, _, _, _, hf, _, _ => by simp at hf
  | p :: q :: l, 1, _, _, _, _, _, _, hf, _, _ => by simp at hf
  | [p], f + 2, i, bl, ws, ts, hl, _, _, hb, h => by
    have hp := hl p (by simp)
    obtain ⟨h1, h2, h3⟩ := item_read (rest := rest) f hp.1 hp.2 (.inr rfl) hb (by simpa [bodyB] using h)
    have hm : mark s (i + bl.length + 9) [41] = some (i + bl.length + 10) := by rw [mark_drop _ h3]; simp [isBl]
    refine ⟨i + bl.length + 10, ?_, by have := drop_more 1 h3; simpa using this⟩
    rw [parseT, h1]
    simp only [orFail, h2, ER.on, hm]
    simp
  | p :: q :: l, f + 2, i, bl, ws, ts, hl, _, hf, hb, h => by
    have hp := hl p (by simp)
    obtain ⟨h1, h2, h3⟩ := item_read (rest := 32 :: (bodyB (q :: l) ++ 41 :: rest)) f hp.1 hp.2 (.inl rfl) hb (by simpa [bodyB] using h)
    have hm : mark s (i + bl.length + 9) [41] = none := by rw [mark_drop _ h3]; simp [isBl]
    have hm2 : mark s (i + bl.length + 9) [44] = some (i + bl.length + 10) := by rw [mark_drop _ h3]; simp [isBl]
    have hn : s.drop (i + bl.length + 10) = [32] ++ (bodyB (q :: l) ++ 41 :: rest) := by have := drop_more 1 h3; simpa using this
    obtain ⟨j, hj, hr⟩ := items_read (q :: l) (f + 1) (i + bl.length + 10) [32] (ws ++ [(p.1 : Int)]) (ts ++ [tJust (.ofInt p.2)]) (fun x hx => hl x (by simp [List.mem_cons.1 hx])) (by simp) (by simp at hf ⊢; omega) (.inr rfl) hn
    refine ⟨j, ?_, hr⟩
    rw [parseT, h1]
    simp only [orFail, h2, ER.on, hm, hm2, hj]
    simp
theorem depths_just (l : List (Nat × Nat)) : T.depths (l.map fun p => tJust (.ofInt p.2)) ≤ 1 := by
  induction l with
  | nil => simp [T.depths]
  | cons p l ih => simp only [tJust] at ih ⊢; simp only [List.map_cons, T.depths, T.depth]; omega
theorem textB_len : ∀ (l : List (Nat × Nat)), (bodyB l).length ≤ 11 * l.length
  | [] => by simp [bodyB]
  | [p] => by simp [bodyB, itemB]
  | p :: q :: l => by
    have := textB_len (q :: l)
    simp only [bodyB, itemB, List.length_append, List.length_cons, List.length_nil] at this ⊢
    omega
theorem defs_read (l : List (Nat × Nat)) (hl : ∀ p ∈ l, p.1 < 10 ∧ p.2 < 10) (h0 : l ≠ []) (hn : l.length ≤ 10) :
    parseD (textB l) 20 = some (some [⟨[97], .mk 2 [] .none [] (l.map fun p => (p.1 : Int)) (l.map fun p => tJust (.ofInt p.2)) [] []⟩]) := by
  generalize hs : textB l = s
  have h0' : s.drop 0 = headB ++ (bodyB l ++ [41, 59]) := by rw [← hs]; rfl
  have hlen : s.length ≤ 8192 := by
    have := textB_len l
    rw [← hs]; simp only [textB, headB, List.length_append, List.length_cons, List.length_nil]; omega
  have h1 := drop_more 1 h0'
  have h3 := drop_more 3 h0'
  have h8 := drop_more 8 h0'
  have h9 := drop_more 9 h0'
  simp only [headB, Nat.zero_add, List.cons_append, List.drop_succ_cons, List.nil_append] at h0' h1 h3 h8 h9
  rw [List.drop_zero] at h1 h3 h8 h9
  obtain ⟨j, hj, hr⟩ := items_read (s := s) (rest := [59]) l 18 9 [] [] [] hl h0 (by omega) (.inl rfl) (by simpa using h9)
  have hw0 : word s 0 = ([97], 1) := by rw [word_drop h0']; simp [isBl, isLet, isGo, isDig]
  have hm1 : mark s 1 [61] = some 3 := by rw [mark_drop _ h1]; simp [isBl]
  have ha : mark s 3 [91] = none := by rw [mark_drop _ h3]; simp [isBl]
  have hb : mark s 3 [123] = none := by rw [mark_drop _ h3]; simp [isBl]
  have hw3 : word s 3 = (kPick, 8) := by rw [word_drop h3]; simp [isBl, isLet, isGo, isDig]
  have hm8 : mark s 8 [40] = some 9 := by rw [mark_drop _ h8]; simp [isBl]
  have hmj : mark s j [59] = some (j + 1) := by rw [mark_drop _ hr]; simp [isBl]
  have he := drop_more 1 hr
  have hend : s.length ≤ blanks s (j + 1) := by
    have h1 : s.length ≤ j + 1 := by simpa [List.drop_eq_nil_iff] using he
    have h2 : j + 1 ≤ blanks s (j + 1) := by unfold blanks spanW; omega
    omega
  have hT : parseT s 19 (.term 3) = some (some (.mk 2 [] .none [] (l.map fun p => (p.1 : Int)) (l.map fun p => tJust (.ofInt p.2)) [] [], j)) := by
    rw [parseT, ha, hb]
    simp only [hw3]
    rw [if_neg (by decide), if_neg (by decide), if_neg (by decide), if_neg (by decide), if_pos trivial, hm8]
    simp only [orFail, hj, List.nil_append]
  unfold parseD
  rw [if_neg (by omega), defsAt, hw0]
  rw [if_neg (by simp), if_neg (by decide), hm1]
  simp only [orFail, hT, ER.on, hmj]
  rw [defsAt, if_pos ⟨by simp, hend⟩]
  have hd := depths_just l
  have hd2 : ¬ 32 < T.depths (l.map fun p => tJust (.ofInt p.2)) + 1 := by omega
  simp [T.depth, hd2]
end Go.Proofs.YtmhdcnaibleihaaGreatDoor
