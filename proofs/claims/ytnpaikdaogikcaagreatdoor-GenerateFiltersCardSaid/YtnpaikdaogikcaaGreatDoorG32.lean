/- GenerateFilters: a draw, by tries. -/
import Derived.Test.YtnpaikdaogikcaaGreatDoorG31
import Derived.Test.YtnpaikdaogikcaaGreatDoorG03
import Derived.Test.YtnpaikdaogikcaaGreatDoorG08

namespace Go.Proofs.YtnpaikdaogikcaaGreatDoor
set_option maxRecDepth 100000
open Go.RowKit
set_option linter.unusedVariables false
set_option linter.unusedSimpArgs false

/-- What a draw by tries comes to. -/
def DrawnF (l : List Int) (tries : Nat) (e : Ending) : Prop :=
  (∃ k, k < tries ∧ (∀ i, i < k → passes (toldAt l i) = false) ∧ passes (toldAt l k) = true ∧ ∃ Z1 e1 Z2 e2 D dc, e = .returned (.tuple #[.agg (resC (toldAt l k) Z1 e1 Z2 e2 D dc), .int .i64 ((k : Int) + 1), .int .i64 0])) ∨
  ((∀ i, i < tries → passes (toldAt l i) = false) ∧ e = .returned (.tuple #[.agg zero8r, .int .i64 0, .int .i64 20]))
set_option maxHeartbeats 8000000 in
theorem drawF (gb sb : Nat) (l : List Int) (w0 : World) (nm : Bs) (ts : List Value) (hT : RdT Any w0 tFilter ts) (most tries : Nat) (w : World) (hx : Ext w0 w) (hsb : w0.heap.size ≤ sb) (hg : Gram w0 gb nm ts) (hn : nm.length ≤ 1000)
    (h : Src w sb 0 l) (hs : 1 < most) (hm : most ≤ 65536) (hl : l.length ≤ 10000) (hr : ∀ x ∈ l, 0 ≤ x ∧ x < 100) (ht1 : 1 ≤ tries) (ht2 : tries ≤ 1000) :
    Calls Tryz.prog 6 #[.pointer (some ⟨gb, 0, none⟩), sv nm, .iface 58 (.pointer (some ⟨sb, 0, none⟩)), .int .i64 most, .int .i64 tries] w fun e w' => DrawnF l tries e ∧ Keeps (fun b => b = sb) w w' := by
  refine of_post fun R hR => ?_
  have k1 : (0 : Int) ≤ most := by omega
  have k2 : ¬ (65536 : Int) < most := by omega
  have k3 : ¬ (tries : Int) < 1 := by omega
  have k4 : ¬ (1000 : Int) < tries := by omega
  have HFD := Lib.hid (fun W (hx2 : Ext w W) => findT gb nm tFilter Any w0 ts hT W ((hg.on hx).on hx2) hn)
  have HRY := Lib.hid (fun (u : Nat) (hu : u ≤ 10000) (v : Int) (hv : v = toldAt l u) (hp : passes v = true) (W : World) (hx2 : Ext w0 W) (hg2 : Gram W gb nm ts) (h2 : Src W sb u l) => repRunF_yes gb sb u l w0 nm ts hT most W hx2 hsb hg2 hn h2 hs hm hl hu hr v hv hp)
  have HRNO := Lib.hid (fun (u : Nat) (hu : u ≤ 10000) (v : Int) (hv : v = toldAt l u) (hp : passes v = false) (W : World) (hx2 : Ext w0 W) (hg2 : Gram W gb nm ts) (h2 : Src W sb u l) => repRunF_no gb sb u l w0 nm ts hT most W hx2 hsb hg2 hn h2 hs hm hl hu hr v hv hp)
  have HS := Lib.hid h
  have HG := Lib.hid hg
  have HX0 := Lib.hid hx
  have HSB := Lib.hid hsb
  have HTR : Hid (1 ≤ tries ∧ tries ≤ 1000) := Lib.hid ⟨ht1, ht2⟩
  obtain ⟨x0, x1, x2, x3, x4, x5, x6, x7, x8, x9, y0, y1, y2, y3, y4, y5, y6, y7, y8, y9, z0, z1, z2, z3, z4, z5, z6, rfl⟩ := RdT.thirteen hT
  clear hT hx hsb hg hn h hs hm hr ht1 ht2 hl
  go_enter Tryz.func6, Tryz.ntmps6
  go_wp2_with (first
    | (go_at_call 11; refine (HFD.out _ ((Ext.refl' w).alloc' _)).mono ?_; rintro e w1 ⟨rfl, hx⟩; have HX1 := Lib.hid (((Ext.refl' w).alloc' _).trans' hx); have HR1 := Lib.hid ((Blk.new w zero8r 34).on hx); clear hx))
  have HXL := Lib.hid (HX1.out.trans' (ext_al w1 (.cells #[.int .i64 x0, .string x1, .int .i64 x2, .bool x3, .int .i64 x4, .string x5, .slice x6 x7 x8, .slice x9 y0 y1, .slice y2 y3 y4, .slice y5 y6 y7, .slice y8 y9 z0, .slice z1 z2 z3, .slice z4 z5 z6] 51)))
  have HRL := Lib.hid (HR1.out.on (ext_al w1 (.cells #[.int .i64 x0, .string x1, .int .i64 x2, .bool x3, .int .i64 x4, .string x5, .slice x6 x7 x8, .slice x9 y0 y1, .slice y2 y3 y4, .slice y5 y6 y7, .slice y8 y9 z0, .slice z1 z2 z3, .slice z4 z5 z6] 51)))
  generalize hwl : w1.alloc (.cells #[.int .i64 x0, .string x1, .int .i64 x2, .bool x3, .int .i64 x4, .string x5, .slice x6 x7 x8, .slice x9 y0 y1, .slice y2 y3 y4, .slice y5 y6 y7, .slice y8 y9 z0, .slice z1 z2 z3, .slice z4 z5 z6] 51) = wl at *
  clear hwl
  go_loopw [15, 46] (fun lv iv wr => ∃ i : Nat, iv = .int .i64 i ∧ i ≤ tries ∧ lv = .int .i64 (if i = 0 then 0 else 20) ∧ Hid (∀ j, j < i → passes (toldAt l j) = false) ∧ Hid (Keeps (fun b => b = sb) wl wr) ∧ Hid (Src wr sb i l)) (fun _ iv _ => tries - (intOf iv).toNat)
  case atStart => exact ⟨0, rfl, Nat.zero_le _, rfl, Lib.hid (fun j hj => by omega), Lib.hid (Keeps.refl _ _), Lib.hid (HS.out.on HXL.out)⟩
  case round =>
    obtain ⟨i, rfl, hi, rfl, HP, HK, HSI⟩ := hrel
    generalize hlv : (if i = 0 then (0 : Int) else 20) = lv at *
    have HLV := Lib.hid hlv
    clear hlv
    have HSL : Hid (sb < w.heap.size ∧ w0.heap.size ≤ sb) := Lib.hid ⟨HS.out.lt, HSB.out⟩
    have HXW : Hid (Ext w0 wr) := Lib.hid (Keeps.below (HX0.out.trans' HXL.out) HK.out fun k hk e => by have h1 : k = sb := e; have := HSL.out; omega)
    have HRW := Lib.hid (HRL.out.keeps HK.out (by have := HSL.out; show ¬ w.heap.size = sb; omega))
    have HGW := Lib.hid (HG.out.on HXW.out)
    by_cases hit : i < tries
    · have hit2 : (i : Int) < tries := by omega
      have HI3 : Hid (i ≤ 10000) := Lib.hid (by have := HTR.out; omega)
      have hi4 : (i : Int) + 1 ≤ 100000 := by omega
      rcases hpv : passes (toldAt l i) with _ | _
      · go_wp2_with (first
          | (go_at_call 12; refine (HRNO.out i HI3.out _ rfl hpv _ HXW.out HGW.out HSI.out).mono ?_; rintro e w2 ⟨rfl, hk, hs2⟩; have HK2 := Lib.hid hk; have HS2 := Lib.hid hs2; clear hk hs2))
        go_roundw
        case rel =>
          refine ⟨i + 1, by go_num, by omega, by simp, Lib.hid (fun j hj => ?_), Lib.hid ((HK.out.trans HK2.out).trans (Keeps.of_ext (ext_al w2 _))), Lib.hid (HS2.out.on (ext_al w2 _))⟩
          by_cases hji : j = i
          · rw [hji]; exact hpv
          · exact HP.out j (by omega)
        case measure => simp [intOf]; omega
      · have HC1 := Lib.hid (HRY.out i HI3.out _ rfl hpv _ HXW.out HGW.out HSI.out)
        have HPV := Lib.hid hpv
        clear hpv
        obtain ⟨x, hx⟩ : ∃ x, x = toldAt l i := ⟨_, rfl⟩
        rw [← hx] at HC1
        have HXX := Lib.hid hx
        clear hx
        have g1 : wrap64 ((i : Int) + 1) = (i : Int) + 1 := by unfold wrap64; omega
        have g2 : IntKind.i64.wrap ((i : Int) + 1) = (i : Int) + 1 := by rw [IntKind.wrap_i64]; omega
        clear hi4 hit2 k1 k2 k3 k4
        go_upto_region 12 with (first
          | (go_at_call 12; refine HC1.out.mono ?_; rintro e w2 ⟨⟨Z1, e1, Z2, e2, D, dc, rfl⟩, hk, hs2⟩; have HK2 := Lib.hid hk; have HR2 := Lib.hid (HRW.out.keeps hk (by have := HSL.out; show ¬ w.heap.size = sb; omega)); clear hk hs2))
        go_wp2_with (first
          | (refine wpList_store_blk rfl 34 _ _ rfl rfl w.heap.size zero8r _ 34 (HR2.out.on (ext_al w2 _)) rfl rfl info8R rfl (by simp [Value.oneCell']) ?_; intro w9 HB9 HK9))
        have HK29 : Hid (Keeps (fun b => b = w.heap.size) w2 w9) := Lib.hid ((Keeps.of_ext (ext_al w2 _)).trans HK9.out)
        refine bodyPost_ret (results_cell_2 Tryz.results6 HB9.out rfl _ Tryz.underlying34 rfl info8R) rfl (hR.out _ _ ⟨.inl ⟨i, hit, HP.out, HPV.out, Z1, e1, Z2, e2, D, dc, by rw [← HXX.out]; rfl⟩, ?_⟩)
        exact ((((Keeps.of_ext HXL.out).trans HK.out).trans HK2.out).mono (S' := fun b => b = sb ∨ w.heap.size ≤ b) fun x _ e => .inl e).trans (HK29.out.mono fun x _ e => .inr (by have h1 : x = w.heap.size := e; omega)) |>.mono fun x hx e => e.elim id fun e => by omega
    · have hit2 : ¬ (i : Int) < tries := by omega
      have hie : i = tries := by omega
      have hi0 : ¬ i = 0 := by have := HTR.out; omega
      have hlv := HLV.out
      rw [if_neg hi0] at hlv
      subst hlv
      go_wp2_with (first
        | (refine wpList_store_blk rfl 34 _ _ rfl rfl w.heap.size zero8r zero8r 34 HRW.out rfl rfl info8R rfl (by simp [Value.oneCell']) ?_; intro w9 HB9 HK9))
      refine bodyPost_ret (results_cell_2 Tryz.results6 HB9.out rfl _ Tryz.underlying34 rfl info8R) rfl (hR.out _ _ ⟨.inr ⟨fun j hj => HP.out j (by omega), rfl⟩, ?_⟩)
      exact (((Keeps.of_ext HXL.out).trans HK.out).mono (S' := fun b => b = sb ∨ w.heap.size ≤ b) fun x _ e => .inl e).trans (HK9.out.mono fun x _ e => .inr (by have h1 : x = w.heap.size := e; omega)) |>.mono fun x hx e => e.elim id fun e => by omega
end Go.Proofs.YtnpaikdaogikcaaGreatDoor

/- The plain law: by each number below the sum each place comes as often as its weight says. -/
namespace Go.Proofs.YtnpaikdaogikcaaGreatDoor
set_option maxRecDepth 100000
open Go.RowKit
set_option linter.unusedVariables false
set_option linter.unusedSimpArgs false

/-- How many numbers below n fall into place i. -/
def fallL (ws : List Int) (i n : Nat) : Nat := (List.range n).countP fun k : Nat => placeL ws (k : Int) == i
theorem place_lt (ws : List Int) (n : Int) (h0 : 0 ≤ n) (h : n < sumL ws) : placeL ws n < ws.length := by
  induction ws generalizing n with
  | nil => simp [sumL] at h; omega
  | cons w l ih =>
    rw [sum_cons] at h
    unfold placeL
    split
    · simp
    · have := ih (n - w) (by omega) (by omega); simp; omega
theorem count_shift (w : Nat) (p : Nat → Bool) (n : Nat) : (List.range (w + n)).countP p = (List.range w).countP p + (List.range n).countP fun k => p (w + k) := by
  rw [List.range_add, List.countP_append, List.countP_map]; rfl
theorem count_all (p : Nat → Bool) (n : Nat) (h : ∀ k < n, p k = true) : (List.range n).countP p = n := by
  rw [List.countP_eq_length.2 (fun k hk => h k (List.mem_range.1 hk))]; simp
theorem count_none (p : Nat → Bool) (n : Nat) (h : ∀ k < n, p k = false) : (List.range n).countP p = 0 := by
  rw [List.countP_eq_zero]; intro k hk; simp [h k (List.mem_range.1 hk)]
/-- Each place comes as often as its weight says. -/
theorem fall_all (ws : List Int) (h : ∀ n ∈ ws, 1 ≤ n) (i : Nat) (hi : i < ws.length) : (fallL ws i (sumL ws).toNat : Int) = ws[i] := by
  induction ws generalizing i with
  | nil => simp at hi
  | cons w l ih =>
    have hw := h w (by simp)
    have hl : ∀ n ∈ l, 1 ≤ n := fun n hn => h n (by simp [hn])
    have hs := sum_nonneg l hl
    have e : (sumL (w :: l)).toNat = w.toNat + (sumL l).toNat := by rw [sum_cons]; omega
    unfold fallL
    rw [e, count_shift]
    have hlow : ∀ k : Nat, k < w.toNat → placeL (w :: l) (k : Int) = 0 := fun k hk => by unfold placeL; rw [if_pos (by omega)]
    have hhigh : ∀ k : Nat, placeL (w :: l) ((w.toNat + k : Nat) : Int) = placeL l (k : Int) + 1 := fun k => by
      rw [placeL, if_neg (by omega)]; congr 2; omega
    cases i with
    | zero =>
      rw [count_all _ _ (fun k hk => by simp [hlow k hk]), count_none _ _ (fun k _ => by show (placeL (w :: l) ((w.toNat + k : Nat) : Int) == 0) = false; rw [hhigh k]; rfl)]
      simp; omega
    | succ i =>
      rw [count_none _ _ (fun k hk => by simp [hlow k hk])]
      have := ih hl i (by simpa using hi)
      unfold fallL at this
      have e2 : (fun k : Nat => placeL (w :: l) ((w.toNat + k : Nat) : Int) == i + 1) = fun k : Nat => placeL l (k : Int) == i := by
        funext k; rw [hhigh k]; simp
      rw [e2]
      simpa using this
theorem fall_succ (ws : List Int) (i n : Nat) : fallL ws i (n + 1) = fallL ws i n + if placeL ws (n : Int) = i then 1 else 0 := by
  unfold fallL; rw [List.range_succ, List.countP_append, List.countP_singleton]; simp
theorem fall_le (ws : List Int) (i n : Nat) : fallL ws i n ≤ n := by
  unfold fallL; exact Nat.le_trans List.countP_le_length (by simp)
/-- The numbers from 0 up. -/
def upto (n : Nat) : List Int := (List.range n).map fun i : Nat => (i : Int)
theorem upto_succ (n : Nat) : upto (n + 1) = upto n ++ [(n : Int)] := by unfold upto; rw [List.range_succ]; simp
theorem upto_len (n : Nat) : (upto n).length = n := by simp [upto]
theorem upto_mem (n : Nat) : ∀ v ∈ upto n, 0 ≤ v ∧ v < (n : Int) := by
  intro v hv
  obtain ⟨i, hi, rfl⟩ := List.mem_map.1 hv
  have := List.mem_range.1 hi
  omega
theorem upto_get (n i : Nat) (h : i < n) : (upto n)[i]? = some (i : Int) := by unfold upto; simp [List.getElem?_range h]
theorem upto_ne (n : Nat) (h : 0 < n) : upto n ≠ [] := by intro e; have := upto_len n; rw [e] at this; simp at this; omega
/-- How often each place came. -/
def cntL (ws : List Int) (len u : Nat) : List Int := (List.range len).map fun i => (fallL ws i u : Int)
theorem cnt_len (ws : List Int) (len u : Nat) : (cntL ws len u).length = len := by simp [cntL]
theorem cnt_get (ws : List Int) (len u i : Nat) (h : i < len) : (cntL ws len u)[i]? = some (fallL ws i u : Int) := by unfold cntL; simp [List.getElem?_range h]
theorem cnt_zero (ws : List Int) (len : Nat) : cntL ws len 0 = List.replicate len 0 := by
  unfold cntL; apply List.ext_getElem <;> simp [fallL]
theorem cnt_succ (ws : List Int) (len u pl : Nat) (hp : placeL ws (u : Int) = pl) (h : pl < len) : cntL ws len (u + 1) = (cntL ws len u).set pl ((fallL ws pl u : Int) + 1) := by
  apply List.ext_getElem
  · simp [cntL]
  · intro i h1 h2
    simp only [cntL, List.getElem_map, List.getElem_range, List.getElem_set, fall_succ, hp]
    by_cases e : pl = i
    · subst e; simp
    · simp [e]
end Go.Proofs.YtnpaikdaogikcaaGreatDoor

/- Many draws by a script: each a pick of numbers. -/
namespace Go.Proofs.YtnpaikdaogikcaaGreatDoor
set_option maxRecDepth 100000
open Go.RowKit
set_option linter.unusedVariables false
set_option linter.unusedSimpArgs false

/-- A result: its number, its one draw. -/
def RdR (p : Nat → Prop) (w : World) (x : Int × Nat) (cs : List Value) : Prop := ∃ Z1 e1 Z2 e2 D dc, cs = (resC x.1 Z1 e1 Z2 e2 D dc).toList ∧ CellsFrom p w D [I64 x.2]
theorem movesR : Moves RdR := ⟨fun _ _ _ _ _ _ h r => by
  obtain ⟨Z1, e1, Z2, e2, D, dc, h1, h2⟩ := r
  exact ⟨Z1, e1, Z2, e2, D, dc, h1, h _ _ h2⟩⟩
/-- What is drawn by the numbers of a script. -/
def outL (ws ns : List Int) (l : List Int) : List (Int × Nat) := l.map fun v => (ns[placeL ws v]?.getD 0, placeL ws v)
theorem outL_take (ws ns l : List Int) (u : Nat) (h : u < l.length) : outL ws ns (l.take (u + 1)) = outL ws ns (l.take u) ++ [(ns[placeL ws (l[u]?.getD 0)]?.getD 0, placeL ws (l[u]?.getD 0))] := by
  unfold outL; rw [List.take_add_one, List.map_append]; simp [List.getElem?_eq_getElem h]
theorem info8Z : (Tryz.prog.info? 34).map (fun i => (i.zero, i.size, i.bytes)) = some (some (.agg zero8r), 8, 120) := by kernel_rfl
set_option maxHeartbeats 8000000 in
theorem manyN (gb sb : Nat) (l ws ns : List Int) (hlen : ns.length = ws.length) (w0 : World) (nm : Bs) (ts : List Value) (hT : RdT Any w0 (tPickN ws ns) ts) (most : Nat) (w : World) (hx : Ext w0 w) (hsb : w0.heap.size ≤ sb) (hg : Gram w0 gb nm ts) (hn : nm.length ≤ 1000)
    (h : Src w sb 0 l) (hs : 1 < most) (hm : most ≤ 65536) (m : Nat) (hml : m ≤ l.length) (hl : l.length ≤ 10000) (hv : ∀ v ∈ l, 0 ≤ v ∧ v < sumL ws) (hw : ∀ n ∈ ws, 1 ≤ n ∧ n ≤ 1000) (hws : ws.length ≤ 64) :
    Calls Tryz.prog 8 #[.pointer (some ⟨gb, 0, none⟩), sv nm, .iface 58 (.pointer (some ⟨sb, 0, none⟩)), .int .i64 most, .int .i64 1, .int .i64 m] w fun e w' => (∃ A c ics, e = .returned (.slice A m c) ∧ All2 (RdR (Fr w.heap.size) w') (outL ws ns (l.take m)) ics ∧ CellsFrom (Fr w.heap.size) w' A ics.flatten) ∧ Keeps (fun b => b = sb) w w' := by
  refine of_post fun R hR => ?_
  have HDR := Lib.hid (fun (u : Nat) (hu : u < l.length) (W : World) (hx2 : Ext w0 W) (hS : Src W sb u l) => drawN gb sb u l ws ns hlen w0 nm ts hT most W hx2 hsb (hg.on hx2) hn hS hs hm hu hl (hv _ (List.getElem_mem hu)).1 (hv _ (List.getElem_mem hu)).2 hw hws _ rfl (by rw [List.getElem?_eq_getElem hu]; exact place_lt ws _ (hv _ (List.getElem_mem hu)).1 (hv _ (List.getElem_mem hu)).2))
  have HX := Lib.hid hx
  have HSB := Lib.hid hsb
  have HS := Lib.hid h
  have HML := Lib.hid hml
  have HLL := Lib.hid hl
  have g1 : (m : Int) ≤ 10000 := by omega
  have g2 : (0 : Int) ≤ m := by omega
  clear hT hx hsb hg hn h hs hm hml hl hv hw hws
  have HBS : Hid (sb < w.heap.size) := Lib.hid HS.out.lt
  have HOL : Hid (∀ u, u ≤ m → (outL ws ns (l.take u)).length = u) := Lib.hid fun u hu => by have := HML.out; simp [outL]; omega
  go_enter Tryz.func8, Tryz.ntmps8
  go_wp2_with fail
  go_loopw [18, 13] (fun iv ov wr => ∃ (u : Nat) (ics : List (List Value)), u ≤ m ∧ iv = .int .i64 u ∧ Hid (RowOf RdR 34 8 w.heap.size wr ov (outL ws ns (l.take u)) ics) ∧ Hid (Keeps (fun b => b = sb) w wr) ∧ Hid (Src wr sb u l)) (fun iv _ _ => m - (intOf iv).toNat)
  case atStart => exact ⟨0, [], Nat.zero_le _, rfl, Lib.hid (RowOf.nil _ _ _ _ _), Lib.hid (Keeps.refl _ _), HS⟩
  case round =>
    obtain ⟨u, ics, hu, rfl, HRW, HK, HSU⟩ := hrel
    obtain ⟨A, c, rfl⟩ := HRW.out.form
    rw [HOL.out u hu] at *
    by_cases hlt : u < m
    · have hul : u < l.length := by have := HML.out; omega
      have HX1 : Hid (Ext w0 wr) := Lib.hid (Keeps.below HX.out HK.out fun k hk e => by have h1 : k = sb := e; have := HSB.out; omega)
      have HD1 := Lib.hid (HDR.out u hul wr HX1.out HSU.out)
      have HOU := Lib.hid (outL_take ws ns l u hul)
      have HLE : Hid (u ≤ 10000) := Lib.hid (by have := HLL.out; omega)
      have HLN : Hid ((outL ws ns (l.take u)).length ≤ 1000000) := Lib.hid (by rw [HOL.out u hu]; have := HLE.out; omega)
      generalize hx : (ns[placeL ws (l[u]?.getD 0)]?.getD 0) = x at *
      generalize hp : placeL ws (l[u]?.getD 0) = pl at *
      have HXX := Lib.hid hx
      have HPP := Lib.hid hp
      clear hx hp
      have g3 : (u : Int) < m := by omega
      clear hlt
      go_upto_region 6 with ((go_at_call 6; refine HD1.out.mono ?_; rintro e w1 ⟨⟨Z1, e1, Z2, e2, D, dc, rfl, hD, hb⟩, hk, hs⟩; have HK1 := Lib.hid hk; have HS1 := Lib.hid hs; have HXL := Lib.hid (ext_al w1 (.cells (resC x Z1 e1 Z2 e2 D dc) 34)); have HRW1 := Lib.hid ((HRW.out.keeps movesR hk (fun b hb e => by have h1 : b = sb := e; have := HBS.out; omega)).on movesR HXL.out); have HRD1 : Hid (RdR (fun b => w.heap.size ≤ b ∧ (Value.slice A u c).ownBlock ≠ some b) (w1.alloc (.cells (resC x Z1 e1 Z2 e2 D dc) 34)) (x, pl) (resC x Z1 e1 Z2 e2 D dc).toList) := Lib.hid ⟨Z1, e1, Z2, e2, D, dc, rfl, fun hn => by
            obtain ⟨b, o, e, hc⟩ := hD hn
            have h1 := hb b o e
            refine ⟨b, o, e, ⟨?_, fun e2 => ?_⟩, fun k v hv => HXL.out.cell' (hc k v hv)⟩
            · have := HK.out.size; omega
            · have := (HRW.out.own.lt b e2).2; omega⟩; have HON : Hid (∀ u ∈ (resC x Z1 e1 Z2 e2 D dc).toList, u.oneCell' = true) := Lib.hid (by simp [Value.oneCell']); have hsz : w.heap.size ≤ (w1.alloc (.cells (resC x Z1 e1 Z2 e2 D dc) 34)).heap.size := Nat.le_trans HK.out.size (Nat.le_trans HK1.out.size HXL.out.size); clear hD hb hk hs))
      go_wp2_with (at_builtin; go_must (refine wpList_grow movesR rfl _ _ 41 rfl (.agg zero8r) 120 Tryz.underlying41 info8Z rfl (by decide) [_, _, _, _, _, _, _, _] rfl (x, pl) rfl HRW1 HRD1 HON.out (by rw [World.size_alloc]; rfl) HLN.out (by decide) hsz ?_); intro v2 wE HRE HPU)
      go_roundw
      case rel =>
        have HG : Hid (Keeps (fun b => b = sb ∨ w.heap.size ≤ b) w wE) := Lib.hid (((HK.out.trans HK1.out).mono fun k _ e => .inl e).trans ((Keeps.of_ext HXL.out).trans ((Keeps.of_grown HPU.out.grown).mono fun k _ e => .inr (HRW1.out.own.lt k e).1)))
        have hrow := HRE.out
        rw [← HOU.out] at hrow
        refine ⟨u + 1, _, by omega, by go_num, Lib.hid hrow, Lib.hid (HG.out.mono fun k hk e => e.elim id fun h => by omega), Lib.hid ((HS1.out.on HXL.out).keeps (Keeps.of_grown HPU.out.grown) fun b hb e => by have := (HRW1.out.own.lt b e).1; have := HBS.out; omega)⟩
      case measure => simp [intOf]; omega
    · obtain rfl : u = m := by omega
      go_wp2_with fail
      exact hR.out _ _ ⟨⟨A, c, ics, rfl, HRW.out.reads movesR, by have h := HRW.out.own; rw [HOL.out _ (Nat.le_refl _)] at h; exact cellsFrom_own h⟩, HK.out⟩
end Go.Proofs.YtnpaikdaogikcaaGreatDoor
