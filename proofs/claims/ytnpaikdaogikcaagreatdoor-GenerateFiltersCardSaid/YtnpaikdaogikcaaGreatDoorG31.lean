/- A run by a chooser: a pick of numbers. -/
import Derived.Test.YtnpaikdaogikcaaGreatDoorG30
import Derived.Test.YtnpaikdaogikcaaGreatDoorG18

namespace Go.Proofs.YtnpaikdaogikcaaGreatDoor
set_option maxRecDepth 100000
open Go.RowKit
set_option linter.unusedVariables false
set_option linter.unusedSimpArgs false

abbrev zero8r : Array Value := #[.int .i64 0, .bool false, .int .i64 0, .string ⟨#[]⟩, .slice none 0 0, .slice none 0 0, .slice none 0 0, .int .i64 0]
theorem info8R : (Tryz.prog.info? 34).map (·.size) = some 8 := by kernel_rfl
theorem sto_hideR {x y : Value} : Instr.storeAt 34 x y = storeHid 34 x y := rfl
/-- A result of a number, one draw, two steps. -/
abbrev resC (n : Int) (Z1 : Option Addr) (e1 : Nat) (Z2 : Option Addr) (e2 : Nat) (D : Option Addr) (dc : Nat) : Array Value := #[.int .i64 2, .bool false, .int .i64 n, .string ⟨#[]⟩, .slice Z1 0 e1, .slice Z2 0 e2, .slice D 1 dc, .int .i64 2]
theorem own_nilB (base : Nat) (W : World) (e : TypeId) : W.ownsRow base e 1 (.slice none 0 0) 0 [] := ⟨rfl, .inl ⟨rfl, rfl⟩⟩
theorem mac0 (W : World) (o : Obj) (gb sb u : Nat) (l : List Int) (most : Nat) (hs : Src W sb u l) :
    Mac ((W.alloc o).alloc (.cells #[.pointer (some ⟨gb, 0, none⟩), srcV sb, .slice none 0 0, .int .i64 0, .int .i64 most, .int .i64 0] 89)) (W.heap.size + 1) gb sb u l (.slice none 0 0) [] 0 most := by
  have h1 : (W.alloc o).heap.size = W.heap.size + 1 := World.size_alloc _ _
  refine ⟨?_, ?_, (hs.on (ext_al W o)).on (ext_al _ _), by have := hs.lt; omega⟩
  · have := Blk.new (W.alloc o) #[.pointer (some ⟨gb, 0, none⟩), srcV sb, .slice none 0 0, .int .i64 0, .int .i64 most, .int .i64 0] 89
    rw [h1] at this
    exact this
  · exact own_nilB _ _ _
attribute [local go_sem ↓ 2000] sto_hideR
set_option maxHeartbeats 8000000 in
theorem repRun (gb sb u : Nat) (l ws ns : List Int) (hlen : ns.length = ws.length) (w0 : World) (nm : Bs) (ts : List Value) (hT : RdT Any w0 (tPickN ws ns) ts) (most : Nat) (w : World) (hx : Ext w0 w) (hsb : w0.heap.size ≤ sb) (hg : Gram w gb nm ts) (hn : nm.length ≤ 1000)
    (h : Src w sb u l) (hs : 1 < most) (hm : most ≤ 65536) (hu : u < l.length) (hl : l.length ≤ 10000) (h0 : 0 ≤ l[u]) (hlt : l[u] < sumL ws) (hw : ∀ n ∈ ws, 1 ≤ n ∧ n ≤ 1000) (hws : ws.length ≤ 64) (pl : Nat) (hpl : pl = placeL ws (l[u]?.getD 0)) (hp : pl < ws.length) :
    Calls Tryz.prog 12 #[.pointer (some ⟨gb, 0, none⟩), sv nm, srcV sb, .int .i64 most] w fun e w' => (∃ Z1 e1 Z2 e2 D dc, e = .returned (.tuple #[.agg (resC (ns[pl]?.getD 0) Z1 e1 Z2 e2 D dc), .int .i64 0]) ∧ CellsAt w' D [I64 pl] ∧ ∀ b o, D = some ⟨b, o, none⟩ → w.heap.size ≤ b) ∧ Keeps (fun b => b = sb) w w' ∧ Src w' sb (u + 1) l := by
  refine of_post fun R hR => ?_
  have k1 : (0 : Int) ≤ most := by omega
  have k2 : ¬ (65536 : Int) < most := by omega
  have HFD := Lib.hid (fun W (hx2 : Ext w W) => findT gb nm (tPickN ws ns) Any w0 ts hT W (hg.on hx2) hn)
  obtain ⟨x0, x1, x2, x3, x4, x5, x6, x7, x8, x9, y0, y1, y2, y3, y4, y5, y6, y7, y8, y9, z0, z1, z2, z3, z4, z5, z6, rfl⟩ := RdT.thirteen hT
  have HRN := Lib.hid (fun (mk : Nat) (W : World) (hx2 : Ext w W) (hm2 : Mac W mk gb sb u l (.slice none 0 0) [] 0 most) => run_pickT mk gb sb u l ws ns hlen (.slice none 0 0) [] 0 most w0 _ hT W (hx.trans' hx2) hsb hm2 (by omega) hm hu hl h0 hlt hw hws (by simp) pl hpl hp)
  have HS := Lib.hid h
  have HPL := Lib.hid hpl
  clear hT hx hsb hg hn h hs hm hu h0 hlt hw hws hpl hp
  go_enter Tryz.func12, Tryz.ntmps12
  go_wp2_with (first
    | (go_at_call 11; refine (HFD.out _ ((Ext.refl' w).alloc' _)).mono ?_; rintro e w1 ⟨rfl, hx⟩; have HX1 := Lib.hid (((Ext.refl' w).alloc' _).trans' hx); have HR1 := Lib.hid ((Blk.new w zero8r 34).on hx); clear hx)
    | (go_at_call 23; refine (HRN.out (w1.heap.size + 1) _ (HX1.out.trans' ((ext_al w1 _).trans' (ext_al _ _))) (mac0 w1 _ gb sb u l most (HS.out.on HX1.out))).mono ?_; rintro e w3 ⟨⟨Y1, d1, Y2, d2, rfl⟩, hk, dv', hg, hm3⟩; obtain ⟨D, dc, rfl⟩ := own_form hm3.own; have HM3 := Lib.hid hm3; have HG3 := Lib.hid hg; have HK3 := Lib.hid hk; have HB3 : Hid (Blk w3 (w1.heap.size + 1) #[.pointer (some ⟨gb, 0, none⟩), srcV sb, .slice D 1 dc, .int .i64 2, .int .i64 most, .int .i64 0] 89) := Lib.hid hm3.blk; have hc3 := (HB3.out.on (ext_al w3 (.cells #[.int .i64 2, .bool false, .int .i64 (ns[pl]?.getD 0), .string ⟨#[]⟩, .slice Y1 0 d1, .slice Y2 0 d2] 32))).cell; clear hm3 hg hk))
  have HV4 := Lib.hid (Blk.new w3 #[.int .i64 2, .bool false, .int .i64 (ns[pl]?.getD 0), .string ⟨#[]⟩, .slice Y1 0 d1, .slice Y2 0 d2] 32)
  have HX4 := Lib.hid (ext_al w3 (.cells #[.int .i64 2, .bool false, .int .i64 (ns[pl]?.getD 0), .string ⟨#[]⟩, .slice Y1 0 d1, .slice Y2 0 d2] 32))
  generalize hw4 : w3.alloc (.cells #[.int .i64 2, .bool false, .int .i64 (ns[pl]?.getD 0), .string ⟨#[]⟩, .slice Y1 0 d1, .slice Y2 0 d2] 32) = w4 at *
  have HXA := Lib.hid ((ext_al w1 (.cells #[.int .i64 x0, .string x1, .int .i64 x2, .bool x3, .int .i64 x4, .string x5, .slice x6 x7 x8, .slice x9 y0 y1, .slice y2 y3 y4, .slice y5 y6 y7, .slice y8 y9 z0, .slice z1 z2 z3, .slice z4 z5 z6] 51)).trans' (ext_al _ (.cells #[.pointer (some ⟨gb, 0, none⟩), srcV sb, .slice none 0 0, .int .i64 0, .int .i64 most, .int .i64 0] 89)))
  have HSB : Hid (sb < w.heap.size) := Lib.hid HS.out.lt
  have HKW : Hid (Keeps (fun b => b = sb ∨ w1.heap.size ≤ b) w1 w4) := Lib.hid (((Keeps.of_ext HXA.out).trans (HK3.out.mono fun x _ e => by
    rcases e with e | e | e
    · exact .inl e
    · exact .inr (by have h1 : x = w1.heap.size + 1 := e; show w1.heap.size ≤ x; omega)
    · cases e)).trans (Keeps.of_ext HX4.out))
  have HW1 : Hid (w.heap.size < w1.heap.size) := Lib.hid HR1.out.lt
  have HR4 : Hid (Blk w4 w.heap.size zero8r 34) := Lib.hid (HR1.out.keeps HKW.out (fun e => by have := HSB.out; have := HW1.out; rcases e with e | e <;> omega))
  have HB4 := Lib.hid (HB3.out.on HX4.out)
  have HD4 : Hid (w1.heap.size + 1 < w3.heap.size) := Lib.hid HB3.out.lt
  have HS4 : Hid (∀ X, Keeps (fun b => b = w.heap.size) w4 X → X.cell? ⟨w1.heap.size + 1, 2, none⟩ = some (.slice D 1 dc) ∧ X.cell? ⟨w1.heap.size + 1, 3, none⟩ = some (.int .i64 2) ∧ X.cell? ⟨w3.heap.size, 0, none⟩ = some (.int .i64 2) ∧ X.cell? ⟨w3.heap.size, 1, none⟩ = some (.bool false) ∧ X.cell? ⟨w3.heap.size, 2, none⟩ = some (.int .i64 (ns[pl]?.getD 0)) ∧ X.cell? ⟨w3.heap.size, 3, none⟩ = some (.string ⟨#[]⟩) ∧ X.cell? ⟨w3.heap.size, 4, none⟩ = some (.slice Y1 0 d1) ∧ X.cell? ⟨w3.heap.size, 5, none⟩ = some (.slice Y2 0 d2)) := Lib.hid fun X hk => by
    have h1 := (HB4.out.keeps hk (by have := HW1.out; omega)).cell
    have h2 := (HV4.out.keeps hk (by have := HW1.out; have := HD4.out; omega)).cell
    exact ⟨h1 2, h1 3, h2 0, h2 1, h2 2, h2 3, h2 4, h2 5⟩
  have hcd := HS4.out w4.drew (Keeps.of_ext ((Ext.refl' w4).drewN' 1))
  go_region_held3 (fun X => X.cell? ⟨w1.heap.size + 1, 2, none⟩ = some (.slice D 1 dc) ∧ X.cell? ⟨w1.heap.size + 1, 3, none⟩ = some (.int .i64 2) ∧ X.cell? ⟨w3.heap.size, 0, none⟩ = some (.int .i64 2) ∧ X.cell? ⟨w3.heap.size, 1, none⟩ = some (.bool false) ∧ X.cell? ⟨w3.heap.size, 2, none⟩ = some (.int .i64 (ns[pl]?.getD 0)) ∧ X.cell? ⟨w3.heap.size, 3, none⟩ = some (.string ⟨#[]⟩) ∧ X.cell? ⟨w3.heap.size, 4, none⟩ = some (.slice Y1 0 d1) ∧ X.cell? ⟨w3.heap.size, 5, none⟩ = some (.slice Y2 0 d2)) (first | exact hcd | exact hce | exact hcf | go_keep) ((first
    | (go_at_call 24; refine (copyN _ _ _ _ _ _).mono ?_; rintro e w5 ⟨⟨Z1, e1, Z2, e2, rfl⟩, hx⟩; have HX5 := Lib.hid (((Ext.refl' w4).drewN' 1).trans' hx); have hce := HS4.out w5 (Keeps.of_ext HX5.out); have HR5 := Lib.hid (HR4.out.on HX5.out); clear hx)
    | (refine upon_storeG _ 0 zero8r (resC (ns[pl]?.getD 0) Z1 e1 Z2 e2 D dc) HR5 rfl info8R (by simp) rfl (by simp [Value.oneCell']) ?_; intro w6 HR6 HK6; have hcf := HS4.out w6 ((Keeps.of_ext HX5.out).trans HK6.out))))
  all_goals
    go_wp2_with fail
    have HK36 : Hid (Keeps (fun b => b = w.heap.size) w3 w6) := Lib.hid ((Keeps.of_ext (HX4.out.trans' HX5.out)).trans HK6.out)
    have hob : ∀ b o, D = some ⟨b, o, none⟩ → w1.heap.size + 1 + 1 ≤ b := fun b o e => (HM3.out.own.lt b (by rw [e]; rfl)).1
    refine bodyPost_ret (results_cell_1 Tryz.results12 HR6.out rfl _ Tryz.underlying34 rfl info8R) rfl (hR.out _ _ ⟨⟨Z1, e1, Z2, e2, D, dc, rfl, ?_, ?_⟩, ?_, ?_⟩)
    · exact cellsAt_of_own (HK36.out.own HM3.out.own (fun g hg e => by have h1 := (HM3.out.own.lt g hg).1; have h2 : g = w.heap.size := e; have := HW1.out; omega))
    · intro b o e
      have := hob b o e
      have := HW1.out
      omega
    · exact ((((Keeps.of_ext HX1.out).trans (HKW.out.mono (S' := fun b => b = sb ∨ w.heap.size ≤ b) fun x _ e => e.imp id fun e => by have := HW1.out; omega)).trans (Keeps.of_ext HX5.out)).trans (HK6.out.mono fun x _ e => .inr (by have h1 : x = w.heap.size := e; omega))).mono fun x hx e => e.elim id fun e => by omega
    · exact HM3.out.src.keeps HK36.out fun b hb e => by have h1 : b = w.heap.size := e; have := HSB.out; omega
end Go.Proofs.YtnpaikdaogikcaaGreatDoor

/- GenerateFilters: a run by a chooser. -/
namespace Go.Proofs.YtnpaikdaogikcaaGreatDoor
set_option maxRecDepth 100000
open Go.RowKit
set_option linter.unusedVariables false
set_option linter.unusedSimpArgs false

attribute [local go_sem ↓ 2000] sto_hideR
set_option maxHeartbeats 8000000 in
theorem repRunF_yes (gb sb u : Nat) (l : List Int) (w0 : World) (nm : Bs) (ts : List Value) (hT : RdT Any w0 tFilter ts) (most : Nat) (w : World) (hx : Ext w0 w) (hsb : w0.heap.size ≤ sb) (hg : Gram w gb nm ts) (hn : nm.length ≤ 1000)
    (h : Src w sb u l) (hs : 1 < most) (hm : most ≤ 65536) (hl : l.length ≤ 10000) (hu : u ≤ 10000) (hr : ∀ x ∈ l, 0 ≤ x ∧ x < 100) (v : Int) (hv : v = toldAt l u) (hpv : passes v = true) :
    Calls Tryz.prog 12 #[.pointer (some ⟨gb, 0, none⟩), sv nm, srcV sb, .int .i64 most] w fun e w' => (∃ Z1 e1 Z2 e2 D dc, e = .returned (.tuple #[.agg (resC v Z1 e1 Z2 e2 D dc), .int .i64 0])) ∧ Keeps (fun b => b = sb) w w' ∧ Src w' sb (u + 1) l := by
  refine of_post fun R hR => ?_
  have k1 : (0 : Int) ≤ most := by omega
  have k2 : ¬ (65536 : Int) < most := by omega
  have HFD := Lib.hid (fun W (hx2 : Ext w W) => findT gb nm tFilter Any w0 ts hT W (hg.on hx2) hn)
  obtain ⟨x0, x1, x2, x3, x4, x5, x6, x7, x8, x9, y0, y1, y2, y3, y4, y5, y6, y7, y8, y9, z0, z1, z2, z3, z4, z5, z6, rfl⟩ := RdT.thirteen hT
  have HRN := Lib.hid (fun (mk : Nat) (W : World) (hx2 : Ext w W) (hm2 : Mac W mk gb sb u l (.slice none 0 0) [] 0 most) => run_filterT mk gb sb u l (.slice none 0 0) [] 0 most w0 _ hT W (hx.trans' hx2) hsb hm2 (by omega) hm hl hu hr (by simp))
  have HS := Lib.hid h
  rw [← hv] at HRN
  have HPV := Lib.hid hpv
  clear hT hx hsb hg hn h hs hm hu hr hpv hv
  go_enter Tryz.func12, Tryz.ntmps12
  go_wp2_with (first
    | (go_at_call 11; refine (HFD.out _ ((Ext.refl' w).alloc' _)).mono ?_; rintro e w1 ⟨rfl, hx⟩; have HX1 := Lib.hid (((Ext.refl' w).alloc' _).trans' hx); have HR1 := Lib.hid ((Blk.new w zero8r 34).on hx); clear hx)
    | (go_at_call 23; refine (HRN.out (w1.heap.size + 1) _ (HX1.out.trans' ((ext_al w1 _).trans' (ext_al _ _))) (mac0 w1 _ gb sb u l most (HS.out.on HX1.out))).mono ?_; rintro e w3 ⟨hk, dv', hg, hps⟩; obtain ⟨rfl, hm3⟩ := hps.1 HPV.out; obtain ⟨D, dc, rfl⟩ := own_form hm3.own; have HM3 := Lib.hid hm3; have HG3 := Lib.hid hg; have HK3 := Lib.hid hk; have HB3 : Hid (Blk w3 (w1.heap.size + 1) #[.pointer (some ⟨gb, 0, none⟩), srcV sb, .slice D 1 dc, .int .i64 2, .int .i64 most, .int .i64 0] 89) := Lib.hid hm3.blk; have hc3 := (HB3.out.on (ext_al w3 (.cells #[.int .i64 2, .bool false, .int .i64 v, .string ⟨#[]⟩, .slice none 0 0, .slice none 0 0] 32))).cell; clear hm3 hg hk))
  have HV4 := Lib.hid (Blk.new w3 #[.int .i64 2, .bool false, .int .i64 v, .string ⟨#[]⟩, .slice none 0 0, .slice none 0 0] 32)
  have HX4 := Lib.hid (ext_al w3 (.cells #[.int .i64 2, .bool false, .int .i64 v, .string ⟨#[]⟩, .slice none 0 0, .slice none 0 0] 32))
  generalize hw4 : w3.alloc (.cells #[.int .i64 2, .bool false, .int .i64 v, .string ⟨#[]⟩, .slice none 0 0, .slice none 0 0] 32) = w4 at *
  have HXA := Lib.hid ((ext_al w1 (.cells #[.int .i64 x0, .string x1, .int .i64 x2, .bool x3, .int .i64 x4, .string x5, .slice x6 x7 x8, .slice x9 y0 y1, .slice y2 y3 y4, .slice y5 y6 y7, .slice y8 y9 z0, .slice z1 z2 z3, .slice z4 z5 z6] 51)).trans' (ext_al _ (.cells #[.pointer (some ⟨gb, 0, none⟩), srcV sb, .slice none 0 0, .int .i64 0, .int .i64 most, .int .i64 0] 89)))
  have HSB : Hid (sb < w.heap.size) := Lib.hid HS.out.lt
  have HKW : Hid (Keeps (fun b => b = sb ∨ w1.heap.size ≤ b) w1 w4) := Lib.hid (((Keeps.of_ext HXA.out).trans (HK3.out.mono fun x _ e => by
    rcases e with e | e | e
    · exact .inl e
    · exact .inr (by have h1 : x = w1.heap.size + 1 := e; show w1.heap.size ≤ x; omega)
    · cases e)).trans (Keeps.of_ext HX4.out))
  have HW1 : Hid (w.heap.size < w1.heap.size) := Lib.hid HR1.out.lt
  have HR4 : Hid (Blk w4 w.heap.size zero8r 34) := Lib.hid (HR1.out.keeps HKW.out (fun e => by have := HSB.out; have := HW1.out; rcases e with e | e <;> omega))
  have HB4 := Lib.hid (HB3.out.on HX4.out)
  have HD4 : Hid (w1.heap.size + 1 < w3.heap.size) := Lib.hid HB3.out.lt
  have HS4 : Hid (∀ X, Keeps (fun b => b = w.heap.size) w4 X → X.cell? ⟨w1.heap.size + 1, 2, none⟩ = some (.slice D 1 dc) ∧ X.cell? ⟨w1.heap.size + 1, 3, none⟩ = some (.int .i64 2) ∧ X.cell? ⟨w3.heap.size, 0, none⟩ = some (.int .i64 2) ∧ X.cell? ⟨w3.heap.size, 1, none⟩ = some (.bool false) ∧ X.cell? ⟨w3.heap.size, 2, none⟩ = some (.int .i64 v) ∧ X.cell? ⟨w3.heap.size, 3, none⟩ = some (.string ⟨#[]⟩) ∧ X.cell? ⟨w3.heap.size, 4, none⟩ = some (.slice none 0 0) ∧ X.cell? ⟨w3.heap.size, 5, none⟩ = some (.slice none 0 0)) := Lib.hid fun X hk => by
    have h1 := (HB4.out.keeps hk (by have := HW1.out; omega)).cell
    have h2 := (HV4.out.keeps hk (by have := HW1.out; have := HD4.out; omega)).cell
    exact ⟨h1 2, h1 3, h2 0, h2 1, h2 2, h2 3, h2 4, h2 5⟩
  have hcd := HS4.out w4.drew (Keeps.of_ext ((Ext.refl' w4).drewN' 1))
  go_region_held3 (fun X => X.cell? ⟨w1.heap.size + 1, 2, none⟩ = some (.slice D 1 dc) ∧ X.cell? ⟨w1.heap.size + 1, 3, none⟩ = some (.int .i64 2) ∧ X.cell? ⟨w3.heap.size, 0, none⟩ = some (.int .i64 2) ∧ X.cell? ⟨w3.heap.size, 1, none⟩ = some (.bool false) ∧ X.cell? ⟨w3.heap.size, 2, none⟩ = some (.int .i64 v) ∧ X.cell? ⟨w3.heap.size, 3, none⟩ = some (.string ⟨#[]⟩) ∧ X.cell? ⟨w3.heap.size, 4, none⟩ = some (.slice none 0 0) ∧ X.cell? ⟨w3.heap.size, 5, none⟩ = some (.slice none 0 0)) (first | exact hcd | exact hce | exact hcf | go_keep) ((first
    | (go_at_call 24; refine (copyN _ _ _ _ _ _).mono ?_; rintro e w5 ⟨⟨Z1, e1, Z2, e2, rfl⟩, hx⟩; have HX5 := Lib.hid (((Ext.refl' w4).drewN' 1).trans' hx); have hce := HS4.out w5 (Keeps.of_ext HX5.out); have HR5 := Lib.hid (HR4.out.on HX5.out); clear hx)
    | (refine upon_storeG _ 0 zero8r (resC v Z1 e1 Z2 e2 D dc) HR5 rfl info8R (by simp) rfl (by simp [Value.oneCell']) ?_; intro w6 HR6 HK6; have hcf := HS4.out w6 ((Keeps.of_ext HX5.out).trans HK6.out))))
  all_goals
    go_wp2_with fail
    have HK36 : Hid (Keeps (fun b => b = w.heap.size) w3 w6) := Lib.hid ((Keeps.of_ext (HX4.out.trans' HX5.out)).trans HK6.out)
    have hob : ∀ b o, D = some ⟨b, o, none⟩ → w1.heap.size + 1 + 1 ≤ b := fun b o e => (HM3.out.own.lt b (by rw [e]; rfl)).1
    refine bodyPost_ret (results_cell_1 Tryz.results12 HR6.out rfl _ Tryz.underlying34 rfl info8R) rfl (hR.out _ _ ⟨⟨Z1, e1, Z2, e2, D, dc, rfl⟩, ?_, ?_⟩)
    · exact ((((Keeps.of_ext HX1.out).trans (HKW.out.mono (S' := fun b => b = sb ∨ w.heap.size ≤ b) fun x _ e => e.imp id fun e => by have := HW1.out; omega)).trans (Keeps.of_ext HX5.out)).trans (HK6.out.mono fun x _ e => .inr (by have h1 : x = w.heap.size := e; omega))).mono fun x hx e => e.elim id fun e => by omega
    · exact HM3.out.src.keeps HK36.out fun b hb e => by have h1 : b = w.heap.size := e; have := HSB.out; omega
set_option maxHeartbeats 8000000 in
theorem repRunF_no (gb sb u : Nat) (l : List Int) (w0 : World) (nm : Bs) (ts : List Value) (hT : RdT Any w0 tFilter ts) (most : Nat) (w : World) (hx : Ext w0 w) (hsb : w0.heap.size ≤ sb) (hg : Gram w gb nm ts) (hn : nm.length ≤ 1000)
    (h : Src w sb u l) (hs : 1 < most) (hm : most ≤ 65536) (hl : l.length ≤ 10000) (hu : u ≤ 10000) (hr : ∀ x ∈ l, 0 ≤ x ∧ x < 100) (v : Int) (hv : v = toldAt l u) (hpv : passes v = false) :
    Calls Tryz.prog 12 #[.pointer (some ⟨gb, 0, none⟩), sv nm, srcV sb, .int .i64 most] w fun e w' => e = .returned (.tuple #[.agg zero8r, .int .i64 20]) ∧ Keeps (fun b => b = sb) w w' ∧ Src w' sb (u + 1) l := by
  refine of_post fun R hR => ?_
  have k1 : (0 : Int) ≤ most := by omega
  have k2 : ¬ (65536 : Int) < most := by omega
  have HFD := Lib.hid (fun W (hx2 : Ext w W) => findT gb nm tFilter Any w0 ts hT W (hg.on hx2) hn)
  obtain ⟨x0, x1, x2, x3, x4, x5, x6, x7, x8, x9, y0, y1, y2, y3, y4, y5, y6, y7, y8, y9, z0, z1, z2, z3, z4, z5, z6, rfl⟩ := RdT.thirteen hT
  have HRN := Lib.hid (fun (mk : Nat) (W : World) (hx2 : Ext w W) (hm2 : Mac W mk gb sb u l (.slice none 0 0) [] 0 most) => run_filterT mk gb sb u l (.slice none 0 0) [] 0 most w0 _ hT W (hx.trans' hx2) hsb hm2 (by omega) hm hl hu hr (by simp))
  have HS := Lib.hid h
  rw [← hv] at HRN
  have HPV := Lib.hid hpv
  clear hT hx hsb hg hn h hs hm hu hr hpv hv
  go_enter Tryz.func12, Tryz.ntmps12
  go_wp2_with (first
    | (go_at_call 11; refine (HFD.out _ ((Ext.refl' w).alloc' _)).mono ?_; rintro e w1 ⟨rfl, hx⟩; have HX1 := Lib.hid (((Ext.refl' w).alloc' _).trans' hx); have HR1 := Lib.hid ((Blk.new w zero8r 34).on hx); clear hx)
    | (go_at_call 23; refine (HRN.out (w1.heap.size + 1) _ (HX1.out.trans' ((ext_al w1 _).trans' (ext_al _ _))) (mac0 w1 _ gb sb u l most (HS.out.on HX1.out))).mono ?_; rintro e w3 ⟨hk, dv', hg, hps⟩; obtain ⟨rfl, hm3⟩ := hps.2 HPV.out; have HM3 := Lib.hid hm3; have HG3 := Lib.hid hg; have HK3 := Lib.hid hk; have HB3 : Hid (Blk w3 (w1.heap.size + 1) #[.pointer (some ⟨gb, 0, none⟩), srcV sb, dv', .int .i64 2, .int .i64 most, .int .i64 20] 89) := Lib.hid hm3.blk; have hc3 := (HB3.out.on (ext_al w3 (.cells zero6a 32))).cell; clear hm3 hg hk))
  have HV4 := Lib.hid (Blk.new w3 zero6a 32)
  have HX4 := Lib.hid (ext_al w3 (.cells zero6a 32))
  generalize hw4 : w3.alloc (.cells zero6a 32) = w4 at *
  have HXA := Lib.hid ((ext_al w1 (.cells #[.int .i64 x0, .string x1, .int .i64 x2, .bool x3, .int .i64 x4, .string x5, .slice x6 x7 x8, .slice x9 y0 y1, .slice y2 y3 y4, .slice y5 y6 y7, .slice y8 y9 z0, .slice z1 z2 z3, .slice z4 z5 z6] 51)).trans' (ext_al _ (.cells #[.pointer (some ⟨gb, 0, none⟩), srcV sb, .slice none 0 0, .int .i64 0, .int .i64 most, .int .i64 0] 89)))
  have HSB : Hid (sb < w.heap.size) := Lib.hid HS.out.lt
  have HKW : Hid (Keeps (fun b => b = sb ∨ w1.heap.size ≤ b) w1 w4) := Lib.hid (((Keeps.of_ext HXA.out).trans (HK3.out.mono fun x _ e => by
    rcases e with e | e | e
    · exact .inl e
    · exact .inr (by have h1 : x = w1.heap.size + 1 := e; show w1.heap.size ≤ x; omega)
    · cases e)).trans (Keeps.of_ext HX4.out))
  have HW1 : Hid (w.heap.size < w1.heap.size) := Lib.hid HR1.out.lt
  have HR4 : Hid (Blk w4 w.heap.size zero8r 34) := Lib.hid (HR1.out.keeps HKW.out (fun e => by have := HSB.out; have := HW1.out; rcases e with e | e <;> omega))
  have HB4 := Lib.hid (HB3.out.on HX4.out)
  have HD4 : Hid (w1.heap.size + 1 < w3.heap.size) := Lib.hid HB3.out.lt
  have HS4 : Hid (∀ X, Keeps (fun b => b = w.heap.size) w4 X → X.cell? ⟨w1.heap.size + 1, 5, none⟩ = some (.int .i64 20)) := Lib.hid fun X hk => (HB4.out.keeps hk (by have := HW1.out; omega)).cell 5
  have hcd := HS4.out w4.drew (Keeps.of_ext ((Ext.refl' w4).drewN' 1))
  go_region_held3 (fun X => X.cell? ⟨w1.heap.size + 1, 5, none⟩ = some (.int .i64 20)) (first | exact hcd | exact hcf | go_keep) ((refine upon_storeG _ 0 zero8r zero8r (Lib.hid (HR4.out.on ((Ext.refl' w4).drewN' 1))) rfl info8R (by simp) rfl (by simp [Value.oneCell']) ?_; intro w6 HR6 HK6; have hcf := HS4.out w6 ((Keeps.of_ext ((Ext.refl' w4).drewN' 1)).trans HK6.out)))
  all_goals
    go_wp2_with fail
    have HK36 : Hid (Keeps (fun b => b = w.heap.size) w3 w6) := Lib.hid ((Keeps.of_ext (HX4.out.trans' ((Ext.refl' w4).drewN' 1))).trans HK6.out)
    refine bodyPost_ret (results_cell_1 Tryz.results12 HR6.out rfl _ Tryz.underlying34 rfl info8R) rfl (hR.out _ _ ⟨rfl, ?_, ?_⟩)
    · exact ((((Keeps.of_ext HX1.out).trans (HKW.out.mono (S' := fun b => b = sb ∨ w.heap.size ≤ b) fun x _ e => e.imp id fun e => by have := HW1.out; omega)).trans (Keeps.of_ext ((Ext.refl' w4).drewN' 1))).trans (HK6.out.mono fun x _ e => .inr (by have h1 : x = w.heap.size := e; omega))).mono fun x hx e => e.elim id fun e => by omega
    · exact HM3.out.src.keeps HK36.out fun b hb e => by have h1 : b = w.heap.size := e; have := HSB.out; omega
end Go.Proofs.YtnpaikdaogikcaaGreatDoor

/- A draw by a script: a pick of numbers. -/
namespace Go.Proofs.YtnpaikdaogikcaaGreatDoor
set_option maxRecDepth 100000
open Go.RowKit
set_option linter.unusedVariables false
set_option linter.unusedSimpArgs false

set_option maxHeartbeats 8000000 in
theorem drawN (gb sb u : Nat) (l ws ns : List Int) (hlen : ns.length = ws.length) (w0 : World) (nm : Bs) (ts : List Value) (hT : RdT Any w0 (tPickN ws ns) ts) (most : Nat) (w : World) (hx : Ext w0 w) (hsb : w0.heap.size ≤ sb) (hg : Gram w gb nm ts) (hn : nm.length ≤ 1000)
    (h : Src w sb u l) (hs : 1 < most) (hm : most ≤ 65536) (hu : u < l.length) (hl : l.length ≤ 10000) (h0 : 0 ≤ l[u]) (hlt : l[u] < sumL ws) (hw : ∀ n ∈ ws, 1 ≤ n ∧ n ≤ 1000) (hws : ws.length ≤ 64) (pl : Nat) (hpl : pl = placeL ws (l[u]?.getD 0)) (hp : pl < ws.length) :
    Calls Tryz.prog 6 #[.pointer (some ⟨gb, 0, none⟩), sv nm, .iface 58 (.pointer (some ⟨sb, 0, none⟩)), .int .i64 most, .int .i64 1] w fun e w' => (∃ Z1 e1 Z2 e2 D dc, e = .returned (.tuple #[.agg (resC (ns[pl]?.getD 0) Z1 e1 Z2 e2 D dc), .int .i64 1, .int .i64 0]) ∧ CellsAt w' D [I64 pl] ∧ ∀ b o, D = some ⟨b, o, none⟩ → w.heap.size ≤ b) ∧ Keeps (fun b => b = sb) w w' ∧ Src w' sb (u + 1) l := by
  refine of_post fun R hR => ?_
  have k1 : (0 : Int) ≤ most := by omega
  have k2 : ¬ (65536 : Int) < most := by omega
  have HFD := Lib.hid (fun W (hx2 : Ext w W) => findT gb nm (tPickN ws ns) Any w0 ts hT W (hg.on hx2) hn)
  have HRP := Lib.hid (fun (W : World) (hx2 : Ext w W) => repRun gb sb u l ws ns hlen w0 nm ts hT most W (hx.trans' hx2) hsb (hg.on hx2) hn (h.on hx2) hs hm hu hl h0 hlt hw hws pl hpl hp)
  have HS := Lib.hid h
  have HPL := Lib.hid hpl
  obtain ⟨x0, x1, x2, x3, x4, x5, x6, x7, x8, x9, y0, y1, y2, y3, y4, y5, y6, y7, y8, y9, z0, z1, z2, z3, z4, z5, z6, rfl⟩ := RdT.thirteen hT
  clear hT hx hsb hg hn h hs hm hu h0 hlt hw hws hpl hp
  go_enter Tryz.func6, Tryz.ntmps6
  go_wp2_with (first
    | (go_at_call 11; refine (HFD.out _ ((Ext.refl' w).alloc' _)).mono ?_; rintro e w1 ⟨rfl, hx⟩; have HX1 := Lib.hid (((Ext.refl' w).alloc' _).trans' hx); have HR1 := Lib.hid ((Blk.new w zero8r 34).on hx); clear hx))
  have HXL := Lib.hid (HX1.out.trans' (ext_al w1 (.cells #[.int .i64 x0, .string x1, .int .i64 x2, .bool x3, .int .i64 x4, .string x5, .slice x6 x7 x8, .slice x9 y0 y1, .slice y2 y3 y4, .slice y5 y6 y7, .slice y8 y9 z0, .slice z1 z2 z3, .slice z4 z5 z6] 51)))
  have HRL := Lib.hid (HR1.out.on (ext_al w1 (.cells #[.int .i64 x0, .string x1, .int .i64 x2, .bool x3, .int .i64 x4, .string x5, .slice x6 x7 x8, .slice x9 y0 y1, .slice y2 y3 y4, .slice y5 y6 y7, .slice y8 y9 z0, .slice z1 z2 z3, .slice z4 z5 z6] 51)))
  generalize hwl : w1.alloc (.cells #[.int .i64 x0, .string x1, .int .i64 x2, .bool x3, .int .i64 x4, .string x5, .slice x6 x7 x8, .slice x9 y0 y1, .slice y2 y3 y4, .slice y5 y6 y7, .slice y8 y9 z0, .slice z1 z2 z3, .slice z4 z5 z6] 51) = wl at *
  clear hwl
  go_loopw [46] (fun iv wr => iv = .int .i64 0 ∧ wr = wl) (fun _ _ => 0)
  case atStart => exact ⟨rfl, rfl⟩
  case round =>
    obtain ⟨rfl, rfl⟩ := hrel
    go_wp2_with (first
      | (go_at_call 12; refine (HRP.out _ HXL.out).mono ?_; rintro e w2 ⟨⟨Z1, e1, Z2, e2, D, dc, rfl, hD, hb⟩, hk, hs2⟩; have HD := Lib.hid hD; have HB := Lib.hid hb; have HK2 := Lib.hid hk; have HS2 := Lib.hid hs2; have HR2 := Lib.hid (HRL.out.keeps hk (by have := HS.out.lt; omega)); clear hD hb hk hs2)
      | (refine wpList_store_blk rfl 34 _ _ rfl rfl w.heap.size zero8r _ 34 (HR2.out.on (ext_al w2 _)) rfl rfl info8R rfl (by simp [Value.oneCell']) ?_; intro w9 HB9 HK9))
    have HK29 : Hid (Keeps (fun b => b = w.heap.size) w2 w9) := Lib.hid ((Keeps.of_ext (ext_al w2 _)).trans HK9.out)
    refine bodyPost_ret (results_cell_2 Tryz.results6 HB9.out rfl _ Tryz.underlying34 rfl info8R) rfl (hR.out _ _ ⟨⟨Z1, e1, Z2, e2, D, dc, rfl, ?_, ?_⟩, ?_, ?_⟩)
    · intro hne
      obtain ⟨b, o, e, hc⟩ := HD.out hne
      refine ⟨b, o, e, fun k v hv => HK29.out.cell ?_ (hc k v hv)⟩
      have h1 := HB.out b o e
      have h2 := HRL.out.lt
      show ¬ b = w.heap.size
      omega
    · intro b o e
      have := HB.out b o e
      have := HRL.out.lt
      omega
    · exact (((Keeps.of_ext HXL.out).trans (HK2.out.mono (S' := fun b => b = sb ∨ w.heap.size ≤ b) fun x _ e => .inl e)).trans (HK29.out.mono fun x _ e => .inr (by have h1 : x = w.heap.size := e; omega))).mono fun x hx e => e.elim id fun e => by omega
    · exact HS2.out.keeps HK29.out fun b hb e => by have h1 : b = w.heap.size := e; have := HS.out.lt; omega
end Go.Proofs.YtnpaikdaogikcaaGreatDoor
