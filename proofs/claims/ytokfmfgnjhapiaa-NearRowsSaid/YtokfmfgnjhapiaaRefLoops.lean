/- The document's Do: its loops. -/
import Derived.Test.YtokfmfgnjhapiaaRefDo
namespace Go.Proofs.Ytokfmfgnjhapiaa
open Go.RowKit
set_option linter.unusedVariables false
set_option linter.unusedSimpArgs false

/-- What so many rounds have gathered. -/
def gather (g : Nat → List Int) (k : Nat) : List Int := (List.range k).flatMap g
theorem gather_zero (g : Nat → List Int) : gather g 0 = [] := rfl
theorem gather_succ (g : Nat → List Int) (k : Nat) : gather g (k + 1) = gather g k ++ g k := by
  simp [gather, List.range_succ, List.flatMap_append]
theorem gather_one_length (g : Nat → List Int) (h : ∀ j, (g j).length ≤ 1) : ∀ k, (gather g k).length ≤ k
  | 0 => by simp [gather]
  | k + 1 => by rw [gather_succ, List.length_append]; have := gather_one_length g h k; have := h k; omega

/-- A row of ints of the call's own. -/
def OwnI (w : World) (base : Nat) (v : Value) (us : List Int) : Prop := w.ownsRow base 3 1 v us.length (us.map I64)
theorem OwnI.nil (w : World) (base : Nat) : OwnI w base (.slice none 0 0) [] := World.ownsRow_nil _ _ _ _

/-- append(out, x) at []int; all that was there when the rows began is as it was. -/
theorem wpList_append_I {w0 wr : World} {ops : Array Oper} {rest : List Oper} {o : Oper} {a : Act} {Q : Exit → Act → World → Prop} (hgd : o.guard = none) (s x : Operand)
    (ho : o.op = .call { callee := .builtin .append, args := #[s, x], argTypes := #[24, 24] })
    (v : Value) (us : List Int) (hs : a.eval s = v) (hown : Hid (OwnI wr w0.heap.size v us)) (hext : Hid (Ext w0 wr))
    (y : Int) (hx : a.eval x = .slice (some ⟨wr.heap.size, 0, none⟩) 1 1) (hl : us.length ≤ 1000000)
    (h : ∀ v' w', Hid (OwnI w' w0.heap.size v' (us ++ [y])) → Hid (Ext w0 w') → wpList Try.prog ops Q rest (a.put o.dst v') w') : wpList Try.prog ops Q (o :: rest) a (wr.alloc (.cells #[.int .i64 y] 3)) := by
  obtain ⟨i0, hi, hz0, hz1, hz2⟩ := info_parts infoInt
  refine wpList_append_one _ hgd s x 24 ho w0.heap.size 3 i0 (.int .i64 0) 8 Try.underlying24 hi hz0 hz1 hz2 rfl v us.length (us.map I64) hs hown.out (.int .i64 y) rfl hx (by omega) (by unfold maxLen; omega) hext.out.size fun v' w' h1 h2 => h v' w' (Lib.hid ?_) (Lib.hid (ext_grown_from hext.out h2 fun k e => (World.ownsRow.lt hown.out k e).1))
  show World.ownsRow _ _ _ _ _ _ _
  rw [List.map_append, List.length_append]
  exact h1

def RefDone (w : World) (zs : List Int) (e : Ending) (w' : World) : Prop :=
  ∃ v, e = .returned (.tuple #[v, .int .i64 0]) ∧ OwnI w' w.heap.size v zs ∧ Ext w w'

set_option maxRecDepth 100000 in
set_option maxHeartbeats 1000000 in
theorem ref_do0 (i d : Int) (m2 : Int) (A B : Option Addr) (xs : List Int) (n m c b : Nat) (w : World) (hA : IS w A xs) (hx : xs.length = n) (hn : n ≤ 1000) (hm : m ≤ 1000) (hmay : mayP 0 i m2 d n m) :
    Calls Try.prog 15 #[.agg #[.int .i64 0, .int .i64 i, .int .i64 m2, .int .i64 d], .slice A n c, .slice B m b] w (RefDone w (gather (fun (j : Nat) => [if (j : Int) = i then d else xs[j]?.getD 0]) n)) := by
  obtain ⟨g, hg⟩ : ∃ g : Nat → List Int, g = fun (j : Nat) => [if (j : Int) = i then d else xs[j]?.getD 0] := ⟨_, rfl⟩
  rw [← hg]
  have Hg := Lib.hid hg
  have hgl := gather_one_length g (fun j => by rw [hg]; simp)
  have Hgl := Lib.hid hgl
  clear hg hgl
  refine of_post fun R hR => ?_
  obtain ⟨i0, hi, hz0, hz1, hz2⟩ := info_parts infoInt
  have HM := fun o => Lib.hid (may_any 0 i m2 d n m (w.alloc o) hn hm)
  have hb : decide (mayP 0 i m2 d n m) = true := by simpa using hmay
  have HA := Lib.hid hA
  have Hx := Lib.hid hx
  clear hA hmay hx
  go_enter Try.func15, Try.ntmps15
  go_wp2_with fail
  refine (HM _).out.mono ?_
  rintro e w1 ⟨rfl, hxt⟩
  rw [hb]
  have q0 := hxt.cell' (p := ⟨w.heap.size, 0, none⟩) (v := .int .i64 0) (by simp)
  have q1 := hxt.cell' (p := ⟨w.heap.size, 1, none⟩) (v := .int .i64 i) (by simp)
  have q3 := hxt.cell' (p := ⟨w.heap.size, 3, none⟩) (v := .int .i64 d) (by simp)
  have HX := Lib.hid (((Ext.refl' w).alloc' _).trans' hxt)
  clear hxt HM hb
  go_wp2_with fail
  go_loopw [8, 9, 79] (fun u _ t wr => ∃ k : Nat, k ≤ n ∧ t = .int .i64 k ∧ Hid (OwnI wr w1.heap.size u (gather g k)) ∧ Hid (Ext w1 wr)) (fun _ _ t _ => n - (intOf t).toNat)
  case atStart => exact ⟨0, Nat.zero_le _, rfl, Lib.hid (OwnI.nil _ _), Lib.hid (Ext.refl' _)⟩
  case round =>
    obtain ⟨k, hk, rfl, HO, HXr⟩ := hrel
    have p1 := HXr.out.cell' q1
    have p3 := HXr.out.cell' q3
    by_cases hlt : k < n
    · obtain ⟨bb, o, rfl, hc⟩ := HA.out (by intro h; have := Hx.out; simp [h] at this; omega)
      have c0 := (HX.out.trans' HXr.out).cell' (hc k (by rw [Hx.out]; exact hlt))
      have hgs := gather_succ g k
      have hgk : g k = [if (k : Int) = i then d else xs[k]?.getD 0] := by rw [Hg.out]
      have hl : (gather g k).length ≤ 1000000 := by have := Hgl.out k; omega
      have HGS := Lib.hid hgs
      clear hgs hc
      generalize xs[k]?.getD 0 = x at *
      by_cases hki : (k : Int) = i
      · have hkb : ((k : Int) == i) = true := by simpa using hki
        rw [if_pos hki] at hgk
        have HGK := Lib.hid hgk
        clear hki hgk
        go_wp2_with (at_builtin; go_must (refine wpList_append_I rfl _ _ rfl _ _ rfl HO HXr d rfl hl ?_); intro u' w2 HO2 HX2)
        go_roundw
        case rel => exact ⟨k + 1, by omega, by go_num, by rw [HGS.out, HGK.out]; exact HO2, HX2⟩
        case measure => simp [intOf]; omega
      · have hkb : ((k : Int) == i) = false := by simpa using hki
        rw [if_neg hki] at hgk
        have HGK := Lib.hid hgk
        clear hki hgk
        go_wp2_with (at_builtin; go_must (refine wpList_append_I rfl _ _ rfl _ _ rfl HO HXr x rfl hl ?_); intro u' w2 HO2 HX2)
        go_roundw
        case rel => exact ⟨k + 1, by omega, by go_num, by rw [HGS.out, HGK.out]; exact HO2, HX2⟩
        case measure => simp [intOf]; omega
    · obtain rfl : k = n := by omega
      clear hlt
      go_wp2
      exact hR.out _ _ ⟨_, rfl, own_mono HO.out HX.out.size, HX.out.trans' HXr.out⟩
end Go.Proofs.Ytokfmfgnjhapiaa
