/- The document's All. -/
import Derived.Test.YtokfmfgnjhapiaaNearRefWith
import Derived.Test.YtokfmfgnjhapiaaToldRef
namespace Go.Proofs.Ytokfmfgnjhapiaa
open Go.RowKit
set_option linter.unusedVariables false
set_option linter.unusedSimpArgs false

/-- One append of ints, as a step of a region. -/
theorem int_step {w X : World} {ops : Array Oper} {o : Oper} {a : Act} {K : Act → World → Prop} {Q : Exit → Act → World → Prop} {E : Prop} (hgd : o.guard = none) (s x : Operand)
    (ho : o.op = .call { callee := .builtin .append, args := #[s, x], argTypes := #[24, 24] })
    (v : Value) (us : List Int) (hs : a.eval s = v) (hown : Hid (OwnI X w.heap.size v us)) (hX : Hid (Ext w X))
    (A : Option Addr) (m c : Nat) (news : List Int) (hx : a.eval x = .slice A m c) (hl : Hid (news.length = m)) (hr : Hid (CellsAt X A (news.map I64))) (hsm : Hid (us.length + m ≤ 1000000))
    (h : ∀ v' W', Hid (OwnI W' w.heap.size v' (us ++ news)) → Hid (Ext w W') → K (a.put o.dst v') W') :
    if Region.wanted o (yielded ops a.tmps) = true then Oper.wp Try.prog o a X K Q else E := by
  obtain ⟨i0, hi, hz0, hz1, hz2⟩ := info_parts infoInt
  have h2 := hsm.out
  refine step_append_src hgd s x 24 ho w.heap.size 3 i0 (.int .i64 0) 1 8 Try.underlying24 hi hz0 hz1 hz2 rfl (by decide) v us.length _ hs hown.out A m c (news.map I64) hx (by simp [hl.out]) hr.out (oneCells_I64 news) (by omega) (by unfold maxLen; omega) hX.out.size ?_
  intro v' W' hO hG hB
  refine h v' W' (Lib.hid ?_) (Lib.hid (ext_grown_from hX.out hG fun k e => (World.ownsRow.lt hown.out k e).1))
  show World.ownsRow _ _ _ _ _ _ _
  rw [List.map_append, List.length_append, hl.out]
  exact hO

theorem setOf_snoc (L : List (List Int)) (y : List Int) : setOf (L ++ [y]) = putL (setOf L) y := by simp [setOf, List.foldl_append]
theorem putL_length (y : List Int) : ∀ D : List (List Int), (putL D y).length ≤ D.length + 1
  | [] => by simp [putL]
  | a :: t => by
    unfold putL
    split
    · have := putL_length y t; simp; omega
    · split <;> simp
theorem setOf_length (L : List (List Int)) : (setOf L).length ≤ L.length := by
  have : ∀ (L D : List (List Int)), (L.foldl putL D).length ≤ D.length + L.length := fun L => by
    induction L with
    | nil => intro D; simp
    | cons a L ih => intro D; have h1 := ih (putL D a); have h2 := putL_length a D; simp only [List.foldl_cons, List.length_cons]; omega
  simpa [setOf] using this L []

/-- The row so far: its sequences are the set of L. -/
structure RowOf (w0 w : World) (v : Value) (L : List (List Int)) : Prop where
  ext : Ext w0 w
  out : ∃ rows, Out w v rows ∧ rows.map IRow.xs = setOf L
theorem RowOf.nil (w : World) : RowOf w w (.slice none 0 0) [] := ⟨Ext.refl' w, [], Out.nil w, rfl⟩
theorem RowOf.on {w0 w w' : World} {v : Value} {L : List (List Int)} (h : RowOf w0 w v L) (hx : Ext w w') : RowOf w0 w' v L :=
  let ⟨r, h1, h2⟩ := h.out
  ⟨h.ext.trans' hx, r, h1.on hx, h2⟩
theorem RowOf.put {w0 w : World} {v : Value} {L : List (List Int)} (h : RowOf w0 w v L) (e : IRow) (he : Fresh 0 w e) (hl : L.length ≤ 100000) :
    Calls Try.prog 31 #[v, e.val] w fun q w' => ∃ v', q = .returned v' ∧ RowOf w0 w' v' (L ++ [e.xs]) := by
  obtain ⟨rows, ⟨A, c, rfl, hc, hcm, hcell, hf⟩, hm⟩ := h.out
  have hrl : rows.length ≤ L.length := by have h1 := setOf_length L; rw [← hm] at h1; simpa using h1
  refine (put_any A rows rows.length c e w hcell hf he rfl (by omega) hc hcm).mono ?_
  rintro q w' ⟨⟨v', rfl, ho⟩, hx⟩
  exact ⟨v', rfl, h.ext.trans' hx, _, ho, by rw [putE_map, hm, setOf_snoc]⟩
theorem fresh_ownI {w : World} {base : Nat} {v : Value} {xs : List Int} (h : OwnI w base v xs) : ∃ e : IRow, v = e.val ∧ e.xs = xs ∧ Fresh base w e := fresh_of_own h rfl
end Go.Proofs.Ytokfmfgnjhapiaa
