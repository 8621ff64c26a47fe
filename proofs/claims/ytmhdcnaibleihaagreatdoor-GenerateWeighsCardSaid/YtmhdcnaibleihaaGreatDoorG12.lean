/- How deep a term is: the program's. -/
import Derived.Test.YtmhdcnaibleihaaGreatDoorG08
import Derived.Test.YtmhdcnaibleihaaGreatDoorG10
import Derived.Test.YtmhdcnaibleihaaGreatDoorG09

namespace Go.Proofs.YtmhdcnaibleihaaGreatDoor
set_option maxRecDepth 100000
open Go.RowKit
set_option linter.unusedVariables false
set_option linter.unusedSimpArgs false

set_option maxHeartbeats 1000000 in
theorem depthT (d : Nat) : ∀ (x : T) (p : Nat → Prop) (cs : List Value) (w : World), RdT p w x cs → T.size x ≤ d → d ≤ 1000000 →
    Calls Tryz.prog 16 #[.agg cs.toArray] w fun e w' => e = .returned (.int .i64 (T.depth x)) ∧ Ext w w' := by
  induction d with
  | zero => intro x p cs w _ h; have := T.size_pos x; omega
  | succ d ih =>
    intro x p cs w hr hd hD
    refine of_post fun R hR => ?_
    obtain ⟨kind, name, lit, keys, weights, args, exprs, isos⟩ := x
    have hdx : T.sizes args ≤ d := by simp only [T.size] at hd; omega
    have hall : args.length ≤ 1000000 := by have := sizesT_len args; omega
    have hdp : T.depths args ≤ 1000000 := by have := T.depths_sizes args; omega
    have HDX := Lib.hid hdx
    have HD := Lib.hid hD
    have HRES : Hid (T.depth (.mk kind name lit keys weights args exprs isos) = T.depths args + 1) := Lib.hid (by simp only [T.depth])
    simp only [RdT] at hr
    obtain ⟨vs, K, kc, W, wc, A, c, X, xc, Z, zc, ics, xcs, e, hv, _, _, hc, _, _, _, _, hes, hcf, _, _, _⟩ := hr
    obtain ⟨k, b, n, s, A1, la, c1, B, lb, d1, rfl⟩ := hv.six
    subst e
    unfold V6
    have HV := Lib.hid hes
    have HCF := Lib.hid hcf
    have HIH := fun x p cs w h1 h2 h3 => Lib.hid (ih x p cs w h1 h2 h3)
    have HTK := fun i h => Lib.hid (depthsT_take args i h)
    have HTL : Hid (∀ i, _) := Lib.hid fun i => (depthsT_take_le args i)
    have HTM : Hid (∀ i h, _) := Lib.hid fun i h => (depthsT_mem args i h)
    have HALL : Hid (T.depths (args.take args.length) = T.depths args) := Lib.hid (by rw [List.take_length])
    have hc' := hc
    clear hes hcf hv hdx hd hD ih hc
    simp only [List.cons_append, List.nil_append]
    go_enter Tryz.func16, Tryz.ntmps16
    go_wp2_with fail
    generalize hW : w.alloc _ = W
    have HXW : Hid (Ext w W) := Lib.hid (by rw [← hW]; exact (Ext.refl' w).alloc' _)
    have HC8 : Hid (W.cell? ⟨w.heap.size, 10, none⟩ = some (.slice A args.length c)) := Lib.hid (by rw [← hW, (Blk.new w _ _).cell]; rfl)
    clear hW
    generalize w.heap.size = b0 at *
    go_loopw [3, 9] (fun nv iv wr => ∃ i : Nat, iv = .int .i64 i ∧ i ≤ args.length ∧ nv = .int .i64 (T.depths (args.take i) : Nat) ∧ Hid (Ext W wr)) (fun _ iv _ => args.length - (intOf iv).toNat)
    case atStart => exact ⟨0, rfl, Nat.zero_le _, rfl, Lib.hid (Ext.refl' _)⟩
    case round =>
      obtain ⟨i, rfl, hi, rfl, HXR⟩ := hrel
      have HC := Lib.hid ((HXR.out).cell' HC8.out)
      have hc8 := HC.out
      by_cases hlt : i < args.length
      · obtain ⟨bA, oA, rfl, _, hcell⟩ := HCF.out (fun h => by
          have hl := ((RdTs_iff _ _ _ _).1 HV.out).length
          cases ics with
          | nil => rw [List.length_nil] at hl; omega
          | cons c0 r => cases args with
            | nil => simp at hlt
            | cons a r2 =>
              have := HV.out
              simp only [RdTs] at this
              obtain ⟨c1, r1, he, h1, _⟩ := this
              cases he
              have := h1.len
              simp at h; simp [h.1] at this)
        obtain ⟨ci, hri, hrg⟩ := RdTs_row HV.out hcell hlt
        have hxw : Ext w wr := HXW.out.trans' HXR.out
        have HRG : Hid (wr.rangeAt bA (oA + i * 13) ci) := Lib.hid fun j v hv => hxw.cell' (hrg j v hv)
        have HLN : Hid (ci.length = 13) := Lib.hid hri.len
        have HCI := fun w5 (hx5 : Ext wr w5) => HIH args[i] p ci w5 (RdT.on (hxw.trans' hx5) _ _ hri) (Nat.le_trans (T.sizes_mem (List.getElem_mem hlt)) HDX.out) (by have := HD.out; omega)
        have htk := (HTK i hlt).out
        have hle1 := HTL.out i
        have hle2 := HTM.out i hlt
        have HXR' := HXR
        clear hxw hrg hcell HIH HTK HTL HTM HV
        have HNX : Hid ((max (T.depths (args.take i)) (T.depth args[i]) : Nat) = T.depths (args.take (i + 1))) := Lib.hid htk.symm
        clear htk
        generalize T.depths (args.take i) = q at *
        generalize T.depth args[i] = dx at *
        have HMX : Hid (max (q : Int) dx = ((max q dx : Nat) : Int)) := Lib.hid (by omega)
        have HSZ : Hid (ci.toArray.size = 13) := Lib.hid (by simp [HLN.out])
        have HON : Hid (∀ u ∈ ci.toArray.toList, u.oneCell' = true) := Lib.hid (by simpa using hri.one)
        clear hri
        go_wp2_with (first
          | (refine wpList_load_mid rfl 61 _ rfl _ _ rfl ci _ HRG.out Tryz.underlying61 rfl (by rw [HLN.out]; exact info13p) ?_)
          | (refine wpList_new rfl 61 _ _ rfl rfl zero13a ci.toArray _ rfl rfl (by rw [HSZ.out]; exact info13p) (by rw [HSZ.out]; rfl) HON.out ?_; intro w4 HX4 HB4)
          | (refine wpList_load_blk rfl 61 _ rfl _ _ _ HB4.out rfl _ Tryz.underlying61 rfl (by rw [HSZ.out]; exact info13p) ?_)
          | (go_at_call 16; refine (HCI _ HX4.out).out.mono ?_; rintro e w5 ⟨rfl, hx⟩; have HX5 := Lib.hid (HXR'.out.trans' (HX4.out.trans' hx)); clear hx))
        go_roundw
        case rel => exact ⟨i + 1, by go_num, hlt, by rw [← HNX.out]; exact congrArg _ HMX.out, HX5⟩
        case measure => simp [intOf]; omega
      · obtain rfl : i = args.length := by omega
        have HXX := Lib.hid (HXW.out.trans' HXR.out)
        rw [HALL.out]
        clear HIH HTK HTL HTM HV
        go_wp2_with fail
        exact hR.out _ _ ⟨ret_i rfl (by rw [HRES.out]; simp), HXX.out⟩
end Go.Proofs.YtmhdcnaibleihaaGreatDoor

/- append in a region that draws its order: kept whole, and met by a law. -/
namespace Go.Proofs.YtmhdcnaibleihaaGreatDoor
set_option maxRecDepth 100000
open Go.RowKit
set_option linter.unusedVariables false
set_option linter.unusedSimpArgs false

/-- append, under another name, that no rule opens. -/
def appHid (ats : Array TypeId) (ty : TypeId) (args : Array Value) : Sem Value := Builtin.append_ ats ty args
theorem app_hide {ats : Array TypeId} {ty : TypeId} {args : Array Value} : Builtin.append_ ats ty args = appHid ats ty args := rfl
section
variable {P : Program} {o : Oper} {a : Act} {K : Act → World → Prop} {Q : Exit → Act → World → Prop} {base : Nat} {t1 : TypeId} {u v : Value} {ks : List Value} {ts : List T} {ics : List (List Value)} {w W : World}
theorem upon_push1 (hrow : Hid (PRow base t1 u ks v ts ics w)) (t ty : TypeId) (z : Value) (bytes : Nat) (ht : P.underlying t = some (.slice t1)) (hi : (P.info? t1).map (fun i => (i.zero, i.size, i.bytes)) = some (some z, 1, bytes)) (hz : z.cells.size = 1)
    (k : Value) (h1 : k.oneCell' = true) (B : Nat) (hc : W.cell? ⟨B, 0, none⟩ = some k) (hx : Ext w W) (hn : Hid (ks.length ≤ 1000000)) (hb : bytes ≤ 100000)
    (h : ∀ u1 w1, Hid (PRow base t1 u1 (ks ++ [k]) v ts ics w1) → Hid (Keeps (fun b => base ≤ b) w w1) → K (a.put o.dst u1) w1) :
    o.upon P a K Q (((appHid #[t, t] ty #[u, .slice (some ⟨B, 0, none⟩) 1 1]).run P W).andThen fun v w' => .ok (.value v) w') := by
  obtain ⟨i, hq, hs'⟩ := Option.map_eq_some_iff.1 hi
  simp only [Prod.mk.injEq] at hs'
  obtain ⟨hzz, hsz, hby⟩ := hs'
  have hr := hrow.out.on hx
  have hnn := hn.out
  have hnb : (ks.length + 1) * bytes ≤ 140737488355328 := by
    have := Nat.mul_le_mul (show ks.length + 1 ≤ 1000001 by omega) hb
    omega
  obtain ⟨v', w', hrun, h2, h3, h4⟩ := run_append_src (P := P) W base t ty t1 i z 1 bytes ht hq hzz hsz hby hz (by omega) u ks.length ks hr.own (some ⟨B, 0, none⟩) 1 1 [k] (by simp) (fun _ => ⟨B, 0, rfl, fun j x hj => by
    cases j with
    | zero => simp at hj; subst hj; simpa using hc
    | succ j => simp at hj⟩) (by intro x hx; simp only [List.mem_singleton] at hx; subst hx; exact h1) hnb (by unfold maxLen; omega) hr.le
  have hp : Push W u w' v' := ⟨h3, h4.imp id fun e => ⟨_, e, Nat.le_refl _⟩⟩
  unfold appHid
  rw [hrun]
  show K (a.put o.dst v') w'
  exact h _ _ (Lib.hid (hr.push1 h2 hp)) (Lib.hid ((Keeps.of_ext hx).trans (hr.keep1 hp fun b hb => hb)))
theorem upon_pushT (hrow : Hid (PRow base t1 u ks v ts ics w)) (t ty : TypeId) (z : Value) (bytes : Nat) (ht : P.underlying t = some (.slice 61)) (hi : (P.info? 61).map (fun i => (i.zero, i.size, i.bytes)) = some (some z, 13, bytes)) (hz : z.cells.size = 13)
    (x : T) (cs : List Value) (hy : Hid (RdT (fun b => OffT base u b ∧ v.ownBlock ≠ some b) w x cs)) (B : Nat) (hc : CellsAt W (some ⟨B, 0, none⟩) cs) (hx : Ext w W) (hn : Hid (ts.length ≤ 1000000)) (hb : bytes ≤ 100000)
    (h : ∀ v1 w1 ics1, Hid (PRow base t1 u ks v1 (ts ++ [x]) ics1 w1) → Hid (Keeps (fun b => base ≤ b) w w1) → K (a.put o.dst v1) w1) :
    o.upon P a K Q (((appHid #[t, t] ty #[v, .slice (some ⟨B, 0, none⟩) 1 1]).run P W).andThen fun v w' => .ok (.value v) w') := by
  obtain ⟨i, hq, hs'⟩ := Option.map_eq_some_iff.1 hi
  simp only [Prod.mk.injEq] at hs'
  obtain ⟨hzz, hsz, hby⟩ := hs'
  have hr := hrow.out.on hx
  have hnn := hn.out
  have hy2 := RdT.on hx _ _ hy.out
  have hnb : (ts.length + 1) * bytes ≤ 140737488355328 := by
    have := Nat.mul_le_mul (show ts.length + 1 ≤ 1000001 by omega) hb
    omega
  obtain ⟨v', w', hrun, h2, h3, h4⟩ := run_append_src (P := P) W base t ty 61 i z 13 bytes ht hq hzz hsz hby hz (by omega) v ts.length ics.flatten hr.row.own (some ⟨B, 0, none⟩) 1 1 cs (by simp [hy2.len]) hc hy2.one hnb (by unfold maxLen; omega) hr.le
  have hp : Push W v w' v' := ⟨h3, h4.imp id fun e => ⟨_, e, Nat.le_refl _⟩⟩
  unfold appHid
  rw [hrun]
  show K (a.put o.dst v') w'
  have mv : ∀ {x : T} {c : List Value}, RdT (fun b => OffT base u b ∧ v.ownBlock ≠ some b) W x c → RdT (fun b => OffT base u b ∧ v'.ownBlock ≠ some b) w' x c := fun hr =>
    RdT.move (fun B ds hc => ((hc.lt.keeps (Keeps.of_grown hp.grown) fun b hb e => hb.1.2 e).mono fun b hb => ⟨hb.1.1, hp.apart hb.2 hb.1.2⟩)) _ _ hr
  have hrow' : RowG RdT 61 13 base (OffT base u) w' v' (ts ++ [x]) (ics ++ [cs]) := ⟨by simpa using h2, (hr.row.all.imp fun _ _ hr => mv hr).append (.cons (mv hy2) .nil)⟩
  exact h _ _ _ (Lib.hid (hr.pushT hrow' hp)) (Lib.hid ((Keeps.of_ext hx).trans (hr.keepT hp fun b hb => hb)))
end
end Go.Proofs.YtmhdcnaibleihaaGreatDoor

/- A term that follows is read: what is said of it. -/
namespace Go.Proofs.YtmhdcnaibleihaaGreatDoor
open Go.RowKit

/-- A term that follows is read. -/
def TermOK (S : ByteArray) (i : Nat) (t : T) (j : Nat) : Prop := ∀ (pb : Nat) (w : World), PA 55 w pb S i 0 0 → Calls Tryz.prog 28 #[.pointer (some ⟨pb, 0, none⟩)] w (GTerm pb S j t w)
end Go.Proofs.YtmhdcnaibleihaaGreatDoor
