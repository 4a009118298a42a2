/-
  SealSums is proved: for every slice of octets the check sum that the program gives is the reference's, and the octets stay as they were. Conditions: none beyond the row's own (the table of nibbles is laid as the program's text lays it).
-/
import Derived.Test.YtlfdpkgggoafaaaDoorSealR
import Derived.Test.YtlfdpkgggoafaaaDoorLift
namespace Go.Proofs.YtlfdpkgggoafaaaDoor
open Go.ChangeShapes Go.WideShapes Go.ChangeAt Go.RowKit

set_option maxHeartbeats 400000 in
theorem sealSums_walk (A : Option Addr) (c : Nat) (bs : List UInt8) (w : World) (hb : RB w (· < w.heap.size) A bs) (hn : bs.length ≤ 140737488351232) (ht : Tab w) :
    Calls Tryd.prog 3 #[.slice A bs.length c] w fun e w' => e = .returned (.bool true) ∧ Below w.heap.size w w' := by
  have HB := Lib.hid hb
  have HT := Lib.hid ht
  clear hb ht
  go_enter Tryd.func3, Tryd.ntmps3
  go_wp2_with fail
  refine (speaks_any _ HT.out).mono ?_
  rintro e w1 ⟨rfl, k1⟩
  have K1 := Lib.hid k1
  clear k1
  go_wp2_with fail
  refine (clone_any A c bs _ w1 (HB.out.still K1.out) (by omega)).mono ?_
  rintro e w2 ⟨A2, c2, rfl, h2, k2⟩
  have K2 := Lib.hid (K1.out.trans k2)
  have H2 := Lib.hid (Own.rd h2)
  clear k2 h2
  go_wp2_with fail
  refine (sum_any A2 c2 bs _ w2 H2.out (by omega) (HT.out.keep K2.out (fun q => q))).mono ?_
  rintro e w3 ⟨rfl, rfl⟩
  go_wp2_with fail
  refine (refSum A c bs _ w2 (HB.out.still K2.out) (by omega)).mono ?_
  rintro e w3 ⟨rfl, rfl⟩
  have hq : ((Crc.sum bs : Int) == (Crc.sum bs : Int)) = true := beq_self_eq_true _
  go_wp2_with fail
  refine (same_any A2 A c2 c bs bs _ _ w2 H2.out (HB.out.still K2.out)).mono ?_
  rintro e w3 ⟨rfl, rfl⟩
  rw [beq_self_eq_true bs]
  go_wp2
  go_ret
  exact ⟨rfl, K2.out.still⟩

theorem gTab : Tryd.prog.globalNamed "warren/seal.nibble" = some 0 := by kernel_rfl
theorem gTabType : (Tryd.prog.globals[0]?).map (·.type) = some 56 := by kernel_rfl
theorem cellsTab : Tryd.prog.cellsOf 56 = 16 := by kernel_rfl
theorem cellsU32 : Tryd.prog.cellsOf 25 = 1 := by kernel_rfl
theorem cellsU8 : Tryd.prog.cellsOf 5 = 1 := by kernel_rfl
theorem bytesU8 : Tryd.prog.bytesOf 5 = 1 := by kernel_rfl

/-- What the rows' list gives: the table's cells hold its numbers. -/
theorem tab_of {W : World} (h : laidMetH Tryd.prog Rows.sealSumsRow.laid W) : Tab W := by
  have ht : Lib.TabIs Tryd.prog W "warren/seal.nibble" .u32 (Crc.nibs.map fun n : Nat => (n : Int)) := Lib.tabIs_of_head (rest := []) gTab gTabType Tryd.underlying56 Tryd.underlying25 cellsU32 cellsTab h
  intro i hi
  have h1 := ht.cell gTab i (by simpa [Crc.nibs] using hi)
  rw [h1]
  unfold Crc.nib
  rw [List.getD_eq_getElem?_getD, List.getElem?_map, List.getD_eq_getElem?_getD]
  have : i < Crc.nibs.length := by simpa [Crc.nibs] using hi
  simp [List.getElem?_eq_getElem this]

/-- A world for the witness: the table as its initialiser lays it. -/
noncomputable def laidWorld (os : Os) : World :=
  { World.holding Tryd.prog os ⟨#[], #[], []⟩ with heap := (World.holding Tryd.prog os ⟨#[], #[], []⟩).heap.modify 0 fun
      | .cells _ t frozen => .cells #[.int .u32 0, .int .u32 274646895, .int .u32 549293790, .int .u32 820201905, .int .u32 1098587580, .int .u32 1361435347, .int .u32 1640403810, .int .u32 1905808397, .int .u32 2197175160, .int .u32 2460548119, .int .u32 2722870694, .int .u32 2987750089, .int .u32 3280807620, .int .u32 3553878443, .int .u32 3811616794, .int .u32 4084100981] t frozen
      | o => o }

namespace sealSums
theorem laid_met (os : Os) : laidMet Tryd.prog Rows.sealSumsRow.laid ((laidWorld os).forCall (fun _ _ => 0) ⟨#[], #[.slice none 0 0], []⟩).memory :=
  laidMet_of_run' 8 (by kernel_rfl) (by kernel_rfl)
theorem reads (os : Os) {H : Type} (enc : TypeId × Value → H) : ∃ places, DataW.whole enc Tryd.prog ((laidWorld os).forCall (fun _ _ => 0) ⟨#[], #[.slice none 0 0], []⟩).memory Tryd.f3.params.toList Rows.sealSumsSpec.vars false #[Value.slice none 0 0].toList 8 = some ([.nil], [], places) :=
  ⟨[], by kernel_rfl⟩

set_option maxRecDepth 100000 in
theorem lifted (os : Os) (started : os.Started) (H : Type) (enc : TypeId × Value → H) (F : Stop.Interp) :
    ReturnsInHanded {} Tryd.checked os 3 .any ((OpenSpec.ofChange Rows.sealSumsSpec).preRow enc Tryd.prog Tryd.f3 Rows.sealSumsRow.domain false Rows.sealSumsRow.laid) (((OpenSpec.ofChange Rows.sealSumsSpec).at F).post enc Tryd.prog Tryd.f3 false true false false) := by
  obtain ⟨places, hx⟩ := reads os enc
  refine lift started F 3 Tryd.f3 (OpenSpec.ofChange Rows.sealSumsSpec) Rows.sealSumsRow.laid Tryd.func3 (by kernel_rfl) (by kernel_rfl) (by kernel_rfl) ⟨rfl, rfl⟩ ?_
    (witness_row_at (enc := enc) (C := Tryd.checked) false (laidWorld os) #[.slice none 0 0] rfl (by kernel_rfl) (by kernel_rfl) (by kernel_rfl)
      (OpenSpec.preRow_of_cond 8 hx (by kernel_rfl) (fun k hk => by cases hk) (by kernel_rfl) (laid_met os))) ?_
  · intro ds hl
    rw [Tryd.params3] at hl
    match ds, hl with
    | [d], _ => exact ⟨rfl, rfl, rfl⟩
  · intro W base args ds ps hval hA _ hsz hL
    rw [Tryd.params3] at hA hval hsz
    obtain ⟨v0, vs0, d0, ds0, p0, q0, hargs, rfl, rfl, h0, r0⟩ := trodAll_cons hA
    obtain ⟨rfl, rfl, rfl⟩ := trodAll_nil r0
    obtain rfl : args = #[v0] := by cases args; simp_all
    obtain ⟨s0, hsz⟩ := weights_head hsz
    obtain ⟨A, c, bs, rfl, hb, hl, hc, _⟩ := open_bytes Tryd.underlying22 Tryd.underlying5 cellsU8 bytesU8 (hval 0 _ _ rfl rfl) h0 s0
    exact sealSums_walk A c bs W hb (by omega) (tab_of hL)

theorem said : Rows.SealSumsSaid :=
  OpenClaim.holds_of_cond 3 Tryd.f3 rfl rfl rfl rfl rfl rfl rfl ⟨rfl, rfl, rfl, rfl, rfl⟩ rfl rfl rfl rfl rfl (by kernel_rfl) Tryd.func3 (by kernel_rfl)
    (of_decide_eq_true (by kernel_rfl)) (by unfold Func.isWrapper; first | (rw [if_pos (by decide +kernel)]; kernel_rfl) | (rw [if_neg (by decide +kernel)]; exact ⟨rfl, rfl⟩))
    (fun os started H enc _ F => by rw [OpenClaim.pre_eq_preRow]; exact lifted os started H enc F)

theorem plain (f : FuncId) (fn : Func) (hf : Tryd.pinned.checked.prog.funcNamed "warren/warrenlaw02.SealSums" = some f) (hfn : Tryd.pinned.checked.prog.funcs[f]? = some fn) :
    false = Tryd.pinned.checked.prog.looks [] ∧ ∀ (j : Nat) t, fn.params[j]? = some t → Tryd.pinned.checked.prog.wantsStandIn t = false := by
  obtain rfl : f = 3 := Option.some.inj ((show Tryd.prog.funcNamed "warren/warrenlaw02.SealSums" = some 3 by kernel_rfl).symm.trans hf) |>.symm
  obtain rfl : fn = Tryd.f3 := (Option.some.inj (Tryd.func3.symm.trans hfn)).symm
  refine ⟨by kernel_rfl, fun j t ht => ?_⟩
  have hall : (Tryd.f3.params.toList.all fun t => !Tryd.prog.wantsStandIn t) = true := by kernel_rfl
  have h1 := List.all_eq_true.1 hall t (by simpa using Array.mem_of_getElem? ht)
  exact (show Tryd.prog.wantsStandIn t = false by simpa using h1)

theorem card : Rows.SealSumsCardSaid :=
  Claim7.holds_tied_plain_at .later [] _ _ _ _ said (fun _ h => by cases h) (by kernel_rfl) (fun _ h => by cases h) sealSums_row_tie rfl ⟨rfl, rfl⟩ (by kernel_rfl) rfl plain (by kernel_rfl)
end sealSums

theorem sealSums_holds : Rows.SealSumsCardSaid := sealSums.card

end Go.Proofs.YtlfdpkgggoafaaaDoor
