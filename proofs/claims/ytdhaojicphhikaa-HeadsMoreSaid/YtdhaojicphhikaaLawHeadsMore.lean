/-
  warrenlaw08.HeadsMore: more headers under new names never make arguments match less, for every input.
-/
import Derived.Test.YtdhaojicphhikaaHeadsMore
import Derived.Test.YtdhaojicphhikaaTOpen
import Derived.Test.YtdhaojicphhikaaLift
namespace Go.Proofs.Ytdhaojicphhikaa
open Go.ChangeShapes Go.WideShapes Go.ChangeAt Go.RowKit

namespace headsMore
theorem laid_met (os : Os) : laidMet Try.prog Rows.headsMoreRow.laid ((plainWorld os).forCall (fun _ _ => 0) ⟨#[], #[.slice none 0 0, .slice none 0 0, .agg #[.string .empty, .int .i64 0, .int .i64 0, .string .empty, .slice none 0 0, .slice none 0 0]], []⟩).memory :=
  laidMet_of_run' 8 (by kernel_rfl) (by kernel_rfl)
theorem reads (os : Os) {H : Type} (enc : TypeId × Value → H) : ∃ places, DataW.whole enc Try.prog ((plainWorld os).forCall (fun _ _ => 0) ⟨#[], #[.slice none 0 0, .slice none 0 0, .agg #[.string .empty, .int .i64 0, .int .i64 0, .string .empty, .slice none 0 0, .slice none 0 0]], []⟩).memory Try.f4.params.toList Rows.headsMoreSpec.vars false #[Value.slice none 0 0, Value.slice none 0 0, Value.agg #[.string .empty, .int .i64 0, .int .i64 0, .string .empty, .slice none 0 0, .slice none 0 0]].toList 8 = some ([.nil, .nil, .agg [.lit (.string []), .agg [.lit (.int .i64 0), .lit (.int .i64 0), .lit (.string []), .nil, .nil]]], [], places) :=
  ⟨[], by kernel_rfl⟩

set_option maxRecDepth 100000 in
theorem lifted (os : Os) (started : os.Started) (H : Type) (enc : TypeId × Value → H) (F : Stop.Interp) :
    ReturnsInHanded {} Try.checked os 4 .any ((OpenSpec.ofChange Rows.headsMoreSpec).preRow enc Try.prog Try.f4 Rows.headsMoreRow.domain false Rows.headsMoreRow.laid) (((OpenSpec.ofChange Rows.headsMoreSpec).at F).post enc Try.prog Try.f4 false true false false) := by
  obtain ⟨places, hx⟩ := reads os enc
  refine lift started F 4 Try.f4 (OpenSpec.ofChange Rows.headsMoreSpec) Rows.headsMoreRow.laid Try.func4 (by kernel_rfl) (by kernel_rfl) (by kernel_rfl) ⟨rfl, rfl⟩ ?_
    (witness_row_at (enc := enc) (C := Try.checked) false (plainWorld os) #[.slice none 0 0, .slice none 0 0, .agg #[.string .empty, .int .i64 0, .int .i64 0, .string .empty, .slice none 0 0, .slice none 0 0]] rfl (by kernel_rfl) (by kernel_rfl) (by kernel_rfl)
      (OpenSpec.preRow_of_cond 8 hx (by kernel_rfl) (fun k hk => by cases hk) (by kernel_rfl) (laid_met os))) ?_
  · intro ds hl
    rw [Try.params4] at hl
    match ds, hl with
    | [d0, d1, d2], _ => exact ⟨rfl, rfl, rfl⟩
  · intro W base args ds ps hval hA hcond hsz hL
    rw [Try.params4] at hA hval hsz
    obtain ⟨v0, vs0, d0, ds0, p0, q0, hargs, rfl, rfl, h0, r0⟩ := trodAll_cons hA
    obtain ⟨v1, vs1, d1, ds1, p1, q1, rfl, rfl, rfl, h1, r1⟩ := trodAll_cons r0
    obtain ⟨v2, vs2, d2, ds2, p2, q2, rfl, rfl, rfl, h2, r2⟩ := trodAll_cons r1
    obtain ⟨rfl, rfl, rfl⟩ := trodAll_nil r2
    obtain rfl : args = #[v0, v1, v2] := by cases args; simp_all
    obtain ⟨s0, hsz⟩ := weights_head hsz
    obtain ⟨s1, hsz⟩ := weights_head hsz
    obtain ⟨s2, hsz⟩ := weights_head hsz
    obtain ⟨A0, c0, t0, rfl, ht0, _, hl0⟩ := open_table (hval 0 _ _ rfl rfl) h0 s0
    obtain ⟨A1, c1, t1, rfl, ht1, _, hl1⟩ := open_table (hval 1 _ _ rfl rfl) h1 s1
    obtain ⟨f2, FA2, FB2, fc2, fe2, rfl, hn2, hf2, hL2, hT2⟩ := open_field (hval 2 _ _ rfl rfl) h2 s2
    exact (headsMore t0 t1 f2 A0 A1 FA2 FB2 c0 c1 fc2 fe2 W ht0 ht1 hl0 hl1 hn2 hf2 hL2 hT2).mono fun e W' ⟨he, hk⟩ => ⟨he, hk.still⟩

theorem said : Rows.HeadsMoreSaid :=
  OpenClaim.holds_of_cond 4 Try.f4 rfl rfl rfl rfl rfl rfl rfl ⟨rfl, rfl, rfl, rfl, rfl⟩ rfl rfl rfl rfl rfl (by kernel_rfl) Try.func4 (by kernel_rfl)
    (of_decide_eq_true (by kernel_rfl)) (by unfold Func.isWrapper; first | (rw [if_pos (by decide +kernel)]; kernel_rfl) | (rw [if_neg (by decide +kernel)]; exact ⟨rfl, rfl⟩))
    (fun os started H enc _ F => by rw [OpenClaim.pre_eq_preRow]; exact lifted os started H enc F)

end headsMore

theorem headsMore_holds : Rows.HeadsMoreSaid := headsMore.said

end Go.Proofs.Ytdhaojicphhikaa
