/-
  warrenlaw08.speaks.
-/
import Derived.Test.YtdhaojicphhikaaHeadsC
namespace Go.Proofs.Ytdhaojicphhikaa
open Go.RowKit

def fa : FF := .mk ⟨#[97]⟩ (.mk 73 1 ⟨#[]⟩ [] [])
def fb : FF := .mk ⟨#[97]⟩ (.mk 108 1 ⟨#[]⟩ [] [])
def fx : FF := .mk sMode (.mk 83 0 sAny [] [])
def fv : FF := .mk sMode (.mk 86 0 ⟨#[]⟩ [] [])

theorem sp1 : matchB [fa] [fa] = true := by kernel_rfl
theorem sp2 : matchB [fa] [fb] = false := by kernel_rfl
theorem sp3 : matchB [] [fb] = true := by kernel_rfl
theorem sp4 : matchB [fx] [fb] = false := by kernel_rfl
theorem sp5 : chkH [fx] = 0 := by kernel_rfl
theorem sp6 : chkH [fv] = 32 := by kernel_rfl

theorem fit_fa : fa.val.fit 0 0 := by unfold FV.fit; decide
theorem fit_fb : fb.val.fit 0 0 := by unfold FV.fit; decide
theorem fit_fx : fx.val.fit 0 0 := by unfold FV.fit; decide
theorem fit_fv : fv.val.fit 0 0 := by unfold FV.fit; decide

/-- A field without list and table in a block of its own. -/
theorem TAt.bare {w : World} {b : Nat} {f : FF} (hb : Blk w b 34 (fCells f none 0 none 0).toArray) (hn : f.name.size ≤ 140737488351232) (hf : f.val.fit 0 0) (hl : f.val.list = []) (ht : f.val.table = []) : TAt w (· = b) (some ⟨b, 0, none⟩) [f] :=
  (TAt.one (F := noneS) hb hn hf (hl ▸ LAt.nil _ _ _) (ht ▸ TAt.nil _ _ _)).mono (fun _ _ a => a.elim (fun q => q.elim) (fun q => q))

set_option maxHeartbeats 1600000 in
theorem speaks8 (w : World) : Calls Try.prog 6 #[] w fun e w' => e = .returned (.bool true) ∧ Kept noneS w w' := by
  have ba := ((Blk.new w 34 (fCells fa none 0 none 0).toArray).alloc (.cells #[.string ⟨#[97]⟩, .int .i64 108, .int .i64 1, .string ⟨#[]⟩, .slice none 0 0, .slice none 0 0] 34)).alloc (.cells #[.string sMode, .int .i64 83, .int .i64 0, .string sAny, .slice none 0 0, .slice none 0 0] 34)
  have bb := (Blk.new (w.alloc (.cells #[.string ⟨#[97]⟩, .int .i64 73, .int .i64 1, .string ⟨#[]⟩, .slice none 0 0, .slice none 0 0] 34)) 34 (fCells fb none 0 none 0).toArray).alloc (.cells #[.string sMode, .int .i64 83, .int .i64 0, .string sAny, .slice none 0 0, .slice none 0 0] 34)
  have bx := Blk.new ((w.alloc (.cells #[.string ⟨#[97]⟩, .int .i64 73, .int .i64 1, .string ⟨#[]⟩, .slice none 0 0, .slice none 0 0] 34)).alloc (.cells #[.string ⟨#[97]⟩, .int .i64 108, .int .i64 1, .string ⟨#[]⟩, .slice none 0 0, .slice none 0 0] 34)) 34 (fCells fx none 0 none 0).toArray
  rw [show (w.alloc (.cells #[.string ⟨#[97]⟩, .int .i64 73, .int .i64 1, .string ⟨#[]⟩, .slice none 0 0, .slice none 0 0] 34)).heap.size = w.heap.size + 1 by simp] at bb
  rw [show ((w.alloc (.cells #[.string ⟨#[97]⟩, .int .i64 73, .int .i64 1, .string ⟨#[]⟩, .slice none 0 0, .slice none 0 0] 34)).alloc (.cells #[.string ⟨#[97]⟩, .int .i64 108, .int .i64 1, .string ⟨#[]⟩, .slice none 0 0, .slice none 0 0] 34)).heap.size = w.heap.size + 1 + 1 by simp] at bx
  have TA := Lib.hid (TAt.bare ba (by decide) fit_fa rfl rfl)
  have TB := Lib.hid (TAt.bare bb (by decide) fit_fb rfl rfl)
  have TX := Lib.hid (TAt.bare bx (by decide) fit_fx rfl rfl)
  have K3 := Lib.hid (show Kept noneS w (((w.alloc (.cells #[.string ⟨#[97]⟩, .int .i64 73, .int .i64 1, .string ⟨#[]⟩, .slice none 0 0, .slice none 0 0] 34)).alloc (.cells #[.string ⟨#[97]⟩, .int .i64 108, .int .i64 1, .string ⟨#[]⟩, .slice none 0 0, .slice none 0 0] 34)).alloc (.cells #[.string sMode, .int .i64 83, .int .i64 0, .string sAny, .slice none 0 0, .slice none 0 0] 34)) from (((Kept.refl _ _).alloc _).alloc _).alloc _)
  clear ba bb bx
  go_enter Try.func6, Try.ntmps6
  go_wp2_with fail
  refine (headsMatch [fa] [fa] _ _ 1 1 _ _ _ TA.out TA.out (by simp) (by simp)).mono ?_
  rw [sp1]
  rintro e w4 ⟨rfl, k4⟩
  have TA4 := Lib.hid (TA.out.still k4)
  have TB4 := Lib.hid (TB.out.still k4)
  have TX4 := Lib.hid (TX.out.still k4)
  have K4 := Lib.hid (K3.out.trans k4)
  clear k4 TA TB TX K3
  go_wp2_with fail
  refine (headsMatch [fa] [fb] _ _ 1 1 _ _ _ TA4.out TB4.out (by simp) (by simp)).mono ?_
  rw [sp2]
  rintro e w5 ⟨rfl, k5⟩
  have TB5 := Lib.hid (TB4.out.still k5)
  have TX5 := Lib.hid (TX4.out.still k5)
  have K5 := Lib.hid (K4.out.trans k5)
  clear k5 TA4 TB4 TX4 K4
  go_wp2_with fail
  refine (headsMatch [] [fb] none _ 0 1 noneS _ _ (TAt.nil _ _ _) TB5.out (by simp) (by simp)).mono ?_
  rw [sp3]
  rintro e w6 ⟨rfl, k6⟩
  have TB6 := Lib.hid (TB5.out.still k6)
  have TX6 := Lib.hid (TX5.out.still k6)
  have K6 := Lib.hid (K5.out.trans k6)
  clear k6 TB5 TX5 K5
  go_wp2_with fail
  refine (headsMatch [fx] [fb] _ _ 1 1 _ _ _ TX6.out TB6.out (by simp) (by simp)).mono ?_
  rw [sp4]
  rintro e w7 ⟨rfl, k7⟩
  have TX7 := Lib.hid (TX6.out.still k7)
  have K7 := Lib.hid (K6.out.trans k7)
  clear k7 TB6 TX6 K6
  go_wp2_with fail
  refine (headsCheck [fx] _ 1 _ _ TX7.out (by simp)).mono ?_
  rw [sp5]
  rintro e w8 ⟨rfl, k8⟩
  have K8 := Lib.hid (K7.out.trans k8)
  clear k8 TX7 K7
  have TV := Lib.hid (TAt.bare (Blk.new w8 34 (fCells fv none 0 none 0).toArray) (by decide) fit_fv rfl rfl)
  go_wp2_with fail
  refine (headsCheck [fv] _ 1 _ _ TV.out (by simp)).mono ?_
  rw [sp6]
  rintro e w9 ⟨rfl, k9⟩
  have K9 := Lib.hid ((K8.out.alloc _).trans k9)
  clear k9 TV K8
  go_wp2_with fail
  go_ret
  exact ⟨rfl, K9.out⟩

end Go.Proofs.Ytdhaojicphhikaa
