/-
  ftable.Get.
-/
import Derived.Test.YtdhaojicphhikaaTFind
import Derived.Test.YtdhaojicphhikaaTCopyV
namespace Go.Proofs.Ytdhaojicphhikaa
open Go.RowKit

def zeroV : FV := .mk 0 0 ⟨#[]⟩ [] []
def getF (t : List FF) (name : ByteArray) : Option FF := t.find? fun f => f.name.toList == name.toList
def hasT (t : List FF) (name : ByteArray) : Bool := (getF t name).isSome
def getV (t : List FF) (name : ByteArray) : FV := match getF t name with | some f => f.val | none => zeroV

theorem getF_at (t : List FF) (name : ByteArray) (j : Nat) (hj : j < t.length) (h0 : ∀ k (_ : k < j) (h : k < t.length), ((t[k]).name.toList == name.toList) = false) (h1 : ((t[j]).name.toList == name.toList) = true) : getF t name = some t[j] := by
  unfold getF
  rw [List.find?_eq_some_iff_getElem]
  exact ⟨h1, j, hj, rfl, fun k hk => by rw [h0 k hk (by omega)]; rfl⟩
theorem getF_none (t : List FF) (name : ByteArray) (h0 : ∀ k (h : k < t.length), ((t[k]).name.toList == name.toList) = false) : getF t name = none := by
  unfold getF
  rw [List.find?_eq_none]
  intro x hx
  obtain ⟨k, hk, rfl⟩ := List.getElem_of_mem hx
  rw [h0 k hk]
  decide

/-- What Get answers: the value's cells, out of the table's blocks. -/
def GetPost (w : World) (F : Nat → Prop) (t : List FF) (name : ByteArray) (e : Ending) (w' : World) : Prop :=
  ∃ A c B d, e = .returned (.tuple #[.agg #[.int .i64 (getV t name).kind, .int .i64 (getV t name).num, .string (getV t name).text, .slice A (getV t name).list.length c, .slice B (getV t name).table.length d], .bool (hasT t name)]) ∧
    (getV t name).fit c d ∧ LAt w' F A (getV t name).list ∧ TAt w' F B (getV t name).table ∧ Kept noneS w w'

theorem results_cell_tmp1 {P : Program} {fn : Func} {p u : Tmp} {ty : TypeId} (h : fn.results = #[.cell p ty, .tmp u]) (tmps : Array Value) (w : World) (g : Nat) (t : TypeId) (cs : Array Value) (fr : Nat × Nat) (d : TypeDesc)
    (hp : tmps.getD p undef = .pointer (some ⟨g, 0, none⟩)) (hg : w.heap[g]? = some (.cells cs t fr))
    (hu : P.underlying ty = some d) (hd : (match d with | .struct _ | .array _ _ => true | _ => false) = true) (hi : (P.info? ty).map (·.size) = some cs.size) :
    (results fn tmps).run P w = .ok (.tuple #[.agg cs, tmps.getD u undef]) w := by
  have hp' : tmps[p]?.getD undef = .pointer (some ⟨g, 0, none⟩) := by simpa using hp
  simp [results, h, hp', asAddr, run_loadVar_row w g t ty cs fr d hg hu hd hi]

theorem kept5 {w wa : World} {q : Nat} (hq : w.heap.size ≤ q) (u0 u1 u2 u3 u4 : Value) (hk : Kept noneS w wa) : Kept noneS w (((((wa.setCell ⟨q, 0, none⟩ u0).setCell ⟨q, 1, none⟩ u1).setCell ⟨q, 2, none⟩ u2).setCell ⟨q, 3, none⟩ u3).setCell ⟨q, 4, none⟩ u4) :=
  ((((hk.setCell (p := ⟨q, 0, none⟩) (fun h => by simp at h; omega) _).setCell (p := ⟨q, 1, none⟩) (fun h => by simp at h; omega) _).setCell (p := ⟨q, 2, none⟩) (fun h => by simp at h; omega) _).setCell (p := ⟨q, 3, none⟩) (fun h => by simp at h; omega) _).setCell (p := ⟨q, 4, none⟩) (fun h => by simp at h; omega) _

set_option maxHeartbeats 1600000 in
theorem ftGet (A : Option Addr) (c : Nat) (t : List FF) (name : ByteArray) (F : Nat → Prop) (w : World) (h : TAt w F A t) (hl : t.length * 96 ≤ 140737488355328) :
    Calls Try.prog 15 #[.slice A t.length c, .string name] w (GetPost w F t name) := by
  have HT := Lib.hid (h.mono (G := fun k => F k ∧ k < w.heap.size) (fun k a b => ⟨b, a⟩))
  clear h
  generalize hpost : GetPost w F t name = Post
  have HP := Lib.hid hpost
  clear hpost
  go_enter Try.func15, Try.ntmps15
  go_wp2
  go_loopw [10] (fun i wr => ∃ j : Nat, j ≤ t.length ∧ i = .int .i64 j ∧ Hid (∀ k (_ : k < j) (h : k < t.length), ((t[k]).name.toList == name.toList) = false) ∧ Blk wr w.heap.size 32 #[.int .i64 0, .int .i64 0, .string ⟨#[]⟩, .slice none 0 0, .slice none 0 0] ∧ Kept noneS w wr) (fun i _ => t.length - (intOf i).toNat)
  case atStart => exact ⟨0, Nat.zero_le _, rfl, Lib.hid (fun k h => by omega), Blk.new _ _ _, (Kept.refl _ _).alloc _⟩
  case round =>
    obtain ⟨j, hj, rfl, HN, hb, hk⟩ := hrel
    have KR := Lib.hid hk
    have hbl := hb.lt
    have HB := Lib.hid hb
    have hz0 : w.heap.size ≤ w.heap.size := Nat.le_refl _
    clear hk hb
    generalize hq : w.heap.size = q at HB hbl ⊢
    have hz : w.heap.size ≤ q := by omega
    have HQ0 := Lib.hid hq
    clear hq hz0
    by_cases hlt : j < t.length
    · obtain ⟨g, o, B1, c1, B2, c2, rfl, _, hnm, hf1, hL1, hT1, d0, d1, d2, d3, d4, d5⟩ := (HT.out.still KR.out).at_ hlt
      rcases hqn : ((t[j]).name.toList == name.toList) with _ | _
      · have HQ := Lib.hid hqn
        clear hL1 hT1 hf1
        generalize t[j] = f at d0 d1 d2 d3 d4 d5 hqn
        go_wp2
        go_roundw
        case rel => exact ⟨j + 1, by omega, by go_num, Lib.hid (fun k h h' => by
          rcases Nat.lt_or_ge k j with hk | hk
          · exact HN.out k hk h'
          · obtain rfl : k = j := by omega
            exact HQ.out), HB.out.alloc _, KR.out.alloc _⟩
        case measure => simp [intOf]; omega
      · have HG : Hid (getF t name = some t[j]) := Lib.hid (getF_at t name j hlt HN.out hqn)
        have r0 : wr.cell? ⟨q, 0, none⟩ = some (.int .i64 0) := HB.out.cell 0
        have f0 := HB.out.frozen 0
        have r1 : wr.cell? ⟨q, 1, none⟩ = some (.int .i64 0) := HB.out.cell 1
        have f1 := HB.out.frozen 1
        have r2 : wr.cell? ⟨q, 2, none⟩ = some (.string ⟨#[]⟩) := HB.out.cell 2
        have f2 := HB.out.frozen 2
        have r3 : wr.cell? ⟨q, 3, none⟩ = some (.slice none 0 0) := HB.out.cell 3
        have f3 := HB.out.frozen 3
        have r4 : wr.cell? ⟨q, 4, none⟩ = some (.slice none 0 0) := HB.out.cell 4
        have f4 := HB.out.frozen 4
        generalize t[j] = f at *
        have HV : Hid (getV t name = f.val) := Lib.hid (by unfold getV; rw [HG.out])
        have HH : Hid (hasT t name = true) := Lib.hid (by unfold hasT; rw [HG.out]; rfl)
        have HL1 := Lib.hid hL1
        have HT1 := Lib.hid hT1
        have HF1 := Lib.hid hf1
        clear hL1 hT1 hf1 HG
        go_wp2
        refine bodyPost_ret (results_cell_tmp1 rfl _ _ q 32 _ _ _ rfl ((((((HB.out.set_ 0 _).set_ 1 _).set_ 2 _).set_ 3 _).set_ 4 _).alloc _) Try.underlying32 rfl valSize) rfl ?_
        rw [← HP.out]
        unfold GetPost
        rw [HV.out, HH.out]
        have kf : Kept (· = q) wr ((((((wr.setCell ⟨q, 0, none⟩ (.int .i64 f.val.kind)).setCell ⟨q, 1, none⟩ (.int .i64 f.val.num)).setCell ⟨q, 2, none⟩ (.string f.val.text)).setCell ⟨q, 3, none⟩ (.slice B1 f.val.list.length c1)).setCell ⟨q, 4, none⟩ (.slice B2 f.val.table.length c2)).alloc (.cells #[.string f.name, .int .i64 f.val.kind, .int .i64 f.val.num, .string f.val.text, .slice B1 f.val.list.length c1, .slice B2 f.val.table.length c2] 34)) := ((((((Kept.refl (· = q) wr).setCell (p := ⟨q, 0, none⟩) (fun _ => rfl) _).setCell (p := ⟨q, 1, none⟩) (fun _ => rfl) _).setCell (p := ⟨q, 2, none⟩) (fun _ => rfl) _).setCell (p := ⟨q, 3, none⟩) (fun _ => rfl) _).setCell (p := ⟨q, 4, none⟩) (fun _ => rfl) _).alloc _
        exact ⟨B1, c1, B2, c2, rfl, HF1.out, (HL1.out.keep kf (fun k _ a b => by omega)).mono (fun k _ a => a.1), (HT1.out.keep kf (fun k _ a b => by omega)).mono (fun k _ a => a.1), (kept5 hz _ _ _ _ _ KR.out).alloc _⟩
    · obtain rfl : j = t.length := by omega
      have HG : Hid (getF t name = none) := Lib.hid (getF_none t name (fun k h => HN.out k h h))
      have HV : Hid (getV t name = zeroV) := Lib.hid (by unfold getV; rw [HG.out])
      have HH : Hid (hasT t name = false) := Lib.hid (by unfold hasT; rw [HG.out]; rfl)
      have r0 : wr.cell? ⟨q, 0, none⟩ = some (.int .i64 0) := HB.out.cell 0
      have f0 := HB.out.frozen 0
      have r1 : wr.cell? ⟨q, 1, none⟩ = some (.int .i64 0) := HB.out.cell 1
      have f1 := HB.out.frozen 1
      have r2 : wr.cell? ⟨q, 2, none⟩ = some (.string ⟨#[]⟩) := HB.out.cell 2
      have f2 := HB.out.frozen 2
      have r3 : wr.cell? ⟨q, 3, none⟩ = some (.slice none 0 0) := HB.out.cell 3
      have f3 := HB.out.frozen 3
      have r4 : wr.cell? ⟨q, 4, none⟩ = some (.slice none 0 0) := HB.out.cell 4
      have f4 := HB.out.frozen 4
      go_wp2
      refine bodyPost_ret (results_cell_tmp1 rfl _ _ q 32 _ _ _ rfl (((((HB.out.set_ 0 _).set_ 1 _).set_ 2 _).set_ 3 _).set_ 4 _) Try.underlying32 rfl valSize) rfl ?_
      rw [← HP.out]
      unfold GetPost
      rw [HV.out, HH.out]
      exact ⟨none, 0, none, 0, rfl, ⟨⟨by decide, by decide⟩, ⟨by decide, by decide⟩, by decide, by decide, by decide, by decide, by decide, by decide, by decide⟩, LAt.nil _ _ _, TAt.nil _ _ _, kept5 hz _ _ _ _ _ KR.out⟩

end Go.Proofs.Ytdhaojicphhikaa
