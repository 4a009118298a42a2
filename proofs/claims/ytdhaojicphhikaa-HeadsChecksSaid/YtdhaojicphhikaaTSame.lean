/-
  warrenref03: Same, sameValue.
-/
import Derived.Test.YtdhaojicphhikaaTFind
import Derived.Test.YtdhaojicphhikaaTSameP
import Derived.Deep.RegionHeld3
import Derived.Deep.CutRange
namespace Go.Proofs.Ytdhaojicphhikaa
open Go.RowKit

/-- A value as an argument. -/
def vArg (v : FV) (A : Option Addr) (c : Nat) (B : Option Addr) (d : Nat) : Value := .agg #[.int .i64 v.kind, .int .i64 v.num, .string v.text, .slice A v.list.length c, .slice B v.table.length d]

/-- The contract of warrenref03.sameValue at v. -/
def RSV (v : FV) : Prop := ∀ (v' : FV) (A B A' B' : Option Addr) (c d c' d' : Nat) (F F' : Nat → Prop) (w : World), LAt w F A v.list → TAt w F B v.table → LAt w F' A' v'.list → TAt w F' B' v'.table → v.fit c d → v'.fit c' d' →
  Calls Try.prog 18 #[.agg #[.int .i64 v.kind, .int .i64 v.num, .string v.text, .slice A v.list.length c, .slice B v.table.length d], .agg #[.int .i64 v'.kind, .int .i64 v'.num, .string v'.text, .slice A' v'.list.length c', .slice B' v'.table.length d']] w fun e w' => e = .returned (.bool (sameV v v')) ∧ Kept noneS w w'

set_option maxHeartbeats 1600000 in
theorem refSameT (t : List FF) (ih : ∀ f ∈ t, RSV f.val) (t' : List FF) (A A' : Option Addr) (c c' : Nat) (F F' : Nat → Prop) (w : World) (h : TAt w F A t) (h' : TAt w F' A' t') (_hl : t.length * 96 ≤ 140737488351232) (hl' : t'.length * 96 ≤ 140737488351232) :
    Calls Try.prog 10 #[.slice A t.length c, .slice A' t'.length c'] w fun e w' => e = .returned (.bool (sameFs t t')) ∧ Kept noneS w w' := by
  obtain ⟨r, HR⟩ : ∃ r, Hid (sameFs t t' = r) := ⟨_, Lib.hid rfl⟩
  rw [HR.out]
  have HT := Lib.hid h
  have HT' := Lib.hid h'
  have IH := Lib.hid ih
  clear h h' ih
  by_cases hne : t.length = t'.length
  · have HNE := Lib.hid hne
    have hq : ((t.length : Int) != (t'.length : Int)) = false := by rw [hne]; simp
    have hle : t.length ≤ t'.length := by omega
    clear hne
    go_enter Try.func10, Try.ntmps10
    go_wp2
    go_loopw [5] (fun i wr => ∃ j : Nat, j ≤ t.length ∧ i = .int .i64 j ∧ Hid (∀ k (h : k < j) (a : k < t.length) (b : k < t'.length), sameF t[k] t'[k] = true) ∧ Kept noneS w wr) (fun i _ => t.length - (intOf i).toNat)
    case atStart => exact ⟨0, Nat.zero_le _, rfl, Lib.hid (fun k h => by omega), Kept.refl _ _⟩
    case round =>
      obtain ⟨j, hj, rfl, HN, hk⟩ := hrel
      have KR := Lib.hid hk
      clear hk
      by_cases hlt : j < t.length
      · obtain ⟨g, o, B1, c1, B2, c2, rfl, _, _, hf1, hL1, hT1, d0, d1, d2, d3, d4, d5⟩ := (HT.out.still KR.out).at_ hlt
        obtain ⟨g', o', B1', c1', B2', c2', rfl, _, _, hf2, hL2, hT2, e0, e1, e2, e3, e4, e5⟩ := (HT'.out.still KR.out).at_ (show j < t'.length by omega)
        have HI := Lib.hid (IH.out t[j] (List.getElem_mem hlt))
        have HS := Lib.hid (sameF_eq t[j] (t'[j]'(by omega)))
        have HF : Hid (sameF t[j] (t'[j]'(by omega)) = false → r = false) := Lib.hid (fun q => by rw [← HR.out]; exact sameFs_false t t' j hlt (by omega) q)
        have HG : Hid (sameF t[j] (t'[j]'(by omega)) = true → ∀ k (h : k < j + 1) (a : k < t.length) (b : k < t'.length), sameF t[k] t'[k] = true) := Lib.hid (fun q k h a b => by
          rcases Nat.lt_or_ge k j with hk | hk
          · exact HN.out k hk a b
          · obtain rfl : k = j := by omega
            exact q)
        generalize t[j] = f at *
        generalize (t'[j]'(by omega)) = f' at *
        have d0 : wr.cell? ⟨g, o + j * 6, none⟩ = some (.string f.name) := d0
        have d1 : wr.cell? ⟨g, o + j * 6 + 1, none⟩ = some (.int .i64 f.val.kind) := d1
        have d2 : wr.cell? ⟨g, o + j * 6 + 1 + 1, none⟩ = some (.int .i64 f.val.num) := d2
        have d3 : wr.cell? ⟨g, o + j * 6 + 1 + 2, none⟩ = some (.string f.val.text) := d3
        have d4 : wr.cell? ⟨g, o + j * 6 + 1 + 3, none⟩ = some (.slice B1 f.val.list.length c1) := d4
        have d5 : wr.cell? ⟨g, o + j * 6 + 1 + 4, none⟩ = some (.slice B2 f.val.table.length c2) := d5
        have e0 : wr.cell? ⟨g', o' + j * 6, none⟩ = some (.string f'.name) := e0
        have e1 : wr.cell? ⟨g', o' + j * 6 + 1, none⟩ = some (.int .i64 f'.val.kind) := e1
        have e2 : wr.cell? ⟨g', o' + j * 6 + 1 + 1, none⟩ = some (.int .i64 f'.val.num) := e2
        have e3 : wr.cell? ⟨g', o' + j * 6 + 1 + 2, none⟩ = some (.string f'.val.text) := e3
        have e4 : wr.cell? ⟨g', o' + j * 6 + 1 + 3, none⟩ = some (.slice B1' f'.val.list.length c1') := e4
        have e5 : wr.cell? ⟨g', o' + j * 6 + 1 + 4, none⟩ = some (.slice B2' f'.val.table.length c2') := e5
        have hjb : j < t'.length := by omega
        have hji : (j : Int) < (t.length : Int) := by omega
        have hji' : (j : Int) < (t'.length : Int) := by omega
        have hj0 : (0 : Int) ≤ (j : Int) := by omega
        have HL1 := Lib.hid hL1
        have HT1 := Lib.hid hT1
        have HL2 := Lib.hid hL2
        have HT2 := Lib.hid hT2
        have HF1 := Lib.hid hf1
        have HF2 := Lib.hid hf2
        clear hL1 hT1 hL2 hT2 hf1 hf2
        rcases hn : (f.name.toList == f'.name.toList) with _ | _
        · have hr : r = false := HF.out (by rw [HS.out, hn]; rfl)
          subst hr
          clear HF HG HS HI HR
          go_wp2
          go_quiet (fail)
          go_wp2
          go_ret
          exact ⟨rfl, KR.out.drewN _⟩
        · have HV : Hid (sameF f f' = sameV f.val f'.val) := Lib.hid (by rw [HS.out, hn]; rfl)
          clear HS
          rcases hv : sameV f.val f'.val with _ | _
          · have hr : r = false := HF.out (by rw [HV.out, hv])
            subst hr
            clear HF HG HV HR
            go_wp2
            go_region_held3 (fun W => W.cell? ⟨g, o + j * 6, none⟩ = some (.string f.name) ∧ W.cell? ⟨g, o + j * 6 + 1, none⟩ = some (.int .i64 f.val.kind) ∧ W.cell? ⟨g, o + j * 6 + 1 + 1, none⟩ = some (.int .i64 f.val.num) ∧ W.cell? ⟨g, o + j * 6 + 1 + 2, none⟩ = some (.string f.val.text) ∧ W.cell? ⟨g, o + j * 6 + 1 + 3, none⟩ = some (.slice B1 f.val.list.length c1) ∧ W.cell? ⟨g, o + j * 6 + 1 + 4, none⟩ = some (.slice B2 f.val.table.length c2) ∧ W.cell? ⟨g', o' + j * 6, none⟩ = some (.string f'.name) ∧ W.cell? ⟨g', o' + j * 6 + 1, none⟩ = some (.int .i64 f'.val.kind) ∧ W.cell? ⟨g', o' + j * 6 + 1 + 1, none⟩ = some (.int .i64 f'.val.num) ∧ W.cell? ⟨g', o' + j * 6 + 1 + 2, none⟩ = some (.string f'.val.text) ∧ W.cell? ⟨g', o' + j * 6 + 1 + 3, none⟩ = some (.slice B1' f'.val.list.length c1') ∧ W.cell? ⟨g', o' + j * 6 + 1 + 4, none⟩ = some (.slice B2' f'.val.table.length c2'))
              (first | exact ⟨d0, d1, d2, d3, d4, d5, e0, e1, e2, e3, e4, e5⟩ | exact SS.out)
              (first | (go_at_call 18; refine (HI.out f'.val B1 B2 B1' B2' c1 c2 c1' c2' F F' wr.drew (HL1.out.still (Kept.refl _ _).drew) (HT1.out.still (Kept.refl _ _).drew) (HL2.out.still (Kept.refl _ _).drew) (HT2.out.still (Kept.refl _ _).drew) HF1.out HF2.out).mono ?_; rw [hv]; rintro e wg ⟨rfl, kg0⟩; have kg : Kept noneS wr wg := ((Kept.refl noneS wr).drew).trans kg0; have SS : Hid (wg.cell? ⟨g, o + j * 6, none⟩ = some (.string f.name) ∧ wg.cell? ⟨g, o + j * 6 + 1, none⟩ = some (.int .i64 f.val.kind) ∧ wg.cell? ⟨g, o + j * 6 + 1 + 1, none⟩ = some (.int .i64 f.val.num) ∧ wg.cell? ⟨g, o + j * 6 + 1 + 2, none⟩ = some (.string f.val.text) ∧ wg.cell? ⟨g, o + j * 6 + 1 + 3, none⟩ = some (.slice B1 f.val.list.length c1) ∧ wg.cell? ⟨g, o + j * 6 + 1 + 4, none⟩ = some (.slice B2 f.val.table.length c2) ∧ wg.cell? ⟨g', o' + j * 6, none⟩ = some (.string f'.name) ∧ wg.cell? ⟨g', o' + j * 6 + 1, none⟩ = some (.int .i64 f'.val.kind) ∧ wg.cell? ⟨g', o' + j * 6 + 1 + 1, none⟩ = some (.int .i64 f'.val.num) ∧ wg.cell? ⟨g', o' + j * 6 + 1 + 2, none⟩ = some (.string f'.val.text) ∧ wg.cell? ⟨g', o' + j * 6 + 1 + 3, none⟩ = some (.slice B1' f'.val.list.length c1') ∧ wg.cell? ⟨g', o' + j * 6 + 1 + 4, none⟩ = some (.slice B2' f'.val.table.length c2')) := Lib.hid ⟨(kg.cell (p := ⟨_, _, none⟩) (lt_of_cell d0) (fun q => q)).trans d0, (kg.cell (p := ⟨_, _, none⟩) (lt_of_cell d1) (fun q => q)).trans d1, (kg.cell (p := ⟨_, _, none⟩) (lt_of_cell d2) (fun q => q)).trans d2, (kg.cell (p := ⟨_, _, none⟩) (lt_of_cell d3) (fun q => q)).trans d3, (kg.cell (p := ⟨_, _, none⟩) (lt_of_cell d4) (fun q => q)).trans d4, (kg.cell (p := ⟨_, _, none⟩) (lt_of_cell d5) (fun q => q)).trans d5, (kg.cell (p := ⟨_, _, none⟩) (lt_of_cell e0) (fun q => q)).trans e0, (kg.cell (p := ⟨_, _, none⟩) (lt_of_cell e1) (fun q => q)).trans e1, (kg.cell (p := ⟨_, _, none⟩) (lt_of_cell e2) (fun q => q)).trans e2, (kg.cell (p := ⟨_, _, none⟩) (lt_of_cell e3) (fun q => q)).trans e3, (kg.cell (p := ⟨_, _, none⟩) (lt_of_cell e4) (fun q => q)).trans e4, (kg.cell (p := ⟨_, _, none⟩) (lt_of_cell e5) (fun q => q)).trans e5⟩; have KG := Lib.hid kg; clear kg kg0))
            go_wp2
            go_ret
            exact ⟨rfl, KR.out.trans KG.out⟩
          · have HG' := Lib.hid (HG.out (by rw [HV.out, hv]))
            clear HF HG HV
            go_wp2
            go_region_held3 (fun W => W.cell? ⟨g, o + j * 6, none⟩ = some (.string f.name) ∧ W.cell? ⟨g, o + j * 6 + 1, none⟩ = some (.int .i64 f.val.kind) ∧ W.cell? ⟨g, o + j * 6 + 1 + 1, none⟩ = some (.int .i64 f.val.num) ∧ W.cell? ⟨g, o + j * 6 + 1 + 2, none⟩ = some (.string f.val.text) ∧ W.cell? ⟨g, o + j * 6 + 1 + 3, none⟩ = some (.slice B1 f.val.list.length c1) ∧ W.cell? ⟨g, o + j * 6 + 1 + 4, none⟩ = some (.slice B2 f.val.table.length c2) ∧ W.cell? ⟨g', o' + j * 6, none⟩ = some (.string f'.name) ∧ W.cell? ⟨g', o' + j * 6 + 1, none⟩ = some (.int .i64 f'.val.kind) ∧ W.cell? ⟨g', o' + j * 6 + 1 + 1, none⟩ = some (.int .i64 f'.val.num) ∧ W.cell? ⟨g', o' + j * 6 + 1 + 2, none⟩ = some (.string f'.val.text) ∧ W.cell? ⟨g', o' + j * 6 + 1 + 3, none⟩ = some (.slice B1' f'.val.list.length c1') ∧ W.cell? ⟨g', o' + j * 6 + 1 + 4, none⟩ = some (.slice B2' f'.val.table.length c2'))
              (first | exact ⟨d0, d1, d2, d3, d4, d5, e0, e1, e2, e3, e4, e5⟩ | exact SS.out)
              (first | (go_at_call 18; refine (HI.out f'.val B1 B2 B1' B2' c1 c2 c1' c2' F F' wr.drew (HL1.out.still (Kept.refl _ _).drew) (HT1.out.still (Kept.refl _ _).drew) (HL2.out.still (Kept.refl _ _).drew) (HT2.out.still (Kept.refl _ _).drew) HF1.out HF2.out).mono ?_; rw [hv]; rintro e wg ⟨rfl, kg0⟩; have kg : Kept noneS wr wg := ((Kept.refl noneS wr).drew).trans kg0; have SS : Hid (wg.cell? ⟨g, o + j * 6, none⟩ = some (.string f.name) ∧ wg.cell? ⟨g, o + j * 6 + 1, none⟩ = some (.int .i64 f.val.kind) ∧ wg.cell? ⟨g, o + j * 6 + 1 + 1, none⟩ = some (.int .i64 f.val.num) ∧ wg.cell? ⟨g, o + j * 6 + 1 + 2, none⟩ = some (.string f.val.text) ∧ wg.cell? ⟨g, o + j * 6 + 1 + 3, none⟩ = some (.slice B1 f.val.list.length c1) ∧ wg.cell? ⟨g, o + j * 6 + 1 + 4, none⟩ = some (.slice B2 f.val.table.length c2) ∧ wg.cell? ⟨g', o' + j * 6, none⟩ = some (.string f'.name) ∧ wg.cell? ⟨g', o' + j * 6 + 1, none⟩ = some (.int .i64 f'.val.kind) ∧ wg.cell? ⟨g', o' + j * 6 + 1 + 1, none⟩ = some (.int .i64 f'.val.num) ∧ wg.cell? ⟨g', o' + j * 6 + 1 + 2, none⟩ = some (.string f'.val.text) ∧ wg.cell? ⟨g', o' + j * 6 + 1 + 3, none⟩ = some (.slice B1' f'.val.list.length c1') ∧ wg.cell? ⟨g', o' + j * 6 + 1 + 4, none⟩ = some (.slice B2' f'.val.table.length c2')) := Lib.hid ⟨(kg.cell (p := ⟨_, _, none⟩) (lt_of_cell d0) (fun q => q)).trans d0, (kg.cell (p := ⟨_, _, none⟩) (lt_of_cell d1) (fun q => q)).trans d1, (kg.cell (p := ⟨_, _, none⟩) (lt_of_cell d2) (fun q => q)).trans d2, (kg.cell (p := ⟨_, _, none⟩) (lt_of_cell d3) (fun q => q)).trans d3, (kg.cell (p := ⟨_, _, none⟩) (lt_of_cell d4) (fun q => q)).trans d4, (kg.cell (p := ⟨_, _, none⟩) (lt_of_cell d5) (fun q => q)).trans d5, (kg.cell (p := ⟨_, _, none⟩) (lt_of_cell e0) (fun q => q)).trans e0, (kg.cell (p := ⟨_, _, none⟩) (lt_of_cell e1) (fun q => q)).trans e1, (kg.cell (p := ⟨_, _, none⟩) (lt_of_cell e2) (fun q => q)).trans e2, (kg.cell (p := ⟨_, _, none⟩) (lt_of_cell e3) (fun q => q)).trans e3, (kg.cell (p := ⟨_, _, none⟩) (lt_of_cell e4) (fun q => q)).trans e4, (kg.cell (p := ⟨_, _, none⟩) (lt_of_cell e5) (fun q => q)).trans e5⟩; have KG := Lib.hid kg; clear kg kg0))
            go_wp2
            go_roundw
            case rel => exact ⟨j + 1, by omega, by go_num, HG', KR.out.trans KG.out⟩
            case measure => simp [intOf]; omega
      · obtain rfl : j = t.length := by omega
        have hr : r = true := by rw [← HR.out]; exact sameFs_true t t' HNE.out (fun k a b => HN.out k a a b)
        subst hr
        clear HR
        go_wp2
        go_ret
        exact ⟨rfl, KR.out⟩
  · have hr : r = false := by rw [← HR.out]; exact sameFs_len t t' hne
    subst hr
    have hq : ((t.length : Int) != (t'.length : Int)) = true := by simp only [bne_iff_ne, ne_eq]; omega
    clear HR hne
    go_enter Try.func10, Try.ntmps10
    go_wp2
    go_ret
    exact ⟨rfl, Kept.refl _ _⟩

end Go.Proofs.Ytdhaojicphhikaa
