/-
  warrenref03.Wrong, out of wrongValue's contract at the values.
-/
import Derived.Test.YtdhaojicphhikaaTCheckT
namespace Go.Proofs.Ytdhaojicphhikaa
open Go.RowKit

/-- The contract of warrenref03.wrongValue at v. -/
def RWV (v : FV) : Prop := ∀ (A B : Option Addr) (c d : Nat) (dp : Int) (F : Nat → Prop) (w : World), LAt w F A v.list → TAt w F B v.table → v.fit c d → 1 ≤ dp → dp ≤ 4 →
  Calls Try.prog 27 #[.agg #[.int .i64 v.kind, .int .i64 v.num, .string v.text, .slice A v.list.length c, .slice B v.table.length d], .int .i64 dp] w fun e w' => e = .returned (.int .i64 (errV v dp)) ∧ Kept noneS w w'

theorem seenB_no (t : List FF) (j : Nat) (hj : j ≤ t.length) (nm : List UInt8) (h : ∀ k (_ : k < j) (hk : k < t.length), ((t[k]).name.toList == nm) = false) : seenB t j nm = false := by
  unfold seenB
  rw [List.any_eq_false]
  intro x hx
  obtain ⟨k, hk, rfl⟩ := List.getElem_of_mem hx
  have hk' : k < j := by simp at hk; omega
  rw [List.getElem_take, h k hk' (by omega)]
  decide
theorem seenB_yes (t : List FF) (j k : Nat) (hj : j ≤ t.length) (hk : k < j) (nm : List UInt8) (h : ((t[k]'(by omega)).name.toList == nm) = true) : seenB t j nm = true := by
  unfold seenB
  rw [List.any_eq_true]
  exact ⟨t[k]'(by omega), List.mem_take_iff_getElem.2 ⟨k, by omega, rfl⟩, h⟩

set_option maxHeartbeats 3200000 in
theorem wrT (t : List FF) (ih : ∀ f ∈ t, RWV f.val) (A : Option Addr) (c : Nat) (dp : Int) (F : Nat → Prop) (w : World) (h : TAt w F A t) (hl : t.length * 96 ≤ 140737488351232) (h1 : 1 ≤ dp) (h5 : dp ≤ 5) :
    Calls Try.prog 22 #[.slice A t.length c, .int .i64 dp] w fun e w' => e = .returned (.int .i64 (errT t dp)) ∧ Kept noneS w w' := by
  obtain ⟨r, HR⟩ : ∃ r, Hid (errT t dp = r) := ⟨_, Lib.hid rfl⟩
  rw [HR.out]
  by_cases hd : 4 < dp
  · have hr : r = 8 := by rw [← HR.out, errT_deep hd]
    subst hr
    clear HR h ih
    go_enter Try.func22, Try.ntmps22
    go_wp2
    go_ret
    exact ⟨rfl, Kept.refl _ _⟩
  by_cases hm : 64 < t.length
  · have hr : r = 33 := by rw [← HR.out, errT_many hd hm]
    subst hr
    have hm' : 64 < (t.length : Int) := by omega
    clear HR h ih
    go_enter Try.func22, Try.ntmps22
    go_wp2
    go_ret
    exact ⟨rfl, Kept.refl _ _⟩
  have hm' : ¬ 64 < (t.length : Int) := by omega
  have HT := Lib.hid h
  have IH := Lib.hid ih
  clear h ih
  go_enter Try.func22, Try.ntmps22
  go_wp2
  go_loopw [5] (fun i wr => ∃ j : Nat, j ≤ t.length ∧ i = .int .i64 j ∧ Hid (∀ k (_ : k < j) (hk : k < t.length), stepT t dp k hk = 0) ∧ Kept noneS w wr) (fun i _ => t.length - (intOf i).toNat)
  case atStart => exact ⟨0, Nat.zero_le _, rfl, Lib.hid (fun k h => by omega), Kept.refl _ _⟩
  case round =>
    obtain ⟨j, hj, rfl, HN, hk⟩ := hrel
    have KR := Lib.hid hk
    clear hk
    by_cases hlt : j < t.length
    · obtain ⟨g, o, B1, c1, B2, c2, rfl, _, hnm, hf1, hL1, hT1, d0, d1, d2, d3, d4, d5⟩ := (HT.out.still KR.out).at_ hlt
      have HI := Lib.hid (IH.out t[j] (List.getElem_mem hlt))
      have HS := Lib.hid (stepT_eq t dp j hlt)
      have HF : Hid (stepT t dp j hlt ≠ 0 → r = stepT t dp j hlt) := Lib.hid (fun q => by rw [← HR.out]; exact errT_at (by omega) (by omega) hlt HN.out q)
      have HG : Hid (stepT t dp j hlt = 0 → ∀ k (_ : k < j + 1) (hk : k < t.length), stepT t dp k hk = 0) := Lib.hid (fun q k h a => by
          rcases Nat.lt_or_ge k j with hk | hk
          · exact HN.out k hk a
          · obtain rfl : k = j := by omega
            exact q)
      have HY : Hid (∀ k (_ : k < j), ((t[k]'(by omega)).name.toList == (t[j]).name.toList) = true → seenB t j (t[j]).name.toList = true) := Lib.hid (fun k a => seenB_yes t j k (by omega) a _)
      have HX := Lib.hid (seenB_no t j (by omega) (t[j]).name.toList)
      generalize stepT t dp j hlt = st at HS HF HG
      generalize hfj : t[j] = f at *
      have HFJ := Lib.hid hfj
      have hji : (j : Int) < (t.length : Int) := by omega
      have hj0 : (0 : Int) ≤ (j : Int) := by omega
      have HL1 := Lib.hid hL1
      have HT1 := Lib.hid hT1
      have HF1 := Lib.hid hf1
      have hsz := toList_size f.name
      clear hL1 hT1 hf1 hfj
      by_cases hn1 : f.name.size < 1
      · have hn1' : (f.name.size : Int) < 1 := by omega
        obtain rfl : r = 31 := by
          have e : st = 31 := by rw [HS.out, if_pos (.inl (by omega))]
          rw [← e]
          exact HF.out (by rw [e]; decide)
        clear HS HF HG HR hsz HX HY
        go_wp2
        go_ret
        exact ⟨rfl, KR.out⟩
      have hn1' : decide ((f.name.size : Int) < 1) = false := by simp; omega
      by_cases hn2 : 128 < f.name.size
      · have hn2' : decide (128 < (f.name.size : Int)) = true := by simp; omega
        obtain rfl : r = 31 := by
          have e : st = 31 := by rw [HS.out, if_pos (.inr (by omega))]
          rw [← e]
          exact HF.out (by rw [e]; decide)
        clear HS HF HG HR hsz HX HY
        go_wp2
        go_ret
        exact ⟨rfl, KR.out⟩
      have hn2' : decide (128 < (f.name.size : Int)) = false := by simp; omega
      have HS' := Lib.hid (HS.out.trans (if_neg (by omega)))
      clear HS hsz
      go_wp2
      obtain ⟨wo, rfl⟩ : ∃ wo : World, wo = wr := ⟨_, rfl⟩
      go_loopw [6] (fun i wr => ∃ m : Nat, m ≤ j ∧ i = .int .i64 m ∧ Hid (∀ k (_ : k < m) (hk : k < t.length), ((t[k]).name.toList == f.name.toList) = false) ∧ Kept noneS wo wr) (fun i _ => j - (intOf i).toNat)
      case atStart => exact ⟨0, Nat.zero_le _, rfl, Lib.hid (fun k h => by omega), Kept.refl _ _⟩
      case round =>
        obtain ⟨m, hm1, rfl, HM, hk⟩ := hrel
        have KI := Lib.hid hk
        clear hk
        have e0 : wr.cell? ⟨g, o + j * 6, none⟩ = some (.string f.name) := (KI.out.cell (p := ⟨_, _, none⟩) (lt_of_cell d0) (fun q => q)).trans d0
        by_cases hmj : m < j
        · obtain ⟨g', o', _, _, _, _, eA, _, _, _, _, _, n0, _⟩ := ((HT.out.still KR.out).still KI.out).at_ (show m < t.length by omega)
          injection eA with eA
          injection eA with eg eo
          subst eg eo
          have hml : m < t.length := by omega
          have hmi : (m : Int) < (t.length : Int) := by omega
          have hm0 : (0 : Int) ≤ (m : Int) := by omega
          have hmji : (m : Int) < (j : Int) := by omega
          rcases hq : (((t[m]'(by omega)).name.toList) == f.name.toList) with _ | _
          · have HQ := Lib.hid hq
            generalize ((t[m]'(by omega)).name) = nm at n0 hq
            go_wp2
            go_quiet (fail)
            go_wp2
            go_roundw
            case rel => exact ⟨m + 1, by omega, by go_num, Lib.hid (fun k h h' => by
              rcases Nat.lt_or_ge k m with hk | hk
              · exact HM.out k hk h'
              · obtain rfl : k = m := by omega
                exact HQ.out), KI.out.drewN _⟩
            case measure => simp [intOf]; omega
          · obtain rfl : r = 5 := by
              have e : st = 5 := by rw [HS'.out, HY.out m hmj hq]; rfl
              rw [← e]
              exact HF.out (by rw [e]; decide)
            generalize ((t[m]'(by omega)).name) = nm at n0 hq
            clear HS' HF HG HR HX HY
            go_wp2
            go_quiet (fail)
            go_wp2
            go_ret
            exact ⟨rfl, KR.out.trans (KI.out.drewN _)⟩
        · obtain rfl : m = j := by omega
          have HE : Hid (st = errV f.val dp) := Lib.hid (by rw [HS'.out, HX.out HM.out]; rfl)
          have e1 : wr.cell? ⟨g, o + m * 6 + 1, none⟩ = some (.int .i64 f.val.kind) := (KI.out.cell (p := ⟨_, _, none⟩) (lt_of_cell d1) (fun q => q)).trans d1
          have e2 : wr.cell? ⟨g, o + m * 6 + 1 + 1, none⟩ = some (.int .i64 f.val.num) := (KI.out.cell (p := ⟨_, _, none⟩) (lt_of_cell d2) (fun q => q)).trans d2
          have e3 : wr.cell? ⟨g, o + m * 6 + 1 + 2, none⟩ = some (.string f.val.text) := (KI.out.cell (p := ⟨_, _, none⟩) (lt_of_cell d3) (fun q => q)).trans d3
          have e4 : wr.cell? ⟨g, o + m * 6 + 1 + 3, none⟩ = some (.slice B1 f.val.list.length c1) := (KI.out.cell (p := ⟨_, _, none⟩) (lt_of_cell d4) (fun q => q)).trans d4
          have e5 : wr.cell? ⟨g, o + m * 6 + 1 + 4, none⟩ = some (.slice B2 f.val.table.length c2) := (KI.out.cell (p := ⟨_, _, none⟩) (lt_of_cell d5) (fun q => q)).trans d5
          clear HX HY HS'
          go_wp2_with fail
          refine (HI.out B1 B2 c1 c2 dp F wr (HL1.out.still KI.out) (HT1.out.still KI.out) HF1.out h1 (by omega)).mono ?_
          rintro e w2 ⟨rfl, k2⟩
          have K2 := Lib.hid (KI.out.trans k2)
          clear k2
          rw [HE.out] at HF HG
          generalize errV f.val dp = ev at HF HG ⊢
          rcases q : (ev != 0) with _ | _
          · have HG' := Lib.hid (HG.out (by simpa using q))
            clear HG HF HE
            go_wp2
            go_roundw
            case rel => exact ⟨m + 1, by omega, by go_num, HG', KR.out.trans K2.out⟩
            case measure => simp [intOf]; omega
          · obtain rfl : r = ev := HF.out (by simpa using q)
            clear HG HF HR HE
            go_wp2
            go_ret
            exact ⟨rfl, KR.out.trans K2.out⟩
    · obtain rfl : j = t.length := by omega
      have hr : r = 0 := by rw [← HR.out]; exact errT_none (by omega) (by omega) (fun k hk => HN.out k hk hk)
      subst hr
      clear HR
      go_wp2
      go_ret
      exact ⟨rfl, KR.out⟩

end Go.Proofs.Ytdhaojicphhikaa
