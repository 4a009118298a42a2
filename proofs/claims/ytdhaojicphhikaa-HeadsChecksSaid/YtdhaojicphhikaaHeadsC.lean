/-
  heads.Check.
-/
import Derived.Test.YtdhaojicphhikaaHeads
import Derived.Test.YtdhaojicphhikaaTSameV
namespace Go.Proofs.Ytdhaojicphhikaa
open Go.RowKit

/-- What is wrong with arguments. -/
def chkH (t : List FF) : Int := if errT t 1 ≠ 0 then errT t 1 else if (hasT t sMode && (!isTextB (getV t sMode) sAll && !isTextB (getV t sMode) sAny)) = true then 32 else 0

set_option maxHeartbeats 1600000 in
theorem headsCheck (t : List FF) (A : Option Addr) (c : Nat) (F : Nat → Prop) (w : World) (h : TAt w F A t) (hl : t.length * 96 ≤ 140737488351232) :
    Calls Try.prog 8 #[.slice A t.length c] w fun e w' => e = .returned (.int .i64 (chkH t)) ∧ Kept noneS w w' := by
  obtain ⟨r, HR⟩ : ∃ r, Hid (chkH t = r) := ⟨_, Lib.hid rfl⟩
  rw [HR.out]
  have HT := Lib.hid h
  clear h
  go_enter Try.func8, Try.ntmps8
  go_wp2_with fail
  refine (ftCheck t A c F w HT.out hl).mono ?_
  rintro e w1 ⟨rfl, k1⟩
  have HE : Hid (errT t 1 ≠ 0 → r = errT t 1) := Lib.hid (fun q => by rw [← HR.out]; unfold chkH; rw [if_pos q])
  have HZ : Hid (errT t 1 = 0 → r = if (hasT t sMode && (!isTextB (getV t sMode) sAll && !isTextB (getV t sMode) sAny)) = true then 32 else 0) := Lib.hid (fun q => by rw [← HR.out]; unfold chkH; rw [if_neg (by simpa using q)])
  clear HR
  generalize errT t 1 = ev at HE HZ ⊢
  have K1 := Lib.hid k1
  clear k1
  rcases q : (ev != 0) with _ | _
  · have HZ' := Lib.hid (HZ.out (by simpa using q))
    clear HZ HE
    go_wp2_with fail
    refine (ftGet A c t sMode F _ (HT.out.still K1.out) (by omega)).mono ?_
    rintro e w2 hg
    unfold GetPost at hg
    obtain ⟨A1, c1, B1, d1, he, _, _, _, k2⟩ := hg
    have K2 := Lib.hid (K1.out.trans k2)
    clear k2
    generalize getV t sMode = v at he HZ'
    rcases hh : hasT t sMode with _ | _
    · obtain rfl : r = 0 := by rw [HZ'.out, hh]; rfl
      rw [hh] at he
      subst he
      clear HZ' hh
      go_wp2_with fail
      go_ret
      exact ⟨rfl, K2.out.alloc _⟩
    · rw [hh] at he
      subst he
      have BV := Lib.hid (Blk.new w2 32 #[.int .i64 v.kind, .int .i64 v.num, .string v.text, .slice A1 v.list.length c1, .slice B1 v.table.length d1])
      rcases h1 : isTextB v sAll with _ | _
      · have HZ2 : Hid (r = if (!isTextB v sAny) = true then 32 else 0) := Lib.hid (by rw [HZ'.out, hh, h1]; rfl)
        clear HZ' hh
        go_wp2_with fail
        refine (isText v A1 B1 c1 d1 sAll _).mono ?_
        rw [h1]
        rintro e w3 ⟨rfl, k3⟩
        have bv := BV.out.keep k3 (fun q => q)
        have v0 : w3.cell? ⟨w2.heap.size, 0, none⟩ = some (.int .i64 v.kind) := bv.cell 0
        have v1 : w3.cell? ⟨w2.heap.size, 1, none⟩ = some (.int .i64 v.num) := bv.cell 1
        have v2 : w3.cell? ⟨w2.heap.size, 2, none⟩ = some (.string v.text) := bv.cell 2
        have v3 : w3.cell? ⟨w2.heap.size, 3, none⟩ = some (.slice A1 v.list.length c1) := bv.cell 3
        have v4 : w3.cell? ⟨w2.heap.size, 4, none⟩ = some (.slice B1 v.table.length d1) := bv.cell 4
        have K3 := Lib.hid ((K2.out.alloc _).trans k3)
        clear k3 bv BV
        go_wp2_with fail
        refine (isText v A1 B1 c1 d1 sAny _).mono ?_
        rcases h2 : isTextB v sAny with _ | _
        · obtain rfl : r = 32 := by rw [HZ2.out, h2]; rfl
          rintro e w4 ⟨rfl, k4⟩
          have K4 := Lib.hid (K3.out.trans k4)
          clear k4 HZ2
          go_wp2
          go_ret
          exact ⟨rfl, K4.out⟩
        · obtain rfl : r = 0 := by rw [HZ2.out, h2]; rfl
          rintro e w4 ⟨rfl, k4⟩
          have K4 := Lib.hid (K3.out.trans k4)
          clear k4 HZ2
          go_wp2
          go_ret
          exact ⟨rfl, K4.out⟩
      · obtain rfl : r = 0 := by rw [HZ'.out, hh, h1]; rfl
        clear HZ' hh
        go_wp2_with fail
        refine (isText v A1 B1 c1 d1 sAll _).mono ?_
        rw [h1]
        rintro e w3 ⟨rfl, k3⟩
        have K3 := Lib.hid ((K2.out.alloc _).trans k3)
        clear k3 BV
        go_wp2_with fail
        go_ret
        exact ⟨rfl, K3.out⟩
  · obtain rfl : r = ev := HE.out (by simpa using q)
    clear HE HZ
    go_wp2
    go_ret
    exact ⟨rfl, K1.out⟩

/-- Find and Get tell of one place. -/
theorem find_get (t : List FF) (name : ByteArray) : (hasT t name = false ∧ findT t name = -1) ∨ ∃ j, ∃ h : j < t.length, hasT t name = true ∧ findT t name = (j : Int) ∧ getV t name = (t[j]).val := by
  rcases hq : t.findIdx? (fun f => f.name.toList == name.toList) with _ | j
  · rw [List.findIdx?_eq_none_iff] at hq
    have hg : getF t name = none := by
      unfold getF
      rw [List.find?_eq_none]
      intro x hx
      rw [hq x hx]
      decide
    refine .inl ⟨by unfold hasT; rw [hg]; rfl, ?_⟩
    unfold findT
    rw [List.findIdx?_eq_none_iff.2 hq]
  · have hf : findT t name = (j : Int) := by unfold findT; rw [hq]
    obtain ⟨hj, h1, h2⟩ := List.findIdx?_eq_some_iff_getElem.1 hq
    have hg := getF_at t name j hj (fun k hk h => by have := h2 k hk; simpa using this) h1
    exact .inr ⟨j, hj, by unfold hasT; rw [hg]; rfl, hf, by unfold getV; rw [hg]⟩

end Go.Proofs.Ytdhaojicphhikaa
