/-
  warrenref03.Check, warrenref08.Check.
-/
import Derived.Test.YtdhaojicphhikaaHeadsC
import Derived.Test.YtdhaojicphhikaaTWrV
namespace Go.Proofs.Ytdhaojicphhikaa
open Go.RowKit

theorem refCheck3 (t : List FF) (A : Option Addr) (c : Nat) (F : Nat → Prop) (w : World) (h : TAt w F A t) (hl : t.length * 96 ≤ 140737488351232) :
    Calls Try.prog 17 #[.slice A t.length c] w fun e w' => e = .returned (.int .i64 (errT t 1)) ∧ Kept noneS w w' := by
  have HT := Lib.hid h
  clear h
  obtain ⟨r, HR⟩ : ∃ r, Hid (errT t 1 = r) := ⟨_, Lib.hid rfl⟩
  rw [HR.out]
  go_enter Try.func17, Try.ntmps17
  go_wp2_with fail
  refine (wrT t (fun f _ => rwv f.val) A c 1 F w HT.out hl (by decide) (by decide)).mono ?_
  rw [HR.out]
  rintro e w1 ⟨rfl, k1⟩
  have K1 := Lib.hid k1
  clear k1
  go_wp2
  go_ret
  exact ⟨rfl, K1.out⟩

set_option maxHeartbeats 1600000 in
theorem refCheck8 (t : List FF) (A : Option Addr) (c : Nat) (F : Nat → Prop) (w : World) (h : TAt w F A t) (hl : t.length * 96 ≤ 140737488351232) :
    Calls Try.prog 9 #[.slice A t.length c] w fun e w' => e = .returned (.int .i64 (chkH t)) ∧ Kept noneS w w' := by
  obtain ⟨r, HR⟩ : ∃ r, Hid (chkH t = r) := ⟨_, Lib.hid rfl⟩
  rw [HR.out]
  have HT := Lib.hid h
  clear h
  go_enter Try.func9, Try.ntmps9
  go_wp2_with fail
  refine (refCheck3 t A c F w HT.out hl).mono ?_
  rintro e w1 ⟨rfl, k1⟩
  have HE : Hid (errT t 1 ≠ 0 → r = errT t 1) := Lib.hid (fun q => by rw [← HR.out]; unfold chkH; rw [if_pos q])
  have HZ : Hid (errT t 1 = 0 → r = if (hasT t sMode && (!isTextB (getV t sMode) sAll && !isTextB (getV t sMode) sAny)) = true then 32 else 0) := Lib.hid (fun q => by rw [← HR.out]; unfold chkH; rw [if_neg (by simpa using q)])
  clear HR
  generalize errT t 1 = ev at HE HZ ⊢
  have K1 := Lib.hid k1
  clear k1
  rcases q : (ev != 0) with _ | _
  · have HZ' := Lib.hid (HZ.out (by simpa using q))
    clear HZ HE
    go_wp2_with fail
    refine (refFind A c t sMode F w1 (HT.out.still K1.out) hl).mono ?_
    rintro e w2 ⟨rfl, rfl⟩
    rcases find_get t sMode with ⟨hh, hfd⟩ | ⟨j, hj, hh, hfd, hgv⟩
    · obtain rfl : r = 0 := by rw [HZ'.out, hh]; rfl
      rw [hfd]
      clear HZ' hh hfd
      go_wp2
      go_ret
      exact ⟨rfl, K1.out⟩
    · rw [hfd]
      rw [hgv, hh] at HZ'
      obtain ⟨g, o, B1, c1, B2, c2, rfl, _, _, _, _, _, d0, d1, d2, d3, d4, d5⟩ := (HT.out.still K1.out).at_ hj
      have hji : (j : Int) < (t.length : Int) := by omega
      have hj0 : (0 : Int) ≤ (j : Int) := by omega
      clear hh hfd hgv
      generalize t[j] = f at *
      have d1 : w1.cell? ⟨g, o + j * 6 + 1, none⟩ = some (.int .i64 f.val.kind) := d1
      have d2 : w1.cell? ⟨g, o + j * 6 + 1 + 1, none⟩ = some (.int .i64 f.val.num) := d2
      have d3 : w1.cell? ⟨g, o + j * 6 + 1 + 2, none⟩ = some (.string f.val.text) := d3
      have d4 : w1.cell? ⟨g, o + j * 6 + 1 + 3, none⟩ = some (.slice B1 f.val.list.length c1) := d4
      have d5 : w1.cell? ⟨g, o + j * 6 + 1 + 4, none⟩ = some (.slice B2 f.val.table.length c2) := d5
      rcases hk : (f.val.kind == 83) with _ | _
      · obtain rfl : r = 32 := by rw [HZ'.out]; unfold isTextB; rw [hk]; rfl
        clear HZ'
        go_wp2
        go_ret
        exact ⟨rfl, K1.out.alloc _⟩
      · have HZ2 : Hid (r = if (!(f.val.text.toList == [97, 108, 108]) && !(f.val.text.toList == [97, 110, 121])) = true then 32 else 0) := Lib.hid (by rw [HZ'.out]; unfold isTextB; rw [hk, ByteArray.toList_eq sAll, ByteArray.toList_eq sAny]; rfl)
        clear HZ'
        rcases hx : (f.val.text.toList == [97, 108, 108]) with _ | _
        · rcases hy : (f.val.text.toList == [97, 110, 121]) with _ | _
          · obtain rfl : r = 32 := by rw [HZ2.out, hx, hy]; rfl
            clear HZ2
            go_wp2
            go_ret
            exact ⟨rfl, K1.out.alloc _⟩
          · obtain rfl : r = 0 := by rw [HZ2.out, hx, hy]; rfl
            clear HZ2
            go_wp2
            go_ret
            exact ⟨rfl, K1.out.alloc _⟩
        · obtain rfl : r = 0 := by rw [HZ2.out, hx]; rfl
          clear HZ2
          go_wp2
          go_ret
          exact ⟨rfl, K1.out.alloc _⟩
  · obtain rfl : r = ev := HE.out (by simpa using q)
    clear HE HZ
    go_wp2
    go_ret
    exact ⟨rfl, K1.out⟩

end Go.Proofs.Ytdhaojicphhikaa
