/-
  Contracts of book.Book's take, Commit, Drop.
-/
import Derived.Test.YtchpkonlfjbkeaaBook3
namespace Go.Proofs.Ytchpkonlfjbkeaa
open Go.RowKit

theorem Answers.later {S S' : Nat → Prop} {w w1 : World} {f : Nat} {caps : Array Value} {p : Slip → Bool} (h : Answers S w f caps p) (hk : Kept S w w1) (hs : ∀ i, i < w.heap.size → S' i → S i) : Answers S' w1 f caps p :=
  ⟨h.1, fun s W hW => h.2 s W (hk.trans2 hW hs)⟩

/-- Slips in new memory are handed out, the others stay in the book. -/
def TakePost (w : World) (F : Nat → Prop) (p : Nat) (out rest : List Slip) (last : Int) (e : Ending) (w' : World) : Prop :=
  ∃ A c, e = .returned (.slice A out.length c) ∧ Own w' 29 5 (w.heap.size ≤ ·) (.slice A out.length c) out.length (slipRow out) ∧ BookAt w' F p rest last ∧ Kept F w w'

set_option maxHeartbeats 800000 in
theorem bookTake (w0 w : World) (F : Nat → Prop) (p : Nat) (l : List Slip) (last : Int) (f : Nat) (caps : Array Value) (q : Slip → Bool) (h : BookAt w0 F p l last) (hk : Kept noneS w0 w) (hf : Answers (· < w0.heap.size) w f caps q) (hl : l.length * 48 ≤ 140737488355328) :
    Calls Try.prog 24 #[.pointer (some ⟨p, 0, none⟩), .func (.func f) #[] caps] w (TakePost w F p (l.filter q) (l.filter fun s => !q s) last) := by
  obtain ⟨sv, hblk, hown, hp⟩ := h
  have LB : Hid (∀ k, ownS sv k → k < w0.heap.size) := Lib.hid (fun k h => hown.lt k h)
  obtain ⟨A, c, rfl, hcap, hcm, hAn⟩ := Own.form hown
  have HB := Lib.hid (hblk.keep hk (fun q => q))
  have HO := Lib.hid (hown.keep0 hk (fun _ _ _ q => q.elim))
  have HW := Lib.hid hk.size
  have HA := Lib.hid hf
  have c0 : w.cell? ⟨p, 0, none⟩ = some (.slice A l.length c) := HB.out.cell 0
  clear hblk hown hk hf hcap hcm hAn
  go_enter Try.func24, Try.ntmps24
  go_wp2
  go_loopw [4, 12] (fun v i wr => ∃ j : Nat, j ≤ l.length ∧ i = .int .i64 j ∧ Own wr 29 5 (w.heap.size ≤ ·) v ((l.take j).filter q).length (slipRow ((l.take j).filter q)) ∧ Kept noneS w wr) (fun _ i _ => l.length - (intOf i).toNat)
  case atStart => exact ⟨0, Nat.zero_le _, rfl, Own.nil _ _ _ _, Kept.refl _ _⟩
  case round =>
    obtain ⟨j, hj, rfl, hout, hkept⟩ := hrel
    obtain ⟨A1, c1, rfl, _⟩ := Own.form hout
    have HU := Lib.hid hout
    have HK := Lib.hid hkept
    clear hout hkept
    by_cases hlt : j < l.length
    · obtain ⟨g, o, rfl, _, d0, d1, d2, d3, d4⟩ := (Rd.keep (Own.rd HO.out) HK.out (fun _ _ _ q => q.elim)).slip hlt
      have HTk := Lib.hid (List.take_succ_eq_append_getElem hlt)
      have HFl : Hid (((l.take j).filter q).length ≤ j) := Lib.hid (Nat.le_trans (List.length_filter_le _ _) (by simp; omega))
      have hcf := HA.out.1
      generalize l[j] = s at d0 d1 d2 d3 d4 HTk
      go_wp2_with fail
      refine (HA.out.2 s _ ((HK.out.alloc _).mono fun _ _ q => q.elim)).mono ?_
      rintro e w2 ⟨rfl, k2⟩
      have hb2 := (Blk.new wr 29 #[.int .i64 s.tag, .string s.queue, .int .i64 s.seq, .int .i64 s.cons, .bool s.held]).keep k2 (fun q => q)
      have x0 : w2.cell? ⟨wr.heap.size, 0, none⟩ = some (.int .i64 s.tag) := hb2.cell 0
      have x1 : w2.cell? ⟨wr.heap.size, 1, none⟩ = some (.string s.queue) := hb2.cell 1
      have x2 : w2.cell? ⟨wr.heap.size, 2, none⟩ = some (.int .i64 s.seq) := hb2.cell 2
      have x3 : w2.cell? ⟨wr.heap.size, 3, none⟩ = some (.int .i64 s.cons) := hb2.cell 3
      have x4 : w2.cell? ⟨wr.heap.size, 4, none⟩ = some (.bool s.held) := hb2.cell 4
      have U2 := Lib.hid ((HU.out.alloc (.cells #[.int .i64 s.tag, .string s.queue, .int .i64 s.seq, .int .i64 s.cons, .bool s.held] 29)).keep0 k2 (fun _ _ _ q => q.elim))
      have K2 := Lib.hid ((HK.out.alloc (.cells #[.int .i64 s.tag, .string s.queue, .int .i64 s.seq, .int .i64 s.cons, .bool s.held] 29)).trans2 k2 (fun _ _ q => q.elim))
      clear k2 hb2 hcf d0 d1 d2 d3 d4
      by_cases hp : q s = true
      · rw [hp]
        have HT1 : Hid ((l.take (j + 1)).filter q = (l.take j).filter q ++ [s]) := Lib.hid (by rw [HTk.out, List.filter_append]; simp [hp])
        clear hp
        generalize (l.take j).filter q = cur at HU U2 HT1 HFl ⊢
        go_wp2_with (at_builtin; refine wpList_appSl rfl (.tmp 19) (.tmp 21) rfl (w.heap.size ≤ ·) (.slice A1 cur.length c1) cur rfl (Own.alloc U2.out _) w2.heap.size s rfl (cells_new w2 s _) (by have := HFl.out; omega) (by have := K2.out.size; simp; omega) ?_; intro A3 c3 w3 hown3 hk3; have HO3 := Lib.hid hown3; have HK3 := Lib.hid hk3; clear hown3 hk3)
        go_roundw
        case rel => exact ⟨j + 1, by omega, by go_num, by rw [HT1.out, List.length_append]; exact HO3.out, (K2.out.alloc _).trans2 HK3.out (fun i hi h => by have := HU.out.2 i h; exact absurd hi (by omega))⟩
        case measure => simp [intOf]; omega
      · have hp' : q s = false := by simpa using hp
        rw [hp']
        have HT1 : Hid ((l.take (j + 1)).filter q = (l.take j).filter q) := Lib.hid (by rw [HTk.out, List.filter_append]; simp [hp'])
        clear hp hp'
        go_wp2
        go_roundw
        case rel => exact ⟨j + 1, by omega, by go_num, by rw [HT1.out]; exact U2.out, K2.out⟩
        case measure => simp [intOf]; omega
    · obtain rfl : j = l.length := by omega
      rw [List.take_length] at HU ⊢
      have B1 := Lib.hid (HB.out.keep HK.out (fun q => q))
      have O1 := Lib.hid (HO.out.keep0 HK.out (fun _ _ _ q => q.elim))
      have e0 : wr.cell? ⟨p, 0, none⟩ = some (.slice A l.length c) := B1.out.cell 0
      generalize hG : l.filter q = out at HU ⊢
      have HG := Lib.hid hG
      clear hG
      go_wp2_with fail
      refine (deleteFunc A c l F f caps q wr O1.out (HA.out.later (HK.out.mono fun _ _ q => q.elim) (fun i hi h => LB.out i h)) (by omega)).mono ?_
      rintro e w2 ⟨k, hkl, rfl, h2, k2⟩
      have N1 := Lib.hid (O1.out.ne_blk B1.out (by decide))
      have B2 := Lib.hid (B1.out.keep k2 N1.out)
      have e1 : w2.cell? ⟨p, 0, none⟩ = some (.slice A l.length c) := B2.out.cell 0
      have f1 := B2.out.frozen 0
      have O2 := Lib.hid h2
      have K2 := Lib.hid k2
      have U2 := Lib.hid (HU.out.keep0 k2 (fun k _ h1 h3 => by have := HU.out.2 k h1; have := LB.out k h3; have := HW.out; omega))
      have HKl := Lib.hid hkl
      clear h2 k2 e0 hkl
      go_wp2
      go_ret
      rw [HG.out]
      refine ⟨A1, c1, rfl, ?_, ⟨_, B2.out.set_ 0 _, ?_, hp⟩, ?_⟩
      · exact U2.out.far (p := ⟨p, 0, none⟩) (fun h => U2.out.ne_blk B2.out (by decide) h) _
      · rw [HKl.out]
        exact O2.out.far (p := ⟨p, 0, none⟩) (fun h => O2.out.ne_blk B2.out (by decide) h) _
      · exact ((HK.out.mono (S' := F) fun _ _ q => q.elim).trans2 K2.out (fun i _ h => HO.out.2 i h)).setCell (p := ⟨p, 0, none⟩) (fun _ => hp) _

end Go.Proofs.Ytchpkonlfjbkeaa
