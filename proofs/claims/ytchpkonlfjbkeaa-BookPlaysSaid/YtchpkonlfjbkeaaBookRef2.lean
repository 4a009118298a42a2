/-
  warrenref20's split.
-/
import Derived.Test.YtchpkonlfjbkeaaBookRef1
namespace Go.Proofs.Ytchpkonlfjbkeaa
open Go.RowKit

def bools (l : List Bool) : List Value := l.map .bool

theorem Rd.bool {w : World} {F : Nat → Prop} {A : Option Addr} {l : List Bool} (h : Rd w F A (bools l)) {j : Nat} (hj : j < l.length) : ∃ g o, A = some ⟨g, o, none⟩ ∧ F g ∧ w.cell? ⟨g, o + j, none⟩ = some (.bool l[j]) := by
  rcases h with h | ⟨g, o, h, hF, hc⟩
  · have := congrArg List.length h
    simp [bools] at this
    subst this
    simp at hj
  · exact ⟨g, o, h, hF, hc j _ (by simp [bools, hj])⟩

/-- Two rows of new memory, apart from one another. -/
def SplitPost (w : World) (a b : List Slip) (e : Ending) (w' : World) : Prop :=
  ∃ (A1 : Option Addr) (c1 : Nat) (A2 : Option Addr) (c2 : Nat) (FA FB : Nat → Prop), e = .returned (.tuple #[.slice A1 a.length c1, .slice A2 b.length c2]) ∧ Own w' 29 5 FA (.slice A1 a.length c1) a.length (slipRow a) ∧ Own w' 29 5 FB (.slice A2 b.length c2) b.length (slipRow b) ∧
    (∀ k, FA k → FB k → False) ∧ (∀ k, FA k → w.heap.size ≤ k) ∧ (∀ k, FB k → w.heap.size ≤ k) ∧ Kept noneS w w'

set_option maxHeartbeats 800000 in
theorem refSplit (A : Option Addr) (c : Nat) (l : List Slip) (B : Option Addr) (d : Nat) (q : Slip → Bool) (F G : Nat → Prop) (w : World) (hr : Rd w F A (slipRow l)) (hb : Rd w G B (bools (l.map q))) (hl : l.length * 48 ≤ 140737488355328) :
    Calls Try.prog 35 #[.slice A l.length c, .slice B l.length d] w (SplitPost w (l.filter q) (l.filter fun s => !q s)) := by
  have HR := Lib.hid hr
  have HB := Lib.hid hb
  clear hr hb
  go_enter Try.func35, Try.ntmps35
  go_wp2
  go_loopw [6, 7, 8] (fun va vb i wr => ∃ (j : Nat) (FA FB : Nat → Prop), j ≤ l.length ∧ i = .int .i64 j ∧ Own wr 29 5 FA va ((l.take j).filter q).length (slipRow ((l.take j).filter q)) ∧ Own wr 29 5 FB vb ((l.take j).filter fun s => !q s).length (slipRow ((l.take j).filter fun s => !q s)) ∧
    (∀ k, FA k → FB k → False) ∧ (∀ k, FA k → w.heap.size ≤ k ∧ k < wr.heap.size) ∧ (∀ k, FB k → w.heap.size ≤ k ∧ k < wr.heap.size) ∧ Kept noneS w wr) (fun _ _ i _ => l.length - (intOf i).toNat)
  case atStart =>
    refine ⟨0, (· = w.heap.size), (· = w.heap.size + 1), Nat.zero_le _, rfl, (Own.empty w 29 5 (· = w.heap.size) rfl).alloc _, ?_, fun k a b => by omega, fun k a => by simp; omega, fun k a => by simp; omega, ((Kept.refl _ _).alloc _).alloc _⟩
    have := Own.empty (w.alloc (.cells #[] 29)) 29 5 (· = w.heap.size + 1) (by simp)
    simpa [slipRow] using this
  case round =>
    obtain ⟨j, FA, FB, hj, rfl, hoa, hob, hd, hfa, hfb, hk⟩ := hrel
    obtain ⟨A1, c1, rfl, _⟩ := Own.form hoa
    obtain ⟨A2, c2, rfl, _⟩ := Own.form hob
    have OA := Lib.hid hoa
    have OB := Lib.hid hob
    have HD := Lib.hid hd
    have HA := Lib.hid hfa
    have HBb := Lib.hid hfb
    have K := Lib.hid hk
    clear hoa hob hd hfa hfb hk
    by_cases hlt : j < l.length
    · obtain ⟨g, o, rfl, _, d0, d1, d2, d3, d4⟩ := (Rd.keep HR.out K.out (fun _ _ _ q => q.elim)).slip hlt
      obtain ⟨g2, o2, rfl, _, b0⟩ := (Rd.keep HB.out K.out (fun _ _ _ q => q.elim)).bool (j := j) (by simpa using hlt)
      rw [List.getElem_map] at b0
      have HTk := Lib.hid (List.take_succ_eq_append_getElem hlt)
      have hla : ((l.take j).filter q).length ≤ j := Nat.le_trans (List.length_filter_le _ _) (by simp; omega)
      have hlb : ((l.take j).filter fun s => !q s).length ≤ j := Nat.le_trans (List.length_filter_le _ _) (by simp; omega)
      have hks := K.out.size
      generalize l[j] = s at d0 d1 d2 d3 d4 b0 HTk
      by_cases hq : q s = true
      · rw [hq] at b0
        have T1 : Hid ((l.take (j + 1)).filter q = (l.take j).filter q ++ [s]) := Lib.hid (by rw [HTk.out, List.filter_append]; simp [hq])
        have T2 : Hid ((l.take (j + 1)).filter (fun s => !q s) = (l.take j).filter (fun s => !q s)) := Lib.hid (by rw [HTk.out, List.filter_append]; simp [hq])
        clear hq HTk
        generalize (l.take j).filter q = ca at OA T1 hla ⊢
        generalize (l.take j).filter (fun s => !q s) = cb at OB T2 hlb ⊢
        go_wp2_with (at_builtin; refine wpList_appSl rfl (.tmp 21) (.tmp 26) rfl (fun k => FA k ∨ wr.heap.size ≤ k) (.slice A1 ca.length c1) ca rfl (Own.alloc (OA.out.mono fun _ _ h => .inl h) _) wr.heap.size s rfl (cells_new wr s _) (by omega) (.inr (by simp)) ?_; intro A3 c3 w3 hown3 hk3; have HO3 := Lib.hid hown3; have HK3 := Lib.hid hk3; clear hown3 hk3)
        go_roundw
        case rel =>
          have hs3 := HK3.out.size
          simp at hs3
          refine ⟨j + 1, fun k => (FA k ∨ wr.heap.size ≤ k) ∧ k < w3.heap.size, FB, by omega, by go_num, ?_, ?_, fun k a b => ?_, fun k a => ?_, fun k a => ?_, (K.out.alloc _).trans2 HK3.out (fun i hi h => ?_)⟩
          · rw [T1.out, List.length_append]
            exact HO3.out.mono fun k h1 h2 => ⟨h2, h1⟩
          · rw [T2.out]
            exact (OB.out.alloc _).keep0 HK3.out (fun k _ h1 h2 => HD.out k (OA.out.2 k h2) (OB.out.2 k h1))
          · rcases a.1 with h | h
            · exact HD.out k h b
            · have := HBb.out k b; omega
          · rcases a.1 with h | h
            · have := HA.out k h; omega
            · omega
          · have := HBb.out k a; omega
          · have := HA.out i (OA.out.2 i h); exact absurd hi (by omega)
        case measure => simp [intOf]; omega
      · have hq' : q s = false := by simpa using hq
        rw [hq'] at b0
        have T1 : Hid ((l.take (j + 1)).filter q = (l.take j).filter q) := Lib.hid (by rw [HTk.out, List.filter_append]; simp [hq'])
        have T2 : Hid ((l.take (j + 1)).filter (fun s => !q s) = (l.take j).filter (fun s => !q s) ++ [s]) := Lib.hid (by rw [HTk.out, List.filter_append]; simp [hq'])
        clear hq hq' HTk
        generalize (l.take j).filter q = ca at OA T1 hla ⊢
        generalize (l.take j).filter (fun s => !q s) = cb at OB T2 hlb ⊢
        go_wp2_with (at_builtin; refine wpList_appSl rfl (.tmp 28) (.tmp 33) rfl (fun k => FB k ∨ wr.heap.size ≤ k) (.slice A2 cb.length c2) cb rfl (Own.alloc (OB.out.mono fun _ _ h => .inl h) _) wr.heap.size s rfl (cells_new wr s _) (by omega) (.inr (by simp)) ?_; intro A3 c3 w3 hown3 hk3; have HO3 := Lib.hid hown3; have HK3 := Lib.hid hk3; clear hown3 hk3)
        go_roundw
        case rel =>
          have hs3 := HK3.out.size
          simp at hs3
          refine ⟨j + 1, FA, fun k => (FB k ∨ wr.heap.size ≤ k) ∧ k < w3.heap.size, by omega, by go_num, ?_, ?_, fun k a b => ?_, fun k a => ?_, fun k a => ?_, (K.out.alloc _).trans2 HK3.out (fun i hi h => ?_)⟩
          · rw [T1.out]
            exact (OA.out.alloc _).keep0 HK3.out (fun k _ h1 h2 => HD.out k (OA.out.2 k h1) (OB.out.2 k h2))
          · rw [T2.out, List.length_append]
            exact HO3.out.mono fun k h1 h2 => ⟨h2, h1⟩
          · rcases b.1 with h | h
            · exact HD.out k a h
            · have := HA.out k a; omega
          · have := HA.out k a; omega
          · rcases a.1 with h | h
            · have := HBb.out k h; omega
            · omega
          · have := HBb.out i (OB.out.2 i h); exact absurd hi (by omega)
        case measure => simp [intOf]; omega
    · obtain rfl : j = l.length := by omega
      rw [List.take_length] at OA OB ⊢
      generalize hG : l.filter q = ca at OA ⊢
      generalize hH : l.filter (fun s => !q s) = cb at OB ⊢
      have HG := Lib.hid hG
      have HH := Lib.hid hH
      clear hG hH
      go_wp2
      go_ret2
      rw [HG.out, HH.out]
      exact ⟨A1, c1, A2, c2, FA, FB, rfl, OA.out, OB.out, HD.out, fun k h => (HA.out k h).1, fun k h => (HBb.out k h).1, K.out⟩

end Go.Proofs.Ytchpkonlfjbkeaa
