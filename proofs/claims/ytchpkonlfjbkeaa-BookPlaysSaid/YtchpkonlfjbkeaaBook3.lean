/-
  slices.DeleteFunc at slips.
-/
import Derived.Test.YtchpkonlfjbkeaaBook2
namespace Go.Proofs.Ytchpkonlfjbkeaa
open Go.RowKit

theorem row_set (l : List Slip) (i : Nat) (s : Slip) (hi : i < l.length) :
    (((((slipRow l).set (i * 5) (.int .i64 s.tag)).set (i * 5 + 1) (.string s.queue)).set (i * 5 + 2) (.int .i64 s.seq)).set (i * 5 + 3) (.int .i64 s.cons)).set (i * 5 + 4) (.bool s.held) = slipRow (l.set i s) := by
  induction l generalizing i with
  | nil => simp at hi
  | cons x l ih =>
    cases i with
    | zero => simp [slipRow, Slip.cells]
    | succ i =>
      have h := ih i (by simpa using hi)
      have e : slipRow (x :: l) = x.cells ++ slipRow l := rfl
      have e2 : slipRow ((x :: l).set (i + 1) s) = x.cells ++ slipRow (l.set i s) := rfl
      have h5 : x.cells.length = 5 := rfl
      rw [e, e2, ← h]
      simp only [show (i + 1) * 5 = 5 + i * 5 by omega, Nat.add_assoc 5]
      rw [← h5]
      simp only [List.set_append_right _ _ (Nat.le_add_right _ _), Nat.add_sub_cancel_left]

/-- The five cells of a slip of an owned row, and what a store of a slip there leaves. -/
theorem Own.slip {w : World} {F : Nat → Prop} {A : Option Addr} {n cap : Nat} {l : List Slip} (h : Own w 29 5 F (.slice A n cap) n (slipRow l)) (hl : l.length = n) {i : Nat} (hi : i < n) (s : Slip) :
    ∃ g, A = some ⟨g, 0, none⟩ ∧ ownS (.slice A n cap) g ∧ (∀ k, k < 5 → (w.cell? ⟨g, i * 5 + k, none⟩).isSome = true ∧ w.frozen? ⟨g, i * 5 + k, none⟩ = false) ∧
      Own (((((w.setCell ⟨g, i * 5, none⟩ (.int .i64 s.tag)).setCell ⟨g, i * 5 + 1, none⟩ (.string s.queue)).setCell ⟨g, i * 5 + 2, none⟩ (.int .i64 s.seq)).setCell ⟨g, i * 5 + 3, none⟩ (.int .i64 s.cons)).setCell ⟨g, i * 5 + 4, none⟩ (.bool s.held)) 29 5 F (.slice A n cap) n (slipRow (l.set i s)) := by
  rcases h.1.2 with ⟨h0, h1⟩ | ⟨g, cap', cur, h0, hb, hh, h1, h2, h3, h4⟩
  · omega
  · injection h0 with hA hn hcap
    subst hA hcap
    have hblk : Blk w g 29 cur := hh
    refine ⟨g, rfl, rfl, fun k hk => ⟨?_, hblk.frozen _⟩, ?_, h.2⟩
    · rw [hblk.cell]
      have : i * 5 + k < cur.size := by rw [h3]; omega
      simp [this]
    · have a1 := (h.1.stored (i * 5) (.int .i64 s.tag)).1
      have a2 := (a1.stored (i * 5 + 1) (.string s.queue)).1
      have a3 := (a2.stored (i * 5 + 2) (.int .i64 s.seq)).1
      have a4 := (a3.stored (i * 5 + 3) (.int .i64 s.cons)).1
      have a5 := (a4.stored (i * 5 + 4) (.bool s.held)).1
      rw [row_set l i s (by omega)] at a5
      exact a5

theorem zeroSlip (w : World) : (zeroValue 29).run Try.prog w = .ok (.agg #[.int .i64 0, .string ⟨#[]⟩, .int .i64 0, .int .i64 0, .bool false]) w := by kernel_rfl

theorem Own.cut_ {w : World} {e : TypeId} {size : Nat} {F : Nat → Prop} {A : Option Addr} {n cap : Nat} {xs : List Value} (h : Own w e size F (.slice A n cap) n xs) {k : Nat} (hk : k ≤ n) (hA : A ≠ none) : Own w e size F (.slice A k cap) k (xs.take (k * size)) := by
  rcases h.1.2 with ⟨h0, h1⟩ | ⟨g, cap', cur, h0, hb, hh, h1, h2, h3, h4⟩
  · injection h0 with h0; exact absurd h0 hA
  · injection h0 with hA' hn hcap
    subst hA' hcap
    refine ⟨⟨?_, .inr ⟨g, cap, cur, rfl, hb, hh, by omega, h2, h3, ?_⟩⟩, h.2⟩
    · rw [List.length_take, h.1.1]
      exact Nat.min_eq_left (Nat.mul_le_mul_right _ hk)
    · rw [← h4, List.take_take, Nat.min_eq_left (Nat.mul_le_mul_right _ hk)]

/-- clear(s[k:]): the first k stay. -/
theorem run_clear_tail {w : World} {F : Nat → Prop} {A : Option Addr} {n cap : Nat} {xs : List Value} (h : Own w 29 5 F (.slice A n cap) n xs) {k : Nat} (hk : k ≤ n) (hA : A ≠ none) :
    ∃ w', (∀ ty, (Builtin.clear_ #[27] ty #[.slice (if cap = k then A else A.map (·.add (k * 5))) (n - k) (cap - k)]).run Try.prog w = .ok (.tuple #[]) w') ∧ Own w' 29 5 F (.slice A k cap) k (xs.take (k * 5)) ∧ Kept (ownS (.slice A n cap)) w w' := by
  have hcut := h.cut_ hk hA
  rcases h.1.2 with ⟨h0, h1⟩ | ⟨g, cap', cur, h0, hb, hh, h1, h2, h3, h4⟩
  · injection h0 with h0; exact absurd h0 hA
  · injection h0 with hA' hn hcap
    subst hA' hcap
    by_cases hkn : k = n
    · subst hkn
      refine ⟨w, fun ty => ?_, hcut, Kept.refl _ _⟩
      rw [Nat.sub_self]
      by_cases hc : cap = k <;> simp [Builtin.clear_, run_underlying Try.underlying27, hc]
    · have hsz : (Builtin.zeroCells #[.int .i64 0, .string ⟨#[]⟩, .int .i64 0, .int .i64 0, .bool false] (n - k)).toList.length = (n - k) * 5 := by simp [Builtin.zeroCells]
      have hone : ∀ v ∈ (Builtin.zeroCells #[.int .i64 0, .string ⟨#[]⟩, .int .i64 0, .int .i64 0, .bool false] (n - k)).toList, v.oneCell' = true := by
        intro v hv
        simp only [Builtin.zeroCells, Array.toList_map, List.mem_map] at hv
        obtain ⟨i, _, rfl⟩ := hv
        have h5 : i % 5 < 5 := Nat.mod_lt _ (by decide)
        show (#[Value.int .i64 0, .string ⟨#[]⟩, .int .i64 0, .int .i64 0, .bool false][i % 5]!).oneCell' = true
        generalize i % 5 = m at h5
        rcases m with _ | _ | _ | _ | _ | m
        · rfl
        · rfl
        · rfl
        · rfl
        · rfl
        · omega
      generalize hz : (Builtin.zeroCells #[.int .i64 0, .string ⟨#[]⟩, .int .i64 0, .int .i64 0, .bool false] (n - k)).toList = zs at hsz hone
      have hst := run_storeCells_at (P := Try.prog) g (k * 5) 29 zs 0 cur w hh (by rw [hsz, h3]; omega) hone
      refine ⟨w.setRow g (cur.toList.take (k * 5 + 0) ++ zs ++ cur.toList.drop (k * 5 + 0 + zs.length)).toArray, fun ty => ?_, ⟨⟨hcut.1.1, .inr ⟨g, cap, (cur.toList.take (k * 5 + 0) ++ zs ++ cur.toList.drop (k * 5 + 0 + zs.length)).toArray, rfl, hb, setRow_heap w g cur _ _ _ hh, by omega, h2, ?_, ?_⟩⟩, h.2⟩, ⟨rfl, rfl, rfl, by simp, fun i hi hn => setRow_other w g i _ (fun e => hn (by subst e; rfl))⟩⟩
      · have hadd : (⟨g, 0, none⟩ : Addr).add (k * 5) = ⟨g, k * 5, none⟩ := by
          unfold Addr.add
          by_cases h0 : k * 5 = 0 <;> simp [h0]
        generalize w.setRow g (cur.toList.take (k * 5 + 0) ++ zs ++ cur.toList.drop (k * 5 + 0 + zs.length)).toArray = W' at hst ⊢
        rw [if_neg (by omega)]
        obtain ⟨m, hm⟩ : ∃ m, n - k = m + 1 := ⟨n - k - 1, by omega⟩
        simp only [Option.map_some, hadd]
        rw [hm]
        rw [hm] at hz
        simp [Builtin.clear_, run_underlying Try.underlying27, zeroSlip, Value.cells, hz, hst]
      · simp only [Nat.add_zero, List.size_toArray, List.length_append, List.length_take, List.length_drop, Array.length_toList]
        rw [hsz, h3]
        omega
      · simp only [Nat.add_zero]
        rw [List.append_assoc, List.take_append_of_le_length (by simp; rw [h3]; omega), List.take_take, Nat.min_self, ← h4, List.take_take, Nat.min_eq_left (by omega)]

/-- What DeleteFunc leaves. -/
def DelPost (w : World) (F : Nat → Prop) (A : Option Addr) (n c : Nat) (l : List Slip) (e : Ending) (w' : World) : Prop :=
  ∃ k, l.length = k ∧ e = .returned (.slice A k c) ∧ Own w' 29 5 F (.slice A k c) k (slipRow l) ∧ Kept (ownS (.slice A n c)) w w'

set_option maxHeartbeats 800000 in
theorem deleteFunc (A : Option Addr) (c : Nat) (l : List Slip) (F : Nat → Prop) (f : Nat) (caps : Array Value) (p : Slip → Bool) (w : World) (hown : Own w 29 5 F (.slice A l.length c) l.length (slipRow l)) (hf : Answers (ownS (.slice A l.length c)) w f caps p) (hl : l.length ≤ 9223372036854775806) :
    Calls Try.prog 34 #[.slice A l.length c, .func (.func f) #[] caps] w (DelPost w F A l.length c (l.filter fun s => !p s)) := by
  have HO := Lib.hid hown
  have HA := Lib.hid hf
  clear hown hf
  go_enter Try.func34, Try.ntmps34
  go_wp2_with fail
  refine (indexFunc A c l F f caps p w (Own.rd HO.out) HA.out (by omega)).mono ?_
  rintro e w1 ⟨rfl, k1⟩
  have K1 := Lib.hid k1
  have O1 := Lib.hid (HO.out.keep0 k1 (fun _ _ _ q => q.elim))
  clear k1
  cases hfi : l.findIdx? p with
  | none =>
    have HI : Hid (idxOf l p = -1) := Lib.hid (by unfold idxOf; rw [hfi])
    have HFl : Hid (l.filter (fun s => !p s) = l) := Lib.hid (by
      rw [List.filter_eq_self]
      rw [List.findIdx?_eq_none_iff] at hfi
      intro s hs
      simp [hfi s hs])
    rw [HI.out]
    clear hfi
    go_wp2
    go_ret
    rw [HFl.out]
    exact ⟨l.length, rfl, rfl, O1.out, K1.out.mono (fun _ _ q => q.elim)⟩
  | some i0 =>
    obtain ⟨hi0, hp0, hmin⟩ := List.findIdx?_eq_some_iff_getElem.1 hfi
    have HI : Hid (idxOf l p = (i0 : Int)) := Lib.hid (by unfold idxOf; rw [hfi])
    have HS : Hid (l.take i0 = (l.take (i0 + 1)).filter (fun s => !p s)) := Lib.hid (by
      rw [List.take_succ_eq_append_getElem hi0, List.filter_append]
      have e1 : (l.take i0).filter (fun s => !p s) = l.take i0 := by
        rw [List.filter_eq_self]
        intro s hs
        obtain ⟨i, hi, rfl⟩ := List.mem_take_iff_getElem.1 hs
        have := hmin i (by omega)
        simpa using this
      rw [e1]
      simp [hp0])
    obtain ⟨g, hA⟩ : ∃ g, A = some ⟨g, 0, none⟩ := by obtain ⟨g, hA, _⟩ := Own.slip O1.out rfl hi0 ⟨0, .empty, 0, 0, false⟩; exact ⟨g, hA⟩
    subst hA
    rw [HI.out]
    clear hfi hmin hp0
    have hneq : ((i0 : Int) == -1) = false := by rw [beq_eq_false_iff_ne]; omega
    go_wp2
    go_loopw [5, 6] (fun vi vj wr => ∃ (i j : Nat) (cur : List Slip), i < j ∧ j ≤ l.length ∧ vi = .int .i64 i ∧ vj = .int .i64 j ∧ Hid (cur.length = l.length) ∧ Hid (cur.take i = (l.take j).filter (fun s => !p s)) ∧ Hid (cur.drop j = l.drop j) ∧ Own wr 29 5 F (.slice (some ⟨g, 0, none⟩) l.length c) l.length (slipRow cur) ∧ Kept (ownS (.slice (some ⟨g, 0, none⟩) l.length c)) w wr) (fun _ vj _ => l.length - (intOf vj).toNat)
    case atStart => exact ⟨i0, i0 + 1, l, by omega, by omega, rfl, by go_num, Lib.hid rfl, HS.out |> Lib.hid, Lib.hid rfl, O1.out, K1.out.mono (fun _ _ q => q.elim)⟩
    case round =>
      clear HS HI hneq O1 K1
      obtain ⟨i, j, cur, hij, hjl, rfl, rfl, HCl, HCt, HCd, hown, hkept⟩ := hrel
      have HOr := Lib.hid hown
      have HK := Lib.hid hkept
      clear hown hkept
      by_cases hlt : j < l.length
      · have hjc : j < cur.length := by rw [HCl.out]; exact hlt
        obtain ⟨g1, o1, e1, _, c0, c1, c2, c3, c4⟩ := (Own.rd HOr.out).slip hjc
        injection e1 with e1
        injection e1 with e1 e2
        subst e1 e2
        have HEq : Hid (cur[j] = l[j]) := Lib.hid (by
          have h1 : (cur.drop j)[0]? = (l.drop j)[0]? := by rw [HCd.out]
          simpa [List.getElem?_drop, hjc, hlt] using h1)
        rw [HEq.out] at c0 c1 c2 c3 c4
        have HTk := Lib.hid (List.take_succ_eq_append_getElem hlt)
        have HDr : Hid (cur.drop (j + 1) = l.drop (j + 1)) := Lib.hid (by
          have h1 := congrArg (List.drop 1) HCd.out
          simpa using h1)
        generalize l[j] = s at c0 c1 c2 c3 c4 HTk HEq
        simp only [Nat.zero_add] at c0 c1 c2 c3 c4
        have hcf := HA.out.1
        go_wp2_with fail
        refine (HA.out.2 s _ (HK.out.alloc _)).mono ?_
        rintro e w2 ⟨rfl, k2⟩
        have hb2 := (Blk.new wr 29 #[.int .i64 s.tag, .string s.queue, .int .i64 s.seq, .int .i64 s.cons, .bool s.held]).keep k2 (fun q => q)
        have d0 : w2.cell? ⟨wr.heap.size, 0, none⟩ = some (.int .i64 s.tag) := hb2.cell 0
        have d1 : w2.cell? ⟨wr.heap.size, 1, none⟩ = some (.string s.queue) := hb2.cell 1
        have d2 : w2.cell? ⟨wr.heap.size, 2, none⟩ = some (.int .i64 s.seq) := hb2.cell 2
        have d3 : w2.cell? ⟨wr.heap.size, 3, none⟩ = some (.int .i64 s.cons) := hb2.cell 3
        have d4 : w2.cell? ⟨wr.heap.size, 4, none⟩ = some (.bool s.held) := hb2.cell 4
        have O2 := Lib.hid ((HOr.out.alloc (.cells #[.int .i64 s.tag, .string s.queue, .int .i64 s.seq, .int .i64 s.cons, .bool s.held] 29)).keep0 k2 (fun _ _ _ q => q.elim))
        have K2 := Lib.hid ((HK.out.alloc (.cells #[.int .i64 s.tag, .string s.queue, .int .i64 s.seq, .int .i64 s.cons, .bool s.held] 29)).trans2 k2 (fun _ _ q => q.elim))
        clear k2 hb2 hcf c0 c1 c2 c3 c4
        by_cases hp : p s = true
        · rw [hp]
          have HP := Lib.hid hp
          clear hp
          go_wp2
          go_roundw
          case rel => exact ⟨i, j + 1, cur, by omega, by omega, rfl, by go_num, HCl, Lib.hid (by rw [HTk.out, List.filter_append, ← HCt.out]; simp [HP.out]), HDr, O2.out, K2.out⟩
          case measure => simp [intOf]; omega
        · have hp' : p s = false := by simpa using hp
          have HP := Lib.hid hp'
          rw [hp']
          clear hp hp'
          obtain ⟨g2, e2, _, hcells, hst⟩ := Own.slip O2.out HCl.out (show i < l.length by omega) s
          injection e2 with e2
          injection e2 with e2
          subst e2
          have HSt := Lib.hid hst
          obtain ⟨u0, x0⟩ := Option.isSome_iff_exists.1 (hcells 0 (by decide)).1
          obtain ⟨u1, x1⟩ := Option.isSome_iff_exists.1 (hcells 1 (by decide)).1
          obtain ⟨u2, x2⟩ := Option.isSome_iff_exists.1 (hcells 2 (by decide)).1
          obtain ⟨u3, x3⟩ := Option.isSome_iff_exists.1 (hcells 3 (by decide)).1
          obtain ⟨u4, x4⟩ := Option.isSome_iff_exists.1 (hcells 4 (by decide)).1
          have y0 := (hcells 0 (by decide)).2
          have y1 := (hcells 1 (by decide)).2
          have y2 := (hcells 2 (by decide)).2
          have y3 := (hcells 3 (by decide)).2
          have y4 := (hcells 4 (by decide)).2
          simp only [Nat.add_zero] at x0 y0
          clear hcells hst
          go_wp2
          go_roundw
          case rel =>
            refine ⟨i + 1, j + 1, cur.set i s, by omega, by omega, by go_num, by go_num, Lib.hid (by rw [List.length_set]; exact HCl.out), Lib.hid ?_, Lib.hid ?_, HSt.out, ?_⟩
            · rw [HTk.out, List.filter_append, ← HCt.out]
              have hi : i < cur.length := by omega
              rw [List.take_succ_eq_append_getElem (by rw [List.length_set]; exact hi), List.take_set_of_le (Nat.le_refl _)]
              simp [HP.out]
            · rw [List.drop_set_of_lt (by omega)]
              exact HDr.out
            · exact ((((K2.out.setCell (p := ⟨g, i * 5, none⟩) (fun _ => rfl) _).setCell (p := ⟨g, i * 5 + 1, none⟩) (fun _ => rfl) _).setCell (p := ⟨g, i * 5 + 2, none⟩) (fun _ => rfl) _).setCell (p := ⟨g, i * 5 + 3, none⟩) (fun _ => rfl) _).setCell (p := ⟨g, i * 5 + 4, none⟩) (fun _ => rfl) _
          case measure => simp [intOf]; omega
      · obtain rfl : j = l.length := by omega
        obtain ⟨w3, hcl, hown3, hk3⟩ := run_clear_tail HOr.out (k := i) (by omega) (by simp)
        have HFl : Hid (slipRow (l.filter fun s => !p s) = (slipRow cur).take (i * 5) ∧ (l.filter fun s => !p s).length = i) := Lib.hid (by
          have h1 := HCt.out
          rw [List.take_length] at h1
          have h2 : (cur.take i).length = i := by rw [List.length_take, HCl.out]; omega
          refine ⟨?_, by rw [← h1]; exact h2⟩
          rw [← h1]
          have h3 : slipRow cur = slipRow (cur.take i) ++ slipRow (cur.drop i) := by rw [← slipRow_append, List.take_append_drop]
          have h4 : (slipRow (cur.take i)).length = i * 5 := by rw [slipRow_length, h2]
          rw [h3, ← h4, List.take_left'] <;> rfl)
        have hcc : l.length ≤ c ∧ c ≤ 9223372036854775807 := by
          obtain ⟨_, _, e9, h9, h9b, _⟩ := Own.form HOr.out
          injection e9 with e9a e9b e9c
          unfold maxLen at h9b
          omega
        obtain ⟨hcc1, hcc2⟩ := hcc
        have HO3 := Lib.hid hown3
        have HK3 := Lib.hid hk3
        have hadd : (⟨g, 0, none⟩ : Addr).add (i * 5) = ⟨g, i * 5, none⟩ := by
          unfold Addr.add
          by_cases h0 : i * 5 = 0 <;> simp [h0]
        rw [if_neg (by omega), Option.map_some, hadd] at hcl
        clear hown3 hk3 hadd
        go_wp2
        go_ret
        refine ⟨i, HFl.out.2, rfl, ?_, HK.out.trans HK3.out⟩
        rw [HFl.out.1]
        exact HO3.out

end Go.Proofs.Ytchpkonlfjbkeaa
