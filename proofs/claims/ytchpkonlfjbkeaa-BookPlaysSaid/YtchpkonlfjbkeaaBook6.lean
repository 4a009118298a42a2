/-
  Contracts of book.Book's Rollback, Count, Slips.
-/
import Derived.Test.YtchpkonlfjbkeaaBook5
namespace Go.Proofs.Ytchpkonlfjbkeaa
open Go.RowKit

def Slip.hold (b : Bool) (s : Slip) : Slip := { s with held := b }

theorem row_held (l : List Slip) (i : Nat) (b : Bool) (hi : i < l.length) : (slipRow l).set (i * 5 + 4) (.bool b) = slipRow (l.set i ((l[i]).hold b)) := by
  induction l generalizing i with
  | nil => simp at hi
  | cons x l ih =>
    cases i with
    | zero => simp [slipRow, Slip.cells, Slip.hold]
    | succ i =>
      have h := ih i (by simpa using hi)
      have e : slipRow (x :: l) = x.cells ++ slipRow l := rfl
      have e2 : slipRow ((x :: l).set (i + 1) (((x :: l)[i + 1]).hold b)) = x.cells ++ slipRow (l.set i ((l[i]'(by simpa using hi)).hold b)) := rfl
      have h5 : x.cells.length = 5 := rfl
      rw [e, e2, ← h]
      simp only [show (i + 1) * 5 = 5 + i * 5 by omega, Nat.add_assoc 5]
      rw [← h5]
      simp only [List.set_append_right _ _ (Nat.le_add_right _ _), Nat.add_sub_cancel_left]

/-- A slip's cells in an owned row, and what turning its mark leaves. -/
theorem Own.held {w : World} {F : Nat → Prop} {A : Option Addr} {n cap : Nat} {l : List Slip} (h : Own w 29 5 F (.slice A n cap) n (slipRow l)) (hl : l.length = n) {i : Nat} (hi : i < l.length) :
    ∃ g, A = some ⟨g, 0, none⟩ ∧ ownS (.slice A n cap) g ∧ w.cell? ⟨g, i * 5, none⟩ = some (.int .i64 (l[i]).tag) ∧ w.cell? ⟨g, i * 5 + 1, none⟩ = some (.string (l[i]).queue) ∧ w.cell? ⟨g, i * 5 + 2, none⟩ = some (.int .i64 (l[i]).seq) ∧
      w.cell? ⟨g, i * 5 + 3, none⟩ = some (.int .i64 (l[i]).cons) ∧ w.cell? ⟨g, i * 5 + 4, none⟩ = some (.bool (l[i]).held) ∧ w.frozen? ⟨g, i * 5 + 4, none⟩ = false ∧
      ∀ b, Own (w.setCell ⟨g, i * 5 + 4, none⟩ (.bool b)) 29 5 F (.slice A n cap) n (slipRow (l.set i ((l[i]).hold b))) := by
  obtain ⟨g, rfl, h1, h2, _⟩ := Own.slip h hl (i := i) (by omega) ⟨0, .empty, 0, 0, false⟩
  obtain ⟨g', o, h3, _, d0, d1, d2, d3, d4⟩ := (Own.rd h).slip hi
  injection h3 with h3
  injection h3 with h4 h5
  subst h4 h5
  simp only [Nat.zero_add] at d0 d1 d2 d3 d4
  refine ⟨g, rfl, h1, d0, d1, d2, d3, d4, (h2 4 (by omega)).2, fun b => ⟨?_, h.2⟩⟩
  have := (h.1.stored (i * 5 + 4) (.bool b)).1
  rw [row_held l i b hi] at this
  exact this

theorem part_set (f : Slip → Slip) (l : List Slip) (j : Nat) (hj : j < l.length) : ((l.take j).map f ++ l.drop j).set j (f l[j]) = (l.take (j + 1)).map f ++ l.drop (j + 1) := by
  rw [List.set_append_right _ _ (by simp; omega), List.take_succ_eq_append_getElem hj, List.map_append, List.append_assoc, List.drop_eq_getElem_cons hj]
  have : j - ((l.take j).map f).length = 0 := by simp; omega
  rw [this, List.set_cons_zero]
  rfl
theorem part_get (f : Slip → Slip) (l : List Slip) (j : Nat) (hj : j < l.length) : ((l.take j).map f ++ l.drop j)[j]'(by simp; omega) = l[j] := by
  rw [List.getElem_append_right (by simp; omega)]
  have : j - ((l.take j).map f).length = 0 := by simp; omega
  simp [Nat.min_eq_left (Nat.le_of_lt hj)]
theorem part_len (f : Slip → Slip) (l : List Slip) (j : Nat) (hj : j ≤ l.length) : ((l.take j).map f ++ l.drop j).length = l.length := by simp; omega

set_option maxHeartbeats 800000 in
theorem bookRollback (w : World) (F : Nat → Prop) (p : Nat) (l : List Slip) (last : Int) (h : BookAt w F p l last) (hl : l.length ≤ 9223372036854775806) :
    Calls Try.prog 11 #[.pointer (some ⟨p, 0, none⟩)] w fun e w' => e = .returned (.tuple #[]) ∧ BookAt w' F p (l.map (Slip.hold false)) last ∧ Kept F w w' := by
  obtain ⟨sv, hblk, hown, hp⟩ := h
  obtain ⟨A, c, rfl, hcap, hcm, hAn⟩ := Own.form hown
  have HB := Lib.hid hblk
  have HO := Lib.hid hown
  have c0 : w.cell? ⟨p, 0, none⟩ = some (.slice A l.length c) := hblk.cell 0
  clear hblk hown hcap hcm hAn
  go_enter Try.func11, Try.ntmps11
  go_wp2
  go_loopw [8] (fun i wr => ∃ j : Nat, j ≤ l.length ∧ i = .int .i64 j ∧ Blk wr p 48 #[.slice A l.length c, .int .i64 last] ∧ Own wr 29 5 F (.slice A l.length c) l.length (slipRow ((l.take j).map (Slip.hold false) ++ l.drop j)) ∧ Kept F w wr) (fun i _ => l.length - (intOf i).toNat)
  case atStart => exact ⟨0, Nat.zero_le _, rfl, HB.out, by simpa using HO.out, Kept.refl _ _⟩
  case round =>
    obtain ⟨j, hj, rfl, hblk1, hown1, hk1⟩ := hrel
    have B1 := Lib.hid hblk1
    have O1 := Lib.hid hown1
    have K1 := Lib.hid hk1
    have c1 : wr.cell? ⟨p, 0, none⟩ = some (.slice A l.length c) := hblk1.cell 0
    clear hblk1 hown1 hk1
    by_cases hlt : j < l.length
    · have hlen := part_len (Slip.hold false) l j hj
      obtain ⟨g, rfl, hg, d0, d1, d2, d3, d4, d5, d6⟩ := Own.held O1.out hlen (i := j) (by omega)
      have D6 := Lib.hid (d6 false)
      have HG := Lib.hid hg
      rw [part_get _ _ _ hlt] at D6
      rw [part_set _ _ _ hlt] at D6
      obtain ⟨hd, d7⟩ : ∃ hd, wr.cell? ⟨g, j * 5 + 4, none⟩ = some (.bool hd) := ⟨_, d4⟩
      clear d0 d1 d2 d3 d4 d6 hg hlen
      have NE := Lib.hid (fun h : g = p => O1.out.ne_blk B1.out (by decide) (h ▸ HG.out))
      go_wp2
      go_roundw
      case rel => exact ⟨j + 1, by omega, by go_num, B1.out.far (p := ⟨g, j * 5 + 4, none⟩) (fun h => NE.out h.symm) _, D6.out, K1.out.setCell (p := ⟨g, j * 5 + 4, none⟩) (fun _ => O1.out.2 g HG.out) _⟩
      case measure => simp [intOf]; omega
    · obtain rfl : j = l.length := by omega
      have O2 := Lib.hid O1.out
      rw [List.take_length, List.drop_length, List.append_nil] at O2
      clear O1
      go_wp2
      go_end0
      exact ⟨rfl, ⟨_, B1.out, by rw [List.length_map]; exact O2.out, hp⟩, K1.out⟩

set_option maxHeartbeats 800000 in
theorem bookCount (k : Int) (w : World) (F : Nat → Prop) (p : Nat) (l : List Slip) (last : Int) (h : BookAt w F p l last) (hl : l.length ≤ 9223372036854775806) :
    Calls Try.prog 13 #[.pointer (some ⟨p, 0, none⟩), .int .i64 k] w fun e w' => e = .returned (.int .i64 (l.countP fun s => k == 0 || s.cons == k : Nat)) ∧ Kept noneS w w' := by
  obtain ⟨sv, hblk, hown, hp⟩ := h
  obtain ⟨A, c, rfl, hcap, hcm, hAn⟩ := Own.form hown
  have HO := Lib.hid hown
  have c0 : w.cell? ⟨p, 0, none⟩ = some (.slice A l.length c) := hblk.cell 0
  clear hblk hown hcap hcm hAn
  generalize hQ : (fun s : Slip => k == 0 || s.cons == k) = q
  have HQ := Lib.hid (fun s => (congrFun hQ s).symm)
  clear hQ
  go_enter Try.func13, Try.ntmps13
  go_wp2
  go_loopw [4, 12] (fun n i wr => ∃ j : Nat, j ≤ l.length ∧ i = .int .i64 j ∧ n = .int .i64 ((l.take j).countP q : Nat) ∧ Kept noneS w wr) (fun _ i _ => l.length - (intOf i).toNat)
  case atStart => exact ⟨0, Nat.zero_le _, rfl, rfl, Kept.refl _ _⟩
  case round =>
    obtain ⟨j, hj, rfl, rfl, hk1⟩ := hrel
    have K1 := Lib.hid hk1
    clear hk1
    by_cases hlt : j < l.length
    · obtain ⟨g, o, rfl, _, d0, d1, d2, d3, d4⟩ := (Rd.keep (Own.rd HO.out) K1.out (fun _ _ _ q => q.elim)).slip hlt
      have HT : Hid ((l.take (j + 1)).countP q = (l.take j).countP q + if k == 0 || (l[j]).cons == k then 1 else 0) := Lib.hid (by rw [List.take_succ_eq_append_getElem hlt, List.countP_append, List.countP_singleton, HQ.out])
      have hle : (l.take j).countP q ≤ j := Nat.le_trans List.countP_le_length (by simp; omega)
      generalize l[j] = s at d0 d1 d2 d3 d4 HT
      generalize (l.take j).countP q = n at HT hle ⊢
      by_cases h0 : k = 0
      · have e1 : (k == 0) = true := by simp [h0]
        rw [e1, Bool.true_or, if_pos rfl] at HT
        clear h0
        go_wp2
        go_roundw
        case rel => exact ⟨j + 1, by omega, by go_num, by rw [HT.out]; go_num, K1.out.alloc _⟩
        case measure => simp [intOf]; omega
      · have e1 : (k == 0) = false := by simp [h0]
        rw [e1, Bool.false_or] at HT
        clear h0
        by_cases h2 : s.cons = k
        · have e2 : (s.cons == k) = true := by simp [h2]
          rw [e2, if_pos rfl] at HT
          clear h2
          go_wp2
          go_roundw
          case rel => exact ⟨j + 1, by omega, by go_num, by rw [HT.out]; go_num, K1.out.alloc _⟩
          case measure => simp [intOf]; omega
        · have e2 : (s.cons == k) = false := by simp [h2]
          rw [e2, if_neg (by simp), Nat.add_zero] at HT
          clear h2
          go_wp2
          go_roundw
          case rel => exact ⟨j + 1, by omega, by go_num, by rw [HT.out]; rfl, K1.out.alloc _⟩
          case measure => simp [intOf]; omega
    · obtain rfl : j = l.length := by omega
      rw [List.take_length]
      generalize hG : l.countP q = n
      have HG := Lib.hid hG
      clear hG
      go_wp2
      go_ret
      rw [HG.out]
      exact ⟨rfl, K1.out⟩


section
variable {w : World} {ops : Array Oper} {rest : List Oper} {o : Oper} {a : Act} {Q : Exit → Act → World → Prop} {K : Act → World → Prop} {E : Prop}
theorem wpList_appSls (hgd : o.guard = none) (s x : Operand) (ho : o.op = .call { callee := .builtin .append, args := #[s, x], argTypes := #[27, 27] })
    (F G : Nat → Prop) (v : Value) (l : List Slip) (hs : a.eval s = v) (hown : Own w 29 5 F v l.length (slipRow l)) (A : Option Addr) (c : Nat) (r : List Slip) (hx : a.eval x = .slice A r.length c) (hr : Rd w G A (slipRow r))
    (hl : (l.length + r.length) * 48 ≤ 140737488355328) (hF : F w.heap.size)
    (h : ∀ A' c' w', Own w' 29 5 F (.slice A' (l.length + r.length) c') (l.length + r.length) (slipRow (l ++ r)) → Kept (ownS v) w w' → wpList Try.prog ops Q rest (a.put o.dst (.slice A' (l.length + r.length) c')) w') : wpList Try.prog ops Q (o :: rest) a w := by
  obtain ⟨i0, hi, hz0, hz1, hz2⟩ := info_parts infoSlip
  refine wpList_append_Own w hgd s x 27 ho 29 i0 _ 5 48 Try.underlying27 hi hz0 hz1 hz2 rfl (by decide) F G v l.length (slipRow l) hs hown A r.length c (slipRow r) hx (slipRow_length r) hr ?_ (by unfold maxLen; omega) hl ?_
  · intro u hu
    obtain ⟨t, _, ht⟩ := List.mem_flatMap.1 hu
    exact cells_one t u ht
  · intro v' w' h1 h2
    have h3 := h1.mono (G := F) (fun k _ q => q.elim id fun q => q ▸ hF)
    obtain ⟨A', c', rfl, _⟩ := Own.form h3
    refine h A' c' w' ?_ h2
    rw [slipRow_append]
    exact h3
end

theorem slipClone (A : Option Addr) (c : Nat) (l : List Slip) (F : Nat → Prop) (w : World) (hx : Rd w F A (slipRow l)) (hA : A = none → l = [] ∧ c = 0) (hn : l.length * 48 ≤ 140737488355328) :
    Calls Try.prog 27 #[.slice A l.length c] w fun e w' => ∃ A1 c1, e = .returned (.slice A1 l.length c1) ∧ Own w' 29 5 (w.heap.size ≤ ·) (.slice A1 l.length c1) l.length (slipRow l) ∧ Kept noneS w w' := by
  have hnil := fun W => run_isnil (P := Try.prog) W 27 29 Try.underlying27
  rcases A with _ | ad
  · obtain ⟨rfl, rfl⟩ := hA rfl
    go_enter Try.func27, Try.ntmps27
    go_wp2
    go_ret
    exact ⟨none, 0, rfl, Own.nil _ _ _ _, Kept.refl _ _⟩
  · have HX := Lib.hid hx
    clear hx hA
    go_enter Try.func27, Try.ntmps27
    go_wp2_with (at_builtin; refine wpList_appSls rfl (.tmp 5) (.tmp 6) rfl (w.heap.size ≤ ·) F (.slice (some ⟨w.heap.size, 0, none⟩) 0 0) [] rfl (Own.empty _ _ _ _ (Nat.le_refl _)) (some ad) c l rfl (HX.out.alloc _) (by simp; omega) (by simp) ?_; intro A1 cap1 w1 hown hk; have HO1 := Lib.hid hown; have HK1 := Lib.hid hk; clear hown hk)
    go_ret
    refine ⟨A1, cap1, by simp, by simpa using HO1.out, ((Kept.refl noneS w).alloc _).trans2 HK1.out ?_⟩
    intro k h1 h2
    have h3 : w.heap.size = k := by simpa [ownS, Value.ownBlock] using h2
    exfalso
    omega

theorem bookSlips (w : World) (F : Nat → Prop) (p : Nat) (l : List Slip) (last : Int) (h : BookAt w F p l last) (hl : l.length * 48 ≤ 140737488355328) :
    Calls Try.prog 15 #[.pointer (some ⟨p, 0, none⟩)] w fun e w' => ∃ A1 c1, e = .returned (.slice A1 l.length c1) ∧ Own w' 29 5 (w.heap.size ≤ ·) (.slice A1 l.length c1) l.length (slipRow l) ∧ Kept noneS w w' := by
  obtain ⟨sv, hblk, hown, hp⟩ := h
  obtain ⟨A, c, rfl, hcap, hcm, hAn⟩ := Own.form hown
  have HO := Lib.hid hown
  have HA := Lib.hid hAn
  have c0 : w.cell? ⟨p, 0, none⟩ = some (.slice A l.length c) := hblk.cell 0
  clear hblk hown hcap hcm hAn
  go_enter Try.func15, Try.ntmps15
  go_wp2_with fail
  refine (slipClone A c l F w (Own.rd HO.out) (fun q => ⟨List.length_eq_zero_iff.1 (HA.out q).1, (HA.out q).2⟩) hl).mono ?_
  rintro e w1 ⟨A1, c1, rfl, h1, h2⟩
  have H1 := Lib.hid h1
  have H2 := Lib.hid h2
  clear h1 h2
  go_wp2
  go_ret
  exact ⟨A1, c1, rfl, H1.out, H2.out⟩

end Go.Proofs.Ytchpkonlfjbkeaa
