/-
  warrenref20's Same, Count, Rollback.
-/
import Derived.Test.YtchpkonlfjbkeaaBookRef2
namespace Go.Proofs.Ytchpkonlfjbkeaa
open Go.RowKit

theorem eqGuardSlip : Try.prog.eqGuardType Try.prog.depth 29 = false := by kernel_rfl

theorem run_neq_slip (s : Slip) (w : World) : (binOp .neq 29 (.agg #[.int .i64 s.tag, .string s.queue, .int .i64 s.seq, .int .i64 s.cons, .bool s.held]) (.agg #[.int .i64 s.tag, .string s.queue, .int .i64 s.seq, .int .i64 s.cons, .bool s.held])).run Try.prog w = .ok (.bool false) w := by
  rw [run_neq_struct, run_equalIn_agg w 9999 29 _ _ (by kernel_rfl) (by kernel_rfl)]
  have hf : (Try.prog.fieldsOf 29).toList = (Try.prog.fieldsOf 29).toList := rfl
  simp [Op.eqFields, go_sem]

set_option maxHeartbeats 400000 in
theorem refSame (A : Option Addr) (c : Nat) (B : Option Addr) (d : Nat) (l : List Slip) (F G : Nat → Prop) (w : World) (hr : Rd w F A (slipRow l)) (hb : Rd w G B (slipRow l)) (hl : l.length ≤ 9223372036854775806) :
    Calls Try.prog 18 #[.slice A l.length c, .slice B l.length d] w fun e w' => e = .returned (.bool true) ∧ Kept noneS w w' := by
  have HR := Lib.hid hr
  have HB := Lib.hid hb
  clear hr hb
  have hne : ((l.length : Int) != (l.length : Int)) = false := by simp
  go_enter Try.func18, Try.ntmps18
  go_wp2
  go_loopw [5] (fun i wr => ∃ j : Nat, j ≤ l.length ∧ i = .int .i64 j ∧ Kept noneS w wr) (fun i _ => l.length - (intOf i).toNat)
  case atStart => exact ⟨0, Nat.zero_le _, rfl, Kept.refl _ _⟩
  case round =>
    obtain ⟨j, hj, rfl, hk⟩ := hrel
    have K := Lib.hid hk
    clear hk
    by_cases hlt : j < l.length
    · obtain ⟨g, o, rfl, _, d0, d1, d2, d3, d4⟩ := (Rd.keep HR.out K.out (fun _ _ _ q => q.elim)).slip hlt
      obtain ⟨g2, o2, rfl, _, b0, b1, b2, b3, b4⟩ := (Rd.keep HB.out K.out (fun _ _ _ q => q.elim)).slip hlt
      generalize l[j] = s at d0 d1 d2 d3 d4 b0 b1 b2 b3 b4
      have hs := run_neq_slip s
      have hg := eqGuardSlip
      go_wp2
      go_quiet (fail)
      go_wp2
      go_roundw
      case rel => exact ⟨j + 1, by omega, by go_num, K.out.drewN _⟩
      case measure => simp [intOf]; omega
    · go_wp2
      go_ret
      exact ⟨rfl, K.out⟩

set_option maxHeartbeats 800000 in
theorem refCount (k : Int) (w : World) (F : Nat → Prop) (p : Nat) (l : List Slip) (last : Int) (h : RefAt w F p l last) (hl : l.length ≤ 9223372036854775806) :
    Calls Try.prog 17 #[.pointer (some ⟨p, 0, none⟩), .int .i64 k] w fun e w' => e = .returned (.int .i64 (l.countP fun s => k == 0 || s.cons == k : Nat)) ∧ Kept noneS w w' := by
  obtain ⟨sv, hblk, hown, hp⟩ := h
  obtain ⟨A, c, rfl, hcap, hcm, hAn⟩ := Own.form hown
  have HO := Lib.hid hown
  have HBk := Lib.hid hblk
  clear hblk hown hcap hcm hAn
  generalize hQ : (fun s : Slip => k == 0 || s.cons == k) = q
  have HQ := Lib.hid (fun s => (congrFun hQ s).symm)
  clear hQ
  go_enter Try.func17, Try.ntmps17
  go_wp2
  go_loopw [5, 6] (fun n i wr => ∃ j : Nat, j ≤ l.length ∧ i = .int .i64 j ∧ n = .int .i64 ((l.take j).countP q : Nat) ∧ Kept noneS w wr) (fun _ i _ => l.length - (intOf i).toNat)
  case atStart => exact ⟨0, Nat.zero_le _, rfl, rfl, Kept.refl _ _⟩
  case round =>
    obtain ⟨j, hj, rfl, rfl, hk1⟩ := hrel
    have K1 := Lib.hid hk1
    clear hk1
    have c0 : wr.cell? ⟨p, 0, none⟩ = some (.slice A l.length c) := (HBk.out.keep K1.out (fun q => q)).cell 0
    by_cases hlt : j < l.length
    · obtain ⟨g, o, rfl, _, d0, d1, d2, d3, d4⟩ := (Rd.keep (Own.rd HO.out) K1.out (fun _ _ _ q => q.elim)).slip hlt
      have HT : Hid ((l.take (j + 1)).countP q = (l.take j).countP q + if k == 0 || (l[j]).cons == k then 1 else 0) := Lib.hid (by rw [List.take_succ_eq_append_getElem hlt, List.countP_append, List.countP_singleton, HQ.out])
      have hle : (l.take j).countP q ≤ j := Nat.le_trans List.countP_le_length (by simp; omega)
      generalize l[j] = s at d0 d1 d2 d3 d4 HT
      generalize (l.take j).countP q = n at HT hle ⊢
      by_cases h2 : s.cons = k
      · have e2 : (s.cons == k) = true := by simp [h2]
        rw [e2, Bool.or_true, if_pos rfl] at HT
        clear h2
        go_wp2
        go_roundw
        case rel => exact ⟨j + 1, by omega, by go_num, by rw [HT.out]; go_num, K1.out⟩
        case measure => simp [intOf]; omega
      · have e2 : (s.cons == k) = false := by simp [h2]
        rw [e2, Bool.or_false] at HT
        clear h2
        by_cases h0 : k = 0
        · have e1 : (k == 0) = true := by simp [h0]
          rw [e1, if_pos rfl] at HT
          clear h0
          go_wp2
          go_roundw
          case rel => exact ⟨j + 1, by omega, by go_num, by rw [HT.out]; go_num, K1.out⟩
          case measure => simp [intOf]; omega
        · have e1 : (k == 0) = false := by simp [h0]
          rw [e1, if_neg (by simp), Nat.add_zero] at HT
          clear h0
          go_wp2
          go_roundw
          case rel => exact ⟨j + 1, by omega, by go_num, by rw [HT.out]; rfl, K1.out⟩
          case measure => simp [intOf]; omega
    · obtain rfl : j = l.length := by omega
      rw [List.take_length]
      generalize hG : l.countP q = n
      have HG := Lib.hid hG
      clear hG
      go_wp2
      go_ret
      rw [HG.out]
      exact ⟨rfl, K1.out⟩

set_option maxHeartbeats 800000 in
theorem refRollback (w : World) (F : Nat → Prop) (p : Nat) (l : List Slip) (last : Int) (h : RefAt w F p l last) (hl : l.length ≤ 9223372036854775806) :
    Calls Try.prog 31 #[.pointer (some ⟨p, 0, none⟩)] w fun e w' => e = .returned (.tuple #[]) ∧ RefAt w' F p (l.map (Slip.hold false)) last ∧ Kept F w w' := by
  obtain ⟨sv, hblk, hown, hp⟩ := h
  obtain ⟨A, c, rfl, hcap, hcm, hAn⟩ := Own.form hown
  have HB := Lib.hid hblk
  have HO := Lib.hid hown
  clear hblk hown hcap hcm hAn
  go_enter Try.func31, Try.ntmps31
  go_wp2
  go_loopw [2] (fun i wr => ∃ j : Nat, j ≤ l.length ∧ i = .int .i64 j ∧ Blk wr p 42 #[.slice A l.length c, .int .i64 last] ∧ Own wr 29 5 F (.slice A l.length c) l.length (slipRow ((l.take j).map (Slip.hold false) ++ l.drop j)) ∧ Kept F w wr) (fun i _ => l.length - (intOf i).toNat)
  case atStart => exact ⟨0, Nat.zero_le _, rfl, HB.out, by simpa using HO.out, Kept.refl _ _⟩
  case round =>
    obtain ⟨j, hj, rfl, hblk1, hown1, hk1⟩ := hrel
    have B1 := Lib.hid hblk1
    have O1 := Lib.hid hown1
    have K1 := Lib.hid hk1
    have c1 : wr.cell? ⟨p, 0, none⟩ = some (.slice A l.length c) := hblk1.cell 0
    clear hblk1 hown1 hk1
    by_cases hlt : j < l.length
    · have hlen := part_len (Slip.hold false) l j hj
      obtain ⟨g, rfl, hg, d0, d1, d2, d3, d4, d5, d6⟩ := Own.held O1.out hlen (i := j) (by omega)
      have D6 := Lib.hid (d6 false)
      have HG := Lib.hid hg
      rw [part_get _ _ _ hlt] at D6
      rw [part_set _ _ _ hlt] at D6
      obtain ⟨hd, d7⟩ : ∃ hd, wr.cell? ⟨g, j * 5 + 4, none⟩ = some (.bool hd) := ⟨_, d4⟩
      clear d0 d1 d2 d3 d4 d6 hg hlen
      have NE := Lib.hid (fun h : g = p => O1.out.ne_blk B1.out (by decide) (h ▸ HG.out))
      go_wp2
      go_roundw
      case rel => exact ⟨j + 1, by omega, by go_num, B1.out.far (p := ⟨g, j * 5 + 4, none⟩) (fun h => NE.out h.symm) _, D6.out, K1.out.setCell (p := ⟨g, j * 5 + 4, none⟩) (fun _ => O1.out.2 g HG.out) _⟩
      case measure => simp [intOf]; omega
    · obtain rfl : j = l.length := by omega
      have O2 := Lib.hid O1.out
      rw [List.take_length, List.drop_length, List.append_nil] at O2
      clear O1
      go_wp2
      go_end0
      exact ⟨rfl, ⟨_, B1.out, by rw [List.length_map]; exact O2.out, hp⟩, K1.out⟩

end Go.Proofs.Ytchpkonlfjbkeaa
