/-
  ftable.checkTable, out of checkValue's contract at the values.
-/
import Derived.Test.YtdhaojicphhikaaTCheckL
import Derived.Test.YtdhaojicphhikaaTSeen
namespace Go.Proofs.Ytdhaojicphhikaa
open Go.RowKit

/-- How often a name stands ahead of place j, while none stood twice. -/
def cntAt (t : List FF) (j : Nat) (nm : List UInt8) : Int := if seenB t j nm = true then 1 else 0

theorem toList_size (s : ByteArray) : s.toList.length = s.size := by rw [ByteArray.toList_eq, Array.length_toList]; rfl
theorem seenB_zero (t : List FF) (nm : List UInt8) : seenB t 0 nm = false := by simp [seenB]
theorem seenB_succ (t : List FF) (j : Nat) (h : j < t.length) (nm : List UInt8) : seenB t (j + 1) nm = (seenB t j nm || ((t[j]).name.toList == nm)) := by
  unfold seenB
  rw [List.take_succ_eq_append_getElem h, List.any_append]
  simp
theorem cntAt_succ (t : List FF) (j : Nat) (h : j < t.length) (h0 : seenB t j (t[j]).name.toList = false) : (fun nm => if nm = (t[j]).name.toList then (1 : Int) else cntAt t j nm) = cntAt t (j + 1) := by
  funext nm
  unfold cntAt
  rw [seenB_succ t j h]
  by_cases e : nm = (t[j]).name.toList
  · subst e
    rw [if_pos rfl, h0]
    simp
  · rw [if_neg e]
    have : ((t[j]).name.toList == nm) = false := by simpa using fun q => e q.symm
    rw [this, Bool.or_false]
theorem stepT_eq (t : List FF) (d : Int) (j : Nat) (h : j < t.length) : stepT t d j h = if (t[j]).name.toList.length < 1 ∨ 128 < (t[j]).name.toList.length then 31 else if seenB t j (t[j]).name.toList = true then 5 else errV (t[j]).val d := rfl

set_option maxHeartbeats 3200000 in
theorem ckT (t : List FF) (ih : ∀ f ∈ t, CKV f.val) (A : Option Addr) (c : Nat) (dp : Int) (F : Nat → Prop) (w : World) (h : TAt w F A t) (hl : t.length * 96 ≤ 140737488351232) (h1 : 1 ≤ dp) (h5 : dp ≤ 5) :
    Calls Try.prog 21 #[.slice A t.length c, .int .i64 dp] w fun e w' => e = .returned (.int .i64 (errT t dp)) ∧ Kept noneS w w' := by
  obtain ⟨r, HR⟩ : ∃ r, Hid (errT t dp = r) := ⟨_, Lib.hid rfl⟩
  rw [HR.out]
  by_cases hd : 4 < dp
  · have hr : r = 8 := by rw [← HR.out, errT_deep hd]
    subst hr
    have e8 := Lib.hid (show (if 4 < dp then (8 : Int) else if 64 < t.length then 33 else 0) = 8 by rw [if_pos hd])
    clear HR h ih
    go_enter Try.func21, Try.ntmps21
    go_wp2_with (go_at_call 25; refine (room _ _ _).mono ?_; rw [e8.out]; rintro e w' ⟨rfl, rfl⟩)
    go_ret
    exact ⟨rfl, Kept.refl _ _⟩
  by_cases hm : 64 < t.length
  · have hr : r = 33 := by rw [← HR.out, errT_many hd hm]
    subst hr
    have e8 := Lib.hid (show (if 4 < dp then (8 : Int) else if 64 < t.length then 33 else 0) = 33 by rw [if_neg hd, if_pos hm])
    clear HR h ih
    go_enter Try.func21, Try.ntmps21
    go_wp2_with (go_at_call 25; refine (room _ _ _).mono ?_; rw [e8.out]; rintro e w' ⟨rfl, rfl⟩)
    go_ret
    exact ⟨rfl, Kept.refl _ _⟩
  have e8 := Lib.hid (show (if 4 < dp then (8 : Int) else if 64 < t.length then 33 else 0) = 0 by rw [if_neg hd, if_neg hm])
  have HT := Lib.hid (h.mono (G := (· < w.heap.size)) (fun k a _ => a))
  have IH := Lib.hid ih
  clear h ih
  have hmm := @run_makeMap Try.prog
  go_enter Try.func21, Try.ntmps21
  go_wp2_with (go_at_call 25; refine (room _ _ _).mono ?_; rw [e8.out]; rintro e w' ⟨rfl, rfl⟩)
  clear hmm
  go_loopw [20] (fun i wr => ∃ j : Nat, j ≤ t.length ∧ i = .int .i64 j ∧ Hid (∀ k (_ : k < j) (hk : k < t.length), stepT t dp k hk = 0) ∧ SeenMap wr w.heap.size j (cntAt t j) ∧ Kept noneS w wr) (fun i _ => t.length - (intOf i).toNat)
  case atStart => exact ⟨0, Nat.zero_le _, rfl, Lib.hid (fun k h => by omega), by
    have e : cntAt t 0 = fun _ => 0 := by funext nm; unfold cntAt; rw [seenB_zero]; rfl
    rw [e]; exact SeenMap.made w, (Kept.refl _ _).alloc _⟩
  case round =>
    obtain ⟨j, hj, rfl, HN, hsm, hk⟩ := hrel
    have KR := Lib.hid hk
    have SM := Lib.hid hsm
    have hbl := hsm.lt
    clear hk hsm
    generalize hb0 : w.heap.size = b at SM hbl ⊢
    have HB := Lib.hid hb0
    clear hb0
    by_cases hlt : j < t.length
    · obtain ⟨g, o, B1, c1, B2, c2, rfl, _, hnm, hf1, hL1, hT1, d0, d1, d2, d3, d4, d5⟩ := (HT.out.still KR.out).at_ hlt
      have HI := Lib.hid (IH.out t[j] (List.getElem_mem hlt))
      have HS := Lib.hid (stepT_eq t dp j hlt)
      have HC := Lib.hid (cntAt_succ t j hlt)
      have HF : Hid (stepT t dp j hlt ≠ 0 → r = stepT t dp j hlt) := Lib.hid (fun q => by rw [← HR.out]; exact errT_at (by omega) (by omega) hlt HN.out q)
      have HG : Hid (stepT t dp j hlt = 0 → ∀ k (_ : k < j + 1) (hk : k < t.length), stepT t dp k hk = 0) := Lib.hid (fun q k h a => by
          rcases Nat.lt_or_ge k j with hk | hk
          · exact HN.out k hk a
          · obtain rfl : k = j := by omega
            exact q)
      generalize stepT t dp j hlt = st at HS HF HG
      generalize t[j] = f at *
      have hji : (j : Int) < (t.length : Int) := by omega
      have hj0 : (0 : Int) ≤ (j : Int) := by omega
      have HL1 := Lib.hid hL1
      have HT1 := Lib.hid hT1
      have HF1 := Lib.hid hf1
      have hsz := toList_size f.name
      clear hL1 hT1 hf1
      by_cases hn0 : f.name.toList = []
      · obtain rfl : r = 31 := by
          have e : st = 31 := by rw [HS.out, if_pos (.inl (by rw [hn0]; decide))]
          rw [← e]
          exact HF.out (by rw [e]; decide)
        clear HS HF HG HR HC hsz
        go_wp2
        go_ret
        exact ⟨rfl, KR.out.alloc _⟩
      have hn1 : 1 ≤ f.name.size := by
        have := List.length_pos_iff.2 hn0
        omega
      by_cases hn2 : 128 < f.name.size
      · obtain rfl : r = 31 := by
          have e : st = 31 := by rw [HS.out, if_pos (.inr (by omega))]
          rw [← e]
          exact HF.out (by rw [e]; decide)
        clear HS HF HG HR HC hsz
        go_wp2
        go_ret
        exact ⟨rfl, KR.out.alloc _⟩
      have HS' := Lib.hid (HS.out.trans (if_neg (by omega)))
      have hnE : f.name.toList.isEmpty = false := by simpa using hn0
      have hnD : decide (128 < (f.name.size : Int)) = false := by simp; omega
      clear HS hsz
      have sm := SM.out.keep ((Kept.refl noneS wr).alloc (.cells #[.string f.name, .int .i64 f.val.kind, .int .i64 f.val.num, .string f.val.text, .slice B1 f.val.list.length c1, .slice B2 f.val.table.length c2] 34)) (fun q => q)
      have lk0 := sm.look f.name hnm
      have bv := Blk.new wr 34 #[.string f.name, .int .i64 f.val.kind, .int .i64 f.val.num, .string f.val.text, .slice B1 f.val.list.length c1, .slice B2 f.val.table.length c2]
      rcases hs : seenB t j f.name.toList with _ | _
      · have HE : Hid (st = errV f.val dp) := Lib.hid (by rw [HS'.out, hs]; rfl)
        rw [show cntAt t j f.name.toList = 0 by unfold cntAt; rw [hs]; rfl] at lk0
        obtain ⟨w1, hput, sm1, k1⟩ := sm.put (by omega) f.name hnm 1 (by omega) (by omega)
        have lk1 : (Instr.lookup 47 (.map (some b)) (.string f.name) false).run Try.prog w1 = .ok (.int .i64 1) w1 := by
          have h9 := sm1.look f.name hnm
          rw [if_pos rfl] at h9
          exact h9
        rw [HC.out hs] at sm1
        have SM1 := Lib.hid sm1
        have bv1 := bv.keep k1 (fun q => by omega)
        have v0 : w1.cell? ⟨wr.heap.size, 0, none⟩ = some (.string f.name) := bv1.cell 0
        have v1 : w1.cell? ⟨wr.heap.size, 1, none⟩ = some (.int .i64 f.val.kind) := bv1.cell 1
        have v2 : w1.cell? ⟨wr.heap.size, 1 + 1, none⟩ = some (.int .i64 f.val.num) := bv1.cell 2
        have v3 : w1.cell? ⟨wr.heap.size, 1 + 2, none⟩ = some (.string f.val.text) := bv1.cell 3
        have v4 : w1.cell? ⟨wr.heap.size, 1 + 3, none⟩ = some (.slice B1 f.val.list.length c1) := bv1.cell 4
        have v5 : w1.cell? ⟨wr.heap.size, 1 + 4, none⟩ = some (.slice B2 f.val.table.length c2) := bv1.cell 5
        have kv : Kept (· = b) wr w1 := (((Kept.refl noneS wr).alloc _).mono (fun _ _ q => q.elim)).trans k1
        have KV := Lib.hid kv
        clear sm sm1 bv bv1 k1 kv HC HS' hs
        go_wp2_with fail
        refine (HI.out B1 B2 c1 c2 dp (· < w.heap.size) w1 (HL1.out.keep KV.out (fun k _ a q => by have := HB.out; omega)) (HT1.out.keep KV.out (fun k _ a q => by have := HB.out; omega)) HF1.out h1 (by omega)).mono ?_
        rintro e w2 ⟨rfl, k2⟩
        have K2 := Lib.hid ((KV.out.trans2 k2 (fun _ _ q => q.elim)))
        have SM2 := Lib.hid (SM1.out.keep k2 (fun q => q))
        clear k2 lk0 lk1 hput
        rw [HE.out] at HF HG
        generalize errV f.val dp = ev at HF HG ⊢
        rcases q : (ev != 0) with _ | _
        · have HG' := Lib.hid (HG.out (by simpa using q))
          clear HG HF HE
          go_wp2
          go_roundw
          case rel => exact ⟨j + 1, by omega, by go_num, HG', HB.out ▸ SM2.out, KR.out.trans2 K2.out (fun k a q => by have := HB.out; omega)⟩
          case measure => simp [intOf]; omega
        · obtain rfl : r = ev := HF.out (by simpa using q)
          clear HG HF HR HE
          go_wp2
          go_ret
          exact ⟨rfl, KR.out.trans2 K2.out (fun k a q => by have := HB.out; omega)⟩
      · obtain rfl : r = 5 := by
          have e : st = 5 := by rw [HS'.out, hs]; rfl
          rw [← e]
          exact HF.out (by rw [e]; decide)
        rw [show cntAt t j f.name.toList = 1 by unfold cntAt; rw [hs]; rfl] at lk0
        obtain ⟨w1, hput, sm1, k1⟩ := sm.put (by omega) f.name hnm 2 (by omega) (by omega)
        have lk1 : (Instr.lookup 47 (.map (some b)) (.string f.name) false).run Try.prog w1 = .ok (.int .i64 2) w1 := by
          have h9 := sm1.look f.name hnm
          rw [if_pos rfl] at h9
          exact h9
        have bv1 := bv.keep k1 (fun q => by omega)
        have v0 : w1.cell? ⟨wr.heap.size, 0, none⟩ = some (.string f.name) := bv1.cell 0
        have kv : Kept (· = b) wr w1 := (((Kept.refl noneS wr).alloc _).mono (fun _ _ q => q.elim)).trans k1
        have KV := Lib.hid kv
        clear sm sm1 bv bv1 k1 kv HC HS' hs HF HG HR
        go_wp2
        go_ret
        exact ⟨rfl, KR.out.trans2 KV.out (fun k a q => by have := HB.out; omega)⟩
    · obtain rfl : j = t.length := by omega
      have hr : r = 0 := by rw [← HR.out]; exact errT_none (by omega) (by omega) (fun k hk => HN.out k hk hk)
      subst hr
      clear HR
      go_wp2
      go_ret
      exact ⟨rfl, KR.out⟩

end Go.Proofs.Ytdhaojicphhikaa
