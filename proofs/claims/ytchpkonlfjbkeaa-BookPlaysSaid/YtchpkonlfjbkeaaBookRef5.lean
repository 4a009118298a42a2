/-
  warrenref20's Ack.
-/
import Derived.Test.YtchpkonlfjbkeaaBookRef4
namespace Go.Proofs.Ytchpkonlfjbkeaa
open Go.RowKit

def RAckPost (w : World) (F : Nat → Prop) (p : Nat) (out rest : List Slip) (ok : Bool) (last : Int) (e : Ending) (w' : World) : Prop :=
  ∃ A c, e = .returned (.tuple #[.slice A out.length c, .bool ok]) ∧ Rd w' (w.heap.size ≤ ·) A (slipRow out) ∧ RefAt w' F p rest last ∧ Kept F w w'

theorem cov_one (tag : Int) (s : Slip) : cov tag false s = (s.tag == tag && !s.held) := by
  unfold cov covers
  cases s.held <;> cases (s.tag == tag) <;> rfl
theorem cov_many (tag : Int) (s : Slip) : cov tag true s = ((tag == 0 || decide (s.tag ≤ tag)) && !s.held) := by
  unfold cov covers
  by_cases h : s.tag = tag
  · have h1 : (s.tag == tag) = true := by simpa using h
    have h2 : decide (s.tag ≤ tag) = true := by simp [h]
    rw [h1, h2]
    cases s.held <;> cases (tag == 0) <;> rfl
  · have h1 : (s.tag == tag) = false := by simpa using h
    rw [h1]
    cases s.held <;> cases (tag == 0) <;> cases (decide (s.tag ≤ tag)) <;> rfl

set_option maxHeartbeats 3200000 in
set_option maxRecDepth 100000 in
theorem refAck (tag : Int) (multiple hold : Bool) (w : World) (F : Nat → Prop) (p : Nat) (l : List Slip) (last : Int) (h : RefAt w F p l last) (hF : ∀ j, w.heap.size ≤ j → F j) (hl : l.length * 48 ≤ 140737488355328) :
    Calls Try.prog 29 #[.pointer (some ⟨p, 0, none⟩), .int .i64 tag, .bool multiple, .bool hold] w (RAckPost w F p (ackOut l tag multiple hold) (ackRest l tag multiple hold) (ackOk l tag multiple) last) := by
  obtain ⟨sv, hblk, hown, hp⟩ := h
  have LB : Hid (∀ k, ownS sv k → k < w.heap.size) := Lib.hid (fun k h => hown.lt k h)
  obtain ⟨A, c, rfl, hcap, hcm, hAn⟩ := Own.form hown
  have HB := Lib.hid hblk
  have HO := Lib.hid hown
  have HF := Lib.hid hF
  have hpl := hblk.lt
  clear hblk hown hcap hcm hAn hF
  obtain ⟨q, HQ⟩ : ∃ q : Slip → Bool, Hid (cov tag multiple = q) := ⟨_, Lib.hid rfl⟩
  obtain ⟨r, HRr⟩ : ∃ r : Slip → Bool, Hid ((fun s : Slip => s.tag == tag && !s.held) = r) := ⟨_, Lib.hid rfl⟩
  have HOk : Hid (ackOk l tag multiple = (l.any r || (multiple && tag == 0))) := Lib.hid (by unfold ackOk; rw [HRr.out])
  obtain ⟨t0, HT0⟩ : ∃ t0 : Bool, Hid ((multiple && tag == 0) = t0) := ⟨_, Lib.hid rfl⟩
  rw [HT0.out] at HOk
  go_enter Try.func29, Try.ntmps29
  go_upto_region 1 with (fail)
  go_cut [10, 11] from 19 to 24 (fun v u wx => v = .slice (some ⟨w.heap.size, 0, none⟩) 0 0 ∧ u = .bool t0 ∧ wx = w.alloc (.cells #[] 4))
  case first =>
    have h := HT0.out
    cases multiple
    · subst h
      go_wp2_with fail
      go_meet
      case rel => exact ⟨rfl, rfl, rfl⟩
    · subst h
      go_wp2_with fail
      go_meet
      case rel => exact ⟨rfl, rfl, rfl⟩
  case rest =>
  obtain ⟨rfl, rfl, rfl⟩ := hcut
  go_wp2
  go_loopw [10, 11, 12] (fun vy vt i wr => ∃ j : Nat, j ≤ l.length ∧ i = .int .i64 j ∧ vt = .bool ((l.take j).any r || t0) ∧ Own wr 4 1 (w.heap.size ≤ ·) vy ((l.take j).map q).length (bools ((l.take j).map q)) ∧ Kept noneS w wr) (fun _ _ i _ => l.length - (intOf i).toNat)
  case atStart => exact ⟨0, Nat.zero_le _, rfl, rfl, Own.empty _ _ _ _ (Nat.le_refl _), (Kept.refl _ _).alloc _⟩
  case round =>
    obtain ⟨j, hj, rfl, rfl, hy, hk⟩ := hrel
    obtain ⟨A1, c1, rfl, _⟩ := Own.form hy
    have HY := Lib.hid hy
    have K := Lib.hid hk
    have hks := hk.size
    have B1 := Lib.hid (HB.out.keep hk (fun q => q))
    have O1 := Lib.hid (HO.out.keep0 hk (fun _ _ _ q => q.elim))
    clear hy hk
    have c0 : wr.cell? ⟨p, 0, none⟩ = some (.slice A l.length c) := B1.out.cell 0
    by_cases hlt : j < l.length
    · obtain ⟨g, o, rfl, _, d0, d1, d2, d3, d4⟩ := (Own.rd O1.out).slip hlt
      have HTk : Hid ((l.take (j + 1)).map q = (l.take j).map q ++ [q l[j]]) := Lib.hid (by rw [List.take_succ_eq_append_getElem hlt, List.map_append]; rfl)
      have HTh : Hid (((l.take (j + 1)).any r || t0) = (((l.take j).any r || t0) || r l[j])) := Lib.hid (by rw [List.take_succ_eq_append_getElem hlt, List.any_append]; simp only [List.any_cons, List.any_nil, Bool.or_false]; cases (l.take j).any r <;> cases r l[j] <;> cases t0 <;> rfl)
      have hlen : ((l.take j).map q).length ≤ j := by simp; omega
      have hq1 : q l[j] = cov tag multiple l[j] := by rw [HQ.out]
      have hr1 : r l[j] = ((l[j]).tag == tag && !(l[j]).held) := by rw [← HRr.out]
      rw [hq1] at HTk
      rw [hr1] at HTh
      clear hq1 hr1
      generalize l[j] = s at d0 d1 d2 d3 d4 HTk HTh
      generalize ((l.take j).any r || t0) = th at HTh ⊢
      generalize (l.take j).map q = ys at HY HTk hlen ⊢
      obtain ⟨hd, HH⟩ : ∃ hd, Hid (s.held = hd) := ⟨_, Lib.hid rfl⟩
      rw [HH.out] at d4 HTh
      obtain ⟨tt, HV⟩ : ∃ tt : Bool, Hid (cov tag multiple s = tt) := ⟨_, Lib.hid rfl⟩
      rw [HV.out] at HTk
      cases multiple
      · rw [cov_one, HH.out] at HV
        rcases hb1 : (s.tag == tag) with _ | _ <;> rw [hb1] at HV HTh <;> cases hd
        all_goals
          simp only [Bool.false_and, Bool.true_and, Bool.not_true, Bool.not_false, Bool.or_false, Bool.or_true] at HV HTh
          go_wp2_with (at_builtin; refine wpList_appB rfl (.tmp 63) (.tmp 70) rfl (w.heap.size ≤ ·) (.slice A1 ys.length c1) ys rfl (Own.alloc (Own.alloc HY.out _) _) (wr.heap.size + 1) tt rfl (by rw [← HV.out]; simp) (by omega) (by simp; omega) ?_; intro A3 c3 w3 hown3 hk3; have HO3 := Lib.hid hown3; have HK3 := Lib.hid hk3; clear hown3 hk3)
          go_roundw
          case rel => exact ⟨j + 1, by omega, by go_num, by rw [HTh.out], by rw [HTk.out, List.length_append]; exact HO3.out, ((K.out.alloc _).alloc _).trans2 HK3.out (fun i hi h => by have := HY.out.2 i h; exact absurd hi (by omega))⟩
          case measure => simp [intOf]; omega
      · rw [cov_many, HH.out] at HV
        rcases hb1 : (s.tag == tag) with _ | _ <;> rw [hb1] at HTh <;> cases hd <;> rcases hb2 : (tag == 0) with _ | _ <;> rw [hb2] at HV <;> rcases hb3 : decide (s.tag ≤ tag) with _ | _ <;> rw [hb3] at HV
        all_goals
          simp only [Bool.false_and, Bool.true_and, Bool.not_true, Bool.not_false, Bool.or_false, Bool.or_true, Bool.true_or, Bool.false_or] at HV HTh
          go_wp2_with (at_builtin; refine wpList_appB rfl (.tmp 63) (.tmp 70) rfl (w.heap.size ≤ ·) (.slice A1 ys.length c1) ys rfl (Own.alloc (Own.alloc HY.out _) _) (wr.heap.size + 1) tt rfl (by rw [← HV.out]; simp) (by omega) (by simp; omega) ?_; intro A3 c3 w3 hown3 hk3; have HO3 := Lib.hid hown3; have HK3 := Lib.hid hk3; clear hown3 hk3)
          go_roundw
          case rel => exact ⟨j + 1, by omega, by go_num, by rw [HTh.out], by rw [HTk.out, List.length_append]; exact HO3.out, ((K.out.alloc _).alloc _).trans2 HK3.out (fun i hi h => by have := HY.out.2 i h; exact absurd hi (by omega))⟩
          case measure => simp [intOf]; omega
    · obtain rfl : j = l.length := by omega
      rw [List.take_length] at HY
      have HYl : Hid (Own wr 4 1 (w.heap.size ≤ ·) (.slice A1 l.length c1) l.length (bools (l.map q))) := Lib.hid (by have := HY.out; rwa [List.length_map] at this)
      rw [List.take_length, List.length_map, ← HOk.out]
      clear HY
      rcases hok : ackOk l tag multiple with _ | _
      · have HK0 := Lib.hid hok
        clear hok
        go_wp2
        go_ret2
        unfold ackOut ackRest
        rw [HK0.out, if_neg (by decide), if_neg (by decide)]
        exact ⟨_, _, rfl, .inl rfl, ⟨_, B1.out.alloc _, O1.out.alloc _, hp⟩, (K.out.alloc _).mono fun _ _ q => q.elim⟩
      · have HK0 := Lib.hid hok
        clear hok
        obtain ⟨w2, rfl⟩ : ∃ w2 : World, w2 = wr := ⟨_, rfl⟩
        go_wp2_with fail
        refine (refSplit A c l A1 c1 q F (w.heap.size ≤ ·) w2 (Own.rd O1.out) (Own.rd HYl.out) hl).mono ?_
        rintro e w3 ⟨A3, c3, A4, c4, FA, FB, rfl, ha, hb, hd, hfa, hfb, hk3⟩
        have B3 := Lib.hid (B1.out.keep hk3 (fun q => q))
        have O3 := Lib.hid (O1.out.keep0 hk3 (fun _ _ _ q => q.elim))
        have Y3 := Lib.hid ((Own.rd HYl.out).old.keep hk3 (fun _ _ _ q => q.elim))
        have HA := Lib.hid ha
        have HBb := Lib.hid hb
        have HFA := Lib.hid hfa
        have HFB := Lib.hid hfb
        have K3 := Lib.hid (K.out.trans hk3)
        have e0 : w3.cell? ⟨p, 0, none⟩ = some (.slice A l.length c) := B3.out.cell 0
        have f0 := B3.out.frozen 0
        have hwr := hk3.size
        clear ha hb hd hfa hfb hk3
        generalize hxa : l.filter q = xa at HA ⊢
        generalize hxb : l.filter (fun s => !q s) = xb at HBb ⊢
        have XA := Lib.hid hxa
        have XB := Lib.hid hxb
        have hxl : xa.length ≤ l.length := by rw [← hxa]; exact List.length_filter_le _ _
        clear hxa hxb
        cases hold
        · go_wp2
          go_ret2
          unfold ackOut ackRest
          rw [HK0.out, if_pos rfl, if_pos rfl, if_neg (by decide), if_neg (by decide), HQ.out, XA.out, XB.out]
          refine ⟨A3, c3, rfl, ?_, ⟨_, B3.out.set_ 0 _, ?_, hp⟩, (K3.out.mono (S' := F) (fun _ _ q => q.elim)).setCell (p := ⟨p, 0, none⟩) (fun _ => hp) _⟩
          · exact (Own.rd (HA.out.far (p := ⟨p, 0, none⟩) (HA.out.ne_blk B3.out (by decide)) _)).mono fun k _ h => Nat.le_trans hks (HFA.out k h)
          · exact (HBb.out.far (p := ⟨p, 0, none⟩) (HBb.out.ne_blk B3.out (by decide)) _).mono fun k _ h => HF.out k (Nat.le_trans hks (HFB.out k h))
        · clear f0 e0
          go_wp2
          go_loopw [17] (fun i wx => ∃ j : Nat, j ≤ xa.length ∧ i = .int .i64 j ∧ Own wx 29 5 FA (.slice A3 xa.length c3) xa.length (slipRow ((xa.take j).map (Slip.hold true) ++ xa.drop j)) ∧ Kept FA w3 wx) (fun i _ => xa.length - (intOf i).toNat)
          case atStart => exact ⟨0, Nat.zero_le _, rfl, by simpa using HA.out, Kept.refl _ _⟩
          case round =>
            obtain ⟨j, hj2, rfl, hu4, hk4⟩ := hrel
            have U4 := Lib.hid hu4
            have K4 := Lib.hid hk4
            clear hu4 hk4
            by_cases hlt2 : j < xa.length
            · have hlen := part_len (Slip.hold true) xa j hj2
              obtain ⟨g, rfl, hg, d0, d1, d2, d3, d4, d5, d6⟩ := Own.held U4.out hlen (i := j) (by omega)
              have D6 := Lib.hid (d6 true)
              have HG := Lib.hid hg
              rw [part_get _ _ _ hlt2] at D6
              rw [part_set _ _ _ hlt2] at D6
              obtain ⟨hd, d7⟩ : ∃ hd, wr.cell? ⟨g, j * 5 + 4, none⟩ = some (.bool hd) := ⟨_, d4⟩
              clear d0 d1 d2 d3 d4 d6 hg hlen
              go_wp2
              go_roundw
              case rel => exact ⟨j + 1, by omega, by go_num, D6.out, K4.out.setCell (p := ⟨g, j * 5 + 4, none⟩) (fun _ => U4.out.2 g HG.out) _⟩
              case measure => simp [intOf]; omega
            · obtain rfl : j = xa.length := by omega
              have U5 := Lib.hid U4.out
              rw [List.take_length, List.drop_length, List.append_nil] at U5
              clear U4
              obtain ⟨w5, rfl⟩ : ∃ w5 : World, w5 = wr := ⟨_, rfl⟩
              have B5 := Lib.hid (B3.out.keep K4.out (fun h => by have := HFA.out p h; omega))
              have O5 := Lib.hid (O3.out.keep0 K4.out (fun k _ h1 h2 => by have := HFA.out k h2; have := LB.out k h1; omega))
              have Y5 := Lib.hid (Y3.out.keep K4.out (fun k _ h1 h2 => by have := HFA.out k h2; omega))
              have K5 := Lib.hid (K3.out.trans2 K4.out (fun k hk h => by have := HFA.out k h; exact absurd hk (by omega)))
              clear B3 O3 Y3 K3 K4 HA HBb B1 O1 HYl
              go_wp2
              go_loopw [18] (fun i wx => ∃ j : Nat, j ≤ l.length ∧ i = .int .i64 j ∧ Blk wx p 42 #[.slice A l.length c, .int .i64 last] ∧ Own wx 29 5 F (.slice A l.length c) l.length (slipRow ((l.take j).map (fun s => if q s then s.hold true else s) ++ l.drop j)) ∧ Kept (ownS (.slice A l.length c)) w5 wx) (fun i _ => l.length - (intOf i).toNat)
              case atStart => exact ⟨0, Nat.zero_le _, rfl, B5.out, by simpa using O5.out, Kept.refl _ _⟩
              case round =>
                obtain ⟨j, hj6, rfl, hb6, ho6, hk6⟩ := hrel
                have B6 := Lib.hid hb6
                have O6 := Lib.hid ho6
                have K6 := Lib.hid hk6
                have c6 : wr.cell? ⟨p, 0, none⟩ = some (.slice A l.length c) := hb6.cell 0
                clear hb6 ho6 hk6
                by_cases hlt6 : j < l.length
                · obtain ⟨g2, o2, rfl, _, b0⟩ := (Rd.keep Y5.out K6.out (fun k _ h1 h2 => by have := LB.out k h2; omega)).bool (j := j) (by simpa using hlt6)
                  rw [List.getElem_map] at b0
                  have hlen := part_len (fun s => if q s then s.hold true else s) l j hj6
                  obtain ⟨g, rfl, hg, d0, d1, d2, d3, d4, d5, d6⟩ := Own.held O6.out hlen (i := j) (by omega)
                  have D6 := Lib.hid (d6 true)
                  have HG := Lib.hid hg
                  rw [part_get _ _ _ hlt6] at D6
                  have HPs := Lib.hid (part_set (fun s => if q s then s.hold true else s) l j hlt6)
                  have HGet : Hid (((l.take j).map (fun s => if q s then s.hold true else s) ++ l.drop j)[j]? = some l[j]) := Lib.hid (List.getElem?_eq_some_iff.2 ⟨by rw [hlen]; exact hlt6, part_get (fun s => if q s then s.hold true else s) l j hlt6⟩)
                  obtain ⟨hd, d7⟩ : ∃ hd, wr.cell? ⟨g, j * 5 + 4, none⟩ = some (.bool hd) := ⟨_, d4⟩
                  have NE := Lib.hid (fun h : g = p => O6.out.ne_blk B6.out (by decide) (h ▸ HG.out))
                  clear d0 d1 d2 d3 d4 d6 hg hlen
                  generalize l[j] = s at b0 D6 HPs HGet
                  cases hqs : q s
                  · rw [hqs] at b0
                    have HE : Hid (((l.take j).map (fun s => if q s then s.hold true else s) ++ l.drop j) = (l.take (j + 1)).map (fun s => if q s then s.hold true else s) ++ l.drop (j + 1)) := Lib.hid (by
                      have h1 := HPs.out
                      have h2 : (if q s then s.hold true else s) = s := by simp [hqs]
                      rw [h2] at h1
                      rw [← h1]
                      obtain ⟨hjL, hjs⟩ := List.getElem?_eq_some_iff.1 HGet.out
                      rw [← hjs, List.set_getElem_self])
                    clear hqs HPs HGet
                    go_wp2
                    go_roundw
                    case rel => exact ⟨j + 1, by omega, by go_num, B6.out, by rw [← HE.out]; exact O6.out, K6.out⟩
                    case measure => simp [intOf]; omega
                  · rw [hqs] at b0
                    have h2 : (if q s then s.hold true else s) = s.hold true := by simp [hqs]
                    rw [h2] at HPs
                    rw [HPs.out] at D6
                    clear hqs h2 HPs HGet
                    go_wp2
                    go_roundw
                    case rel => exact ⟨j + 1, by omega, by go_num, B6.out.far (p := ⟨g, j * 5 + 4, none⟩) (fun h => NE.out h.symm) _, D6.out, K6.out.setCell (p := ⟨g, j * 5 + 4, none⟩) (fun _ => HG.out) _⟩
                    case measure => simp [intOf]; omega
                · obtain rfl : j = l.length := by omega
                  have O7 := Lib.hid O6.out
                  rw [List.take_length, List.drop_length, List.append_nil] at O7
                  have U7 := Lib.hid ((Own.rd U5.out).keep K6.out (fun k _ h1 h2 => by have := HFA.out k h1; have := LB.out k h2; omega))
                  clear O6 U5
                  go_wp2
                  go_ret2
                  unfold ackOut ackRest
                  rw [HK0.out, if_pos rfl, if_pos rfl, if_pos rfl, if_pos rfl, HQ.out, XA.out]
                  refine ⟨A3, c3, by rw [List.length_map]; rfl, U7.out.mono (fun k _ h => Nat.le_trans hks (HFA.out k h)), ⟨_, B6.out, by rw [List.length_map]; exact O7.out, hp⟩, (K5.out.mono (S' := F) (fun _ _ q => q.elim)).trans2 K6.out (fun i _ h => HO.out.2 i h)⟩

end Go.Proofs.Ytchpkonlfjbkeaa
