/-
  Contract of book.Book's Ack.
-/
import Derived.Test.YtchpkonlfjbkeaaBook6
import Derived.Deep.CutRange
namespace Go.Proofs.Ytchpkonlfjbkeaa
open Go.RowKit

/-- Whether an acknowledgement finds something. -/
def ackOk (l : List Slip) (tag : Int) (multiple : Bool) : Bool := l.any (fun s => s.tag == tag && !s.held) || (multiple && tag == 0)
/-- What it covers. -/
def cov (tag : Int) (multiple : Bool) : Slip → Bool := covers (multiple && tag == 0) multiple tag
def ackOut (l : List Slip) (tag : Int) (multiple hold : Bool) : List Slip :=
  if ackOk l tag multiple then if hold then (l.filter (cov tag multiple)).map (Slip.hold true) else l.filter (cov tag multiple) else []
def ackRest (l : List Slip) (tag : Int) (multiple hold : Bool) : List Slip :=
  if ackOk l tag multiple then if hold then l.map (fun s => if cov tag multiple s then s.hold true else s) else l.filter (fun s => !cov tag multiple s) else l

def AckPost (w : World) (F : Nat → Prop) (p : Nat) (out rest : List Slip) (ok : Bool) (last : Int) (e : Ending) (w' : World) : Prop :=
  ∃ A c, e = .returned (.tuple #[.slice A out.length c, .bool ok]) ∧ Own w' 29 5 (w.heap.size ≤ ·) (.slice A out.length c) out.length (slipRow out) ∧ BookAt w' F p rest last ∧ Kept F w w'

set_option maxHeartbeats 1600000 in
theorem bookAck (tag : Int) (multiple hold : Bool) (w : World) (F : Nat → Prop) (p : Nat) (l : List Slip) (last : Int) (h : BookAt w F p l last) (hl : l.length * 48 ≤ 140737488355328) :
    Calls Try.prog 10 #[.pointer (some ⟨p, 0, none⟩), .int .i64 tag, .bool multiple, .bool hold] w (AckPost w F p (ackOut l tag multiple hold) (ackRest l tag multiple hold) (ackOk l tag multiple) last) := by
  obtain ⟨sv, hblk, hown, hp⟩ := h
  have LB : Hid (∀ k, ownS sv k → k < w.heap.size) := Lib.hid (fun k h => hown.lt k h)
  obtain ⟨A, c, rfl, hcap, hcm, hAn⟩ := Own.form hown
  have HB := Lib.hid hblk
  have HO := Lib.hid hown
  have hplt := hblk.lt
  have c0 : w.cell? ⟨p, 0, none⟩ = some (.slice A l.length c) := hblk.cell 0
  clear hblk hown hcap hcm hAn
  obtain ⟨ok, HOk, HOk1⟩ : ∃ ok, Hid (ok = (l.any (fun s => s.tag == tag && !s.held) || (multiple && tag == 0))) ∧ Hid (ackOk l tag multiple = ok) := ⟨_, Lib.hid rfl, Lib.hid rfl⟩
  obtain ⟨q, HQ⟩ : ∃ q, Hid (cov tag multiple = q) := ⟨_, Lib.hid rfl⟩
  go_enter Try.func10, Try.ntmps10
  go_wp2_with fail
  have kk : Kept noneS w ((w.alloc (.cells #[.int .i64 tag] 3)).alloc (.cells #[.bool multiple] 4)) := ((Kept.refl _ _).alloc _).alloc _
  have bt := (Blk.new w 3 #[.int .i64 tag]).alloc (.cells #[.bool multiple] 4)
  have bm := Blk.new (w.alloc (.cells #[.int .i64 tag] 3)) 4 #[.bool multiple]
  rw [World.size_alloc] at bm
  refine (containsFunc A c l F _ _ (fun s => s.tag == tag && !s.held) _ ((Own.rd HO.out).keep kk (fun _ _ _ q => q.elim)) (ack1 (· < w.heap.size) _ w.heap.size tag bt (by omega)) (by omega)).mono ?_
  rintro e w1 ⟨rfl, k1⟩
  have K1 := Lib.hid (kk.trans k1)
  have BT := Lib.hid (bt.keep k1 (fun q => q))
  have BM := Lib.hid (bm.keep k1 (fun q => q))
  have t0 : w1.cell? ⟨w.heap.size, 0, none⟩ = some (.int .i64 tag) := BT.out.cell 0
  have m0 : w1.cell? ⟨w.heap.size + 1, 0, none⟩ = some (.bool multiple) := BM.out.cell 0
  have B1 := Lib.hid (HB.out.keep K1.out (fun q => q))
  have O1 := Lib.hid (HO.out.keep0 K1.out (fun _ _ _ q => q.elim))
  have hsz := K1.out.size
  clear kk bt bm k1
  generalize l.any (fun s => s.tag == tag && !s.held) = there at HOk ⊢
  go_upto_region 2 with (fail)
  go_cut [11] from 22 to 26 (fun v wx => v = .pointer (some ⟨w1.heap.size, 0, none⟩) ∧ wx = w1.alloc (.cells #[.bool (multiple && tag == 0)] 4))
  case first =>
    cases multiple
    · go_wp2_with fail
      go_meet
      case rel => exact ⟨rfl, rfl⟩
    · go_wp2_with fail
      go_meet
      case rel => exact ⟨rfl, rfl⟩
  case rest =>
  obtain ⟨rfl, rfl⟩ := hcut
  generalize hall : (multiple && tag == 0) = all at HOk ⊢
  have HAll := Lib.hid hall
  clear hall
  go_upto_region 3 with (fail)
  go_cut [32] from 27 to 32 (fun v wx => v = .bool (!ok) ∧ wx = w1.alloc (.cells #[.bool all] 4))
  case first =>
    have h := HOk.out
    cases there <;> cases all <;> (subst h; go_wp2_with fail; go_meet; case rel => exact ⟨rfl, rfl⟩)
  case rest =>
  obtain ⟨rfl, rfl⟩ := hcut
  have KA := Lib.hid (K1.out.alloc (.cells #[.bool all] 4))
  have BA := Lib.hid (Blk.new w1 4 #[.bool all])
  have BT2 := Lib.hid (BT.out.alloc (.cells #[.bool all] 4))
  have BM2 := Lib.hid (BM.out.alloc (.cells #[.bool all] 4))
  have B2 := Lib.hid (B1.out.alloc (.cells #[.bool all] 4))
  have O2 := Lib.hid (O1.out.alloc (.cells #[.bool all] 4))
  have HAns : Hid (Answers (· < w.heap.size) (w1.alloc (.cells #[.bool all] 4)) 23 #[.pointer (some ⟨w1.heap.size, 0, none⟩), .pointer (some ⟨w.heap.size, 0, none⟩), .pointer (some ⟨w.heap.size + 1, 0, none⟩)] q) :=
    Lib.hid (by rw [← HQ.out]; unfold cov; rw [HAll.out]; exact ack2 _ _ _ _ _ all multiple tag BA.out BT2.out BM2.out (by omega) (by omega) (by omega))
  have hsz2 : w.heap.size ≤ (w1.alloc (.cells #[.bool all] 4)).heap.size := KA.out.size
  clear t0 m0 c0 K1 BT BM B1 O1 BA BT2 BM2 HAll HOk
  generalize w1.alloc (.cells #[.bool all] 4) = w2 at KA B2 O2 HAns hsz2 ⊢
  cases ok
  · go_wp2
    go_ret2
    unfold ackOut ackRest
    rw [HOk1.out, if_neg (by decide), if_neg (by decide)]
    exact ⟨none, 0, rfl, Own.nil _ _ _ _, ⟨_, B2.out, O2.out, hp⟩, KA.out.mono fun _ _ q => q.elim⟩
  · cases hold
    · go_wp2_with fail
      refine (bookTake w w2 F p l last _ _ q ⟨_, HB.out, HO.out, hp⟩ KA.out HAns.out hl).mono ?_
      rintro e w3 ⟨A3, c3, rfl, h1, h2, h3⟩
      have H1 := Lib.hid h1
      have H2 := Lib.hid h2
      have H3 := Lib.hid h3
      clear h1 h2 h3
      generalize hG : l.filter q = out at H1
      have HG := Lib.hid hG
      clear hG
      go_wp2
      go_ret2
      unfold ackOut ackRest
      rw [HOk1.out, if_pos rfl, if_pos rfl, if_neg (by decide), if_neg (by decide), HQ.out, HG.out]
      exact ⟨A3, c3, rfl, H1.out.mono (fun i _ h => by omega), H2.out, (KA.out.mono fun _ _ q => q.elim).trans H3.out⟩
    · have c2 : w2.cell? ⟨p, 0, none⟩ = some (.slice A l.length c) := B2.out.cell 0
      go_wp2
      have HM : Hid (∀ j (hj : j < l.length), (l.take (j + 1)).filter q = (l.take j).filter q ++ if q l[j] = true then [l[j]] else []) := Lib.hid (fun j hj => by
        rw [List.take_succ_eq_append_getElem hj, List.filter_append]
        congr 1
        by_cases h : q l[j] = true <;> simp [h])
      go_loopw [13, 14, 44] (fun v x i wr => ∃ j : Nat, j ≤ l.length ∧ i = .int .i64 j ∧ Blk wr p 48 #[.slice A l.length c, .int .i64 last] ∧ Own wr 29 5 F (.slice A l.length c) l.length (slipRow ((l.take j).map (fun s => if q s then s.hold true else s) ++ l.drop j)) ∧ Own wr 29 5 (w2.heap.size ≤ ·) v (((l.take j).filter q).map (Slip.hold true)).length (slipRow (((l.take j).filter q).map (Slip.hold true))) ∧ Kept (ownS (.slice A l.length c)) w2 wr) (fun _ _ i _ => l.length - (intOf i).toNat)
      case atStart => exact ⟨0, Nat.zero_le _, rfl, B2.out, by simpa using O2.out, Own.nil _ _ _ _, Kept.refl _ _⟩
      case round =>
        obtain ⟨j, hj, rfl, hb3, ho3, hu3, hk3⟩ := hrel
        obtain ⟨A1, c1, rfl, _⟩ := Own.form hu3
        have B3 := Lib.hid hb3
        have O3 := Lib.hid ho3
        have U3 := Lib.hid hu3
        have K3 := Lib.hid hk3
        have e1 : wr.cell? ⟨p, 0, none⟩ = some (.slice A l.length c) := hb3.cell 0
        clear hb3 ho3 hu3 hk3
        by_cases hlt : j < l.length
        · have hlen := part_len (fun s => if q s then s.hold true else s) l j hj
          have HTk := Lib.hid (HM.out j hlt)
          have hgo := Own.held O3.out hlen (i := j) (by omega)
          rw [part_get _ _ _ hlt] at hgo
          have HPs := Lib.hid (part_set (fun s => if q s then s.hold true else s) l j hlt)
          have HFl : Hid ((((l.take j).filter q).map (Slip.hold true)).length ≤ j) := Lib.hid (by rw [List.length_map]; exact Nat.le_trans (List.length_filter_le _ _) (by simp; omega))
          have HLen := Lib.hid hlen
          obtain ⟨g, rfl, hg, d0, d1, d2, d3, d4, _⟩ := hgo
          have HG := Lib.hid hg
          have glt : g < w.heap.size := LB.out g HG.out
          have hcf := HAns.out.1
          have HSet : Hid (((l.take j).map (fun s => if q s then s.hold true else s) ++ l.drop j).set j (if q l[j] then l[j].hold true else l[j]) = (l.take (j + 1)).map (fun s => if q s then s.hold true else s) ++ l.drop (j + 1)) := HPs
          have HGet : Hid (((l.take j).map (fun s => if q s then s.hold true else s) ++ l.drop j)[j]? = some l[j]) := Lib.hid (List.getElem?_eq_some_iff.2 ⟨by rw [hlen]; exact hlt, part_get (fun s => if q s then s.hold true else s) l j hlt⟩)
          clear hg hlen HPs
          generalize l[j] = s at d0 d1 d2 d3 d4 HTk HSet HGet
          generalize hL : ((l.take j).map (fun s => if q s then s.hold true else s) ++ l.drop j) = L at O3 HSet HGet HLen
          generalize hL2 : ((l.take (j + 1)).map (fun s => if q s then s.hold true else s) ++ l.drop (j + 1)) = L2 at HSet
          have HL2 := Lib.hid hL2
          clear hL hL2
          go_wp2_with fail
          refine (HAns.out.2 s _ ((K3.out.alloc _).mono fun i _ h => LB.out i h)).mono ?_
          rintro e w3 ⟨rfl, k3⟩
          have hb2 := (Blk.new wr 29 #[.int .i64 s.tag, .string s.queue, .int .i64 s.seq, .int .i64 s.cons, .bool s.held]).keep k3 (fun q => q)
          have KW : Kept noneS wr w3 := ((Kept.refl _ _).alloc _).trans k3
          have B4 := Lib.hid (B3.out.keep KW (fun q => q))
          have O4 := Lib.hid (O3.out.keep0 KW (fun _ _ _ q => q.elim))
          have U4 := Lib.hid (U3.out.keep0 KW (fun _ _ _ q => q.elim))
          have K4 := Lib.hid (K3.out.trans2 KW (fun _ _ q => q.elim))
          have e2 : w3.cell? ⟨p, 0, none⟩ = some (.slice (some ⟨g, 0, none⟩) l.length c) := B4.out.cell 0
          have hlt2 := KW.size
          have hsz3 := K3.out.size
          clear k3 hb2 hcf d0 d1 d2 d3 d4 e1 KW
          obtain ⟨hjL, hjs⟩ := List.getElem?_eq_some_iff.1 HGet.out
          have hgo := Own.held O4.out HLen.out (i := j) hjL
          rw [hjs] at hgo
          clear hjs hjL
          obtain ⟨g', hg', hg1, d0, d1, d2, d3, d4, d5, d6⟩ := hgo
          injection hg' with hg'
          injection hg' with hg'
          subst hg'
          by_cases hq : q s = true
          · have HP : Hid (L.set j (s.hold true) = L2) := Lib.hid (by have := HSet.out; rwa [if_pos hq] at this)
            have HT1 : Hid (((l.take (j + 1)).filter q).map (Slip.hold true) = ((l.take j).filter q).map (Slip.hold true) ++ [s.hold true]) := Lib.hid (by rw [HTk.out, if_pos hq, List.map_append]; rfl)
            have O5 := Lib.hid (d6 true)
            rw [HP.out] at O5
            have NE := Lib.hid (fun h : g = p => O4.out.ne_blk B4.out (by decide) (h ▸ HG.out))
            have hne := NE.out
            have B5 := Lib.hid (B4.out.far (p := ⟨g, j * 5 + 4, none⟩) (fun h => NE.out h.symm) (.bool true))
            have U5 := Lib.hid (U4.out.far (p := ⟨g, j * 5 + 4, none⟩) (fun h => by have := U4.out.2 _ h; exact absurd glt (Nat.not_lt.2 (Nat.le_trans hsz2 this))) (.bool true))
            have K5 := Lib.hid (K4.out.setCell (p := ⟨g, j * 5 + 4, none⟩) (fun _ => HG.out) (.bool true))
            have HC := Lib.hid (cells_new (w3.setCell ⟨g, j * 5 + 4, none⟩ (.bool true)) ⟨s.tag, s.queue, s.seq, s.cons, true⟩ 29)
            rw [show (w3.setCell ⟨g, j * 5 + 4, none⟩ (.bool true)).heap.size = w3.heap.size from by simp [World.setCell]] at HC
            rw [hq]
            clear hq d6 hg1 HTk HSet
            generalize ((l.take j).filter q).map (Slip.hold true) = cur at HT1 U3 U4 U5 HFl ⊢
            go_wp2_with (at_builtin; refine wpList_appSl rfl (.tmp 59) (.tmp 67) rfl (w2.heap.size ≤ ·) (.slice A1 cur.length c1) cur rfl (Own.alloc U5.out _) w3.heap.size ⟨s.tag, s.queue, s.seq, s.cons, true⟩ rfl HC.out (by have := HFl.out; omega) (by simp [World.setCell]; omega) ?_; intro A6 c6 w6 hown6 hk6; have HO6 := Lib.hid hown6; have HK6 := Lib.hid hk6; clear hown6 hk6)
            go_roundw
            case rel => (repeat apply Exists.intro); exact ⟨⟨j + 1, by omega, by go_num, (B5.out.alloc _).keep HK6.out (fun h => by have := U5.out.2 _ h; omega), by rw [HL2.out]; exact (O5.out.alloc _).keep0 HK6.out (fun k _ h1 h2 => by have := U5.out.2 _ h2; have := LB.out _ h1; omega), by rw [HT1.out, List.length_append]; exact HO6.out, (K5.out.alloc _).trans2 HK6.out (fun i hi h => by have := U5.out.2 i h; exact absurd hi (by omega))⟩, rfl⟩
            case measure => simp [intOf]; omega
          · have HP : Hid (L.set j s = L2) := Lib.hid (by have := HSet.out; rwa [if_neg hq] at this)
            have hq' : q s = false := by simpa using hq
            have HT1 : Hid (((l.take (j + 1)).filter q).map (Slip.hold true) = ((l.take j).filter q).map (Slip.hold true)) := Lib.hid (by rw [HTk.out, if_neg hq, List.append_nil])
            have HE : Hid (L = L2) := Lib.hid (by
              rw [← HP.out]
              obtain ⟨hjL, hjs⟩ := List.getElem?_eq_some_iff.1 HGet.out
              rw [← hjs, List.set_getElem_self])
            rw [hq']
            clear hq hq' d6 hg1 HTk HSet
            generalize ((l.take j).filter q).map (Slip.hold true) = cur at HT1 U3 U4 HFl ⊢
            go_wp2
            go_roundw
            case rel => (repeat apply Exists.intro); exact ⟨⟨j + 1, by omega, by go_num, B4.out, by rw [HL2.out, ← HE.out]; exact O4.out, by rw [HT1.out]; exact U4.out, K4.out⟩, rfl⟩
            case measure => simp [intOf]; omega
        · obtain rfl : j = l.length := by omega
          have O4 := Lib.hid O3.out
          have U4 := Lib.hid U3.out
          rw [List.take_length, List.drop_length, List.append_nil] at O4
          rw [List.take_length] at U4
          rw [List.take_length]
          clear O3 U3
          generalize hG : (l.filter q).map (Slip.hold true) = out at U4 ⊢
          have HG := Lib.hid hG
          clear hG
          go_wp2
          go_ret2
          unfold ackOut ackRest
          rw [HOk1.out, if_pos rfl, if_pos rfl, if_pos rfl, if_pos rfl, HQ.out, HG.out]
          exact ⟨A1, c1, rfl, U4.out.mono (fun i _ h => Nat.le_trans hsz2 h), ⟨_, B3.out, by rw [List.length_map]; exact O4.out, hp⟩, (KA.out.mono fun _ _ q => q.elim).trans2 K3.out (fun i _ h => HO.out.2 i h)⟩

end Go.Proofs.Ytchpkonlfjbkeaa
