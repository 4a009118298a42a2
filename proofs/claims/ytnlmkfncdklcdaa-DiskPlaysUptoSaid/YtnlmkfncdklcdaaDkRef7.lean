/-
  The document's Disk: Open.
-/
import Derived.Test.YtnlmkfncdklcdaaDkRef6
import Derived.Test.YtnlmkfncdklcdaaDkOpen
import Derived.Test.YtnlmkfncdklcdaaDkTill
import Derived.Deep.RegionHeld3
namespace Go.Proofs.Ytnlmkfncdklcdaa
open Go.RowKit

def RefOpenPost (w : World) (fs : List FlS) (room : Int) (e : Ending) (w' : World) : Prop :=
  (openErr fs [] ≠ 0 ∧ e = .returned (.tuple #[.pointer none, .int .i64 (openErr fs [])]) ∧ Kept noneS w w') ∨
    (openErr fs [] = 0 ∧ ∃ q G, e = .returned (.tuple #[.pointer (some ⟨q, 0, none⟩), .int .i64 0]) ∧ RAt w' G q (openS fs room) ∧ (∀ k, G k → w.heap.size ≤ k) ∧ Kept noneS w w')

theorem ROpen.addEl {w w2 w3 : World} {tag : Nat → RTag} {fv pv v2 v3 : Value} {l : List RF} {q : Nat} {s : DiskS} {f : FileS} (h : ROpen w tag fv pv l q s) (hn : f.name.size ≤ 140737488351232) (o2 : OB w2 (w.heap.size ≤ ·) v2 f.data) (k2 : Kept noneS w w2)
    (o3 : Own w3 58 3 (fun k => tag k = .fs ∨ w2.heap.size ≤ k) v3 (l.length + 1) (tF.fl (l ++ [(f, v2)]))) (k3 : Kept (fun k => tag k = .fs) w2 w3) :
    ∃ tag', ROpen (w3.setCell ⟨q, 0, none⟩ v3) tag' v3 pv (l ++ [(f, v2)]) q { s with files := s.files ++ [f] } ∧ ∀ k, tag' k ≠ .out → tag k ≠ .out ∨ w.heap.size ≤ k := by
  have z2 := k2.size
  have z3 := k3.size
  have hto : ∀ k t, tag k = t → t ≠ .out → rtR (rtR tag w.heap.size w2.heap.size (.fd f.key)) w2.heap.size w3.heap.size .fs k = t := fun k t e a => by
    have := h.old k (by rw [e]; exact a)
    unfold rtR
    rw [if_neg (by omega), if_neg (by omega), e]
  have hout : ∀ k, rtR (rtR tag w.heap.size w2.heap.size (.fd f.key)) w2.heap.size w3.heap.size .fs k ≠ .out → tag k ≠ .out ∨ (w.heap.size ≤ k ∧ k < w3.heap.size) := fun k a => by
    rcases rtR_out k a with e | e
    · exact .inr (by omega)
    · rcases rtR_out k e with e | e
      · exact .inr (by omega)
      · exact .inl e
  have tq' := hto q _ h.tq (by simp)
  have k8 : Kept (· = q) w3 (w3.setCell ⟨q, 0, none⟩ v3) := (Kept.refl (· = q) w3).setCell (p := ⟨q, 0, none⟩) (fun _ => rfl) _
  have hn1 : ∀ k t, tag k = t → t ≠ .fs → ¬ tag k = .fs := fun k t e ne a => ne (e.symm.trans a)
  have hn2 : ∀ k t, rtR (rtR tag w.heap.size w2.heap.size (.fd f.key)) w2.heap.size w3.heap.size .fs k = t → t ≠ .hdr → ¬ k = q := fun k t e ne a => ne (by rw [← e, a]; exact tq')
  refine ⟨rtR (rtR tag w.heap.size w2.heap.size (.fd f.key)) w2.heap.size w3.heap.size .fs, ⟨fun k a => ?_, tq', ((h.blk.keep k2 (fun a => a)).keep k3 (hn1 q _ h.tq (by simp))).set_ 0 _, ?_, by rw [List.map_append, h.fls]; rfl, fun p hp => ?_, ?_, h.pat, h.room⟩, fun k a => (hout k a).imp id (fun e => e.1)⟩
  · refine Nat.lt_of_lt_of_le ?_ k8.size
    rcases hout k a with e | e
    · have := h.old k e
      omega
    · exact e.2
  · rw [List.length_append, List.length_singleton]
    exact (o3.mono (fun k a e => e.elim (fun e => hto k _ e (by simp)) (fun e => rtR_in e a))).keep k8 (fun k _ a b => hn2 k _ a (by simp) b)
  · rcases List.mem_append.1 hp with hp | hp
    · obtain ⟨h1, h2⟩ := h.fat p hp
      exact ⟨h1, (Own.mono (Own.keep (Own.keep h2 k2 (fun _ _ _ a => a)) k3 (fun k _ a b => hn1 k _ a (by simp) b)) (fun k _ a => hto k _ a (by simp))).keep k8 (fun k _ a b => hn2 k _ a (by simp) b)⟩
    · have e : p = (f, v2) := by simpa using hp
      rw [e]
      refine ⟨hn, ?_⟩
      have o2' := Own.keep (Own.mono o2 (G := fun k => w.heap.size ≤ k ∧ k < w2.heap.size) (fun k a b => ⟨b, a⟩)) k3 (fun k _ a b => by
        have := h.old k (by rw [b]; simp)
        omega)
      refine (Own.mono o2' (G := fun k => rtR (rtR tag w.heap.size w2.heap.size (.fd f.key)) w2.heap.size w3.heap.size .fs k = .fd f.key) (fun k _ a => ?_)).keep k8 (fun k _ a b => hn2 k _ a (by simp) b)
      unfold rtR
      rw [if_neg (by omega), if_pos a]
  · exact (((h.prow.keep k2 (fun _ _ _ a => a)).keep k3 (fun k _ a b => hn1 k _ a (by simp) b)).mono (fun k _ a => hto k _ a (by simp))).keep k8 (fun k _ a b => hn2 k _ a (by simp) b)

theorem good_ne {nm : ByteArray} (h : goodB nm = true) : ([] : List UInt8) < nm.toList := by
  rcases e : nm.toList with _ | ⟨x, l⟩
  · exfalso
    have e2 : nm = ⟨#[]⟩ := name_inj (by rw [e, ByteArray.toList_eq])
    rw [e2] at h
    revert h
    decide +kernel
  · exact List.nil_lt_cons x l

attribute [local go_sem ↓] append_as
set_option maxRecDepth 100000 in
set_option maxHeartbeats 3200000 in
theorem refOpen (A : Option Addr) (c : Nat) (fs : List FlS) (room : Int) (H : Nat → Prop) (w : World) (h : FlsAt w H A fs) (hl : fs.length * 48 ≤ 140737488355328) (hr : -9223372036854775808 ≤ room ∧ room ≤ 9223372036854775807) :
    Calls Try.prog 13 #[.slice A fs.length c, .int .i64 room] w (RefOpenPost w fs room) := by
  have HX := Lib.hid (h.mono (G := (· < w.heap.size)) (fun k a _ => a))
  obtain ⟨tg0, D0, ht0⟩ : ∃ tg0 : Nat → RTag, Hid (ROpen (w.alloc (.cells #[.slice none 0 0, .slice none 0 0, .int .i64 room] 54)) tg0 (.slice none 0 0) (.slice none 0 0) [] w.heap.size (openS [] room)) ∧ Hid (∀ k, tg0 k ≠ .out → w.heap.size ≤ k) := ⟨fun k => if k = w.heap.size then .hdr else .out, Lib.hid (by
    refine ⟨fun k a => ?_, if_pos rfl, Blk.new _ _ _, Own.nil _ _ _ _, rfl, (fun p hp => by cases hp), Own.nil _ _ _ _, (fun x hx => by cases hx), hr⟩
    by_cases e : k = w.heap.size
    · rw [e]; simp
    · exact absurd (if_neg e) a), Lib.hid (fun k a => by
    by_cases e : k = w.heap.size
    · omega
    · exact absurd (if_neg e) a)⟩
  clear h hr
  generalize hP : RefOpenPost w fs room = Post
  have HP := Lib.hid hP
  clear hP
  go_enter Try.func13, Try.ntmps13
  go_wp2
  have K0 : Hid (Kept noneS w (w.alloc (.cells #[.slice none 0 0, .slice none 0 0, .int .i64 room] 54))) := Lib.hid ((Kept.refl noneS w).alloc _)
  generalize w.alloc (.cells #[.slice none 0 0, .slice none 0 0, .int .i64 room] 54) = wa at D0 K0 ⊢
  generalize hq : w.heap.size = q at D0 ⊢
  have HQ := Lib.hid hq
  rw [hq] at ht0
  clear hq
  go_loopw [7] (fun i wr => ∃ (j : Nat) (la : List UInt8) (tag : Nat → RTag) (fv : Value) (l : List RF), j ≤ fs.length ∧ i = .int .i64 j ∧ l.length = j ∧ Hid (openErr fs [] = openErr (fs.drop j) la) ∧ Hid (∀ i (hi : i < fs.length), i + 1 = j → la = fs[i].key) ∧ Hid (j = 0 → la = []) ∧ Hid (ROpen wr tag fv (.slice none 0 0) l q (openS (fs.take j) room)) ∧ Hid (∀ k, tag k ≠ .out → q ≤ k) ∧ Hid (Kept noneS w wr)) (fun i _ => fs.length - (intOf i).toNat)
  case atStart => exact ⟨0, [], tg0, _, [], Nat.zero_le _, rfl, rfl, Lib.hid rfl, Lib.hid (fun i _ e => by omega), Lib.hid (fun _ => rfl), D0, ht0, K0⟩
  case round =>
    obtain ⟨j, la, tag, fv, l, hj, rfl, hlj, HE, HLa, HL0, HO, HT, HK⟩ := hrel
    clear D0 K0 ht0
    by_cases hlt : j < fs.length
    · obtain ⟨g, o, B, d, rfl, hgF, ⟨hn1, hn2⟩, ⟨hB1, hB2, hB3, hB4⟩, q0, q1⟩ := (HX.out.still HK.out).at_ hlt
      have hE' := HE.out
      rw [List.drop_eq_getElem_cons hlt, openErr] at hE'
      have HTk := Lib.hid (List.take_succ_eq_append_getElem hlt)
      have HFj : Hid (∀ i (hi : i < fs.length), i + 1 = j + 1 → fs[j].key = fs[i].key) := Lib.hid (fun i hi e => by
        have : i = j := by omega
        subst this
        rfl)
      have HPrev : Hid (∀ i, j = i + 1 → ∃ (hi : i < fs.length), wr.cell? ⟨g, o + i * 2, none⟩ = some (.string fs[i].name)) := Lib.hid (fun i e => by
        have hi : i < fs.length := by omega
        obtain ⟨g', o', B', d', e', _, _, _, r0, _⟩ := (HX.out.still HK.out).at_ hi
        injection e' with e'
        injection e' with e1 e2
        subst e1 e2
        exact ⟨hi, r0⟩)
      generalize fs[j] = f at *
      have hji : (j : Int) < (fs.length : Int) := by omega
      have hj0 : (0 : Int) ≤ (j : Int) := by omega
      have HE' := Lib.hid hE'
      have HB := Lib.hid hB1
      clear hE' hB1 HE
      rcases hgd : goodB f.name with _ | _
      · rw [hgd, if_pos rfl] at HE'
        go_wp2_with fail
        refine (refGood f.name wr hn1).mono ?_
        rw [hgd]
        rintro e w1 ⟨rfl, rfl⟩
        go_wp2
        rw [← HP.out]
        exact .inl ⟨by rw [HE'.out]; decide, by rw [HE'.out]; rfl, HK.out⟩
      · rw [hgd, if_neg (by decide)] at HE'
        go_wp2_with fail
        refine (refGood f.name wr hn1).mono ?_
        rw [hgd]
        rintro e w1 ⟨rfl, rfl⟩
        obtain ⟨b0, HB0⟩ : ∃ b0 : Bool, Hid (decide (la < f.key) = !b0) := ⟨!decide (la < f.key), Lib.hid (by simp)⟩
        have HNe := Lib.hid (good_ne hgd)
        go_upto_region 7 with (fail)
        go_cut [39] from 11 to 66 (fun v wx => v = .bool b0 ∧ ∃ m, wr.drewN m = wx)
        case first =>
          rcases Nat.eq_zero_or_pos j with hj0' | hpos
          · have hb0 : b0 = false := by
              have h1 := HB0.out
              have h2 : ([] : List UInt8) < f.key := HNe.out
              rw [HL0.out hj0', decide_eq_true h2] at h1
              cases b0
              · rfl
              · cases h1
            subst hb0
            have hz : decide ((0 : Int) < (j : Int)) = false := decide_eq_false (by omega)
            have hjz : (j : Int) = 0 := by omega
            clear hj0'
            go_quiet (fail)
            go_wp2
            go_meet
            case rel => exact ⟨rfl, _, rfl⟩
          · obtain ⟨i, rfl⟩ : ∃ i, j = i + 1 := ⟨j - 1, by omega⟩
            obtain ⟨hi, r0⟩ := HPrev.out i rfl
            have hla := HLa.out i hi rfl
            have hi0 : (0 : Int) ≤ (i : Int) := by omega
            have hil : (i : Int) < (fs.length : Int) := by omega
            by_cases hlk : la < f.key
            · have hb0 : b0 = false := by
                have h1 := HB0.out
                rw [decide_eq_true hlk] at h1
                cases b0
                · rfl
                · cases h1
              subst hb0
              rw [hla] at hlk
              have bl : Op.bytesLess fs[i].name.toList f.name.toList = true := by rw [bytesLess_eq]; exact decide_eq_true hlk
              have bl2 : Op.bytesLess f.name.toList fs[i].name.toList = false := by rw [bytesLess_eq]; exact decide_eq_false (fun a => lt_irr _ (lt_tr a hlk))
              have be : (f.name.toList == fs[i].name.toList) = false := by simpa using fun a => lt_ne hlk (show fs[i].name.toList = f.name.toList from a.symm)
              clear hla hlk
              go_quiet (fail)
              go_wp2
              go_meet
              case rel => exact ⟨rfl, _, rfl⟩
            · have hb0 : b0 = true := by
                have h1 := HB0.out
                rw [decide_eq_false hlk] at h1
                cases b0
                · cases h1
                · rfl
              subst hb0
              rw [hla] at hlk
              have bl : Op.bytesLess fs[i].name.toList f.name.toList = false := by rw [bytesLess_eq]; exact decide_eq_false hlk
              by_cases heq : f.name.toList = fs[i].name.toList
              · have bl2 : Op.bytesLess f.name.toList fs[i].name.toList = false := by rw [bytesLess_eq, heq]; exact decide_eq_false (lt_irr _)
                have be : (f.name.toList == fs[i].name.toList) = true := by simpa using heq
                clear hla hlk heq
                go_quiet (fail)
                go_wp2
                go_meet
                case rel => exact ⟨rfl, _, rfl⟩
              · have bl2 : Op.bytesLess f.name.toList fs[i].name.toList = true := by rw [bytesLess_eq]; exact decide_eq_true (lt_total heq hlk)
                have be : (f.name.toList == fs[i].name.toList) = false := by simpa using heq
                clear hla hlk heq
                go_quiet (fail)
                go_wp2
                go_meet
                case rel => exact ⟨rfl, _, rfl⟩
        case rest =>
          obtain ⟨rfl, m, rfl⟩ := hcut
          have HO2 := Lib.hid (HO.out.keep ((Kept.refl noneS wr).drewN m) (fun _ a => a.elim))
          have K2 := Lib.hid (HK.out.drewN m)
          have HB2 := Lib.hid (HB.out.drewN m)
          have r0 : (wr.drewN m).cell? ⟨g, o + j * 2, none⟩ = some (.string f.name) := q0
          have r1 : (wr.drewN m).cell? ⟨g, o + j * 2 + 1, none⟩ = some (.slice B f.data.length d) := q1
          clear q0 q1 HO HK HB HPrev
          generalize wr.drewN m = w1 at HO2 K2 HB2 r0 r1 ⊢
          rcases b0 with _ | _
          · have hlk : la < f.key := of_decide_eq_true HB0.out
            rw [if_pos hlk] at HE'
            obtain ⟨Af, cf, rfl, _⟩ := Own.form HO2.out.frow
            have c0 : w1.cell? ⟨q, 0, none⟩ = some (.slice Af l.length cf) := HO2.out.blk.cell 0
            have hln : l.length + 1 ≤ 2932031007402 := by omega
            have HLj := Lib.hid hlj
            clear hlj
            obtain ⟨i0, hi0', hz0, hz1, hz2⟩ := info_parts infoRF
            have HI := Lib.hid hi0'
            have HZ := Lib.hid hz0
            have HZ1 := Lib.hid hz1
            have HZ2 := Lib.hid hz2
            have HN1 := Lib.hid hn1
            clear hi0' hz0 hz1 hz2 hlk
            go_upto_region 9 with (fail)
            have HGF := Lib.hid hgF
            have hH1 : w1.drew.cell? ⟨q, 0, none⟩ = some (.slice Af l.length cf) ∧ w1.drew.cell? ⟨g, o + j * 2, none⟩ = some (.string f.name) ∧ w1.drew.cell? ⟨g, o + j * 2 + 1, none⟩ = some (.slice B f.data.length d) := ⟨c0, r0, r1⟩
            refine wp_region_till (fun W => W.cell? ⟨q, 0, none⟩ = some (.slice Af l.length cf) ∧ W.cell? ⟨g, o + j * 2, none⟩ = some (.string f.name) ∧ W.cell? ⟨g, o + j * 2 + 1, none⟩ = some (.slice B f.data.length d)) 27 (by kernel_rfl) ?_
            refine wpTill_take (v := ?v0) (i := 0) [25, 26, 27] rfl (by kernel_rfl) (by kernel_rfl) (by kernel_rfl) (by kernel_rfl) (fun _ _ _ h => h) (Or.inl ⟨by rfl, ?hy0⟩) hH1 ?rest0
            case hy0 => (intro w hSw; (try dsimp only at hSw); go_simp; try (with_reducible rfl))
            try simp only [Act.put, List.setIfInBounds_toArray, List.set_cons_zero, List.set_cons_succ]
            refine wpTill_take (v := ?v1) (i := 1) [2, 3, 4, 24, 27] rfl (by kernel_rfl) (by kernel_rfl) (by kernel_rfl) (by kernel_rfl) (fun _ _ _ h => h) (Or.inl ⟨by rfl, ?hy1⟩) hH1 ?rest1
            case hy1 => (intro w hSw; (try dsimp only at hSw); go_simp; try (with_reducible rfl))
            try simp only [Act.put, List.setIfInBounds_toArray, List.set_cons_zero, List.set_cons_succ]
            refine wpTill_take (v := ?v2) (i := 2) [3, 4, 24, 27] rfl (by kernel_rfl) (by kernel_rfl) (by kernel_rfl) (by kernel_rfl) (fun _ _ _ h => h) (Or.inl ⟨by rfl, ?hy2⟩) hH1 ?rest2
            case hy2 => (intro w hSw; (try dsimp only at hSw); go_simp; try (with_reducible rfl))
            try simp only [Act.put, List.setIfInBounds_toArray, List.set_cons_zero, List.set_cons_succ]
            refine wpTill_take (v := ?v3) (i := 3) [4, 24, 27] rfl (by kernel_rfl) (by kernel_rfl) (by kernel_rfl) (by kernel_rfl) (fun _ _ _ h => h) (Or.inl ⟨by rfl, ?hy3⟩) hH1 ?rest3
            case hy3 => (intro w hSw; (try dsimp only at hSw); go_simp; try (with_reducible rfl))
            try simp only [Act.put, List.setIfInBounds_toArray, List.set_cons_zero, List.set_cons_succ]
            refine wpTill_take (v := ?v4) (i := 4) [24, 27] rfl (by kernel_rfl) (by kernel_rfl) (by kernel_rfl) (by kernel_rfl) (fun _ _ _ h => h) (Or.inl ⟨by rfl, ?hy4⟩) hH1 ?rest4
            case hy4 => (intro w hSw; (try dsimp only at hSw); go_simp; try (with_reducible rfl))
            try simp only [Act.put, List.setIfInBounds_toArray, List.set_cons_zero, List.set_cons_succ]
            refine wpTill_take (v := ?v5) (i := 5) [7, 8, 9, 22, 23, 24, 27] rfl (by kernel_rfl) (by kernel_rfl) (by kernel_rfl) (by kernel_rfl) (fun _ _ _ h => h) (Or.inl ⟨by rfl, ?hy5⟩) hH1 ?rest5
            case hy5 => (intro w hSw; (try dsimp only at hSw); go_simp; try (with_reducible rfl))
            try simp only [Act.put, List.setIfInBounds_toArray, List.set_cons_zero, List.set_cons_succ]
            refine wpTill_take (v := ?v6) (i := 6) [7, 8, 9, 22, 23, 24, 27] rfl (by kernel_rfl) (by kernel_rfl) (by kernel_rfl) (by kernel_rfl) (fun _ _ _ h => h) (Or.inl ⟨by rfl, ?hy6⟩) hH1 ?rest6
            case hy6 => (intro w hSw; (try dsimp only at hSw); go_simp; try (with_reducible rfl))
            try simp only [Act.put, List.setIfInBounds_toArray, List.set_cons_zero, List.set_cons_succ]
            refine wpTill_take (v := ?v7) (i := 7) [8, 9, 22, 23, 24, 27] rfl (by kernel_rfl) (by kernel_rfl) (by kernel_rfl) (by kernel_rfl) (fun _ _ _ h => h) (Or.inl ⟨by rfl, ?hy7⟩) hH1 ?rest7
            case hy7 => (intro w hSw; (try dsimp only at hSw); go_simp; try (with_reducible rfl))
            try simp only [Act.put, List.setIfInBounds_toArray, List.set_cons_zero, List.set_cons_succ]
            refine wpTill_take (v := ?v8) (i := 8) [9, 22, 23, 24, 27] rfl (by kernel_rfl) (by kernel_rfl) (by kernel_rfl) (by kernel_rfl) (fun _ _ _ h => h) (Or.inl ⟨by rfl, ?hy8⟩) hH1 ?rest8
            case hy8 => (intro w hSw; (try dsimp only at hSw); go_simp; try (with_reducible rfl))
            try simp only [Act.put, List.setIfInBounds_toArray, List.set_cons_zero, List.set_cons_succ]
            refine wpTill_take (v := ?v9) (i := 9) [22, 23, 24, 27] rfl (by kernel_rfl) (by kernel_rfl) (by kernel_rfl) (by kernel_rfl) (fun _ _ _ h => h) (Or.inl ⟨by rfl, ?hy9⟩) hH1 ?rest9
            case hy9 => (intro w hSw; (try dsimp only at hSw); go_simp; try (with_reducible rfl))
            try simp only [Act.put, List.setIfInBounds_toArray, List.set_cons_zero, List.set_cons_succ]
            refine wpTill_take (v := ?v10) (i := 10) [12, 13, 14, 15, 22, 23, 24, 27] rfl (by kernel_rfl) (by kernel_rfl) (by kernel_rfl) (by kernel_rfl) (fun _ _ _ h => h) (Or.inl ⟨by rfl, ?hy10⟩) hH1 ?rest10
            case hy10 => (intro w hSw; (try dsimp only at hSw); go_simp; try (with_reducible rfl))
            try simp only [Act.put, List.setIfInBounds_toArray, List.set_cons_zero, List.set_cons_succ]
            refine wpTill_take (v := ?v11) (i := 11) [12, 13, 14, 15, 22, 23, 24, 27] rfl (by kernel_rfl) (by kernel_rfl) (by kernel_rfl) (by kernel_rfl) (fun _ _ _ h => h) (Or.inl ⟨by rfl, ?hy11⟩) hH1 ?rest11
            case hy11 => (intro w hSw; (try dsimp only at hSw); go_simp; try (with_reducible rfl))
            try simp only [Act.put, List.setIfInBounds_toArray, List.set_cons_zero, List.set_cons_succ]
            refine wpTill_take (v := ?v12) (i := 12) [13, 14, 15, 22, 23, 24, 27] rfl (by kernel_rfl) (by kernel_rfl) (by kernel_rfl) (by kernel_rfl) (fun _ _ _ h => h) (Or.inl ⟨by rfl, ?hy12⟩) hH1 ?rest12
            case hy12 => (intro w hSw; (try dsimp only at hSw); go_simp; try (with_reducible rfl))
            try simp only [Act.put, List.setIfInBounds_toArray, List.set_cons_zero, List.set_cons_succ]
            refine wpTill_take (v := ?v13) (i := 13) [14, 15, 22, 23, 24, 27] rfl (by kernel_rfl) (by kernel_rfl) (by kernel_rfl) (by kernel_rfl) (fun _ _ _ h => h) (Or.inl ⟨by rfl, ?hy13⟩) hH1 ?rest13
            case hy13 => (intro w hSw; (try dsimp only at hSw); go_simp; try (with_reducible rfl))
            try simp only [Act.put, List.setIfInBounds_toArray, List.set_cons_zero, List.set_cons_succ]
            refine wpTill_take (v := ?v14) (i := 14) [15, 22, 23, 24, 27] rfl (by kernel_rfl) (by kernel_rfl) (by kernel_rfl) (by kernel_rfl) (fun _ _ _ h => h) (Or.inl ⟨by rfl, ?hy14⟩) hH1 ?rest14
            case hy14 => (intro w hSw; (try dsimp only at hSw); go_simp; try (with_reducible rfl))
            try simp only [Act.put, List.setIfInBounds_toArray, List.set_cons_zero, List.set_cons_succ]
            refine wpTill_take (v := ?v15) (i := 16) [18, 19, 20, 21, 22, 23, 24, 27] rfl (by kernel_rfl) (by kernel_rfl) (by kernel_rfl) (by kernel_rfl) (fun _ _ _ h => h) (Or.inl ⟨by rfl, ?hy15⟩) hH1 ?rest15
            case hy15 => (intro w hSw; (try dsimp only at hSw); go_simp; try (with_reducible rfl))
            try simp only [Act.put, List.setIfInBounds_toArray, List.set_cons_zero, List.set_cons_succ]
            refine wpTill_take (v := ?v16) (i := 17) [18, 19, 20, 21, 22, 23, 24, 27] rfl (by kernel_rfl) (by kernel_rfl) (by kernel_rfl) (by kernel_rfl) (fun _ _ _ h => h) (Or.inl ⟨by rfl, ?hy16⟩) hH1 ?rest16
            case hy16 => (intro w hSw; (try dsimp only at hSw); go_simp; try (with_reducible rfl))
            try simp only [Act.put, List.setIfInBounds_toArray, List.set_cons_zero, List.set_cons_succ]
            refine wpTill_take (v := ?v17) (i := 18) [19, 20, 21, 22, 23, 24, 27] rfl (by kernel_rfl) (by kernel_rfl) (by kernel_rfl) (by kernel_rfl) (fun _ _ _ h => h) (Or.inl ⟨by rfl, ?hy17⟩) hH1 ?rest17
            case hy17 => (intro w hSw; (try dsimp only at hSw); go_simp; try (with_reducible rfl))
            try simp only [Act.put, List.setIfInBounds_toArray, List.set_cons_zero, List.set_cons_succ]
            refine wpTill_take (v := ?v18) (i := 19) [20, 21, 22, 23, 24, 27] rfl (by kernel_rfl) (by kernel_rfl) (by kernel_rfl) (by kernel_rfl) (fun _ _ _ h => h) (Or.inl ⟨by rfl, ?hy18⟩) hH1 ?rest18
            case hy18 => (intro w hSw; (try dsimp only at hSw); go_simp; try (with_reducible rfl))
            try simp only [Act.put, List.setIfInBounds_toArray, List.set_cons_zero, List.set_cons_succ]
            refine wpTill_take (v := ?v19) (i := 20) [21, 22, 23, 24, 27] rfl (by kernel_rfl) (by kernel_rfl) (by kernel_rfl) (by kernel_rfl) (fun _ _ _ h => h) (Or.inl ⟨by rfl, ?hy19⟩) hH1 ?rest19
            case hy19 => (intro w hSw; (try dsimp only at hSw); go_simp; try (with_reducible rfl))
            try simp only [Act.put, List.setIfInBounds_toArray, List.set_cons_zero, List.set_cons_succ]
            refine wpTill_take (v := ?v20) (i := 21) [22, 23, 24, 27] rfl (by kernel_rfl) (by kernel_rfl) (by kernel_rfl) (by kernel_rfl) (fun _ _ _ h => h) (Or.inl ⟨by rfl, ?hy20⟩) hH1 ?rest20
            case hy20 => (intro w hSw; (try dsimp only at hSw); go_simp; try (with_reducible rfl))
            try simp only [Act.put, List.setIfInBounds_toArray, List.set_cons_zero, List.set_cons_succ]
            refine wpTill_one (i := 15) (by kernel_rfl) rfl (fun K hK => ?_)
            go_simp
            go_at_call 29
            refine (refCopyB B d f.data _ w1.drew HB2.out.drew (by omega)).mono ?_
            rintro e w2 ⟨A2, c2, rfl, o2, k2⟩
            have kA : Kept noneS w1 w2 := ((Kept.refl noneS w1).drew).trans k2
            have s0 := (kA.cell (lt_of_cell r0) (fun a => a)).trans r0
            have s1 := (kA.cell (lt_of_cell r1) (fun a => a)).trans r1
            have c0' := (kA.cell (lt_of_cell c0) (fun a => a)).trans c0
            have kz : Kept noneS w2 (w2.alloc (.cells #[.string f.name, .slice A2 f.data.length c2, .int .i64 (f.data.length : Int)] 58)) := (Kept.refl noneS w2).alloc _
            have s0z := (kz.cell (lt_of_cell s0) (fun a => a)).trans s0
            have s1z := (kz.cell (lt_of_cell s1) (fun a => a)).trans s1
            have c0z := (kz.cell (lt_of_cell c0') (fun a => a)).trans c0'
            obtain ⟨A3, c3, w3, hap, o3, k3, os3⟩ := Own.app3 (T := tF) (ty := 51) ((HO2.out.frow.keep kA (fun _ _ _ a => a)).mono (G := fun k => tag k = .fs ∨ w2.heap.size ≤ k) (fun _ _ a => .inl a)) ((⟨f.name, f.data, f.data⟩, .slice A2 f.data.length c2) : RF) Try.underlying51 HI.out HZ.out HZ1.out HZ2.out rfl (fun u hu => by simp only [Three.cs, tF, List.mem_cons, List.not_mem_nil, or_false] at hu; rcases hu with rfl | rfl | rfl <;> rfl) (by unfold maxLen; omega) (by omega) (fun k a => .inr a)
            have hap' : (appSem #[51, 51] 51 #[.slice Af l.length cf, .slice (some ⟨w2.heap.size, 0, none⟩) 1 1]).run Try.prog (w2.alloc (.cells #[.string f.name, .slice A2 f.data.length c2, .int .i64 (f.data.length : Int)] 58)) = .ok (.slice A3 (l.length + 1) c3) w3 := hap
            have k3' : Kept (fun k => tag k = .fs) w2 w3 := k3.mono (fun k _ a => HO2.out.frow.2 k a)
            have hqf : ¬ tag q = .fs := (by rw [HO2.out.tq]; simp)
            have c0k : w3.cell? ⟨q, 0, none⟩ = some (.slice Af l.length cf) := (k3'.cell (lt_of_cell c0') hqf).trans c0'
            have hgf : ¬ tag g = .fs := (fun e => by have h1 := HT.out g (by rw [e]; simp); have h2 := HQ.out; have h3 := HGF.out; omega)
            have s0k := (k3'.cell (lt_of_cell s0) hgf).trans s0
            have s1k := (k3'.cell (lt_of_cell s1) hgf).trans s1
            have kt : Kept (· = q) w3 (w3.setCell ⟨q, 0, none⟩ (.slice A3 (l.length + 1) c3)) := (Kept.refl (· = q) w3).setCell (p := ⟨q, 0, none⟩) (fun _ => rfl) _
            have hgq : ¬ g = q := (fun e => by have h2 := HQ.out; have h3 := HGF.out; omega)
            have s0t := (kt.cell (lt_of_cell s0k) hgq).trans s0k
            have s1t := (kt.cell (lt_of_cell s1k) hgq).trans s1k
            have c0f : w3.frozen? ⟨q, 0, none⟩ = false := ((HO2.out.blk.keep kA (fun a => a)).keep k3' hqf).frozen 0
            have O2 := Lib.hid o2
            have KA := Lib.hid kA
            have O3 := Lib.hid o3
            have K3 := Lib.hid k3'
            clear o2 k2 kA kz hap o3 k3 os3 k3' hqf hgf kt hgq
            refine hK.out _ _ (fun _ => ⟨c0', s0, s1⟩) ?_
            clear hK K hH1
            try simp only [Act.put, List.setIfInBounds_toArray, List.set_cons_zero, List.set_cons_succ]
            have hH2 : w2.cell? ⟨q, 0, none⟩ = some (.slice Af l.length cf) ∧ w2.cell? ⟨g, o + j * 2, none⟩ = some (.string f.name) ∧ w2.cell? ⟨g, o + j * 2 + 1, none⟩ = some (.slice B f.data.length d) := ⟨c0', s0, s1⟩
            refine wpTill_take (v := ?v23) (i := 22) [23, 24, 27] rfl (by kernel_rfl) (by kernel_rfl) (by kernel_rfl) (by kernel_rfl) (fun _ _ _ h => h) (Or.inl ⟨by rfl, ?hy23⟩) hH2 ?rest23
            case hy23 => (intro w hSw; (try dsimp only at hSw); go_simp; try (with_reducible rfl))
            try simp only [Act.put, List.setIfInBounds_toArray, List.set_cons_zero, List.set_cons_succ]
            refine wpTill_one (i := 23) (by kernel_rfl) rfl (fun K hK => ?_)
            go_simp
            refine hK.out _ _ (fun _ => ⟨c0z, s0z, s1z⟩) ?_
            clear hK K hH2
            try simp only [Act.put, List.setIfInBounds_toArray, List.set_cons_zero, List.set_cons_succ]
            refine wpTill_one (i := 24) (by kernel_rfl) rfl (fun K hK => ?_)
            go_simp
            refine hK.out _ _ (fun _ => ⟨c0k, s0k, s1k⟩) ?_
            clear hK K
            try simp only [Act.put, List.setIfInBounds_toArray, List.set_cons_zero, List.set_cons_succ]
            have hH3 : w3.cell? ⟨q, 0, none⟩ = some (.slice Af l.length cf) ∧ w3.cell? ⟨g, o + j * 2, none⟩ = some (.string f.name) ∧ w3.cell? ⟨g, o + j * 2 + 1, none⟩ = some (.slice B f.data.length d) := ⟨c0k, s0k, s1k⟩
            refine wpTill_take (v := ?v21) (i := 25) [26, 27] rfl (by kernel_rfl) (by kernel_rfl) (by kernel_rfl) (by kernel_rfl) (fun _ _ _ h => h) (Or.inl ⟨by rfl, ?hy21⟩) hH3 ?rest21
            case hy21 => (intro w hSw; (try dsimp only at hSw); go_simp; try (with_reducible rfl))
            try simp only [Act.put, List.setIfInBounds_toArray, List.set_cons_zero, List.set_cons_succ]
            refine wpTill_take (v := ?v22) (i := 26) [27] rfl (by kernel_rfl) (by kernel_rfl) (by kernel_rfl) (by kernel_rfl) (fun _ _ _ h => h) (Or.inl ⟨by rfl, ?hy22⟩) hH3 ?rest22
            case hy22 => (intro w hSw; (try dsimp only at hSw); go_simp; try (with_reducible rfl))
            try simp only [Act.put, List.setIfInBounds_toArray, List.set_cons_zero, List.set_cons_succ]
            refine wpTill_one (i := 27) (by kernel_rfl) rfl (fun K hK => ?_)
            go_simp
            refine hK.out _ _ (fun h => absurd rfl h) ?_
            clear hK K
            try simp only [Act.put, List.setIfInBounds_toArray, List.set_cons_zero, List.set_cons_succ]
            refine wpTill_done (by kernel_rfl) ?_ _
            all_goals
              obtain ⟨tag7, o7, ht7⟩ := HO2.out.addEl (f := ⟨f.name, f.data, f.data⟩) HN1.out O2.out KA.out O3.out K3.out
              have O7 := Lib.hid o7
              have T7 : Hid (∀ k, tag7 k ≠ .out → q ≤ k) := Lib.hid (fun k a => by
                rcases ht7 k a with e | e
                · exact HT.out k e
                · have h1 := K2.out.size
                  have h2 := HQ.out
                  omega)
              have K7 : Hid (Kept noneS w (w3.setCell ⟨q, 0, none⟩ (.slice A3 (l.length + 1) c3))) := Lib.hid ((((K2.out.trans KA.out)).trans2 K3.out (fun k a e => by
                have h1 := HT.out k (by rw [e]; simp)
                have h2 := HQ.out
                omega)).setCell (p := ⟨q, 0, none⟩) (fun a => absurd a (Nat.not_lt.2 (by rw [HQ.out]; exact Nat.le_refl _))) _)
              clear o7 ht7 O2 KA O3 K3
              go_wp2
              go_roundw
              case rel =>
                refine ⟨j + 1, f.key, tag7, .slice A3 (l.length + 1) c3, l ++ [((⟨f.name, f.data, f.data⟩ : FileS), .slice A2 f.data.length c2)], by omega, by go_num, ?_, Lib.hid HE'.out, HFj, Lib.hid (fun a => by omega), Lib.hid ?_, T7, K7⟩
                rotate_left
                · rw [HTk.out]
                  have e : openS (fs.take j ++ [f]) room = { openS (fs.take j) room with files := (openS (fs.take j) room).files ++ [⟨f.name, f.data, f.data⟩], used := IntKind.i64.wrap (totLen (fs.take j ++ [f]) : Int) } := by
                    unfold openS
                    simp [FlS.file]
                  rw [e]
                  exact ⟨O7.out.old, O7.out.tq, O7.out.blk, O7.out.frow, O7.out.fls, O7.out.fat, O7.out.prow, O7.out.pat, O7.out.room⟩
                · rw [List.length_append, List.length_singleton, HLj.out]
              case measure => simp [intOf]; omega
          · have hlk : ¬ la < f.key := of_decide_eq_false HB0.out
            rw [if_neg hlk] at HE'
            clear hlk
            go_wp2
            rw [← HP.out]
            exact .inl ⟨by rw [HE'.out]; decide, by rw [HE'.out]; rfl, K2.out⟩
    · obtain rfl : j = fs.length := by omega
      rw [List.drop_length, openErr] at HE
      rw [List.take_length] at HO
      go_wp2
      rw [← HP.out]
      exact .inr ⟨HE.out, q, _, rfl, HO.out.at_, (by rw [HQ.out]; exact HT.out), HK.out⟩

end Go.Proofs.Ytnlmkfncdklcdaa
