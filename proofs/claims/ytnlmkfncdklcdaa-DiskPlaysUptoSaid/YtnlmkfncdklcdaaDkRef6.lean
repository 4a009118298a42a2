/-
  The document's Disk: Append: what is taken.
-/
import Derived.Test.YtnlmkfncdklcdaaDkRef5
namespace Go.Proofs.Ytnlmkfncdklcdaa
open Go.RowKit

theorem OB.app1run {w : World} {F : Nat → Prop} {v : Value} {bs : List UInt8} (h : OB w F v bs) (x : UInt8) (hl : bs.length + 1 ≤ 140737488355328) :
    ∃ A' c' w', (appSem #[34, 34] 34 #[v, .slice (some ⟨w.heap.size, 0, none⟩) 1 1]).run Try.prog (w.alloc (.cells #[.int .u8 (x.toNat : Int)] 5)) = .ok (.slice A' (bs.length + 1) c') w' ∧ OB w' (fun k => F k ∨ w.heap.size ≤ k) (.slice A' (bs.length + 1) c') (bs ++ [x]) ∧ Kept (ownS v) w w' := by
  obtain ⟨i0, hi, hz0, hz1, hz2⟩ := info_parts infoU8
  obtain ⟨A', c', w', hrun, g2, g3, g4⟩ := run_app1 (P := Try.prog) w 34 34 5 i0 _ 1 1 Try.underlying34 hi hz0 hz1 hz2 rfl (by decide) F v bs.length (bvs bs) h #[.int .u8 (x.toNat : Int)] rfl (fun u hu => by
    have : u = .int .u8 (x.toNat : Int) := by simpa using hu
    rw [this]
    rfl) (by unfold maxLen; omega) (by omega)
  refine ⟨A', c', w', hrun, ?_, ((Kept.refl (ownS v) w).alloc _).trans g4⟩
  unfold OB
  rw [bvs_append, List.length_append]
  exact g2.mono (fun k _ q => q.elim (fun a => .inl (h.2 k a)) (fun a => .inr (by omega)))

theorem ROpen.putEl {w : World} {tag : Nat → RTag} {pv : Value} {l : List RF} {q c n g : Nat} {s : DiskS} (h : ROpen w tag (.slice (some ⟨g, 0, none⟩) n c) pv l q s) (hn : l.length = n) (hg : tag g = .fs) (i : Nat) (x : RF) (hx : x.1.name.size ≤ 140737488351232 ∧ OB w (fun k => tag k = .fd x.1.key) x.2 x.1.data) :
    ROpen (((w.setCell ⟨g, i * 3, none⟩ (tF.a x)).setCell ⟨g, i * 3 + 1, none⟩ (tF.b x)).setCell ⟨g, i * 3 + 2, none⟩ (tF.c x)) tag (.slice (some ⟨g, 0, none⟩) n c) pv (l.set i x) q { s with files := s.files.set i x.1 } := by
  subst hn
  have hk : Kept (fun k => tag k = .fs) w (((w.setCell ⟨g, i * 3, none⟩ (tF.a x)).setCell ⟨g, i * 3 + 1, none⟩ (tF.b x)).setCell ⟨g, i * 3 + 2, none⟩ (tF.c x)) := (((Kept.refl _ w).setCell (p := ⟨g, i * 3, none⟩) (fun _ => hg) _).setCell (p := ⟨g, i * 3 + 1, none⟩) (fun _ => hg) _).setCell (p := ⟨g, i * 3 + 2, none⟩) (fun _ => hg) _
  have h3 := h.frow.set3 i x
  exact h.setEl hk i x h3 hx

/-- The pending writes' row is another one. -/
theorem ROpen.rePend {w w' : World} {tag tag' : Nat → RTag} {fv pv : Value} {l : List RF} {q : Nat} {s : DiskS} (h : ROpen w tag fv pv l q s) (hk : Kept (fun k => tag k = .pd) w w') (ht : ∀ k, tag k ≠ .out → tag' k = tag k) (ho : ∀ k, tag' k ≠ .out → k < w'.heap.size) (v : Value) (ps : List WrS)
    (hp : Own w' 84 3 (fun k => tag' k = .pd) v ps.length (tW.fl ps)) (hpa : ∀ x ∈ ps, x.name.size ≤ 140737488351232 ∧ x.off ≤ 140737488355328 ∧ x.data.length ≤ 140737488355328) :
    ROpen (w'.setCell ⟨q, 1, none⟩ v) tag' fv v l q { s with pend := ps } := by
  have hto : ∀ k t, tag k = t → t ≠ .out → tag' k = t := fun k t e a => (ht k (by rw [e]; exact a)).trans e
  have tq' := hto q _ h.tq (by simp)
  have k2 : Kept (· = q) w' (w'.setCell ⟨q, 1, none⟩ v) := (Kept.refl (· = q) w').setCell (p := ⟨q, 1, none⟩) (fun _ => rfl) _
  have hn1 : ∀ k t, tag k = t → t ≠ .pd → ¬ tag k = .pd := fun k t e ne a => ne (e.symm.trans a)
  have hn2 : ∀ k t, tag' k = t → t ≠ .hdr → ¬ k = q := fun k t e ne a => ne (by rw [← e, a]; exact tq')
  refine ⟨fun k a => Nat.lt_of_lt_of_le (ho k a) k2.size, tq', (h.blk.keep hk (hn1 q _ h.tq (by simp))).set_ 1 _, ?_, h.fls, fun p hp => ?_, hp.keep k2 (fun k _ a b => hn2 k _ a (by simp) b), hpa, h.room⟩
  · exact ((h.frow.keep hk (fun k _ a b => hn1 k _ a (by simp) b)).mono (fun k _ a => hto k _ a (by simp))).keep k2 (fun k _ a b => hn2 k _ a (by simp) b)
  · obtain ⟨h1, h2⟩ := h.fat p hp
    exact ⟨h1, (Own.mono (Own.keep h2 hk (fun k _ a b => hn1 k _ a (by simp) b)) (fun k _ a => hto k _ a (by simp))).keep k2 (fun k _ a b => hn2 k _ a (by simp) b)⟩
theorem ROpen.setDataN {w w4 : World} {tag : Nat → RTag} {pv : Value} {l : List RF} {q c g i n : Nat} {s : DiskS} {f : FileS} {xs : List UInt8} {u : Value} (h : ROpen w tag (.slice (some ⟨g, 0, none⟩) n c) pv l q s) (hn : l.length = n) (hg : tag g = .fs) (hi : i < l.length) (hle : l[i].1 = f)
    (hne : ∀ j (hj : j < l.length), j ≠ i → l[j].1.key ≠ f.key) (ho : OB w4 (fun k => tag k = .fd f.key ∨ w.heap.size ≤ k) u xs) (hk : Kept (fun k => tag k = .fd f.key) w w4) :
    ∃ tag2, ROpen (w4.setCell ⟨g, i * 3 + 1, none⟩ u) tag2 (.slice (some ⟨g, 0, none⟩) n c) pv (l.set i ({ f with data := xs }, u)) q { s with files := s.files.set i { f with data := xs } } ∧ (∀ k, tag2 k ≠ .out → tag k ≠ .out ∨ w.heap.size ≤ k) ∧ tag2 g = .fs := by
  subst hn
  exact h.setData hg hi hle hne ho hk

theorem insAt_map {α β : Type} (f : α → β) (l : List α) (i : Nat) (x : α) : (insAt l i x).map f = insAt (l.map f) i (f x) := by
  unfold insAt
  rw [List.map_append, List.map_cons, List.map_take, List.map_drop]

attribute [local go_sem ↓] append_as
set_option maxRecDepth 100000 in
set_option maxHeartbeats 3200000 in
theorem refAppOk (G H : Nat → Prop) (q : Nat) (s : DiskS) (nm : ByteArray) (A : Option Addr) (b : List UInt8) (c : Nat) (w : World) (h : RAt w G q s) (ha : Asc s.files) (hn : nm.size ≤ 140737488351232) (hu : s.used = sumF s.files) (hs : s.used ≤ 1152921504606846976) (hb : b.length ≤ 140737488355328)
    (hx : RB w H A b) (hd : ∀ k, G k → H k → False) (he : s.appErr nm b.length = 0) (hl : (s.fileOr nm).data.length + b.length ≤ 140737488355328) (hp : (s.pend.length + 1) * 32 ≤ 140737488355328) (hf : (s.files.length + 1) * 48 ≤ 140737488355328) :
    Calls Try.prog 31 #[.pointer (some ⟨q, 0, none⟩), .string nm, .slice A b.length c] w fun e w' => e = .returned (.int .i64 0) ∧ ∃ G', RAt w' G' q (s.app nm b) ∧ (∀ k, G' k → G k ∨ w.heap.size ≤ k) ∧ Kept G w w' := by
  have hgd : goodB nm = true := by
    rcases hg : goodB nm with _ | _
    · unfold DiskS.appErr at he
      rw [if_pos hg] at he
      cases he
    · rfl
  have hroom : ¬ s.room < s.used + b.length := fun a => by
    unfold DiskS.appErr at he
    rw [if_neg (by rw [hgd]; decide), if_pos a] at he
    cases he
  have HRA := Lib.hid h
  have c2 : w.cell? ⟨q, 2, none⟩ = some (.int .i64 s.room) := by
    obtain ⟨tag, fv, pv, l, _, ho⟩ := h
    exact ho.blk.cell 2
  have hU : ∀ m, Calls Try.prog 18 #[.pointer (some ⟨q, 0, none⟩)] (w.drewN m) fun e w' => e = .returned (.int .i64 s.used) ∧ w' = w.drewN m := fun m => by
    refine (refUsed G q s (w.drewN m) (HRA.out.keep ((Kept.refl noneS w).drewN m) (fun _ _ a => a))).mono ?_
    rintro e w' ⟨rfl, rfl⟩
    have : wrap64 (sumF s.files : Int) = s.used := by rw [hu]; unfold wrap64; omega
    rw [this]
    exact ⟨rfl, rfl⟩
  have HU := Lib.hid hU
  have hU0 : 0 ≤ s.used := by rw [hu]; omega
  have hw1 : wrap64 (s.used + (b.length : Int)) = s.used + (b.length : Int) := by unfold wrap64; omega
  have hgt : decide (s.room < s.used + (b.length : Int)) = false := decide_eq_false hroom
  have HX := Lib.hid (hx.mono (G := fun k => H k ∧ k < w.heap.size) (fun k a e => ⟨e, a⟩))
  have HD := Lib.hid hd
  have HAs := Lib.hid ha
  clear hU he hu h hx hd ha
  go_enter Try.func31, Try.ntmps31
  go_wp2_with fail
  refine (refGood nm w hn).mono ?_
  rw [hgd]
  rintro e w1 ⟨rfl, rfl⟩
  go_wp2_with fail
  go_quiet (first | (go_at_call 18; exact Calls.quiet_of_same (HU.out _)))
  have HR1 := Lib.hid (HRA.out.keep ((Kept.refl noneS w).drewN nq) (fun _ _ a => a))
  have K1 := Lib.hid ((Kept.refl G w).drewN nq)
  have z1 : Hid ((w.drewN nq).heap.size = w.heap.size) := Lib.hid rfl
  clear c2 hw1 hgt HU HRA hroom hgd
  generalize w.drewN nq = w1 at HR1 K1 z1 ⊢
  go_wp2_with fail
  refine (refFind G q s nm w1 HR1.out).mono ?_
  rintro e w2 ⟨rfl, rfl⟩
  have HFi : Hid ((s.get nm.toList = none ∧ findI nm.toList s.files = -1) ∨ ∃ f, s.get nm.toList = some f ∧ 0 ≤ findI nm.toList s.files) := Lib.hid (by
    rcases e : s.get nm.toList with _ | f
    · exact .inl ⟨rfl, find_no e⟩
    · obtain ⟨i, _, hi, _⟩ := find_place (show s.files.find? _ = some f from e)
      exact .inr ⟨f, rfl, by rw [hi]; omega⟩)
  generalize findI nm.toList s.files = fi at HFi ⊢
  go_upto_if 27 with (fail)
  go_cut [7, 8] from 11 to 97 (fun _ _ wx => ∃ G1 : Nat → Prop, Hid (RAt wx G1 q (s.with nm)) ∧ Hid (∀ k, G1 k → G k ∨ w.heap.size ≤ k) ∧ Hid (Kept G w wx))
  case first =>
    rcases HFi.out with ⟨hg, rfl⟩ | ⟨f, hg, hge⟩
    · obtain ⟨tag, fv, pv, l, hG, ho⟩ := HR1.out
      have hll : l.length = s.files.length := by rw [← ho.fls, List.length_map]
      have hlf : l.length + 1 ≤ 2932031007403 := by omega
      obtain ⟨Af, cf, rfl, _⟩ := Own.form ho.frow
      have c0 : w1.cell? ⟨q, 0, none⟩ = some (.slice Af l.length cf) := ho.blk.cell 0
      obtain ⟨i0, hi0', hz0, hz1, hz2⟩ := info_parts infoRF
      obtain ⟨A3, c3, w3, hap, o3, k3, os3⟩ := Own.app3 (T := tF) (ty := 51) (ho.frow.mono (G := fun k => tag k = .fs ∨ w1.heap.size ≤ k) (fun _ _ a => .inl a)) ((⟨nm, [], []⟩, .slice none 0 0) : RF) Try.underlying51 hi0' hz0 hz1 hz2 rfl (fun u hu => by
        simp only [Three.cs, tF, List.mem_cons, List.not_mem_nil, or_false] at hu
        rcases hu with rfl | rfl | rfl <;> rfl) (by unfold maxLen; omega) (by omega) (fun k a => .inr a)
      have hap' : (appSem #[51, 51] 51 #[.slice Af l.length cf, .slice (some ⟨w1.heap.size, 0, none⟩) 1 1]).run Try.prog (w1.alloc (.cells #[.string nm, .slice none 0 0, .int .i64 0] 58)) = .ok (.slice A3 (l.length + 1) c3) w3 := hap
      obtain ⟨g, rfl⟩ : ∃ g, A3 = some ⟨g, 0, none⟩ := by
        obtain ⟨g, e, _⟩ := Own.at3 (j := 0) (l := l ++ [((⟨nm, [], []⟩, .slice none 0 0) : RF)]) (by rw [List.length_append, List.length_singleton]; exact o3) (by simp)
        exact ⟨g, e⟩
      have k3' : Kept (fun k => tag k = .fs) w1 w3 := k3.mono (fun k _ a => ho.frow.2 k a)
      have hbq := ho.blk.keep k3' (fun a => by rw [ho.tq] at a; cases a)
      have c0' : w3.cell? ⟨q, 0, none⟩ = some (.slice Af l.length cf) := hbq.cell 0
      have c0f : w3.frozen? ⟨q, 0, none⟩ = false := hbq.frozen 0
      have HO := Lib.hid ho
      have HG := Lib.hid hG
      have HGet := Lib.hid hg
      have O3 := Lib.hid o3
      have K3 := Lib.hid k3'
      have HLL := Lib.hid hll
      clear ho hG hg hap o3 k3 os3 k3' hbq hi0' hz0 hz1 hz2 hll
      go_upto_region 7 with (fail)
      have l1 : insAt l l.length ((⟨nm, [], []⟩, .slice none 0 0) : RF) = l ++ [(⟨nm, [], []⟩, .slice none 0 0)] := insAt_end l _
      have hxf : ({ name := nm, data := [], safe := [] } : FileS).name.size ≤ 140737488351232 := hn
      have ht3 : ∀ k, tag k ≠ .out → rtR tag w1.heap.size w3.heap.size .fs k = tag k := fun k a => rtR_old HO.out.old k a
      have ho3 : ROpen (w3.setCell ⟨q, 0, none⟩ (.slice (some ⟨g, 0, none⟩) (l.length + 1) c3)) (rtR tag w1.heap.size w3.heap.size .fs) (.slice (some ⟨g, 0, none⟩) (l.length + 1) c3) pv (insAt l l.length ((⟨nm, [], []⟩, .slice none 0 0) : RF)) q { s with files := (insAt l l.length ((⟨nm, [], []⟩, .slice none 0 0) : RF)).map (·.1) } := by
        have hol := O3.out
        have e : l.length + 1 = (insAt l l.length ((⟨nm, [], []⟩, .slice none 0 0) : RF)).length := (insAt_length l l.length _).symm
        have hrow : Own w3 58 3 (fun k => rtR tag w1.heap.size w3.heap.size .fs k = .fs) (.slice (some ⟨g, 0, none⟩) (l.length + 1) c3) (insAt l l.length ((⟨nm, [], []⟩, .slice none 0 0) : RF)).length (tF.fl (insAt l l.length ((⟨nm, [], []⟩, .slice none 0 0) : RF))) := by
          rw [insAt_length, l1]
          exact hol.mono (fun k a b => b.elim (fun b => (ht3 k (by rw [b]; simp)).trans b) (fun b => rtR_in b a))
        have hk8 : Kept (· = q) w3 (w3.setCell ⟨q, 0, none⟩ (.slice (some ⟨g, 0, none⟩) (l.length + 1) c3)) := (Kept.refl (· = q) w3).setCell (p := ⟨q, 0, none⟩) (fun _ => rfl) _
        have tq3 : rtR tag w1.heap.size w3.heap.size .fs q = .hdr := (ht3 q (by rw [HO.out.tq]; simp)).trans HO.out.tq
        have hnq : ∀ k t, rtR tag w1.heap.size w3.heap.size .fs k = t → t ≠ .hdr → ¬ k = q := fun k t e ne a => ne (by rw [← e, a]; exact tq3)
        have hnf : ∀ k t, tag k = t → t ≠ .fs → ¬ tag k = .fs := fun k t e ne a => ne (e.symm.trans a)
        refine ⟨fun k a => Nat.lt_of_lt_of_le ?_ hk8.size, tq3, (HO.out.blk.keep K3.out (hnf q _ HO.out.tq (by simp))).set_ 0 _, hrow.keep hk8 (fun k _ a b => hnq k _ a (by simp) b), rfl, fun p hp => ?_, ?_, HO.out.pat, HO.out.room⟩
        · rcases rtR_out k a with e | e
          · exact e.2
          · exact Nat.lt_of_lt_of_le (HO.out.old k e) K3.out.size
        · rw [l1] at hp
          rcases List.mem_append.1 hp with hp | hp
          · obtain ⟨h1, h2⟩ := HO.out.fat p hp
            exact ⟨h1, (Own.mono (Own.keep h2 K3.out (fun k _ a b => hnf k _ a (by simp) b)) (fun k _ a => (ht3 k (by rw [show tag k = .fd p.1.key from a]; simp)).trans a)).keep hk8 (fun k _ a b => hnq k _ a (by simp) b)⟩
          · have e : p = (⟨nm, [], []⟩, .slice none 0 0) := by simpa using hp
            rw [e]
            exact ⟨hxf, Own.nil _ _ _ _⟩
        · exact ((HO.out.prow.keep K3.out (fun k _ a b => hnf k _ a (by simp) b)).mono (fun k _ a => (ht3 k (by rw [show tag k = .pd from a]; simp)).trans a)).keep hk8 (fun k _ a b => hnq k _ a (by simp) b)
      have hgfs : rtR tag w1.heap.size w3.heap.size .fs g = .fs := by
        rcases O3.out.2 g rfl with e | e
        · exact (ht3 g (by rw [e]; simp)).trans e
        · exact rtR_in e (O3.out.lt g rfl)
      have HO3 := Lib.hid ho3
      have HGf := Lib.hid hgfs
      have KA := Lib.hid ((K1.out.trans2 K3.out (fun k _ a => (HG.out k).2 (by rw [a]; simp))).setCell (p := ⟨q, 0, none⟩) (fun _ => (HG.out q).2 (by rw [HO.out.tq]; simp)) (.slice (some ⟨g, 0, none⟩) (l.length + 1) c3))
      have TA : Hid (∀ k, rtR tag w1.heap.size w3.heap.size .fs k ≠ .out → G k ∨ w.heap.size ≤ k) := Lib.hid (fun k a => by
        rcases rtR_out k a with e | e
        · exact .inr (by rw [← z1.out]; exact e.1)
        · exact .inl ((HG.out k).2 e))
      have HFl := Lib.hid HO.out.fls
      have HFt : Hid (∀ p ∈ l, p.1.name.size ≤ 140737488351232) := Lib.hid (fun p hp => (HO.out.fat p hp).1)
      generalize w3.setCell ⟨q, 0, none⟩ (.slice (some ⟨g, 0, none⟩) (l.length + 1) c3) = w4 at HO3 KA ⊢
      generalize rtR tag w1.heap.size w3.heap.size .fs = tag4 at HO3 HGf TA
      have HXf := Lib.hid hxf
      clear hxf l1 ht3 ho3 hgfs hap' c0 c0' c0f O3 K3 HO HG HR1 K1 z1
      have HNk : Hid (∀ p ∈ l, p.1.key ≠ nm.toList) := Lib.hid (fun p hp e => by
        have h1 := HGet.out
        unfold DiskS.get at h1
        have h2 := List.find?_eq_none.1 h1 p.1 (by rw [← HFl.out]; exact List.mem_map.2 ⟨p, hp, rfl⟩)
        exact h2 (by simpa using e))
      have c0 : w4.cell? ⟨q, 0, none⟩ = some (.slice (some ⟨g, 0, none⟩) (l.length + 1) c3) := HO3.out.blk.cell 0
      go_wp2
      go_loopw [7, 8] (fun i _ wr => ∃ j : Nat, j ≤ l.length ∧ i = .int .i64 j ∧ Hid (ROpen wr tag4 (.slice (some ⟨g, 0, none⟩) (l.length + 1) c3) pv (insAt l j ((⟨nm, [], []⟩, .slice none 0 0) : RF)) q { s with files := (insAt l j ((⟨nm, [], []⟩, .slice none 0 0) : RF)).map (·.1) }) ∧ Hid (∀ p ∈ l.drop j, nm.toList < p.1.key) ∧ Hid (Kept G w wr)) (fun i _ _ => (intOf i).toNat)
      case atStart => exact ⟨l.length, Nat.le_refl _, by go_num, HO3, Lib.hid (fun p hp => by rw [List.drop_length] at hp; cases hp), KA⟩
      case round =>
        obtain ⟨j, hj, rfl, HOj, HLt, HKj⟩ := hrel
        clear c0
        have c0 : wr.cell? ⟨q, 0, none⟩ = some (.slice (some ⟨g, 0, none⟩) (l.length + 1) c3) := HOj.out.blk.cell 0
        have leave : Hid (∀ n, (∀ p ∈ l.take j, p.1.key < nm.toList) → ∃ G1 : Nat → Prop, Hid (RAt (wr.drewN n) G1 q (s.with nm)) ∧ Hid (∀ k, G1 k → G k ∨ w.heap.size ≤ k) ∧ Hid (Kept G w (wr.drewN n))) := Lib.hid (fun n hlt => by
          refine ⟨_, Lib.hid ((HOj.out.keep ((Kept.refl noneS wr).drewN n) (fun _ a => a.elim)).at_.like ?_ rfl rfl), TA, Lib.hid (HKj.out.drewN n)⟩
          show putF (s.fileOr nm) s.files = _
          have e1 : s.fileOr nm = ⟨nm, [], []⟩ := by unfold DiskS.fileOr; rw [HGet.out]; rfl
          rw [e1, insAt_map, HFl.out]
          refine put_ins _ s.files j (by rw [← HLL.out]; exact hj) (fun x hx => ?_) (fun x hx => ?_)
          · rw [← HFl.out, ← List.map_take] at hx
            obtain ⟨p, hp, rfl⟩ := List.mem_map.1 hx
            exact hlt p hp
          · rw [← HFl.out, ← List.map_drop] at hx
            obtain ⟨p, hp, rfl⟩ := List.mem_map.1 hx
            exact HLt.out p hp)
        rcases Nat.eq_zero_or_pos j with rfl | hpos
        · have HLv := Lib.hid (fun n => leave.out n (fun p hp => by rw [List.take_zero] at hp; cases hp))
          clear leave
          have hz : decide ((0 : Int) < 0) = false := by decide
          go_upto_region 8 with (fail)
          go_quiet (fail)
          go_wp2
          go_meet
          case rel => exact HLv.out _
        · obtain ⟨i, rfl⟩ : ∃ i, j = i + 1 := ⟨j - 1, by omega⟩
          have hil : i < l.length := by omega
          have hx1 : ∀ h, (insAt l (i + 1) ((⟨nm, [], []⟩, .slice none 0 0) : RF))[i + 1]'h = (⟨nm, [], []⟩, .slice none 0 0) := fun h => by
            have := insAt_get l (i + 1) ((⟨nm, [], []⟩, .slice none 0 0) : RF) hj
            rw [List.getElem?_eq_getElem h] at this
            exact Option.some.inj this
          have hx2 : ∀ h, (insAt l (i + 1) ((⟨nm, [], []⟩, .slice none 0 0) : RF))[i]'h = l[i] := fun h => by
            have := insAt_prev l i ((⟨nm, [], []⟩, .slice none 0 0) : RF) hil
            rw [List.getElem?_eq_getElem h] at this
            exact Option.some.inj this
          have hlen : (insAt l (i + 1) ((⟨nm, [], []⟩, .slice none 0 0) : RF)).length = l.length + 1 := insAt_length _ _ _
          obtain ⟨g1, e1, _, q0, q1, q2, qf⟩ := Own.at3 (j := i + 1) HOj.out.frow (by omega)
          injection e1 with e1
          injection e1 with e1
          subst e1
          obtain ⟨g2, e2, _, p0, p1, p2, _⟩ := Own.at3 (j := i) HOj.out.frow (by omega)
          injection e2 with e2
          injection e2 with e2
          subst e2
          rw [hx1] at q0 q1 q2
          rw [hx2] at p0 p1 p2
          have hfl := (HOj.out.fat l[i] (by rw [← hx2 (by omega)]; exact List.getElem_mem _)).2
          obtain ⟨A1, c1, e1, _⟩ := Own.form hfl
          have q0' : wr.cell? ⟨g, (i + 1) * 3, none⟩ = some (.string nm) := q0
          have p0' : wr.cell? ⟨g, i * 3, none⟩ = some (.string l[i].1.name) := p0
          have HQ : Hid (wr.cell? ⟨g, (i + 1) * 3 + 1, none⟩ = some (.slice none 0 0) ∧ wr.cell? ⟨g, (i + 1) * 3 + 2, none⟩ = some (.int .i64 0)) := Lib.hid ⟨q1, q2⟩
          have HP : Hid (wr.cell? ⟨g, i * 3 + 1, none⟩ = some (.slice A1 l[i].1.data.length c1) ∧ wr.cell? ⟨g, i * 3 + 2, none⟩ = some (.int .i64 (l[i].1.safe.length : Int))) := Lib.hid ⟨p1.trans (congrArg some e1), p2⟩
          have HQf := Lib.hid qf
          have HFl1 := Lib.hid hfl
          have HE1 := Lib.hid e1
          have HMem : Hid (l[i].1.name.size ≤ 140737488351232) := Lib.hid (HFt.out l[i] (List.getElem_mem hil))
          clear q0 q1 q2 qf p0 p1 p2 hfl e1 hx1 hx2 hlen
          have hii : (i : Int) < (l.length : Int) := by omega
          have hi0 : (0 : Int) ≤ (i : Int) := by omega
          by_cases hless : nm.toList < l[i].1.key
          · have bl : Op.bytesLess nm.toList l[i].1.name.toList = true := by rw [bytesLess_eq]; exact decide_eq_true hless
            clear leave
            go_upto_region 8 with (fail)
            go_quiet (fail)
            have HO5 := Lib.hid (HOj.out.keep ((Kept.refl noneS wr).drewN nq) (fun _ a => a.elim))
            have K5 := Lib.hid (HKj.out.drewN nq)
            have d0 : (wr.drewN nq).cell? ⟨g, (i + 1) * 3, none⟩ = some (.string nm) := q0'
            have d1 : (wr.drewN nq).cell? ⟨g, (i + 1) * 3 + 1, none⟩ = some (.slice none 0 0) := HQ.out.1
            have d2 : (wr.drewN nq).cell? ⟨g, (i + 1) * 3 + 2, none⟩ = some (.int .i64 0) := HQ.out.2
            have p0 : (wr.drewN nq).cell? ⟨g, i * 3, none⟩ = some (.string l[i].1.name) := p0'
            have p1 : (wr.drewN nq).cell? ⟨g, i * 3 + 1, none⟩ = some (.slice A1 l[i].1.data.length c1) := HP.out.1
            have p2 : (wr.drewN nq).cell? ⟨g, i * 3 + 2, none⟩ = some (.int .i64 (l[i].1.safe.length : Int)) := HP.out.2
            have fr : ∀ k, (wr.drewN nq).frozen? ⟨g, k, none⟩ = false := HQf.out
            have c5 : (wr.drewN nq).cell? ⟨q, 0, none⟩ = some (.slice (some ⟨g, 0, none⟩) (l.length + 1) c3) := c0
            have hob5 : OB (wr.drewN nq) (fun k => tag4 k = .fd l[i].1.key) (.slice A1 l[i].1.data.length c1) l[i].1.data := by rw [← HE1.out]; exact HFl1.out
            clear q0' p0' c0 HQ HP HQf HOj HKj HFl1
            generalize wr.drewN nq = w5 at HO5 K5 d0 d1 d2 p0 p1 p2 fr c5 hob5 ⊢
            have HOb := Lib.hid hob5
            clear hob5
            go_upto_region 11 with (fail)
            have kA : Kept noneS w5 (w5.alloc (.cells #[.string nm, .slice none 0 0, .int .i64 0] 58)) := (Kept.refl noneS w5).alloc _
            have BX := Lib.hid (Blk.new w5 58 #[.string nm, .slice none 0 0, .int .i64 0])
            have HO6 := Lib.hid (HO5.out.keep kA (fun _ a => a.elim))
            have K6 := Lib.hid (K5.out.trans2 kA (fun _ _ a => a.elim))
            have HOb6 := Lib.hid (Own.keep HOb.out kA (fun _ _ _ a => a))
            have p0' := (kA.cell (lt_of_cell p0) (fun a => a)).trans p0
            have p1' := (kA.cell (lt_of_cell p1) (fun a => a)).trans p1
            have p2' := (kA.cell (lt_of_cell p2) (fun a => a)).trans p2
            have d0' := (kA.cell (lt_of_cell d0) (fun a => a)).trans d0
            have d1' := (kA.cell (lt_of_cell d1) (fun a => a)).trans d1
            have d2' := (kA.cell (lt_of_cell d2) (fun a => a)).trans d2
            have c5' := (kA.cell (lt_of_cell c5) (fun a => a)).trans c5
            have hbg : w5.heap.size ≠ g := fun a => by have h := lt_of_cell d0; exact absurd h (by rw [a]; exact Nat.lt_irrefl _)
            have fr' : ∀ k, (w5.alloc (.cells #[.string nm, .slice none 0 0, .int .i64 0] 58)).frozen? ⟨g, k, none⟩ = false := fun k => (kA.frozen (p := ⟨g, k, none⟩) (show g < w5.heap.size from lt_of_cell d0) (fun a => a)).trans (fr k)
            clear d0 d1 d2 p0 p1 p2 fr c5 kA HO5 K5 HOb
            generalize w5.alloc (.cells #[.string nm, .slice none 0 0, .int .i64 0] 58) = w6 at BX HO6 K6 HOb6 p0' p1' p2' d0' d1' d2' c5' fr' ⊢
            generalize w5.heap.size = bx at BX hbg ⊢
            have f0 := fr' ((i + 1) * 3)
            have f1 := fr' ((i + 1) * 3 + 1)
            have f2 := fr' ((i + 1) * 3 + 2)
            go_region
            all_goals
              have hpG : g < w.heap.size → G g := fun a => (TA.out g (by rw [HGf.out]; simp)).elim id (fun e => absurd a (Nat.not_lt.2 e))
              have o7 := (HO6.out.putEl (insAt_length _ _ _) HGf.out (i + 1) (l[i].1, .slice A1 l[i].1.data.length c1) ⟨HMem.out, HOb6.out⟩).keep ((Kept.refl noneS _).drew) (fun _ a => a.elim)
              have k7 := (((K6.out.setCell (p := ⟨g, (i + 1) * 3, none⟩) hpG (.string l[i].1.name)).setCell (p := ⟨g, (i + 1) * 3 + 1, none⟩) hpG (.slice A1 l[i].1.data.length c1)).setCell (p := ⟨g, (i + 1) * 3 + 2, none⟩) hpG (.int .i64 (l[i].1.safe.length : Int))).drew
              have b7 := (((BX.out.far (p := ⟨g, (i + 1) * 3, none⟩) hbg (.string l[i].1.name)).far (p := ⟨g, (i + 1) * 3 + 1, none⟩) hbg (.slice A1 l[i].1.data.length c1)).far (p := ⟨g, (i + 1) * 3 + 2, none⟩) hbg (.int .i64 (l[i].1.safe.length : Int))).drew
              have HO7 : Hid (ROpen (((w6.setCell ⟨g, (i + 1) * 3, none⟩ (.string l[i].1.name)).setCell ⟨g, (i + 1) * 3 + 1, none⟩ (.slice A1 l[i].1.data.length c1)).setCell ⟨g, (i + 1) * 3 + 2, none⟩ (.int .i64 (l[i].1.safe.length : Int))).drew tag4 (.slice (some ⟨g, 0, none⟩) (l.length + 1) c3) pv ((insAt l (i + 1) ((⟨nm, [], []⟩, .slice none 0 0) : RF)).set (i + 1) (l[i].1, .slice A1 l[i].1.data.length c1)) q { s with files := ((insAt l (i + 1) ((⟨nm, [], []⟩, .slice none 0 0) : RF)).map (·.1)).set (i + 1) l[i].1 }) := Lib.hid o7
              have K7 := Lib.hid k7
              have B7 := Lib.hid b7
              clear o7 k7 b7 f0 f1 f2 fr' p0' p1' p2' d0' d1' d2' c5' BX HO6 K6 HOb6
              generalize (((w6.setCell ⟨g, (i + 1) * 3, none⟩ (.string l[i].1.name)).setCell ⟨g, (i + 1) * 3 + 1, none⟩ (.slice A1 l[i].1.data.length c1)).setCell ⟨g, (i + 1) * 3 + 2, none⟩ (.int .i64 (l[i].1.safe.length : Int))).drew = w7 at HO7 K7 B7 ⊢
              have hl7 : ((insAt l (i + 1) ((⟨nm, [], []⟩, .slice none 0 0) : RF)).set (i + 1) (l[i].1, .slice A1 l[i].1.data.length c1)).length = l.length + 1 := by rw [List.length_set]; exact insAt_length _ _ _
              obtain ⟨g3, e3, _, r0, r1, r2, rf⟩ := Own.at3 (j := i) HO7.out.frow (by rw [hl7]; omega)
              injection e3 with e3
              injection e3 with e3
              subst e3
              have c7 : w7.cell? ⟨q, 0, none⟩ = some (.slice (some ⟨g, 0, none⟩) (l.length + 1) c3) := HO7.out.blk.cell 0
              have x0 : w7.cell? ⟨bx, 0, none⟩ = some (.string nm) := B7.out.cell 0
              have x1 : w7.cell? ⟨bx, 1, none⟩ = some (.slice none 0 0) := B7.out.cell 1
              have x2 : w7.cell? ⟨bx, 2, none⟩ = some (.int .i64 0) := B7.out.cell 2
              have f0 := rf (i * 3)
              have f1 := rf (i * 3 + 1)
              have f2 := rf (i * 3 + 2)
              have o8 := (HO7.out.putEl hl7 HGf.out i ((⟨nm, [], []⟩, .slice none 0 0) : RF) ⟨HXf.out, Own.nil _ _ _ _⟩).keep ((Kept.refl noneS _).drew) (fun _ a => a.elim)
              have k8 := (((K7.out.setCell (p := ⟨g, i * 3, none⟩) hpG (.string nm)).setCell (p := ⟨g, i * 3 + 1, none⟩) hpG (.slice none 0 0)).setCell (p := ⟨g, i * 3 + 2, none⟩) hpG (.int .i64 0)).drew
              have hsw : ((insAt l (i + 1) ((⟨nm, [], []⟩, .slice none 0 0) : RF)).set (i + 1) (l[i].1, .slice A1 l[i].1.data.length c1)).set i (⟨nm, [], []⟩, .slice none 0 0) = insAt l i ((⟨nm, [], []⟩, .slice none 0 0) : RF) := by
                have e : (l[i].1, Value.slice A1 l[i].1.data.length c1) = l[i] := by rw [← HE1.out]
                rw [e]
                exact insAt_swap l i _ hil
              have O8 : Hid (ROpen (((w7.setCell ⟨g, i * 3, none⟩ (.string nm)).setCell ⟨g, i * 3 + 1, none⟩ (.slice none 0 0)).setCell ⟨g, i * 3 + 2, none⟩ (.int .i64 0)).drew tag4 (.slice (some ⟨g, 0, none⟩) (l.length + 1) c3) pv (insAt l i ((⟨nm, [], []⟩, .slice none 0 0) : RF)) q { s with files := (insAt l i ((⟨nm, [], []⟩, .slice none 0 0) : RF)).map (·.1) }) := Lib.hid (by
                have h9 := o8
                rw [hsw] at h9
                have h10 : ((((insAt l (i + 1) ((⟨nm, [], []⟩, .slice none 0 0) : RF)).map (·.1)).set (i + 1) l[i].1).set i ({ name := nm, data := [], safe := [] } : FileS)) = (insAt l i ((⟨nm, [], []⟩, .slice none 0 0) : RF)).map (·.1) := by
                  rw [← hsw, List.map_set, List.map_set]
                rw [← h10]
                exact h9)
              have K8 := Lib.hid k8
              have HLt2 : Hid (∀ p ∈ l.drop i, nm.toList < p.1.key) := Lib.hid (fun p hp => by
                rw [List.drop_eq_getElem_cons hil] at hp
                rcases List.mem_cons.1 hp with e | e
                · rw [e]; exact hless
                · exact HLt.out p e)
              clear o8 k8 hsw rf HO7 K7 B7
              go_wp2_with fail
              go_region
              all_goals
                go_wp2
                go_roundw
                case rel => exact ⟨i, by omega, by go_num, O8, HLt2, K8⟩
                case measure => simp [intOf]
          · have hgl : l[i].1.key < nm.toList := lt_total (HNk.out l[i] (List.getElem_mem hil)) hless
            have bl : Op.bytesLess nm.toList l[i].1.name.toList = false := by rw [bytesLess_eq]; exact decide_eq_false hless
            have HLv := Lib.hid (fun n => leave.out n (fun p hp => by
              have ha := HAs.out
              rw [← HFl.out] at ha
              obtain ⟨k, hk, rfl⟩ := List.mem_iff_getElem.1 hp
              rw [List.length_take] at hk
              rw [List.getElem_take]
              by_cases e : k = i
              · subst e
                exact hgl
              · have := List.pairwise_iff_getElem.1 ha k i (by rw [List.length_map]; omega) (by rw [List.length_map]; omega) (by omega)
                rw [List.getElem_map, List.getElem_map] at this
                exact lt_tr this hgl))
            clear leave
            go_upto_region 8 with (fail)
            go_quiet (fail)
            go_wp2
            go_meet
            case rel => exact HLv.out _
    · have hge' : decide (fi < 0) = false := decide_eq_false (by omega)
      go_wp2_with fail
      go_meet
      case rel => exact ⟨G, Lib.hid (by rw [with_old HAs.out hg]; exact HR1.out), Lib.hid (fun k a => .inl a), K1⟩
  case rest =>
    obtain ⟨G1, HR2, HT2, K2⟩ := hcut
    clear HR1 K1 z1 HFi
    have HGw := Lib.hid (with_get s nm)
    have HAw : Hid (Asc (s.with nm).files) := Lib.hid (asc_put _ _ HAs.out)
    obtain ⟨s2, hs2⟩ : ∃ s2, s.with nm = s2 := ⟨_, rfl⟩
    obtain ⟨f0, hf0⟩ : ∃ f0, s.fileOr nm = f0 := ⟨_, rfl⟩
    have hsp : s2.pend = s.pend := by rw [← hs2]; rfl
    have HApp := Lib.hid (app_with s nm b)
    have hfn : f0.name = nm := by rw [← hf0]; exact fileOr_nm s nm
    have hfr : s2.room = s.room := by rw [← hs2]; rfl
    rw [hs2] at HR2 HGw HAw HApp
    rw [hf0] at HGw hl HApp
    have HSp := Lib.hid hsp
    have HFn := Lib.hid hfn
    clear hs2 hf0 hfn hfr
    go_wp2_with fail
    refine (refFind G1 q s2 nm wc HR2.out).mono ?_
    rintro e w2 ⟨rfl, rfl⟩
    obtain ⟨i, hi, hfi, hfe, hfk⟩ := find_place (show s2.files.find? _ = some f0 from HGw.out)
    rw [hfi]
    obtain ⟨tag, fv, pv, l, hG, ho⟩ := HR2.out
    obtain ⟨Af, cf, rfl, _⟩ := Own.form ho.frow
    obtain ⟨Ap, cp, rfl, _⟩ := Own.form ho.prow
    rw [hsp] at ho
    have hil : i < l.length := by
      have := congrArg List.length ho.fls
      rw [List.length_map] at this
      omega
    have hle : l[i].1 = f0 := by
      have h1 : (l.map (·.1))[i]? = some f0 := by rw [ho.fls, List.getElem?_eq_getElem hi, hfe]
      rw [List.getElem?_map, List.getElem?_eq_getElem hil] at h1
      exact Option.some.inj h1
    obtain ⟨g, rfl, hgt, _, q1, _, qf⟩ := Own.at3 ho.frow hil
    have hob := (ho.fat l[i] (List.getElem_mem hil)).2
    obtain ⟨A1, c1, e1, _⟩ := Own.form hob
    have c0 : wc.cell? ⟨q, 0, none⟩ = some (.slice (some ⟨g, 0, none⟩) l.length cf) := ho.blk.cell 0
    have pc1 : wc.cell? ⟨q, 1, none⟩ = some (.slice Ap s.pend.length cp) := ho.blk.cell 1
    have q1' : wc.cell? ⟨g, i * 3 + 1, none⟩ = some (.slice A1 l[i].1.data.length c1) := q1.trans (congrArg some e1)
    rw [hle] at q1'
    obtain ⟨i0, hi0', hz0, hz1, hz2⟩ := info_parts infoRW
    have hprow := ho.prow
    rw [hsp] at hprow
    obtain ⟨A3, c3, w3, hap, o3, k3, os3⟩ := Own.app3 (T := tW) (ty := 52) (hprow.drew.mono (G := fun k => tag k = .pd ∨ wc.heap.size ≤ k) (fun _ _ a => .inl a)) (⟨nm, f0.data.length, b⟩ : WrS) Try.underlying52 hi0' hz0 hz1 hz2 rfl (one_tW _) (by unfold maxLen; omega) (by omega) (fun k a => .inr a)
    have hap' : (appSem #[52, 52] 52 #[.slice Ap s.pend.length cp, .slice (some ⟨wc.heap.size, 0, none⟩) 1 1]).run Try.prog (wc.alloc (.cells #[.string nm, .int .i64 (f0.data.length : Int), .int .i64 (b.length : Int)] 84)).drew = .ok (.slice A3 (s.pend.length + 1) c3) w3 := hap
    have k3' : Kept (fun k => tag k = .pd) wc w3 := (((Kept.refl _ wc).drew).trans2 k3 (fun k _ a => hprow.2 k a))
    have hbq := ho.blk.keep k3' (fun a => by rw [ho.tq] at a; cases a)
    have pc1' : w3.cell? ⟨q, 1, none⟩ = some (.slice Ap s.pend.length cp) := hbq.cell 1
    have pc1f : w3.frozen? ⟨q, 1, none⟩ = false := hbq.frozen 1
    have ht3 : ∀ k, tag k ≠ .out → rtR tag wc.heap.size w3.heap.size .pd k = tag k := fun k a => rtR_old ho.old k a
    have o4 := ho.rePend (tag' := rtR tag wc.heap.size w3.heap.size .pd) k3' ht3 (fun k a => by
      rcases rtR_out k a with e | e
      · exact e.2
      · exact Nat.lt_of_lt_of_le (ho.old k e) k3'.size) (.slice A3 (s.pend.length + 1) c3) (s.pend ++ [⟨nm, f0.data.length, b⟩]) (by
      rw [List.length_append, List.length_singleton]
      exact o3.mono (fun k a e => e.elim (fun e => (ht3 k (by rw [e]; simp)).trans e) (fun e => rtR_in e a))) (fun x hx => by
      rcases List.mem_append.1 hx with e | e
      · exact ho.pat x (by rw [hsp]; exact e)
      · have : x = ⟨nm, f0.data.length, b⟩ := by simpa using e
        rw [this]
        exact ⟨hn, by show f0.data.length ≤ _; omega, hb⟩)
    have hnek := asc_keys (l := l) (by rw [ho.fls]; exact HAw.out) hil hle
    have hl0 : l.set i ({ f0 with data := f0.data ++ b.take 0 }, l[i].2) = l := by
      have e : (({ f0 with data := f0.data ++ b.take 0 } : FileS), l[i].2) = l[i] := by
        rw [List.take_zero, List.append_nil, ← hle]
      rw [e, List.set_getElem_self]
    have hs0 : s2.files.set i { f0 with data := f0.data ++ b.take 0 } = s2.files := by
      have e : ({ f0 with data := f0.data ++ b.take 0 } : FileS) = s2.files[i] := by rw [List.take_zero, List.append_nil, hfe]
      rw [e, List.set_getElem_self]
    have O4 : Hid (ROpen (w3.setCell ⟨q, 1, none⟩ (.slice A3 (s.pend.length + 1) c3)) (rtR tag wc.heap.size w3.heap.size .pd) (.slice (some ⟨g, 0, none⟩) l.length cf) (.slice A3 (s.pend.length + 1) c3) (l.set i ({ f0 with data := f0.data ++ b.take 0 }, l[i].2)) q { s2 with pend := s.pend ++ [⟨nm, f0.data.length, b⟩], files := s2.files.set i { f0 with data := f0.data ++ b.take 0 } }) := Lib.hid (by rw [hl0, hs0]; exact o4)
    have G4 : Hid (rtR tag wc.heap.size w3.heap.size .pd g = .fs) := Lib.hid ((ht3 g (by rw [hgt]; simp)).trans hgt)
    have T4 : Hid (∀ k, rtR tag wc.heap.size w3.heap.size .pd k ≠ .out → G k ∨ w.heap.size ≤ k) := Lib.hid (fun k a => by
      rcases rtR_out k a with e | e
      · exact .inr (Nat.le_trans K2.out.size e.1)
      · exact HT2.out k ((hG k).2 e))
    have K4 := Lib.hid ((K2.out.trans2 k3' (fun k a e => (HT2.out k ((hG k).2 (by rw [e]; simp))).elim id (fun e => absurd a (Nat.not_lt.2 e)))).setCell (p := ⟨q, 1, none⟩) (fun a => (HT2.out q ((hG q).2 (by rw [ho.tq]; simp))).elim id (fun e => absurd a (Nat.not_lt.2 e))) (.slice A3 (s.pend.length + 1) c3))
    have HNe := Lib.hid hnek
    have HFe := Lib.hid hfe
    have hii : (i : Int) < (l.length : Int) := by omega
    have hi0 : (0 : Int) ≤ (i : Int) := by omega
    clear ho hob e1 q1 qf hap k3 o3 os3 k3' hbq ht3 o4 hprow hl0 hs0 hnek hG hfi hfe hfk hsp hle HR2 HT2 K2 hi0' hz0 hz1 hz2
    have kz : Kept noneS wc (wc.alloc (.cells #[.string nm, .int .i64 (f0.data.length : Int), .int .i64 (b.length : Int)] 84)) := (Kept.refl _ _).alloc _
    have c0z := (kz.cell (lt_of_cell c0) (fun a => a)).trans c0
    have pc1z := (kz.cell (lt_of_cell pc1) (fun a => a)).trans pc1
    have q1z := (kz.cell (lt_of_cell q1') (fun a => a)).trans q1'
    clear kz
    go_upto_region 14 with (fail)
    go_region
    all_goals
      clear c0 pc1 q1' c0z pc1z q1z hap' pc1' pc1f hgt
      generalize w3.setCell ⟨q, 1, none⟩ (.slice A3 (s.pend.length + 1) c3) = w5 at O4 K4 ⊢
      generalize rtR tag wc.heap.size w3.heap.size .pd = tag5 at O4 G4 T4
      go_wp2
      go_loopw [10] (fun k wr => ∃ (j : Nat) (tag' : Nat → RTag) (u : Value), j ≤ b.length ∧ k = .int .i64 j ∧ Hid (ROpen wr tag' (.slice (some ⟨g, 0, none⟩) l.length cf) (.slice A3 (s.pend.length + 1) c3) (l.set i ({ f0 with data := f0.data ++ b.take j }, u)) q { s2 with pend := s.pend ++ [⟨nm, f0.data.length, b⟩], files := s2.files.set i { f0 with data := f0.data ++ b.take j } }) ∧ Hid (tag' g = .fs) ∧ Hid (∀ k, tag' k ≠ .out → G k ∨ w.heap.size ≤ k) ∧ Hid (Kept G w wr)) (fun k _ => b.length - (intOf k).toNat)
      case atStart => exact ⟨0, tag5, _, Nat.zero_le _, rfl, O4, G4, T4, K4⟩
      case round =>
        obtain ⟨j, tag6, u, hj, rfl, HO, HGf, HT, HK⟩ := hrel
        clear O4 G4 T4 K4
        by_cases hlt : j < b.length
        · have hls : (l.set i ({ f0 with data := f0.data ++ b.take j }, u)).length = l.length := by rw [List.length_set]
          have hisx : i < (l.set i (({ f0 with data := f0.data ++ b.take j } : FileS), u)).length := by rw [hls]; exact hil
          have hgi : (l.set i (({ f0 with data := f0.data ++ b.take j } : FileS), u))[i] = ({ f0 with data := f0.data ++ b.take j }, u) := List.getElem_set_self hisx
          obtain ⟨g', eg, _, _, q1, _, qf⟩ := Own.at3 HO.out.frow hisx
          injection eg with eg
          injection eg with eg
          subst eg
          rw [hgi] at q1
          have hob : OB wr (fun k => tag6 k = .fd f0.key) u (f0.data ++ b.take j) := by
            have := (HO.out.fat _ (List.getElem_mem hisx)).2
            rw [hgi] at this
            exact this
          obtain ⟨A1, c1, hu1, _⟩ := Own.form hob
          have hlx : (f0.data ++ b.take j).length ≤ 140737488355328 - 1 := by
            rw [List.length_append, List.length_take]
            omega
          have hTs := List.take_succ_eq_append_getElem hlt
          obtain ⟨gb, ob, rfl, _, hbc⟩ := (HX.out.keep HK.out (fun k _ e e2 => HD.out k e2 e.1)).at_ hlt
          obtain ⟨xs, hxs⟩ : ∃ xs, f0.data ++ b.take j = xs := ⟨_, rfl⟩
          rw [hxs] at hob hlx hu1
          have q1' : wr.cell? ⟨g, i * 3 + 1, none⟩ = some (.slice A1 xs.length c1) := q1.trans (congrArg some hu1)
          have hob2 : OB wr (fun k => tag6 k = .fd f0.key) (.slice A1 xs.length c1) xs := by rw [← hu1]; exact hob
          have c0 : wr.cell? ⟨q, 0, none⟩ = some (.slice (some ⟨g, 0, none⟩) l.length cf) := HO.out.blk.cell 0
          obtain ⟨A2, c2, w6, hap, o6, k6⟩ := OB.app1run (Own.drew hob2) b[j] (by omega)
          have hap' : (appSem #[34, 34] 34 #[.slice A1 xs.length c1, .slice (some ⟨wr.heap.size, 0, none⟩) 1 1]).run Try.prog (wr.alloc (.cells #[.int .u8 (b[j].toNat : Int)] 5)).drew = .ok (.slice A2 (xs.length + 1) c2) w6 := hap
          have k6' : Kept (fun k => tag6 k = .fd f0.key) wr w6 := (((Kept.refl _ wr).drew).trans2 k6 (fun k _ a => hob2.2 k a))
          have hxs2 : xs ++ [b[j]] = f0.data ++ b.take (j + 1) := by rw [hTs, ← List.append_assoc, hxs]
          have q1k : w6.cell? ⟨g, i * 3 + 1, none⟩ = some (.slice A1 xs.length c1) := (k6'.cell (lt_of_cell q1') (fun a => by rw [show tag6 g = .fs from HGf.out] at a; cases a)).trans q1'
          have q1f : w6.frozen? ⟨g, i * 3 + 1, none⟩ = false := (k6'.frozen (p := ⟨g, i * 3 + 1, none⟩) (lt_of_cell q1') (fun a => by rw [show tag6 g = .fs from HGf.out] at a; cases a)).trans (qf _)
          have hne2 : ∀ k (hk : k < (l.set i (({ f0 with data := f0.data ++ b.take j } : FileS), u)).length), k ≠ i → (l.set i (({ f0 with data := f0.data ++ b.take j } : FileS), u))[k].1.key ≠ f0.key := fun k hk hki => by
            rw [List.getElem_set_ne (fun a => hki a.symm)]
            exact HNe.out k (by rw [hls] at hk; exact hk) hki
          obtain ⟨tag7, o7, ht7, hg7⟩ := HO.out.setDataN (i := i) (f := ({ f0 with data := f0.data ++ b.take j } : FileS)) (u := .slice A2 (xs.length + 1) c2) (xs := xs ++ [b[j]]) hls HGf.out hisx (by rw [hgi]) hne2 o6 k6'
          have O7 : Hid (ROpen (w6.setCell ⟨g, i * 3 + 1, none⟩ (.slice A2 (xs.length + 1) c2)) tag7 (.slice (some ⟨g, 0, none⟩) l.length cf) (.slice A3 (s.pend.length + 1) c3) (l.set i ({ f0 with data := f0.data ++ b.take (j + 1) }, .slice A2 (xs.length + 1) c2)) q { s2 with pend := s.pend ++ [⟨nm, f0.data.length, b⟩], files := s2.files.set i { f0 with data := f0.data ++ b.take (j + 1) } }) := Lib.hid (by
            rw [← hxs2]
            have h8 := o7
            rw [List.set_set] at h8
            have h9 : ((s2.files.set i ({ f0 with data := f0.data ++ b.take j } : FileS)).set i ({ f0 with data := xs ++ [b[j]] } : FileS)) = s2.files.set i { f0 with data := xs ++ [b[j]] } := by rw [List.set_set]
            rw [← h9]
            exact h8)
          have G7 := Lib.hid hg7
          have T7 : Hid (∀ k, tag7 k ≠ .out → G k ∨ w.heap.size ≤ k) := Lib.hid (fun k a => by
            rcases ht7 k a with e | e
            · exact HT.out k e
            · exact .inr (Nat.le_trans HK.out.size e))
          have K7 := Lib.hid ((HK.out.trans2 k6' (fun k a e => (HT.out k (by rw [show tag6 k = .fd f0.key from e]; simp)).elim id (fun e => absurd a (Nat.not_lt.2 e)))).setCell (p := ⟨g, i * 3 + 1, none⟩) (fun a => (HT.out g (by rw [HGf.out]; simp)).elim id (fun e => absurd a (Nat.not_lt.2 e))) (.slice A2 (xs.length + 1) c2))
          have c0k : w6.cell? ⟨q, 0, none⟩ = some (.slice (some ⟨g, 0, none⟩) l.length cf) := (HO.out.blk.keep k6' (fun a => by rw [HO.out.tq] at a; cases a)).cell 0
          have kz : Kept noneS wr (wr.alloc (.cells #[.int .u8 (b[j].toNat : Int)] 5)) := (Kept.refl _ _).alloc _
          have c0z := (kz.cell (lt_of_cell c0) (fun a => a)).trans c0
          have q1z := (kz.cell (lt_of_cell q1') (fun a => a)).trans q1'
          have hbz := (kz.cell (lt_of_cell hbc) (fun a => a)).trans hbc
          have hjb : (j : Int) < (b.length : Int) := by omega
          have hj0 : (0 : Int) ≤ (j : Int) := by omega
          clear kz q1 qf hob hob2 hu1 hTs hxs hap k6 k6' hxs2 o6 o7 ht7 hg7 hne2 hgi HO HGf HT HK
          generalize b[j] = x at *
          go_wp2_with fail
          go_region
          all_goals
            go_wp2
            go_roundw
            case rel => exact ⟨j + 1, tag7, _, by omega, by go_num, O7, G7, T7, K7⟩
            case measure => simp [intOf]; omega
        · obtain rfl : j = b.length := by omega
          have c0 : wr.cell? ⟨q, 0, none⟩ = some (.slice (some ⟨g, 0, none⟩) l.length cf) := HO.out.blk.cell 0
          go_wp2
          go_ret
          refine ⟨rfl, fun k => tag6 k ≠ .out, ?_, HT.out, HK.out⟩
          rw [HApp.out]
          refine HO.out.at_.like ?_ ?_ rfl
          · show putF ⟨nm, f0.data ++ b, f0.safe⟩ s2.files = s2.files.set i { f0 with data := f0.data ++ b.take b.length }
            rw [List.take_length]
            have e1 : (⟨nm, f0.data ++ b, f0.safe⟩ : FileS) = catF b f0 := by
              unfold catF
              rw [← HFn.out]
            have hfi0 : s2.files.find? (fun x => x.key == nm.toList) = some f0 := by
              have := HGw.out
              unfold DiskS.get at this
              exact this
            have hki : s2.files[i].key = nm.toList := by
              rw [HFe.out]
              show f0.name.toList = _
              rw [HFn.out]
            rw [e1, put_upd (u := catF b) (fun _ => rfl) s2.files HAw.out hfi0, upd_set (u := catF b) s2.files i hi HAw.out hki, HFe.out]
            rfl
          · rfl

end Go.Proofs.Ytnlmkfncdklcdaa
