/-
  disk.Disk.Append: what is taken.
-/
import Derived.Test.YtnlmkfncdklcdaaDkAppP
import Derived.Deep.CutRange
namespace Go.Proofs.Ytnlmkfncdklcdaa
open Go.RowKit

attribute [local go_sem ↓] append_as
set_option maxRecDepth 100000 in
set_option maxHeartbeats 3200000 in
theorem appendOk (F G : Nat → Prop) (p N : Nat) (s : DiskS) (nm : ByteArray) (A : Option Addr) (b : List UInt8) (c : Nat) (w : World) (h : DAt w F p s N) (ha : Asc s.files) (hn : nm.size ≤ 140737488351232) (hb : b.length ≤ 140737488355328) (hu : 0 ≤ s.used ∧ s.used ≤ 1152921504606846976)
    (he : s.appErr nm b.length = 0) (hx : RB w G A b) (hA : A = none → b = [] ∧ c = 0) (hd : ∀ k, F k → G k → False) (hl : (s.fileOr nm).data.length + b.length ≤ 140737488355328) (hp : (s.pend.length + 1) * 48 ≤ 140737488355328) (hN : N < maxLen) :
    Calls Try.prog 19 #[.pointer (some ⟨p, 0, none⟩), .string nm, .slice A b.length c] w fun e w' => e = .returned (.int .i64 0) ∧ ∃ F', DAt w' F' p (s.app nm b) (N + 1) ∧ (∀ k, F' k → F k ∨ w.heap.size ≤ k) ∧ Kept F w w' := by
  have hg : goodB nm = true := by
    rcases hg : goodB nm with _ | _
    · unfold DiskS.appErr at he
      rw [if_pos hg] at he
      cases he
    · rfl
  have hroom : ¬ s.room < s.used + b.length := fun q => by
    unfold DiskS.appErr at he
    rw [if_neg (by rw [hg]; decide), if_pos q] at he
    cases he
  clear he
  obtain ⟨tag, m, pv, hbf, hF, ho⟩ := h.open_
  have HO := Lib.hid ho
  have HF := Lib.hid hF
  have HX := Lib.hid (hx.mono (G := fun k => G k ∧ k < w.heap.size) (fun k a q => ⟨q, a⟩))
  have HD := Lib.hid hd
  have HAs := Lib.hid ha
  have HA := Lib.hid hA
  have hr1 := ho.room.1
  have hr2 := ho.room.2
  clear h ho hF hx hd ha hA
  go_enter Try.func19, Try.ntmps19
  go_wp2_with fail
  refine (goodName nm w hn).mono ?_
  rw [hg]
  rintro e w1 ⟨rfl, k1⟩
  have HO1 := Lib.hid (HO.out.keep k1 (fun _ q => q.elim))
  have K1 := Lib.hid k1
  have c2 : w1.cell? ⟨p, 2, none⟩ = some (.int .i64 s.room) := HO1.out.blk.cell 2
  have c3 : w1.cell? ⟨p, 3, none⟩ = some (.int .i64 s.used) := HO1.out.blk.cell 3
  have hu1 := hu.1
  have hu2 := hu.2
  clear k1 hu hg HO
  have d2 : decide (s.room < s.used) = false := decide_eq_false (by omega)
  have d3 : decide (s.room - s.used < (b.length : Int)) = false := decide_eq_false (by omega)
  go_wp2_with fail
  go_quiet (fail)
  have HO2 := Lib.hid (HO1.out.keep ((Kept.refl noneS w1).drewN nq) (fun _ q => q.elim))
  have K2 := Lib.hid (K1.out.drewN nq)
  clear c2 c3 d2 d3 HO1 K1
  generalize w1.drewN nq = w2 at HO2 K2 ⊢
  have c0 : w2.cell? ⟨p, 0, none⟩ = some (.map (some m)) := HO2.out.blk.cell 0
  have lk := HO2.out.map.look Try.underlying65 (.pointer none) (zeroPtr w2) nm hn
  have hz2 := K2.out.size
  have HFr : Hid (∀ k, tag k ≠ .out → k < w2.heap.size) := Lib.hid HO2.out.old
  have hmu : m < w2.heap.size := HO2.out.map.lt
  have hpl : p < w2.heap.size := HO2.out.blk.lt
  have c0a : (w2.alloc (.cells #[.slice none 0 0, .slice none 0 0] 71)).cell? ⟨p, 0, none⟩ = some (.map (some m)) := (HO2.out.blk.alloc _).cell 0
  have hs : ∃ (w3 : World) (tag1 : Nat → DTag) (hb1 : List UInt8 → Nat), True := ⟨w2, tag, hbf, trivial⟩
  clear hs
  rcases hgo : s.get nm.toList with _ | f
  case' none =>
    rw [hgo] at lk
    simp only [Option.map_none, Option.getD_none] at lk
    have HGO := Lib.hid hgo
    clear hgo
    have ka : Kept noneS w2 (w2.alloc (.cells #[.slice none 0 0, .slice none 0 0] 71)) := (Kept.refl _ _).alloc _
    obtain ⟨w3, hput, vm3, k3, z3⟩ := (HO2.out.map.keep ka (fun q => q)).put Try.underlying65 hN nm hn (.pointer (some ⟨w2.heap.size, 0, none⟩))
    have VM3 := Lib.hid vm3
    have K3 := Lib.hid k3
    have Z3 := Lib.hid z3
    have KA := Lib.hid ka
    clear vm3 k3 z3 ka
    have O3 : Hid (DOpen w3 (tagAt tag w2.heap.size (.fh nm.toList)) m pv (fun k => if k = nm.toList then w2.heap.size else hbf k) p (s.with nm) (N + 1)) := Lib.hid (by
      have h1 := (HO2.out.keep KA.out (fun _ q => q.elim)).retag (tag' := tagAt tag w2.heap.size (.fh nm.toList)) (fun k q => tagAt_old (by
        by_cases e : tag w2.heap.size = .out
        · exact e
        · exact absurd (HFr.out _ e) (Nat.lt_irrefl _)) k q) (fun k q => by
        rcases tagAt_out k q with e | e
        · rw [e]; simp
        · have := HFr.out k e
          simp
          omega)
      have e : s.with nm = { s with files := putF ⟨nm, [], []⟩ s.files } := by unfold DiskS.with DiskS.fileOr; rw [HGO.out]; rfl
      rw [e]
      have hm : tagAt tag w2.heap.size (.fh nm.toList) m = .mp := h1.tm
      exact h1.addFile HAs.out nm hn HGO.out w2.heap.size (Blk.new _ _ _) (tagAt_same _ _ _) K3.out VM3.out)
    have HU : Hid (∃ tag1 hb1, DOpen w3 tag1 m pv hb1 p (s.with nm) (N + 1) ∧ hb1 nm.toList = w2.heap.size ∧ (∀ k, tag1 k ≠ .out → tag k ≠ .out ∨ w.heap.size ≤ k)) := Lib.hid ⟨_, _, O3.out, by simp, fun k q => by
      rcases tagAt_out k q with e | e
      · exact .inr (by omega)
      · exact .inl e⟩
    have KU : Hid (Kept F w w3) := Lib.hid ((K2.out.mono (fun _ _ q => q.elim)).trans2 ((KA.out.mono (S' := fun k => k = m) (fun _ _ q => q.elim)).trans K3.out) (fun k _ q => by
      rw [q]
      exact (HF.out m).2 (by rw [HO2.out.tm]; simp)))
    go_upto_region 9 with (fail)
    clear c0 lk hz2 HFr hmu hpl c0a HO2 K2 HGO hput VM3 K3 Z3 KA O3
    generalize w2.heap.size = b1 at HU ⊢
  case' some f0 =>
    rw [hgo] at lk
    simp only [Option.map_some, Option.getD_some] at lk
    have HGO := Lib.hid hgo
    clear hgo
    have HU : Hid (∃ tag1 hb1, DOpen w2 tag1 m pv hb1 p (s.with nm) (N + 1) ∧ hb1 nm.toList = hbf nm.toList ∧ (∀ k, tag1 k ≠ .out → tag k ≠ .out ∨ w.heap.size ≤ k)) := Lib.hid ⟨tag, hbf, by rw [with_old HAs.out HGO.out]; exact HO2.out.more (Nat.le_succ _), rfl, fun k q => .inl q⟩
    have KU : Hid (Kept F w w2) := Lib.hid (K2.out.mono (fun _ _ q => q.elim))
    go_upto_region 9 with (fail)
    clear c0 lk hz2 HFr hmu hpl c0a HO2 K2 HGO
    generalize hbf nm.toList = b1 at HU ⊢
    generalize w2 = w3 at HU KU ⊢
  all_goals
    obtain ⟨tag1, hb1, o3, hb1e, ht1⟩ := HU.out
    clear HU
    have hgw := with_get s nm
    have hasc : Asc (s.with nm).files := asc_put _ _ HAs.out
    have HEQ := Lib.hid (app_with s nm b)
    obtain ⟨f, hfo⟩ : ∃ f, s.fileOr nm = f := ⟨_, rfl⟩
    obtain ⟨s1, hs1⟩ : ∃ s1, s.with nm = s1 := ⟨_, rfl⟩
    have hfk : f.key = nm.toList := by rw [← hfo]; exact fileOr_name s nm
    have hfn : f.name = nm := by rw [← hfo]; exact fileOr_nm s nm
    have hsp : s1.pend = s.pend := by rw [← hs1]; rfl
    have hsu : s1.used = s.used := by rw [← hs1]; rfl
    rw [hfo] at hgw hl HEQ
    rw [hs1] at hgw hasc HEQ o3
    rw [← hfk] at hgw hb1e
    clear hfo hs1
    have hfat := o3.files f (DiskS.get_mem hgw).1
    rw [hb1e] at hfat
    obtain ⟨_, _, dv, sv, bf, da, _⟩ := hfat
    obtain ⟨Ad, cd, rfl, _, _⟩ := da
    have hpend := o3.pend
    rw [hsp] at hpend
    obtain ⟨Ap, cp, rfl, hp1, hp2⟩ := hpend.form
    have p1 : w3.cell? ⟨p, 1, none⟩ = some (.slice Ap s.pend.length cp) := o3.blk.cell 1
    have p1f : w3.frozen? ⟨p, 1, none⟩ = false := o3.blk.frozen 1
    have q0 : w3.cell? ⟨b1, 0, none⟩ = some (.slice Ad f.data.length cd) := bf.cell 0
    obtain ⟨css, hown, hcl, hcw⟩ := hpend
    have BP := Lib.hid o3.blk
    have BF := Lib.hid bf
    have OWN := Lib.hid hown
    have HCW := Lib.hid hcw
    have HCL := Lib.hid hcl
    have HO3 := Lib.hid o3
    have HT1 := Lib.hid ht1
    have HGW := Lib.hid hgw
    have HAS := Lib.hid hasc
    have hpd : ∀ k, tag1 k = .pd → ¬ k = p := fun k q e => by rw [e, HO3.out.tp] at q; cases q
    have HPD := Lib.hid hpd
    have HX3 : Hid (RB w3 (fun k => G k ∧ k < w.heap.size) A b) := Lib.hid (HX.out.keep KU.out (fun k _ q q2 => HD.out k q2 q.1))
    clear o3 ht1 hgw hasc bf hown hcw hcl hpd
    go_region_law (first
      | (refine step_appW rfl (.tmp 56) (.tmp 66) rfl w4 (fun k => tag1 k = .pd) (.slice Ap s.pend.length cp) s.pend.length css.flatten rfl (OWN.out.keep0 K4.out (fun _ _ _ q => q.elim)) nm (f.data.length : Int) A4 b.length c4 rfl hp ?_; intro A5 c5 w5 own5 cap5 k5; have kB : Kept (fun k => tag1 k = .pd) w3 w5 := ((K4.out.alloc _).mono (fun _ _ q => q.elim)).trans2 k5 (fun k _ q => OWN.out.2 k q); have p1' : w5.cell? ⟨p, 1, none⟩ = some (.slice Ap s.pend.length cp) := (BP.out.keep kB (fun q => HPD.out p q rfl)).cell 1; have p1f' : w5.frozen? ⟨p, 1, none⟩ = false := (BP.out.keep kB (fun q => HPD.out p q rfl)).frozen 1; have KB := Lib.hid kB; have OW5 := Lib.hid own5; have K5 := Lib.hid k5; clear kB own5 k5)
      | (go_simp; go_at_call 30; refine (sClone A c b _ w3.drew HX3.out.drew HA.out hb).mono ?_; rintro e w4 ⟨v4, rfl, o4, k4⟩; obtain ⟨A4, c4, rfl, _⟩ := Own.form o4; have kA : Kept noneS w3 w4 := ((Kept.refl noneS w3).drew).trans k4; have p1' : w4.cell? ⟨p, 1, none⟩ = some (.slice Ap s.pend.length cp) := (BP.out.keep kA (fun q => q)).cell 1; have q0' : w4.cell? ⟨b1, 0, none⟩ = some (.slice Ad f.data.length cd) := (BF.out.keep kA (fun q => q)).cell 0; have p1'' : (w4.alloc (.cells #[.string nm, .int .i64 (f.data.length : Int), .slice A4 b.length c4] 74)).cell? ⟨p, 1, none⟩ = some (.slice Ap s.pend.length cp) := ((BP.out.keep kA (fun q => q)).alloc _).cell 1; have O4 := Lib.hid o4; have K4 := Lib.hid kA; clear o4 kA k4))
    all_goals
      obtain ⟨tag2, o6, ht2⟩ := append_pend HO3.out OWN.out HCL.out HCW.out hn (by omega) O4.out K4.out OW5.out K5.out
      have K6 : Hid (Kept F w (w5.setCell ⟨p, 1, none⟩ (.slice A5 (s.pend.length + 1) c5))) := Lib.hid ((KU.out.trans2 KB.out (fun k a q => by
        rcases HT1.out k (by rw [q]; simp) with e | e
        · exact (HF.out k).2 e
        · omega)).setCell (fun a => by
          rcases HT1.out p (by rw [HO3.out.tp]; simp) with e | e
          · exact (HF.out p).2 e
          · exact absurd a (Nat.not_lt.2 e)) _)
      have z3 := KU.out.size
      have HT2 : Hid (∀ k, tag2 k ≠ .out → tag k ≠ .out ∨ w.heap.size ≤ k) := Lib.hid (fun k q => by
        rcases ht2 k q with e | e
        · exact HT1.out k e
        · exact .inr (by omega))
      have HX6 : Hid (RB (w5.setCell ⟨p, 1, none⟩ (.slice A5 (s.pend.length + 1) c5)) (fun k => G k ∧ k < w.heap.size) A b) := Lib.hid (HX.out.keep K6.out (fun k _ q q2 => HD.out k q2 q.1))
      clear p1 p1f q0 p1' p1f' p1'' q0' ht2 K4 K5 KB OW5 O4 OWN HCW HCL HX3 HO3 BP BF HT1 KU
      generalize w5.setCell ⟨p, 1, none⟩ (.slice A5 (s.pend.length + 1) c5) = w6 at o6 K6 HX6 ⊢
      have hg6 : ({ s1 with pend := s.pend ++ [⟨nm, f.data.length, b⟩] } : DiskS).get f.key = some f := HGW.out
      have hf6 := o6.files f (DiskS.get_mem hg6).1
      rw [hb1e] at hf6
      obtain ⟨_, _, dv6, sv6, bf6, da6, sa6⟩ := hf6
      obtain ⟨Ae, ce, rfl, sg6, _⟩ := da6
      obtain ⟨A7, c7, w7, hrun, sg7, k7⟩ := (sg6.mono (G := fun k => tag2 k = .fd f.key ∨ k = w6.heap.size) (fun _ _ q => .inl q)).append HX6.out hl (.inr rfl) c
      obtain ⟨tag3, o8, ht3⟩ := append_data o6 HAS.out hg6 hb1e bf6 sg6 sa6 sg7 k7
      have q0 : w6.cell? ⟨b1, 0, none⟩ = some (.slice Ae f.data.length ce) := bf6.cell 0
      have tb6 : tag2 b1 = .fh f.key := by rw [← hb1e]; exact (o6.files f (DiskS.get_mem hg6).1).1
      have bf7 := bf6.keep k7 (fun q => by have := (sg6.segS_lt q).1; rw [tb6] at this; cases this)
      have q1 : w7.cell? ⟨b1, 0, none⟩ = some (.slice Ae f.data.length ce) := bf7.cell 0
      have q1f : w7.frozen? ⟨b1, 0, none⟩ = false := bf7.frozen 0
      have r3 : (w7.setCell ⟨b1, 0, none⟩ (.slice A7 (f.data.length + b.length) c7)).cell? ⟨p, 3, none⟩ = some (.int .i64 s.used) := by
        have := o8.blk.cell 3
        rw [show ({ s1 with pend := s.pend ++ [⟨nm, f.data.length, b⟩], files := putF ⟨f.name, f.data ++ b, f.safe⟩ s1.files } : DiskS).used = s.used from hsu] at this
        exact this
      have r3f : (w7.setCell ⟨b1, 0, none⟩ (.slice A7 (f.data.length + b.length) c7)).frozen? ⟨p, 3, none⟩ = false := o8.blk.frozen 3
      have O8 := Lib.hid o8
      have HT3 : Hid (∀ k, tag3 k ≠ .out → tag k ≠ .out ∨ w.heap.size ≤ k) := Lib.hid (fun k q => by
        rcases ht3 k q with e | e
        · exact HT2.out k e
        · exact .inr (Nat.le_trans K6.out.size e))
      have K8 : Hid (Kept F w (w7.setCell ⟨b1, 0, none⟩ (.slice A7 (f.data.length + b.length) c7))) := Lib.hid ((K6.out.trans2 k7 (fun k a q => by
        rcases HT2.out k (by rw [(sg6.segS_lt q).1]; simp) with e | e
        · exact (HF.out k).2 e
        · omega)).setCell (fun a => by
          rcases HT2.out b1 (by rw [tb6]; simp) with e | e
          · exact (HF.out b1).2 e
          · exact absurd a (Nat.not_lt.2 e)) _)
      have hw8 : IntKind.i64.wrap (s.used + (b.length : Int)) = s.used + (b.length : Int) := by rw [IntKind.wrap_i64]; omega
      clear o6 o8 ht3 hg6 sg6 sg7 k7 bf6 bf7 sa6 tb6 HT2 K6 HX6 z3
      go_wp2
      go_ret
      have o9 := O8.out.setUsed (s.used + (b.length : Int)) (by omega)
      refine ⟨rfl, fun k => tag3 k ≠ .out, ?_, fun k q => ?_, ?_⟩
      · rw [HEQ.out]
        have o10 := o9.at_
        rw [hfn] at o10
        exact o10
      · rcases HT3.out k q with e | e
        · exact .inl ((HF.out k).2 e)
        · exact .inr e
      · refine K8.out.setCell (fun a => ?_) _
        rcases HT3.out p (by rw [O8.out.tp]; simp) with e | e
        · exact (HF.out p).2 e
        · exact absurd a (Nat.not_lt.2 e)

end Go.Proofs.Ytnlmkfncdklcdaa
