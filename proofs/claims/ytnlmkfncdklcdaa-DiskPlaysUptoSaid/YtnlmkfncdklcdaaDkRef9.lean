/-
  The document's Crash.
-/
import Derived.Test.YtnlmkfncdklcdaaDkRef8
import Derived.Test.YtnlmkfncdklcdaaDkCrash
namespace Go.Proofs.Ytnlmkfncdklcdaa
open Go.RowKit

def docStep (keep : List Bool) (tear : Int) (n : Nat) (nm fd : List UInt8) (k : Nat) (x : WrS) (b : List UInt8) : List UInt8 :=
  if x.key = nm ∧ keep.getD k false = true then padTo b x.off ++ (fd.drop x.off).take (wrLen n k tear x) else b
def docF (keep : List Bool) (tear : Int) (n : Nat) (nm fd : List UInt8) : Nat → List WrS → List UInt8 → List UInt8
  | _, [], b => b
  | k, x :: l, b => docF keep tear n nm fd (k + 1) l (docStep keep tear n nm fd k x b)
def docOne (s : DiskS) (keep : List Bool) (tear : Int) (f : FileS) : FlS := ⟨f.name, docF keep tear s.pend.length f.key f.data 0 s.pend (f.data.take f.safe.length)⟩
def DiskS.docLeft (s : DiskS) (keep : List Bool) (tear : Int) : List FlS := s.files.map (docOne s keep tear)
def sumP (l : List WrS) : Nat := (l.map fun x => x.data.length).sum
theorem sumP_snoc (l : List WrS) (x : WrS) : sumP (l ++ [x]) = sumP l + x.data.length := by simp [sumP]
theorem sumP_take (l : List WrS) : ∀ j, sumP (l.take j) ≤ sumP l := by
  intro j
  conv => rhs; rw [← List.take_append_drop j l]
  unfold sumP
  rw [List.map_append, List.sum_append]
  omega

attribute [local go_sem ↓] append_as
set_option maxRecDepth 100000 in
set_option maxHeartbeats 3200000 in
theorem refCrash (G K : Nat → Prop) (q : Nat) (s : DiskS) (w : World) (KA : Option Addr) (kc : Nat) (keep : List Bool) (tear : Int) (h : RAt w G q s) (hk : Rd w K KA (keep.map Value.bool)) (ht : -9223372036854775808 ≤ tear ∧ tear ≤ 9223372036854775807)
    (hs : s.files.length * 40 ≤ 140737488355328) (hpn : s.pend.length * 32 ≤ 140737488355328) (hok : ∀ f ∈ s.files, f.safe.length ≤ f.data.length ∧ f.data.length + sumP s.pend ≤ 140737488351232 ∧ ∀ x ∈ s.pend, x.key = f.key → x.off + x.data.length ≤ f.data.length) :
    Calls Try.prog 35 #[.pointer (some ⟨q, 0, none⟩), .agg #[.slice KA keep.length kc, .int .i64 tear]] w (CrashPost w (s.docLeft keep tear)) := by
  obtain ⟨tag, fv, pv, l, hG, ho⟩ := h
  obtain ⟨Af, cf, rfl, hcf, hcfm, _⟩ := Own.form ho.frow
  obtain ⟨Ap, cp, rfl, hcp, hcpm, _⟩ := Own.form ho.prow
  have hll : l.length = s.files.length := by rw [← ho.fls, List.length_map]
  have hpl : s.pend.length ≤ 4398046511104 := by omega
  have hll2 : l.length ≤ 3518437208883 := by omega
  obtain ⟨fin, hfin⟩ : ∃ fin : List FlS, s.docLeft keep tear = fin := ⟨_, rfl⟩
  have hfe : fin = l.map (fun p => docOne s keep tear p.1) := by rw [← hfin]; unfold DiskS.docLeft; rw [← ho.fls, List.map_map]; rfl
  have hfl : fin.length = l.length := by rw [hfe, List.length_map]
  rw [hfin]
  generalize hP : CrashPost w fin = Post
  have HP := Lib.hid hP
  have HFe := Lib.hid hfe
  have HFl := Lib.hid hfl
  have HOk : Hid (∀ p ∈ l, p.1.safe.length ≤ p.1.data.length ∧ p.1.data.length + sumP s.pend ≤ 140737488351232 ∧ ∀ x ∈ s.pend, x.key = p.1.key → x.off + x.data.length ≤ p.1.data.length) := Lib.hid (fun p hp => hok p.1 (by rw [← ho.fls]; exact List.mem_map.2 ⟨p, hp, rfl⟩))
  have HLT := Lib.hid ho.old
  have BF0 : Hid (Blk (w.alloc (.cells #[.slice KA keep.length kc, .int .i64 tear] 40)) w.heap.size 40 #[.slice KA keep.length kc, .int .i64 tear]) := Lib.hid (Blk.new _ _ _)
  have ka : Kept noneS w (w.alloc (.cells #[.slice KA keep.length kc, .int .i64 tear] 40)) := (Kept.refl _ _).alloc _
  have HO := Lib.hid (ho.keep ka (fun _ a => a.elim))
  have KA0 := Lib.hid ka
  have HK := Lib.hid ((hk.mono (G := (· < w.heap.size)) (fun k a _ => a)).keep ka (fun _ _ _ a => a))
  have hwl : w.heap.size < (w.alloc (.cells #[.slice KA keep.length kc, .int .i64 tear] 40)).heap.size := by simp
  have HS0 : Hid ((w.alloc (.cells #[.slice KA keep.length kc, .int .i64 tear] 40)).heap.size = w.heap.size + 1) := Lib.hid (by simp)
  clear hP hfe hfl hfin ho hok hk ka hG
  go_enter Try.func35, Try.ntmps35
  go_upto_region 1 with (fail)
  generalize w.alloc (.cells #[.slice KA keep.length kc, .int .i64 tear] 40) = w0 at BF0 KA0 HO HK hwl HS0 ⊢
  go_wp2
  go_loopw [5, 6, 7, 8, 9, 10, 11, 12] (fun v i _ _ _ _ _ _ wr => ∃ j : Nat, j ≤ l.length ∧ i = .int .i64 j ∧ Hid (FlsOwn wr (w.heap.size < ·) v (fin.take j)) ∧ Hid (Kept noneS w0 wr)) (fun _ i _ _ _ _ _ _ _ => l.length - (intOf i).toNat)
  case atStart => exact ⟨0, Nat.zero_le _, rfl, Lib.hid (FlsOwn.empty _ _ hwl), Lib.hid ((Kept.refl _ _).alloc _)⟩
  case round =>
    obtain ⟨j, hj, rfl, HFo, HKr⟩ := hrel
    have HO1 := Lib.hid (HO.out.keep HKr.out (fun _ a => a.elim))
    have c0 : wr.cell? ⟨q, 0, none⟩ = some (.slice Af l.length cf) := HO1.out.blk.cell 0
    by_cases hlt : j < l.length
    · obtain ⟨A5, c5, rfl, _⟩ := HFo.out.form
      obtain ⟨done, hdone⟩ : ∃ done, fin.take j = done := ⟨_, rfl⟩
      have hdl : done.length = j := by rw [← hdone, List.length_take, HFl.out]; omega
      have HDn := Lib.hid hdone
      rw [hdone] at HFo ⊢
      have HDl := Lib.hid hdl
      clear hdl hdone
      obtain ⟨g, rfl, hgt, q0, q1, q2, _⟩ := Own.at3 HO1.out.frow hlt
      have hob := (HO1.out.fat l[j] (List.getElem_mem hlt)).2
      have hnm := (HO1.out.fat l[j] (List.getElem_mem hlt)).1
      obtain ⟨A1, c1, e1, hc1, hc1m, _⟩ := Own.form hob
      have hjf : j < fin.length := by rw [HFl.out]; exact hlt
      have hTk := List.take_succ_eq_append_getElem hjf
      have hget : fin[j] = docOne s keep tear l[j].1 := by
        have := HFe.out
        subst this
        rw [List.getElem_map]
      rw [hget] at hTk
      have HTk := Lib.hid hTk
      have hokj := HOk.out l[j] (List.getElem_mem hlt)
      have q0' : wr.cell? ⟨g, j * 3, none⟩ = some (.string l[j].1.name) := q0
      have q1' : wr.cell? ⟨g, j * 3 + 1, none⟩ = some (.slice A1 l[j].1.data.length c1) := q1.trans (congrArg some e1)
      have q2' : wr.cell? ⟨g, j * 3 + 2, none⟩ = some (.int .i64 (l[j].1.safe.length : Int)) := q2
      have hrb : RB wr (fun k => k < w.heap.size) A1 l[j].1.data := by
        rw [e1] at hob
        exact (OB.rb hob).2.mono (fun k _ a => HLT.out k (by rw [show tag k = .fd l[j].1.key from a]; simp))
      have hji : (j : Int) < (l.length : Int) := by omega
      have hj0 : (0 : Int) ≤ (j : Int) := by omega
      clear q0 q1 q2 e1 hob hTk hget hjf
      generalize l[j].1 = f at *
      obtain ⟨hok1, hok2, hok3⟩ := hokj
      have HOk3 := Lib.hid hok3
      have HRb := Lib.hid hrb
      have hsl := fun W => run_slice_to W A1 f.data.length c1 f.safe.length (by omega)
      clear hok3 hrb
      go_upto_region 6 with (fail)
      have hbf := Blk.new wr 58 #[.string f.name, .slice A1 f.data.length c1, .int .i64 (f.safe.length : Int)]
      have k1 : Kept noneS wr (wr.alloc (.cells #[.string f.name, .slice A1 f.data.length c1, .int .i64 (f.safe.length : Int)] 58)) := (Kept.refl _ _).alloc _
      have hwr : wr.heap.size < (wr.alloc (.cells #[.string f.name, .slice A1 f.data.length c1, .int .i64 (f.safe.length : Int)] 58)).heap.size := by simp
      have BFf := Lib.hid hbf
      have HFo1 := Lib.hid (HFo.out.still k1)
      have K1 := Lib.hid (HKr.out.trans k1)
      have HRb1 := Lib.hid (HRb.out.still k1)
      have hz0 := HKr.out.size
      clear hbf k1 q0' q1' q2' HFo HRb HO1
      generalize wr.alloc (.cells #[.string f.name, .slice A1 f.data.length c1, .int .i64 (f.safe.length : Int)] 58) = w1 at BFf HFo1 K1 HRb1 hwr ⊢
      have HBfg : Hid (w.heap.size < wr.heap.size) := Lib.hid (by omega)
      clear HKr
      generalize wr.heap.size = bf at BFf hwr HBfg hz0 ⊢
      have b0 : w1.cell? ⟨bf, 1, none⟩ = some (.slice A1 f.data.length c1) := BFf.out.cell 1
      have b1 : w1.cell? ⟨bf, 2, none⟩ = some (.int .i64 (f.safe.length : Int)) := BFf.out.cell 2
      have hst : (f.data.take f.safe.length).length = f.safe.length := by rw [List.length_take]; omega
      go_wp2_with fail
      refine (refCopyN A1 f.safe.length c1 (f.data.take f.safe.length) _ w1 hst (HRb1.out.take _) (by omega)).mono ?_
      rintro e w2 ⟨A2, c2, rfl, o2, k2⟩
      obtain ⟨bs0, hbs0⟩ : ∃ bs0, f.data.take f.safe.length = bs0 := ⟨_, rfl⟩
      rw [hbs0] at o2 hst
      have HFin : Hid (docOne s keep tear f = ⟨f.name, docF keep tear s.pend.length f.key f.data 0 s.pend bs0⟩) := Lib.hid (by unfold docOne; rw [hbs0])
      have O2 : Hid (OB w2 (w1.heap.size ≤ ·) (.slice A2 bs0.length c2) bs0) := Lib.hid (by rw [hst]; exact o2)
      have K2 := Lib.hid (K1.out.trans k2)
      have BF2 := Lib.hid (BFf.out.keep k2 (fun a => a))
      have HFo2 := Lib.hid ((HFo1.out.mono (G := fun k => w.heap.size < k ∧ k < w1.heap.size) (fun k a b => ⟨b, a⟩)).still k2)
      have HRb2 := Lib.hid (HRb1.out.still k2)
      have hz2 := k2.size
      have hbl0 : bs0.length ≤ f.data.length := by rw [hst]; exact hok1
      rw [← hst]
      clear o2 k2 hbs0 b0 b1 hst BFf HFo1 HRb1 K1
      generalize w1.heap.size = W6 at O2 hz2 hwr HFo2 ⊢
      have HW6 : Hid (w.heap.size ≤ W6) := Lib.hid (by have := HBfg.out; omega)
      have hpd : Hid (docF keep tear s.pend.length f.key f.data 0 (s.pend.drop 0) bs0 = docF keep tear s.pend.length f.key f.data 0 s.pend bs0) := Lib.hid rfl
      go_wp2
      go_loopw [8, 9, 10, 11, 12] (fun v k _ _ _ wr => ∃ (i : Nat) (bs : List UInt8), i ≤ s.pend.length ∧ k = .int .i64 i ∧ bs.length ≤ f.data.length + sumP (s.pend.take i) ∧ Hid (OB wr (W6 ≤ ·) v bs) ∧ Hid (docF keep tear s.pend.length f.key f.data i (s.pend.drop i) bs = docF keep tear s.pend.length f.key f.data 0 s.pend bs0) ∧ Hid (Kept (fun b => W6 ≤ b) w2 wr)) (fun _ k _ _ _ _ => s.pend.length - (intOf k).toNat)
      case atStart => exact ⟨0, bs0, Nat.zero_le _, rfl, by omega, O2, hpd, Lib.hid (Kept.refl _ _)⟩
      case round =>
        obtain ⟨i, bs, hi, rfl, hbl, HOB, HE, HKm⟩ := hrel
        clear hpd O2
        have HOm := Lib.hid ((HO.out.keep K2.out (fun _ a => a.elim)).keep HKm.out (fun k a => by
          by_cases e : tag k = .out
          · exact e
          · have h1 := HLT.out k e
            have h2 := HW6.out
            omega))
        have BFm := Lib.hid (BF2.out.keep HKm.out (fun a => by omega))
        have BFt := Lib.hid ((BF0.out.keep K2.out (fun a => a)).keep HKm.out (fun a => by have h2 := HBfg.out; omega))
        have HKm2 := Lib.hid ((HK.out.keep K2.out (fun _ _ _ a => a)).keep HKm.out (fun k _ a b => by have h2 := HW6.out; omega))
        have HRbm := Lib.hid (HRb2.out.keep HKm.out (fun k _ a b => by have h2 := HW6.out; omega))
        have c1p : wr.cell? ⟨q, 1, none⟩ = some (.slice Ap s.pend.length cp) := HOm.out.blk.cell 1
        by_cases hlti : i < s.pend.length
        · obtain ⟨gp, rfl, _, q0, q1, q2, _⟩ := Own.at3 HOm.out.prow hlti
          have q0' : wr.cell? ⟨gp, i * 3, none⟩ = some (.string s.pend[i].name) := q0
          have q1' : wr.cell? ⟨gp, i * 3 + 1, none⟩ = some (.int .i64 (s.pend[i].off : Int)) := q1
          have q2' : wr.cell? ⟨gp, i * 3 + 2, none⟩ = some (.int .i64 (s.pend[i].data.length : Int)) := q2
          have hE' := HE.out
          rw [List.drop_eq_getElem_cons hlti, docF] at hE'
          have HSm : Hid (sumP (s.pend.take (i + 1)) = sumP (s.pend.take i) + s.pend[i].data.length) := Lib.hid (by rw [List.take_succ_eq_append_getElem hlti, sumP_snoc])
          have hpx := HOm.out.pat s.pend[i] (List.getElem_mem hlti)
          have hok3 := HOk3.out s.pend[i] (List.getElem_mem hlti)
          have hst := sumP_take s.pend (i + 1)
          have hii : (i : Int) < (s.pend.length : Int) := by omega
          have hi0 : (0 : Int) ≤ (i : Int) := by omega
          clear q0 q1 q2 HE
          generalize s.pend[i] = x at *
          have HE' := Lib.hid hE'
          have HOk4 := Lib.hid hok3
          clear hE' hok3
          go_upto_region 11 with (fail)
          have hbw := Blk.new wr 84 #[.string x.name, .int .i64 (x.off : Int), .int .i64 (x.data.length : Int)]
          have k3 : Kept noneS wr (wr.alloc (.cells #[.string x.name, .int .i64 (x.off : Int), .int .i64 (x.data.length : Int)] 84)) := (Kept.refl _ _).alloc _
          have hz3 : wr.heap.size < (wr.alloc (.cells #[.string x.name, .int .i64 (x.off : Int), .int .i64 (x.data.length : Int)] 84)).heap.size := by simp
          have hzm := HKm.out.size
          have BW := Lib.hid hbw
          have BFm3 := Lib.hid (BFm.out.keep k3 (fun a => a))
          have BFt3 := Lib.hid (BFt.out.keep k3 (fun a => a))
          have HK3 := Lib.hid (HKm2.out.keep k3 (fun _ _ _ a => a))
          have HRb3 := Lib.hid (HRbm.out.still k3)
          have HOB3 : Hid (OB (wr.alloc (.cells #[.string x.name, .int .i64 (x.off : Int), .int .i64 (x.data.length : Int)] 84)) (fun k => W6 ≤ k ∧ k ≠ wr.heap.size) u8 bs) := Lib.hid (Own.keep (Own.mono HOB.out (G := fun k => W6 ≤ k ∧ k ≠ wr.heap.size) (fun k a b => ⟨b, by omega⟩)) k3 (fun _ _ _ a => a))
          have HO3 := Lib.hid (HOm.out.keep k3 (fun _ a => a.elim))
          have K3 := Lib.hid (HKm.out.trans2 k3 (fun _ _ a => a.elim))
          clear hbw k3 q0' q1' q2' c1p BFm BFt HKm2 HRbm HOB HOm HKm
          generalize wr.alloc (.cells #[.string x.name, .int .i64 (x.off : Int), .int .i64 (x.data.length : Int)] 84) = w3 at BW BFm3 BFt3 HK3 HRb3 HOB3 HO3 K3 hz3 ⊢
          generalize wr.heap.size = bw at BW HOB3 hz3 hzm ⊢
          have v0 : w3.cell? ⟨bw, 0, none⟩ = some (.string x.name) := BW.out.cell 0
          have v1 : w3.cell? ⟨bw, 1, none⟩ = some (.int .i64 (x.off : Int)) := BW.out.cell 1
          have v2 : w3.cell? ⟨bw, 2, none⟩ = some (.int .i64 (x.data.length : Int)) := BW.out.cell 2
          have g0 : w3.cell? ⟨bf, 0, none⟩ = some (.string f.name) := BFm3.out.cell 0
          have t0 : w3.cell? ⟨w.heap.size, 0, none⟩ = some (.slice KA keep.length kc) := BFt3.out.cell 0
          have t1 : w3.cell? ⟨w.heap.size, 1, none⟩ = some (.int .i64 tear) := BFt3.out.cell 1
          have p1 : w3.cell? ⟨q, 1, none⟩ = some (.slice (some ⟨gp, 0, none⟩) s.pend.length cp) := HO3.out.blk.cell 1
          have skip : Hid (docStep keep tear s.pend.length f.key f.data i x bs = bs → ∃ (i' : Nat) (bs' : List UInt8), i' ≤ s.pend.length ∧ Value.int .i64 ((i : Int) + 1) = .int .i64 (i' : Int) ∧ bs'.length ≤ f.data.length + sumP (s.pend.take i') ∧ Hid (OB w3 (W6 ≤ ·) u8 bs') ∧ Hid (docF keep tear s.pend.length f.key f.data i' (s.pend.drop i') bs' = docF keep tear s.pend.length f.key f.data 0 s.pend bs0) ∧ Hid (Kept (fun b => W6 ≤ b) w2 w3)) := Lib.hid (fun e => by
            have h1 := HE'.out
            rw [e] at h1
            exact ⟨i + 1, bs, by omega, by go_num, by rw [HSm.out]; omega, Lib.hid (Own.mono HOB3.out (fun k _ a => a.1)), Lib.hid h1, K3⟩)
          have hkey : ∀ a : FileS, a.key = a.name.toList := fun _ => rfl
          have hkeyx : x.key = x.name.toList := rfl
          by_cases hnm2 : x.name.toList = f.name.toList
          · have hne : (x.name.toList != f.name.toList) = false := by unfold bne; rw [beq_iff_eq.2 hnm2]; rfl
            have hbe : (x.name.toList == f.name.toList) = true := beq_iff_eq.2 hnm2
            have HNm := Lib.hid (show x.key = f.key from hnm2)
            clear hnm2 hkey hkeyx
            by_cases hkl : i < keep.length
            · obtain ⟨kg, ko, rfl, hkc⟩ := keep_cell HK3.out hkl
              have hkli : (i : Int) < (keep.length : Int) := by omega
              rcases hkb : keep.getD i false with _ | _
              · rw [hkb] at hkc
                have HSk := Lib.hid (skip.out (by unfold docStep; rw [if_neg (by rw [hkb]; simp)]))
                clear skip hkb
                go_wp2
                go_roundw
                case rel => exact HSk.out
                case measure => simp [intOf]; omega
              · rw [hkb] at hkc
                have HKb := Lib.hid hkb
                clear hkb skip
                have hx3 := HOk4.out HNm.out
                obtain ⟨N, hN⟩ : ∃ N, wrLen s.pend.length i tear x = N := ⟨_, rfl⟩
                have hNl : N ≤ x.data.length := by
                  rw [← hN]
                  unfold wrLen
                  split
                  · exact Nat.min_le_left _ _
                  · exact Nat.le_refl _
                have HN := Lib.hid hN
                obtain ⟨b0, HB0⟩ : ∃ b0 : Bool, Hid (decide (i + 1 = s.pend.length ∧ 0 ≤ tear ∧ tear < (x.data.length : Int)) = b0) := ⟨_, Lib.hid rfl⟩
                have HStep : Hid (docStep keep tear s.pend.length f.key f.data i x bs = padTo bs x.off ++ (f.data.drop x.off).take N) := Lib.hid (by unfold docStep; rw [if_pos ⟨HNm.out, HKb.out⟩, HN.out])
                clear hN
                go_upto_region 14 with (fail)
                go_cut [90] from 36 to 116 (fun v wx => v = .bool b0 ∧ w3 = wx)
                case first =>
                  by_cases h1 : i + 1 = s.pend.length
                  · have hq : ((i : Int) == (s.pend.length : Int) - 1) = true := by simp only [beq_iff_eq]; omega
                    by_cases h2 : 0 ≤ tear
                    · by_cases h3 : tear < (x.data.length : Int)
                      · go_wp2_with fail
                        go_meet
                        case rel => exact ⟨by rw [← HB0.out, decide_eq_true (p := i + 1 = s.pend.length ∧ 0 ≤ tear ∧ tear < (x.data.length : Int)) ⟨h1, h2, h3⟩], rfl⟩
                      · have h3' : decide (tear < (x.data.length : Int)) = false := decide_eq_false h3
                        go_wp2_with fail
                        go_meet
                        case rel => exact ⟨by rw [← HB0.out, decide_eq_false (p := i + 1 = s.pend.length ∧ 0 ≤ tear ∧ tear < (x.data.length : Int)) (fun e => by have := e.2.2; omega)], rfl⟩
                    · have h2' : decide (0 ≤ tear) = false := decide_eq_false h2
                      go_wp2_with fail
                      go_meet
                      case rel => exact ⟨by rw [← HB0.out, decide_eq_false (p := i + 1 = s.pend.length ∧ 0 ≤ tear ∧ tear < (x.data.length : Int)) (fun e => by have := e.2.1; omega)], rfl⟩
                  · have hq : ((i : Int) == (s.pend.length : Int) - 1) = false := by simp only [beq_eq_false_iff_ne, ne_eq]; omega
                    go_wp2_with fail
                    go_meet
                    case rel => exact ⟨by rw [← HB0.out, decide_eq_false (p := i + 1 = s.pend.length ∧ 0 ≤ tear ∧ tear < (x.data.length : Int)) (fun e => h1 e.1)], rfl⟩
                case rest =>
                  obtain ⟨rfl, rfl⟩ := hcut
                  go_upto_if 90 with (fail)
                  go_cut [11] from 36 to 116 (fun v wx => v = .int .i64 N ∧ w3 = wx)
                  case first =>
                    rcases b0 with _ | _
                    · have h1 := of_decide_eq_false HB0.out
                      have hn : x.data.length = N := by
                        rw [← HN.out]
                        unfold wrLen
                        split
                        · rename_i h2
                          have : ¬ tear < (x.data.length : Int) := fun e => h1 ⟨h2.1, h2.2, e⟩
                          omega
                        · rfl
                      clear h1
                      go_wp2_with fail
                      go_meet
                      case rel => exact ⟨by rw [hn], rfl⟩
                    · have h1 := of_decide_eq_true HB0.out
                      have hn : tear = (N : Int) := by
                        rw [← HN.out]
                        unfold wrLen
                        rw [if_pos ⟨h1.1, h1.2.1⟩]
                        omega
                      have HN2 := Lib.hid hn
                      clear h1 hn
                      go_wp2_with fail
                      go_meet
                      case rel => exact ⟨by rw [← HN2.out], rfl⟩
                  case rest =>
                    obtain ⟨rfl, rfl⟩ := hcut
                    have hlen1 : bs.length + x.data.length ≤ 140737488351232 := by
                      have h1 := HSm.out
                      omega
                    clear t0 t1 p1 hkc v2
                    go_wp2
                    go_loopw [8] (fun v wr => ∃ p : Nat, p ≤ x.off - bs.length ∧ Hid (OB wr (fun k => W6 ≤ k ∧ k ≠ bw) v (bs ++ List.replicate p 0)) ∧ Hid (Kept (fun k => W6 ≤ k ∧ k ≠ bw) w3 wr)) (fun v _ => x.off - slLen v)
                    case atStart => exact ⟨0, Nat.zero_le _, Lib.hid (by rw [List.replicate_zero, List.append_nil]; exact HOB3.out), Lib.hid (Kept.refl _ _)⟩
                    case round =>
                      obtain ⟨p, hp, HOp, HKp⟩ := hrel
                      obtain ⟨A0, cap, rfl, hcap, _⟩ := Own.form HOp.out
                      have hBW := BW.out.keep HKp.out (fun a => a.2 rfl)
                      have y1 : wr.cell? ⟨bw, 1, none⟩ = some (.int .i64 (x.off : Int)) := hBW.cell 1
                      have hcl : (bs ++ List.replicate p (0 : UInt8)).length = bs.length + p := by simp
                      obtain ⟨cur, hcur⟩ : ∃ cur, bs ++ List.replicate p (0 : UInt8) = cur := ⟨_, rfl⟩
                      have HCur := Lib.hid hcur
                      rw [hcur] at hcl HOp hcap ⊢
                      have HCL := Lib.hid hcl
                      have hcb1 : cur.length ≤ max bs.length x.off := by omega
                      clear hcur hBW hcl v1 v0
                      by_cases hlt2 : cur.length < x.off
                      · have hlt3 : (cur.length : Int) < (x.off : Int) := by omega
                        go_wp2_with (at_builtin; refine wpList_app1 rfl (.tmp 98) (.tmp 99) rfl (fun k => W6 ≤ k ∧ k ≠ bw) (.slice A0 cur.length cap) cur rfl (Own.alloc HOp.out _) wr.heap.size 0 rfl (by simp) (by omega) (by have h1 := HKp.out.size; have h2 := hz3; simp; omega) ?_; intro A3 cap1 w5 hown hcap1 hk; have HO1 := Lib.hid hown; have HK1 := Lib.hid hk; clear hown hk)
                        go_roundw
                        case rel =>
                          refine ⟨p + 1, by have := HCL.out; omega, Lib.hid ?_, Lib.hid ((HKp.out.alloc _).trans2 HK1.out (fun k a e => HOp.out.2 k e))⟩
                          rw [List.replicate_succ', ← List.append_assoc, HCur.out]
                          exact HO1.out
                        case measure => have := HCL.out; simp [slLen]; omega
                      · have hlt3 : (x.off : Int) ≤ (cur.length : Int) := by omega
                        have hpad : padTo bs x.off = cur := by
                          rw [← HCur.out]
                          unfold padTo
                          rw [show x.off - bs.length = p by have := HCL.out; omega]
                        have HPad := Lib.hid hpad
                        have hpl2 : cur.length ≤ max bs.length x.off := hcb1
                        clear hpad
                        go_wp2
                        go_loopw [8, 12] (fun v m wr => ∃ (y : Nat), y ≤ N ∧ m = .int .i64 y ∧ Hid (OB wr (fun k => W6 ≤ k ∧ k ≠ bw) v (cur ++ (f.data.drop x.off).take y)) ∧ Hid (Kept (fun k => W6 ≤ k ∧ k ≠ bw) w3 wr)) (fun _ m _ => N - (intOf m).toNat)
                        case atStart => exact ⟨0, Nat.zero_le _, rfl, Lib.hid (by rw [List.take_zero, List.append_nil]; exact HOp.out), HKp⟩
                        case round =>
                          obtain ⟨y, hy, rfl, HOy, HKy⟩ := hrel
                          clear y1 hlt3 hlt2
                          have hBW := BW.out.keep HKy.out (fun a => a.2 rfl)
                          have y1 : wr.cell? ⟨bw, 1, none⟩ = some (.int .i64 (x.off : Int)) := hBW.cell 1
                          have hbf : bf < W6 := hwr
                          have hBFy := BFm3.out.keep HKy.out (fun a => by have := a.1; omega)
                          have y2 : wr.cell? ⟨bf, 1, none⟩ = some (.slice A1 f.data.length c1) := hBFy.cell 1
                          clear hBW hBFy
                          by_cases hltn : y < N
                          · have hyf : x.off + y < f.data.length := by omega
                            have hrby := HRb3.out.keep HKy.out (fun k _ a b => by have := b.1; have h2 := HW6.out; omega)
                            obtain ⟨ga, oa, rfl, _, hxc⟩ := hrby.at_ hyf
                            have hyd : y < (f.data.drop x.off).length := by rw [List.length_drop]; omega
                            have hTy := List.take_succ_eq_append_getElem hyd
                            rw [List.getElem_drop] at hTy
                            obtain ⟨A3, cap3, rfl, hcap3, _⟩ := Own.form HOy.out
                            obtain ⟨cur2, hcur2⟩ : ∃ cur2, cur ++ (f.data.drop x.off).take y = cur2 := ⟨_, rfl⟩
                            have HTy : Hid (cur ++ (f.data.drop x.off).take (y + 1) = cur2 ++ [f.data[x.off + y]]) := Lib.hid (by rw [hTy, ← List.append_assoc, hcur2])
                            have hcl2 : cur2.length ≤ cur.length + y := by
                              rw [← hcur2, List.length_append, List.length_take]
                              omega
                            rw [hcur2] at HOy ⊢
                            have hyn : (y : Int) < (N : Int) := by omega
                            have hyi : (x.off : Int) + (y : Int) < (f.data.length : Int) := by omega
                            clear hrby hTy hcur2 hyd
                            generalize f.data[x.off + y] = bb at *
                            go_wp2_with (at_builtin; refine wpList_app1 rfl (.tmp 106) (.tmp 115) rfl (fun k => W6 ≤ k ∧ k ≠ bw) (.slice A3 cur2.length cap3) cur2 rfl (Own.alloc HOy.out _) wr.heap.size bb rfl (by simp) (by omega) (by have h1 := HKy.out.size; have h2 := hz3; simp; omega) ?_; intro A4 cap4 w5 hown hcap1 hk; have HO1 := Lib.hid hown; have HK1 := Lib.hid hk; clear hown hk)
                            go_roundw
                            case rel => exact ⟨y + 1, by omega, by go_num, Lib.hid (by rw [HTy.out]; exact HO1.out), Lib.hid ((HKy.out.alloc _).trans2 HK1.out (fun k a e => HOy.out.2 k e))⟩
                            case measure => simp [intOf]; omega
                          · obtain rfl : y = N := by omega
                            have hE2 := HE'.out
                            rw [HStep.out, HPad.out] at hE2
                            have HE2 := Lib.hid hE2
                            clear hE2
                            go_wp2
                            go_roundw
                            case rel =>
                              refine ⟨i + 1, cur ++ (f.data.drop x.off).take y, by omega, by go_num, ?_, Lib.hid (Own.mono HOy.out (fun k _ a => a.1)), HE2, Lib.hid (K3.out.trans2 HKy.out (fun k _ a => a.1))⟩
                              have h1 := HSm.out
                              have h2 : ((f.data.drop x.off).take y).length ≤ y := by rw [List.length_take]; omega
                              rw [List.length_append]
                              omega
                            case measure => simp [intOf]; omega
            · have hkli : (keep.length : Int) ≤ (i : Int) := by omega
              have HSk := Lib.hid (skip.out (by
                unfold docStep
                rw [if_neg]
                rintro ⟨_, h2⟩
                rw [List.getD_eq_getElem?_getD, List.getElem?_eq_none (by omega)] at h2
                cases h2))
              clear skip
              go_wp2
              go_roundw
              case rel => exact HSk.out
              case measure => simp [intOf]; omega
          · have hne : (x.name.toList != f.name.toList) = true := by unfold bne; rw [beq_eq_false_iff_ne.2 hnm2]; rfl
            have hbe : (x.name.toList == f.name.toList) = false := beq_eq_false_iff_ne.2 hnm2
            have HSk := Lib.hid (skip.out (by unfold docStep; rw [if_neg (fun e => hnm2 e.1)]))
            clear hnm2 skip hkey hkeyx
            go_wp2
            go_roundw
            case rel => exact HSk.out
            case measure => simp [intOf]; omega
        · obtain rfl : i = s.pend.length := by omega
          have hE := HE.out
          rw [List.drop_length, docF] at hE
          have HE2 : Hid (docOne s keep tear f = ⟨f.name, bs⟩) := Lib.hid (by rw [HFin.out, hE])
          rw [List.take_length] at hbl
          have hcl : (done.length + 1) * 40 ≤ 140737488355328 := by have := HDl.out; omega
          obtain ⟨Ab, cb, rfl, _⟩ := Own.form HOB.out
          have hFoE := HFo2.out.keep HKm.out (fun k _ a b => by omega)
          obtain ⟨A6, c6, w6, hap, fo6, k6, os6⟩ := (hFoE.mono (G := (w.heap.size < ·)) (fun _ _ a => a.1)).append f.name bs (.slice Ab bs.length cb) (Own.mono HOB.out (fun k _ a => by have h1 := HBfg.out; show w.heap.size < k; omega)) hnm (by omega) (fun k a => by have h1 := HKm.out.size; have h2 := HBfg.out; omega) hcl
          have y0 : wr.cell? ⟨bf, 0, none⟩ = some (.string f.name) := BFm.out.cell 0
          have FO6 := Lib.hid fo6
          have hown5 : ∀ k, ownS (.slice A5 done.length c5) k → w.heap.size < k := fun k a => by
            obtain ⟨css, h1, _⟩ := hFoE
            exact (h1.2 k a).1
          have K6 : Hid (Kept noneS w0 w6) := Lib.hid ((K2.out.trans2 HKm.out (fun k a b => by omega)).trans2 k6 (fun k a b => by
            have h1 := hown5 k b
            have h2 := HS0.out
            omega))
          clear k6 os6 fo6 hFoE hown5 hE HE
          go_wp2
          go_roundw
          case rel => exact ⟨j + 1, by omega, by go_num, Lib.hid (by rw [HTk.out, HDn.out, HE2.out]; exact FO6.out), K6⟩
          case measure => simp [intOf]; omega
    · obtain rfl : j = l.length := by omega
      have hfo := HFo.out
      rw [← HFl.out, List.take_length] at hfo
      obtain ⟨A3, c3, rfl, _⟩ := hfo.form
      have FO := Lib.hid hfo
      clear hfo HFo
      go_wp2
      rw [← HP.out]
      exact ⟨A3, c3, rfl, FO.out.mono (fun k _ a => Nat.le_of_lt a), KA0.out.trans HKr.out⟩

end Go.Proofs.Ytnlmkfncdklcdaa
