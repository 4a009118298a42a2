/-
  ftable.Same, sameValue, and slices.EqualFunc at fields and values.
-/
import Derived.Test.YtdhaojicphhikaaTFind
import Derived.Test.YtdhaojicphhikaaTSameP
namespace Go.Proofs.Ytdhaojicphhikaa
open Go.RowKit

/-- The contract of ftable.sameValue at v. -/
def FSV (v : FV) : Prop := ∀ (v' : FV) (A B A' B' : Option Addr) (c d c' d' : Nat) (F F' : Nat → Prop) (w : World), LAt w F A v.list → TAt w F B v.table → LAt w F' A' v'.list → TAt w F' B' v'.table → v.fit c d → v'.fit c' d' →
  Calls Try.prog 30 #[.agg #[.int .i64 v.kind, .int .i64 v.num, .string v.text, .slice A v.list.length c, .slice B v.table.length d], .agg #[.int .i64 v'.kind, .int .i64 v'.num, .string v'.text, .slice A' v'.list.length c', .slice B' v'.table.length d']] w fun e w' => e = .returned (.bool (sameV v v')) ∧ Kept noneS w w'

set_option maxHeartbeats 1600000 in
/-- ftable.Same's closure. -/
theorem same1 (f : FF) (ih : FSV f.val) (f' : FF) (A B A' B' : Option Addr) (c d c' d' : Nat) (F F' : Nat → Prop) (w : World) (hL : LAt w F A f.val.list) (hT : TAt w F B f.val.table) (hL' : LAt w F' A' f'.val.list) (hT' : TAt w F' B' f'.val.table) (hf : f.val.fit c d) (hf' : f'.val.fit c' d') :
    Calls Try.prog 29 #[.agg #[.string f.name, .int .i64 f.val.kind, .int .i64 f.val.num, .string f.val.text, .slice A f.val.list.length c, .slice B f.val.table.length d], .agg #[.string f'.name, .int .i64 f'.val.kind, .int .i64 f'.val.num, .string f'.val.text, .slice A' f'.val.list.length c', .slice B' f'.val.table.length d']] w fun e w' => e = .returned (.bool (sameF f f')) ∧ Kept noneS w w' := by
  obtain ⟨r, HR⟩ : ∃ r, Hid (sameF f f' = r) := ⟨_, Lib.hid rfl⟩
  rw [HR.out]
  have HS := Lib.hid (sameF_eq f f')
  have ka : Kept noneS w ((w.alloc (.cells #[.string f.name, .int .i64 f.val.kind, .int .i64 f.val.num, .string f.val.text, .slice A f.val.list.length c, .slice B f.val.table.length d] 34)).alloc (.cells #[.string f'.name, .int .i64 f'.val.kind, .int .i64 f'.val.num, .string f'.val.text, .slice A' f'.val.list.length c', .slice B' f'.val.table.length d'] 34)) := ((Kept.refl noneS w).alloc _).alloc _
  have L1 := Lib.hid (hL.still ka)
  have T1 := Lib.hid (hT.still ka)
  have L2 := Lib.hid (hL'.still ka)
  have T2 := Lib.hid (hT'.still ka)
  have F1 := Lib.hid hf
  have F2 := Lib.hid hf'
  have IH := Lib.hid ih
  have KA := Lib.hid ka
  clear hL hT hL' hT' hf hf' ka ih
  rcases q : (f.name.toList == f'.name.toList) with _ | _
  · obtain rfl : r = false := by rw [← HR.out, HS.out, q]; rfl
    clear HR HS
    go_enter Try.func29, Try.ntmps29
    go_wp2
    go_ret
    exact ⟨rfl, KA.out⟩
  · have HS' : Hid (sameV f.val f'.val = r) := Lib.hid (by rw [← HR.out, HS.out, q]; rfl)
    clear HR HS
    go_enter Try.func29, Try.ntmps29
    go_wp2_with fail
    refine (IH.out f'.val A B A' B' c d c' d' F F' _ L1.out T1.out L2.out T2.out F1.out F2.out).mono ?_
    rw [HS'.out]
    rintro e w1 ⟨rfl, k1⟩
    have K1 := Lib.hid (KA.out.trans k1)
    clear k1
    go_wp2
    go_ret
    exact ⟨rfl, K1.out⟩

set_option maxHeartbeats 1600000 in
theorem eqF (t : List FF) (ih : ∀ f ∈ t, FSV f.val) (t' : List FF) (A A' : Option Addr) (c c' : Nat) (F F' : Nat → Prop) (w : World) (h : TAt w F A t) (h' : TAt w F' A' t') (_hl : t.length * 96 ≤ 140737488351232) (hl' : t'.length * 96 ≤ 140737488351232) :
    Calls Try.prog 28 #[.slice A t.length c, .slice A' t'.length c', .func (.func 29) #[] #[]] w fun e w' => e = .returned (.bool (sameFs t t')) ∧ Kept noneS w w' := by
  obtain ⟨r, HR⟩ : ∃ r, Hid (sameFs t t' = r) := ⟨_, Lib.hid rfl⟩
  rw [HR.out]
  have HT := Lib.hid h
  have HT' := Lib.hid h'
  have IH := Lib.hid ih
  clear h h' ih
  by_cases hne : t.length = t'.length
  · have HNE := Lib.hid hne
    have hq : ((t.length : Int) != (t'.length : Int)) = false := by rw [hne]; simp
    have hle : t.length ≤ t'.length := by omega
    clear hne
    go_enter Try.func28, Try.ntmps28
    go_wp2
    go_loopw [17] (fun i wr => ∃ j : Nat, j ≤ t.length ∧ i = .int .i64 j ∧ Hid (∀ k (h : k < j) (a : k < t.length) (b : k < t'.length), sameF t[k] t'[k] = true) ∧ Kept noneS w wr) (fun i _ => t.length - (intOf i).toNat)
    case atStart => exact ⟨0, Nat.zero_le _, rfl, Lib.hid (fun k h => by omega), Kept.refl _ _⟩
    case round =>
      obtain ⟨j, hj, rfl, HN, hk⟩ := hrel
      have KR := Lib.hid hk
      clear hk
      by_cases hlt : j < t.length
      · obtain ⟨g, o, B1, c1, B2, c2, rfl, _, _, hf1, hL1, hT1, d0, d1, d2, d3, d4, d5⟩ := (HT.out.still KR.out).at_ hlt
        obtain ⟨g', o', B1', c1', B2', c2', rfl, _, _, hf2, hL2, hT2, e0, e1, e2, e3, e4, e5⟩ := (HT'.out.still KR.out).at_ (show j < t'.length by omega)
        have HI := Lib.hid (IH.out t[j] (List.getElem_mem hlt))
        have HF : Hid (sameF t[j] (t'[j]'(by omega)) = false → r = false) := Lib.hid (fun q => by rw [← HR.out]; exact sameFs_false t t' j hlt (by omega) q)
        have HG : Hid (sameF t[j] (t'[j]'(by omega)) = true → ∀ k (h : k < j + 1) (a : k < t.length) (b : k < t'.length), sameF t[k] t'[k] = true) := Lib.hid (fun q k h a b => by
          rcases Nat.lt_or_ge k j with hk | hk
          · exact HN.out k hk a b
          · obtain rfl : k = j := by omega
            exact q)
        generalize t[j] = f at *
        generalize (t'[j]'(by omega)) = f' at *
        have hjb : j < t'.length := by omega
        have hb1 := lt_of_cell d0
        have hb2 := lt_of_cell e0
        have HL1 := Lib.hid hL1
        have HT1 := Lib.hid hT1
        have HL2 := Lib.hid hL2
        have HT2 := Lib.hid hT2
        have HF1 := Lib.hid hf1
        have HF2 := Lib.hid hf2
        clear hL1 hT1 hL2 hT2 hf1 hf2
        go_wp2_with fail
        refine (same1 f HI.out f' B1 B2 B1' B2' c1 c2 c1' c2' F F' _ (HL1.out.still (((Kept.refl _ _).alloc _).alloc _)) (HT1.out.still (((Kept.refl _ _).alloc _).alloc _)) (HL2.out.still (((Kept.refl _ _).alloc _).alloc _)) (HT2.out.still (((Kept.refl _ _).alloc _).alloc _)) HF1.out HF2.out).mono ?_
        rintro e w1 ⟨rfl, k1⟩
        have K1 := Lib.hid ((((Kept.refl noneS wr).alloc _).alloc _).trans k1)
        clear k1
        generalize sameF f f' = sb at HF HG ⊢
        rcases sb with _ | _
        · obtain rfl : r = false := HF.out rfl
          clear HF HG HR
          go_wp2
          go_ret
          exact ⟨rfl, KR.out.trans K1.out⟩
        · have HG' := Lib.hid (HG.out rfl)
          clear HF HG
          go_wp2
          go_roundw
          case rel => exact ⟨j + 1, by omega, by go_num, HG', KR.out.trans K1.out⟩
          case measure => simp [intOf]; omega
      · obtain rfl : j = t.length := by omega
        have hr : r = true := by rw [← HR.out]; exact sameFs_true t t' HNE.out (fun k a b => HN.out k a a b)
        subst hr
        clear HR
        go_wp2
        go_ret
        exact ⟨rfl, KR.out⟩
  · have hr : r = false := by rw [← HR.out]; exact sameFs_len t t' hne
    subst hr
    have hq : ((t.length : Int) != (t'.length : Int)) = true := by simp only [bne_iff_ne, ne_eq]; omega
    clear HR hne
    go_enter Try.func28, Try.ntmps28
    go_wp2
    go_ret
    exact ⟨rfl, Kept.refl _ _⟩

set_option maxHeartbeats 1600000 in
theorem eqV (t : List FV) (ih : ∀ f ∈ t, FSV f) (t' : List FV) (A A' : Option Addr) (c c' : Nat) (F F' : Nat → Prop) (w : World) (h : LAt w F A t) (h' : LAt w F' A' t') (_hl : t.length * 80 ≤ 140737488351232) (hl' : t'.length * 80 ≤ 140737488351232) :
    Calls Try.prog 36 #[.slice A t.length c, .slice A' t'.length c', .func (.func 30) #[] #[]] w fun e w' => e = .returned (.bool (sameVs t t')) ∧ Kept noneS w w' := by
  obtain ⟨r, HR⟩ : ∃ r, Hid (sameVs t t' = r) := ⟨_, Lib.hid rfl⟩
  rw [HR.out]
  have HT := Lib.hid h
  have HT' := Lib.hid h'
  have IH := Lib.hid ih
  clear h h' ih
  by_cases hne : t.length = t'.length
  · have HNE := Lib.hid hne
    have hq : ((t.length : Int) != (t'.length : Int)) = false := by rw [hne]; simp
    have hle : t.length ≤ t'.length := by omega
    clear hne
    go_enter Try.func36, Try.ntmps36
    go_wp2
    go_loopw [17] (fun i wr => ∃ j : Nat, j ≤ t.length ∧ i = .int .i64 j ∧ Hid (∀ k (h : k < j) (a : k < t.length) (b : k < t'.length), sameV t[k] t'[k] = true) ∧ Kept noneS w wr) (fun i _ => t.length - (intOf i).toNat)
    case atStart => exact ⟨0, Nat.zero_le _, rfl, Lib.hid (fun k h => by omega), Kept.refl _ _⟩
    case round =>
      obtain ⟨j, hj, rfl, HN, hk⟩ := hrel
      have KR := Lib.hid hk
      clear hk
      by_cases hlt : j < t.length
      · obtain ⟨g, o, B1, c1, B2, c2, rfl, _, hf1, hL1, hT1, d0, d1, d2, d3, d4⟩ := (HT.out.still KR.out).at_ hlt
        obtain ⟨g', o', B1', c1', B2', c2', rfl, _, hf2, hL2, hT2, e0, e1, e2, e3, e4⟩ := (HT'.out.still KR.out).at_ (show j < t'.length by omega)
        have HI := Lib.hid (IH.out t[j] (List.getElem_mem hlt))
        have HF : Hid (sameV t[j] (t'[j]'(by omega)) = false → r = false) := Lib.hid (fun q => by rw [← HR.out]; exact sameVs_false t t' j hlt (by omega) q)
        have HG : Hid (sameV t[j] (t'[j]'(by omega)) = true → ∀ k (h : k < j + 1) (a : k < t.length) (b : k < t'.length), sameV t[k] t'[k] = true) := Lib.hid (fun q k h a b => by
          rcases Nat.lt_or_ge k j with hk | hk
          · exact HN.out k hk a b
          · obtain rfl : k = j := by omega
            exact q)
        generalize t[j] = f at *
        generalize (t'[j]'(by omega)) = f' at *
        have hjb : j < t'.length := by omega
        have hb1 := lt_of_cell d0
        have hb2 := lt_of_cell e0
        have HL1 := Lib.hid hL1
        have HT1 := Lib.hid hT1
        have HL2 := Lib.hid hL2
        have HT2 := Lib.hid hT2
        have HF1 := Lib.hid hf1
        have HF2 := Lib.hid hf2
        clear hL1 hT1 hL2 hT2 hf1 hf2
        go_wp2_with fail
        refine (HI.out f' B1 B2 B1' B2' c1 c2 c1' c2' F F' _ (HL1.out.still (((Kept.refl _ _).alloc _).alloc _)) (HT1.out.still (((Kept.refl _ _).alloc _).alloc _)) (HL2.out.still (((Kept.refl _ _).alloc _).alloc _)) (HT2.out.still (((Kept.refl _ _).alloc _).alloc _)) HF1.out HF2.out).mono ?_
        rintro e w1 ⟨rfl, k1⟩
        have K1 := Lib.hid ((((Kept.refl noneS wr).alloc _).alloc _).trans k1)
        clear k1
        generalize sameV f f' = sb at HF HG ⊢
        rcases sb with _ | _
        · obtain rfl : r = false := HF.out rfl
          clear HF HG HR
          go_wp2
          go_ret
          exact ⟨rfl, KR.out.trans K1.out⟩
        · have HG' := Lib.hid (HG.out rfl)
          clear HF HG
          go_wp2
          go_roundw
          case rel => exact ⟨j + 1, by omega, by go_num, HG', KR.out.trans K1.out⟩
          case measure => simp [intOf]; omega
      · obtain rfl : j = t.length := by omega
        have hr : r = true := by rw [← HR.out]; exact sameVs_true t t' HNE.out (fun k a b => HN.out k a a b)
        subst hr
        clear HR
        go_wp2
        go_ret
        exact ⟨rfl, KR.out⟩
  · have hr : r = false := by rw [← HR.out]; exact sameVs_len t t' hne
    subst hr
    have hq : ((t.length : Int) != (t'.length : Int)) = true := by simp only [bne_iff_ne, ne_eq]; omega
    clear HR hne
    go_enter Try.func36, Try.ntmps36
    go_wp2
    go_ret
    exact ⟨rfl, Kept.refl _ _⟩

set_option maxHeartbeats 1600000 in
theorem ftSameT (t : List FF) (ih : ∀ f ∈ t, FSV f.val) (t' : List FF) (A A' : Option Addr) (c c' : Nat) (F F' : Nat → Prop) (w : World) (h : TAt w F A t) (h' : TAt w F' A' t') (hl : t.length * 96 ≤ 140737488351232) (hl' : t'.length * 96 ≤ 140737488351232) :
    Calls Try.prog 24 #[.slice A t.length c, .slice A' t'.length c'] w fun e w' => e = .returned (.bool (sameFs t t')) ∧ Kept noneS w w' := by
  obtain ⟨r, HR⟩ : ∃ r, Hid (sameFs t t' = r) := ⟨_, Lib.hid rfl⟩
  rw [HR.out]
  have HT := Lib.hid h
  have HT' := Lib.hid h'
  have IH := Lib.hid ih
  clear h h' ih
  go_enter Try.func24, Try.ntmps24
  go_wp2_with fail
  refine (eqF t IH.out t' A A' c c' F F' w HT.out HT'.out hl hl').mono ?_
  rw [HR.out]
  rintro e w1 ⟨rfl, k1⟩
  have K1 := Lib.hid k1
  clear k1
  go_wp2
  go_ret
  exact ⟨rfl, K1.out⟩

set_option maxHeartbeats 3200000 in
theorem ftSameV (v : FV) (ihl : ∀ x ∈ v.list, FSV x) (iht : ∀ f ∈ v.table, FSV f.val) : FSV v := by
  intro v' A B A' B' c d c' d' F F' w hL hT hL' hT' hf hf'
  obtain ⟨r, HR⟩ : ∃ r, Hid (sameV v v' = r) := ⟨_, Lib.hid rfl⟩
  rw [HR.out]
  have HS := Lib.hid (sameV_eq v v')
  have IHL := Lib.hid ihl
  have IHT := Lib.hid iht
  obtain ⟨⟨_, _⟩, ⟨_, _⟩, ht, hlc, hcb, htd, hdb, _, _⟩ := hf
  obtain ⟨⟨_, _⟩, ⟨_, _⟩, ht', hlc', hcb', htd', hdb', _, _⟩ := hf'
  have ka : Kept noneS w ((w.alloc (.cells #[.int .i64 v.kind, .int .i64 v.num, .string v.text, .slice A v.list.length c, .slice B v.table.length d] 32)).alloc (.cells #[.int .i64 v'.kind, .int .i64 v'.num, .string v'.text, .slice A' v'.list.length c', .slice B' v'.table.length d'] 32)) := ((Kept.refl noneS w).alloc _).alloc _
  have L1 := Lib.hid (hL.still ka)
  have T1 := Lib.hid (hT.still ka)
  have L2 := Lib.hid (hL'.still ka)
  have T2 := Lib.hid (hT'.still ka)
  have KA := Lib.hid ka
  clear hL hT hL' hT' ka ihl iht
  rcases q1 : (v.kind == v'.kind) with _ | _
  · obtain rfl : r = false := by rw [← HR.out, HS.out, q1]; rfl
    clear HR HS
    go_enter Try.func30, Try.ntmps30
    go_wp2_with fail
    go_ret
    exact ⟨rfl, KA.out⟩
  rcases q2 : (v.num == v'.num) with _ | _
  · obtain rfl : r = false := by rw [← HR.out, HS.out, q1, q2]; rfl
    clear HR HS
    go_enter Try.func30, Try.ntmps30
    go_wp2_with fail
    go_ret
    exact ⟨rfl, KA.out⟩
  rcases q3 : (v.text.toList == v'.text.toList) with _ | _
  · obtain rfl : r = false := by rw [← HR.out, HS.out, q1, q2, q3]; rfl
    clear HR HS
    go_enter Try.func30, Try.ntmps30
    go_wp2_with fail
    go_ret
    exact ⟨rfl, KA.out⟩
  have BK := Lib.hid ((Blk.new w 32 #[.int .i64 v.kind, .int .i64 v.num, .string v.text, .slice A v.list.length c, .slice B v.table.length d]).alloc (.cells #[.int .i64 v'.kind, .int .i64 v'.num, .string v'.text, .slice A' v'.list.length c', .slice B' v'.table.length d'] 32))
  have BK' := Lib.hid (Blk.new (w.alloc (.cells #[.int .i64 v.kind, .int .i64 v.num, .string v.text, .slice A v.list.length c, .slice B v.table.length d] 32)) 32 #[.int .i64 v'.kind, .int .i64 v'.num, .string v'.text, .slice A' v'.list.length c', .slice B' v'.table.length d'])
  have e1 : (w.alloc (.cells #[.int .i64 v.kind, .int .i64 v.num, .string v.text, .slice A v.list.length c, .slice B v.table.length d] 32)).heap.size = w.heap.size + 1 := by simp
  rw [e1] at BK'
  clear e1
  have HS' : Hid ((sameVs v.list v'.list && sameFs v.table v'.table) = r) := Lib.hid (by rw [← HR.out, HS.out, q1, q2, q3]; rfl)
  clear HS HR
  rcases q4 : sameVs v.list v'.list with _ | _
  · obtain rfl : r = false := by rw [← HS'.out, q4]; rfl
    clear HS'
    go_enter Try.func30, Try.ntmps30
    go_wp2_with fail
    refine (eqV v.list IHL.out v'.list A A' c c' F F' _ L1.out L2.out (by omega) (by omega)).mono ?_
    rw [q4]
    rintro e w1 ⟨rfl, k1⟩
    have K1 := Lib.hid (KA.out.trans k1)
    clear k1
    go_wp2
    go_ret
    exact ⟨rfl, K1.out⟩
  · have HS5 : Hid (sameFs v.table v'.table = r) := Lib.hid (by rw [← HS'.out, q4]; rfl)
    clear HS'
    go_enter Try.func30, Try.ntmps30
    go_wp2_with fail
    refine (eqV v.list IHL.out v'.list A A' c c' F F' _ L1.out L2.out (by omega) (by omega)).mono ?_
    rw [q4]
    rintro e w1 ⟨rfl, k1⟩
    have s4 : w1.cell? ⟨w.heap.size, 4, none⟩ = some (.slice B v.table.length d) := (BK.out.keep k1 (fun q => q)).cell 4
    have s4' : w1.cell? ⟨w.heap.size + 1, 4, none⟩ = some (.slice B' v'.table.length d') := (BK'.out.keep k1 (fun q => q)).cell 4
    have K1 := Lib.hid (KA.out.trans k1)
    have T1' := Lib.hid (T1.out.still k1)
    have T2' := Lib.hid (T2.out.still k1)
    clear k1 T1 T2 BK BK'
    go_wp2_with fail
    refine (ftSameT v.table IHT.out v'.table B B' d d' F F' _ T1'.out T2'.out (by omega) (by omega)).mono ?_
    rw [HS5.out]
    rintro e w2 ⟨rfl, k2⟩
    have K2 := Lib.hid (K1.out.trans k2)
    clear k2
    go_wp2
    go_ret
    exact ⟨rfl, K2.out⟩

theorem fsv_all : ∀ (n : Nat) (v : FV), v.sz ≤ n → FSV v
  | 0, v, h => by
    have := v.sz_eq
    omega
  | n + 1, v, h => by
    have hs := v.sz_eq
    refine ftSameV v (fun x hx => fsv_all n x ?_) (fun f hf => fsv_all n f.val ?_)
    · have := szVs_mem _ x hx
      omega
    · have := szFs_mem _ f hf
      omega
theorem fsv (v : FV) : FSV v := fsv_all v.sz v (Nat.le_refl _)

end Go.Proofs.Ytdhaojicphhikaa
