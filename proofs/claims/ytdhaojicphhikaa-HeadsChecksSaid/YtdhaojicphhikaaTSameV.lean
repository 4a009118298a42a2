/-
  warrenref03.sameValue, and Same at every table.
-/
import Derived.Test.YtdhaojicphhikaaTSame
namespace Go.Proofs.Ytdhaojicphhikaa
open Go.RowKit

set_option maxHeartbeats 1600000 in
theorem refSameV (v : FV) (ihl : ∀ x ∈ v.list, RSV x) (iht : ∀ f ∈ v.table, RSV f.val) : RSV v := by
  intro v' A B A' B' c d c' d' F F' w hL hT hL' hT' hf hf'
  obtain ⟨r, HR⟩ : ∃ r, Hid (sameV v v' = r) := ⟨_, Lib.hid rfl⟩
  rw [HR.out]
  have HS := Lib.hid (sameV_eq v v')
  have IHL := Lib.hid ihl
  have IHT := Lib.hid iht
  obtain ⟨⟨_, _⟩, ⟨_, _⟩, ht, hlc, hcb, htd, hdb, _, _⟩ := hf
  obtain ⟨⟨_, _⟩, ⟨_, _⟩, ht', hlc', hcb', htd', hdb', _, _⟩ := hf'
  have ka : Kept noneS w ((w.alloc (.cells #[.int .i64 v.kind, .int .i64 v.num, .string v.text, .slice A v.list.length c, .slice B v.table.length d] 32)).alloc (.cells #[.int .i64 v'.kind, .int .i64 v'.num, .string v'.text, .slice A' v'.list.length c', .slice B' v'.table.length d'] 32)) := ((Kept.refl noneS w).alloc _).alloc _
  have L1 := Lib.hid (hL.still ka)
  have T1 := Lib.hid (hT.still ka)
  have L2 := Lib.hid (hL'.still ka)
  have T2 := Lib.hid (hT'.still ka)
  have KA := Lib.hid ka
  clear hL hT hL' hT' ka ihl iht
  have hd : ∀ (a b : Int), (a == b) = false → (a != b) = true := fun a b h => by simp [bne, h]
  rcases q1 : (v.kind == v'.kind) with _ | _
  · have hr : r = false := by rw [← HR.out, HS.out, q1]; rfl
    subst hr
    have q1' := hd _ _ q1
    clear HR HS hd
    go_enter Try.func18, Try.ntmps18
    go_wp2
    go_ret
    exact ⟨rfl, KA.out⟩
  have q1' : (v.kind != v'.kind) = false := by simp [bne, q1]
  rcases q2 : (v.num == v'.num) with _ | _
  · have hr : r = false := by rw [← HR.out, HS.out, q1, q2]; rfl
    subst hr
    have q2' := hd _ _ q2
    clear HR HS hd
    go_enter Try.func18, Try.ntmps18
    go_wp2
    go_ret
    exact ⟨rfl, KA.out⟩
  have q2' : (v.num != v'.num) = false := by simp [bne, q2]
  rcases q3 : (v.text.toList == v'.text.toList) with _ | _
  · have hr : r = false := by rw [← HR.out, HS.out, q1, q2, q3]; rfl
    subst hr
    clear HR HS hd
    go_enter Try.func18, Try.ntmps18
    go_wp2
    go_ret
    exact ⟨rfl, KA.out⟩
  have HS' : Hid (sameV v v' = (sameVs v.list v'.list && sameFs v.table v'.table)) := Lib.hid (by rw [HS.out, q1, q2, q3]; rfl)
  clear HS
  by_cases hne : v.list.length = v'.list.length
  · have HNE := Lib.hid hne
    have hle : v.list.length ≤ v'.list.length := by omega
    have q4 : ((v.list.length : Int) != (v'.list.length : Int)) = false := by rw [hne]; simp
    clear hne hd
    have BK := Lib.hid ((Blk.new w 32 #[.int .i64 v.kind, .int .i64 v.num, .string v.text, .slice A v.list.length c, .slice B v.table.length d]).alloc (.cells #[.int .i64 v'.kind, .int .i64 v'.num, .string v'.text, .slice A' v'.list.length c', .slice B' v'.table.length d'] 32))
    have BK' := Lib.hid (Blk.new (w.alloc (.cells #[.int .i64 v.kind, .int .i64 v.num, .string v.text, .slice A v.list.length c, .slice B v.table.length d] 32)) 32 #[.int .i64 v'.kind, .int .i64 v'.num, .string v'.text, .slice A' v'.list.length c', .slice B' v'.table.length d'])
    have e1 : (w.alloc (.cells #[.int .i64 v.kind, .int .i64 v.num, .string v.text, .slice A v.list.length c, .slice B v.table.length d] 32)).heap.size = w.heap.size + 1 := by simp
    rw [e1] at BK'
    clear e1
    go_enter Try.func18, Try.ntmps18
    go_wp2
    generalize (w.alloc (.cells #[.int .i64 v.kind, .int .i64 v.num, .string v.text, .slice A v.list.length c, .slice B v.table.length d] 32)).alloc (.cells #[.int .i64 v'.kind, .int .i64 v'.num, .string v'.text, .slice A' v'.list.length c', .slice B' v'.table.length d'] 32) = wb at L1 T1 L2 T2 KA BK BK' ⊢
    generalize w.heap.size + 1 = bo' at BK' ⊢
    generalize w.heap.size = bo at BK ⊢
    go_loopw [5] (fun i wr => ∃ j : Nat, j ≤ v.list.length ∧ i = .int .i64 j ∧ Hid (∀ k (h : k < j) (a : k < v.list.length) (b : k < v'.list.length), sameV v.list[k] v'.list[k] = true) ∧ Kept noneS wb wr) (fun i _ => v.list.length - (intOf i).toNat)
    case atStart => exact ⟨0, Nat.zero_le _, rfl, Lib.hid (fun k h => by omega), Kept.refl _ _⟩
    case round =>
      obtain ⟨j, hj, rfl, HN, hk⟩ := hrel
      have KR := Lib.hid hk
      have BR := Lib.hid (BK.out.keep hk (fun q => q))
      have BR' := Lib.hid (BK'.out.keep hk (fun q => q))
      clear hk
      have s3 : wr.cell? ⟨bo, 3, none⟩ = some (.slice A v.list.length c) := BR.out.cell 3
      have s3' : wr.cell? ⟨bo', 3, none⟩ = some (.slice A' v'.list.length c') := BR'.out.cell 3
      by_cases hlt : j < v.list.length
      · obtain ⟨g, o, B1, c1, B2, c2, rfl, _, hf1, hL1, hT1, d0, d1, d2, d3, d4⟩ := (L1.out.still KR.out).at_ hlt
        obtain ⟨g', o', B1', c1', B2', c2', rfl, _, hf2, hL2, hT2, e0, e1, e2, e3, e4⟩ := (L2.out.still KR.out).at_ (show j < v'.list.length by omega)
        have HI := Lib.hid (IHL.out v.list[j] (List.getElem_mem hlt))
        have HF : Hid (sameV v.list[j] (v'.list[j]'(by omega)) = false → r = false) := Lib.hid (fun q => by rw [← HR.out, HS'.out, sameVs_false _ _ j hlt (by omega) q]; rfl)
        have HG : Hid (sameV v.list[j] (v'.list[j]'(by omega)) = true → ∀ k (h : k < j + 1) (a : k < v.list.length) (b : k < v'.list.length), sameV v.list[k] v'.list[k] = true) := Lib.hid (fun q k h a b => by
          rcases Nat.lt_or_ge k j with hk | hk
          · exact HN.out k hk a b
          · obtain rfl : k = j := by omega
            exact q)
        generalize v.list[j] = x at *
        generalize (v'.list[j]'(by omega)) = x' at *
        have hji : (j : Int) < (v.list.length : Int) := by omega
        have hji' : (j : Int) < (v'.list.length : Int) := by omega
        have hjb : j < v'.list.length := by omega
        have hj0 : (0 : Int) ≤ (j : Int) := by omega
        have HL1 := Lib.hid hL1
        have HT1 := Lib.hid hT1
        have HL2 := Lib.hid hL2
        have HT2 := Lib.hid hT2
        have HF1 := Lib.hid hf1
        have HF2 := Lib.hid hf2
        clear hL1 hT1 hL2 hT2 hf1 hf2
        rcases hv : sameV x x' with _ | _
        · have hr : r = false := HF.out hv
          subst hr
          clear HF HG HR
          go_wp2
          go_region_held3 (fun W => W.cell? ⟨bo, 3, none⟩ = some (.slice (some ⟨g, o, none⟩) v.list.length c) ∧ W.cell? ⟨bo', 3, none⟩ = some (.slice (some ⟨g', o', none⟩) v'.list.length c') ∧ W.cell? ⟨g, o + j * 5, none⟩ = some (.int .i64 x.kind) ∧ W.cell? ⟨g, o + j * 5 + 1, none⟩ = some (.int .i64 x.num) ∧ W.cell? ⟨g, o + j * 5 + 2, none⟩ = some (.string x.text) ∧ W.cell? ⟨g, o + j * 5 + 3, none⟩ = some (.slice B1 x.list.length c1) ∧ W.cell? ⟨g, o + j * 5 + 4, none⟩ = some (.slice B2 x.table.length c2) ∧ W.cell? ⟨g', o' + j * 5, none⟩ = some (.int .i64 x'.kind) ∧ W.cell? ⟨g', o' + j * 5 + 1, none⟩ = some (.int .i64 x'.num) ∧ W.cell? ⟨g', o' + j * 5 + 2, none⟩ = some (.string x'.text) ∧ W.cell? ⟨g', o' + j * 5 + 3, none⟩ = some (.slice B1' x'.list.length c1') ∧ W.cell? ⟨g', o' + j * 5 + 4, none⟩ = some (.slice B2' x'.table.length c2'))
            (first | exact ⟨s3, s3', d0, d1, d2, d3, d4, e0, e1, e2, e3, e4⟩ | exact SS.out)
            (first | (go_at_call 18; refine (HI.out x' B1 B2 B1' B2' c1 c2 c1' c2' F F' wr.drew (HL1.out.still (Kept.refl _ _).drew) (HT1.out.still (Kept.refl _ _).drew) (HL2.out.still (Kept.refl _ _).drew) (HT2.out.still (Kept.refl _ _).drew) HF1.out HF2.out).mono ?_; rw [hv]; rintro e wg ⟨rfl, kg0⟩; have kg : Kept noneS wr wg := ((Kept.refl noneS wr).drew).trans kg0; have SS : Hid (wg.cell? ⟨bo, 3, none⟩ = some (.slice (some ⟨g, o, none⟩) v.list.length c) ∧ wg.cell? ⟨bo', 3, none⟩ = some (.slice (some ⟨g', o', none⟩) v'.list.length c') ∧ wg.cell? ⟨g, o + j * 5, none⟩ = some (.int .i64 x.kind) ∧ wg.cell? ⟨g, o + j * 5 + 1, none⟩ = some (.int .i64 x.num) ∧ wg.cell? ⟨g, o + j * 5 + 2, none⟩ = some (.string x.text) ∧ wg.cell? ⟨g, o + j * 5 + 3, none⟩ = some (.slice B1 x.list.length c1) ∧ wg.cell? ⟨g, o + j * 5 + 4, none⟩ = some (.slice B2 x.table.length c2) ∧ wg.cell? ⟨g', o' + j * 5, none⟩ = some (.int .i64 x'.kind) ∧ wg.cell? ⟨g', o' + j * 5 + 1, none⟩ = some (.int .i64 x'.num) ∧ wg.cell? ⟨g', o' + j * 5 + 2, none⟩ = some (.string x'.text) ∧ wg.cell? ⟨g', o' + j * 5 + 3, none⟩ = some (.slice B1' x'.list.length c1') ∧ wg.cell? ⟨g', o' + j * 5 + 4, none⟩ = some (.slice B2' x'.table.length c2')) := Lib.hid ⟨(kg.cell (p := ⟨_, _, none⟩) (lt_of_cell s3) (fun q => q)).trans s3, (kg.cell (p := ⟨_, _, none⟩) (lt_of_cell s3') (fun q => q)).trans s3', (kg.cell (p := ⟨_, _, none⟩) (lt_of_cell d0) (fun q => q)).trans d0, (kg.cell (p := ⟨_, _, none⟩) (lt_of_cell d1) (fun q => q)).trans d1, (kg.cell (p := ⟨_, _, none⟩) (lt_of_cell d2) (fun q => q)).trans d2, (kg.cell (p := ⟨_, _, none⟩) (lt_of_cell d3) (fun q => q)).trans d3, (kg.cell (p := ⟨_, _, none⟩) (lt_of_cell d4) (fun q => q)).trans d4, (kg.cell (p := ⟨_, _, none⟩) (lt_of_cell e0) (fun q => q)).trans e0, (kg.cell (p := ⟨_, _, none⟩) (lt_of_cell e1) (fun q => q)).trans e1, (kg.cell (p := ⟨_, _, none⟩) (lt_of_cell e2) (fun q => q)).trans e2, (kg.cell (p := ⟨_, _, none⟩) (lt_of_cell e3) (fun q => q)).trans e3, (kg.cell (p := ⟨_, _, none⟩) (lt_of_cell e4) (fun q => q)).trans e4⟩; have KG := Lib.hid kg; clear kg kg0))
          go_wp2
          go_ret
          exact ⟨rfl, (KA.out.trans KR.out).trans KG.out⟩
        · have HG' := Lib.hid (HG.out hv)
          clear HF HG
          go_wp2
          go_region_held3 (fun W => W.cell? ⟨bo, 3, none⟩ = some (.slice (some ⟨g, o, none⟩) v.list.length c) ∧ W.cell? ⟨bo', 3, none⟩ = some (.slice (some ⟨g', o', none⟩) v'.list.length c') ∧ W.cell? ⟨g, o + j * 5, none⟩ = some (.int .i64 x.kind) ∧ W.cell? ⟨g, o + j * 5 + 1, none⟩ = some (.int .i64 x.num) ∧ W.cell? ⟨g, o + j * 5 + 2, none⟩ = some (.string x.text) ∧ W.cell? ⟨g, o + j * 5 + 3, none⟩ = some (.slice B1 x.list.length c1) ∧ W.cell? ⟨g, o + j * 5 + 4, none⟩ = some (.slice B2 x.table.length c2) ∧ W.cell? ⟨g', o' + j * 5, none⟩ = some (.int .i64 x'.kind) ∧ W.cell? ⟨g', o' + j * 5 + 1, none⟩ = some (.int .i64 x'.num) ∧ W.cell? ⟨g', o' + j * 5 + 2, none⟩ = some (.string x'.text) ∧ W.cell? ⟨g', o' + j * 5 + 3, none⟩ = some (.slice B1' x'.list.length c1') ∧ W.cell? ⟨g', o' + j * 5 + 4, none⟩ = some (.slice B2' x'.table.length c2'))
            (first | exact ⟨s3, s3', d0, d1, d2, d3, d4, e0, e1, e2, e3, e4⟩ | exact SS.out)
            (first | (go_at_call 18; refine (HI.out x' B1 B2 B1' B2' c1 c2 c1' c2' F F' wr.drew (HL1.out.still (Kept.refl _ _).drew) (HT1.out.still (Kept.refl _ _).drew) (HL2.out.still (Kept.refl _ _).drew) (HT2.out.still (Kept.refl _ _).drew) HF1.out HF2.out).mono ?_; rw [hv]; rintro e wg ⟨rfl, kg0⟩; have kg : Kept noneS wr wg := ((Kept.refl noneS wr).drew).trans kg0; have SS : Hid (wg.cell? ⟨bo, 3, none⟩ = some (.slice (some ⟨g, o, none⟩) v.list.length c) ∧ wg.cell? ⟨bo', 3, none⟩ = some (.slice (some ⟨g', o', none⟩) v'.list.length c') ∧ wg.cell? ⟨g, o + j * 5, none⟩ = some (.int .i64 x.kind) ∧ wg.cell? ⟨g, o + j * 5 + 1, none⟩ = some (.int .i64 x.num) ∧ wg.cell? ⟨g, o + j * 5 + 2, none⟩ = some (.string x.text) ∧ wg.cell? ⟨g, o + j * 5 + 3, none⟩ = some (.slice B1 x.list.length c1) ∧ wg.cell? ⟨g, o + j * 5 + 4, none⟩ = some (.slice B2 x.table.length c2) ∧ wg.cell? ⟨g', o' + j * 5, none⟩ = some (.int .i64 x'.kind) ∧ wg.cell? ⟨g', o' + j * 5 + 1, none⟩ = some (.int .i64 x'.num) ∧ wg.cell? ⟨g', o' + j * 5 + 2, none⟩ = some (.string x'.text) ∧ wg.cell? ⟨g', o' + j * 5 + 3, none⟩ = some (.slice B1' x'.list.length c1') ∧ wg.cell? ⟨g', o' + j * 5 + 4, none⟩ = some (.slice B2' x'.table.length c2')) := Lib.hid ⟨(kg.cell (p := ⟨_, _, none⟩) (lt_of_cell s3) (fun q => q)).trans s3, (kg.cell (p := ⟨_, _, none⟩) (lt_of_cell s3') (fun q => q)).trans s3', (kg.cell (p := ⟨_, _, none⟩) (lt_of_cell d0) (fun q => q)).trans d0, (kg.cell (p := ⟨_, _, none⟩) (lt_of_cell d1) (fun q => q)).trans d1, (kg.cell (p := ⟨_, _, none⟩) (lt_of_cell d2) (fun q => q)).trans d2, (kg.cell (p := ⟨_, _, none⟩) (lt_of_cell d3) (fun q => q)).trans d3, (kg.cell (p := ⟨_, _, none⟩) (lt_of_cell d4) (fun q => q)).trans d4, (kg.cell (p := ⟨_, _, none⟩) (lt_of_cell e0) (fun q => q)).trans e0, (kg.cell (p := ⟨_, _, none⟩) (lt_of_cell e1) (fun q => q)).trans e1, (kg.cell (p := ⟨_, _, none⟩) (lt_of_cell e2) (fun q => q)).trans e2, (kg.cell (p := ⟨_, _, none⟩) (lt_of_cell e3) (fun q => q)).trans e3, (kg.cell (p := ⟨_, _, none⟩) (lt_of_cell e4) (fun q => q)).trans e4⟩; have KG := Lib.hid kg; clear kg kg0))
          go_wp2
          go_roundw
          case rel => exact ⟨j + 1, by omega, by go_num, HG', KR.out.trans KG.out⟩
          case measure => simp [intOf]; omega
      · obtain rfl : j = v.list.length := by omega
        have HRT : Hid (sameFs v.table v'.table = r) := Lib.hid (by rw [← HR.out, HS'.out, sameVs_true _ _ HNE.out (fun k a b => HN.out k a a b)]; rfl)
        clear HR HS'
        have s4 : wr.cell? ⟨bo, 4, none⟩ = some (.slice B v.table.length d) := BR.out.cell 4
        have s4' : wr.cell? ⟨bo', 4, none⟩ = some (.slice B' v'.table.length d') := BR'.out.cell 4
        go_wp2_with fail
        refine (refSameT v.table IHT.out v'.table B B' d d' F F' wr (T1.out.still KR.out) (T2.out.still KR.out) (by omega) (by omega)).mono ?_
        rw [HRT.out]
        rintro e w9 ⟨rfl, k9⟩
        have K9 := Lib.hid k9
        clear k9
        go_wp2
        go_ret
        exact ⟨rfl, (KA.out.trans KR.out).trans K9.out⟩
  · have hr : r = false := by rw [← HR.out, HS'.out, sameVs_len _ _ hne]; rfl
    subst hr
    have q4 : ((v.list.length : Int) != (v'.list.length : Int)) = true := by simp only [bne_iff_ne, ne_eq]; omega
    clear HR HS' hd hne
    go_enter Try.func18, Try.ntmps18
    go_wp2
    go_ret
    exact ⟨rfl, KA.out⟩

theorem rsv_all : ∀ (n : Nat) (v : FV), v.sz ≤ n → RSV v
  | 0, v, h => by
    have := v.sz_eq
    omega
  | n + 1, v, h => by
    have hs := v.sz_eq
    refine refSameV v (fun x hx => rsv_all n x ?_) (fun f hf => rsv_all n f.val ?_)
    · have := szVs_mem _ x hx
      omega
    · have := szFs_mem _ f hf
      omega
theorem rsv (v : FV) : RSV v := rsv_all v.sz v (Nat.le_refl _)

end Go.Proofs.Ytdhaojicphhikaa
