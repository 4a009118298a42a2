/-
  The walk of SealWhole.
-/
import Derived.Test.YtlfdpkgggoafaaaDoorElems
namespace Go.Proofs.YtlfdpkgggoafaaaDoor
open Go.RowKit

/-- The records that are turned one after the other: the first j of them hold nothing but 0xdd. -/
def WSt (w0 wr : World) (B : Nat) (sv : Value) (N : Nat) (vs : List Value) (ls : List (List UInt8)) (j : Nat) : Prop :=
  Own wr 22 1 (B ≤ ·) sv N vs ∧ vs.length = N ∧ Elems wr (B ≤ ·) vs ls ∧ (∀ (m : Nat) (l : List UInt8), j ≤ m → ls[m]? = some l → l.length ≤ 1048576) ∧
    (∀ (m : Nat) (l : List UInt8), m < j → ls[m]? = some l → ∃ q, l = List.replicate q 221) ∧ Kept noneS w0 wr

/-- Inside of a record: k octets are turned. -/
def WIn (w0 wr : World) (B : Nat) (sv : Value) (N : Nat) (vs : List Value) (ls : List (List UInt8)) (j k : Nat) (l2 : List UInt8) : Prop :=
  Own wr 22 1 (B ≤ ·) sv N vs ∧ Elems wr (B ≤ ·) vs (ls.set j l2) ∧ (∀ m, m < k → l2[m]? = some 221) ∧ Kept noneS w0 wr

theorem all_dd {l : List UInt8} (h : ∀ m, m < l.length → l[m]? = some 221) : l = List.replicate l.length 221 := by
  apply List.ext_getElem?
  intro m
  by_cases hm : m < l.length
  · rw [h m hm, List.getElem?_replicate, if_pos hm]
  · rw [List.getElem?_eq_none (by omega), List.getElem?_eq_none (by simp; omega)]

theorem dd_snoc {l : List UInt8} (h : l = List.replicate l.length 221) : l ++ [221, 221, 221, 221, 221, 221, 221, 221] = List.replicate (l.length + 8) 221 := by
  conv => lhs; rw [h]
  rw [show ([221, 221, 221, 221, 221, 221, 221, 221] : List UInt8) = List.replicate 8 221 from rfl, List.replicate_append_replicate]
theorem WIn.start {w0 wr : World} {B : Nat} {sv : Value} {N : Nat} {vs : List Value} {ls : List (List UInt8)} {j : Nat} {l : List UInt8} (h : WSt w0 wr B sv N vs ls j) (hl : ls[j]? = some l) : WIn w0 wr B sv N vs ls j 0 l := by
  refine ⟨h.1, ?_, fun m hm => by omega, h.2.2.2.2.2⟩
  have : ls.set j l = ls := by
    apply List.ext_getElem?
    intro i
    by_cases e : j = i
    · subst e
      rw [List.getElem?_set_self (List.getElem?_eq_some_iff.1 hl).1, hl]
    · rw [List.getElem?_set_ne e]
  rw [this]
  exact h.2.2.1

/-- One octet more. -/
theorem WIn.step {w0 wr : World} {B : Nat} {A Aj : Option Addr} {c cj N : Nat} {vs : List Value} {ls : List (List UInt8)} {j k : Nat} {l2 : List UInt8} (h : WIn w0 wr B (.slice A N c) N vs ls j k l2) (hB : w0.heap.size ≤ B) (hj : j < N) (hjl : j < ls.length)
    (hv : vs[j]? = some (.slice Aj l2.length cj)) (hk : k < l2.length) :
    ∃ g gj, A = some ⟨g, 0, none⟩ ∧ wr.cell? ⟨g, j, none⟩ = some (.slice Aj l2.length cj) ∧ Aj = some ⟨gj, 0, none⟩ ∧ (∃ u, wr.cell? ⟨gj, k, none⟩ = some u) ∧ wr.frozen? ⟨gj, k, none⟩ = false ∧
      WIn w0 (wr.setCell ⟨gj, k, none⟩ (.int .u8 221)) B (.slice A N c) N vs ls j (k + 1) (l2.set k 221) := by
  obtain ⟨h1, h2, h3, h4⟩ := h
  obtain ⟨g, hA, _, _, hc, _, _⟩ := h1.store1 hj (.int .u8 0)
  have hob := h2.2.1 j _ l2 hv (List.getElem?_set_self hjl)
  obtain ⟨gj, hAj, hFj, hcj, hfj, hst⟩ := OB.store hob hk 221
  subst hAj
  refine ⟨g, gj, hA, by rw [hc, hv], rfl, ⟨_, hcj⟩, hfj, ?_, ?_, ?_, ?_⟩
  · exact h1.far (p := ⟨gj, k, none⟩) (fun q => Own.apart hob h1 (by decide) (k := gj) rfl q) _
  · have h5 := h2.update (j := j) (v' := .slice (some ⟨gj, 0, none⟩) l2.length cj) (l' := l2.set k 221) hv ((Kept.refl (ownS (.slice (some ⟨gj, 0, none⟩) l2.length cj)) wr).setCell (p := ⟨gj, k, none⟩) (fun _ => rfl) (.int .u8 221)) hst (fun q hq => .inl hq)
    have e1 : vs.set j (.slice (some ⟨gj, 0, none⟩) l2.length cj) = vs := by
      apply List.ext_getElem?
      intro i
      by_cases e : j = i
      · subst e
        rw [List.getElem?_set_self (List.getElem?_eq_some_iff.1 hv).1, hv]
      · rw [List.getElem?_set_ne e]
    rw [e1, List.set_set] at h5
    exact h5
  · intro m hm
    by_cases e : k = m
    · subst e
      rw [List.getElem?_set_self hk]
    · rw [List.getElem?_set_ne e]
      exact h3 m (by omega)
  · exact h4.setCell (p := ⟨gj, k, none⟩) (fun q => absurd q (by simp only; omega)) _

set_option maxRecDepth 100000 in
set_option maxHeartbeats 1600000 in
theorem sealWhole_walk (A : Option Addr) (c : Nat) (b : List UInt8) (w : World) (hb : RB w (· < w.heap.size) A b) (hbl : b.length ≤ 1048576) (hc : b.length ≤ c) (hc2 : c ≤ 140737488351232) (ht : Tab w) :
    Calls Tryd.prog 7 #[.slice A b.length c] w fun e w' => e = .returned (.bool true) ∧ Below w.heap.size w w' := by
  have HB := Lib.hid hb
  have HT := Lib.hid ht
  clear hb ht
  go_enter Tryd.func7, Tryd.ntmps7
  go_wp2_with fail
  refine (speaks_any _ HT.out).mono ?_
  rintro e w1 ⟨rfl, k1⟩
  have K1 := Lib.hid k1
  clear k1
  go_wp2_with fail
  refine (clone_any A c b _ w1 (HB.out.still K1.out) (by omega)).mono ?_
  rintro e w2 ⟨A2, c2, rfl, h2, k2⟩
  have K2 := Lib.hid (K1.out.trans k2)
  obtain ⟨A2', c2', e2, hc2a, hc2b, _⟩ := Own.form h2
  injection e2 with e2a e2b e2c
  subst e2a e2c
  unfold maxLen at hc2b
  have H2 : Hid (RB w2 (· < w2.heap.size) A2 b) := Lib.hid (RB.mono (Own.rd h2) fun _ h _ => h)
  clear k2 h2 e2b
  generalize hU : wholeP b = r
  have HU := Lib.hid hU
  clear hU
  go_wp2_with fail
  refine (whole_any A2 c2 b _ w2 H2.out (by omega) hc2a (by omega) (HT.out.keep K2.out (fun q => q))).mono ?_
  rintro e w3 ⟨A3, c3, vs, rfl, h3, g3, k3⟩
  rw [HU.out] at g3 ⊢
  have O3 := Lib.hid h3
  have E3 := Lib.hid g3
  have K23 := Lib.hid k3
  have K3 := Lib.hid (K2.out.trans k3)
  clear h3 g3 k3
  go_wp2_with fail
  refine (refWhole_any A c b _ w3 (HB.out.still K3.out) (by omega) hc (by omega)).mono ?_
  rintro e w4 ⟨A4, c4, us, rfl, h4, g4, k4⟩
  rw [HU.out] at g4 ⊢
  have O4 := Lib.hid h4
  have E4 := Lib.hid g4
  have K24 := Lib.hid (K23.out.trans k4)
  have K4 := Lib.hid (K3.out.trans k4)
  have O34 := Lib.hid (Own.keep0 O3.out k4 (fun _ _ _ q => q.elim))
  have E34 := Lib.hid (E3.out.still k4)
  clear h4 g4 k4 O3 E3
  obtain ⟨ls, n⟩ := r
  have q1 : ((n : Int) != (n : Int)) = false := by simp
  have HBd := Lib.hid (wholeF_bound (b.length + 1) b)
  have HVl := Lib.hid (show vs.length ≤ 1048576 by
    have h1 := HBd.out.1
    have h2 : (wholeF (b.length + 1) b).1 = ls := congrArg Prod.fst HU.out
    rw [h2] at h1
    have h3 : vs.length = ls.length := E34.out.1
    omega)
  go_wp2_with fail
  refine (sameAll_any A3 A4 c3 c4 vs us ls ls _ _ _ _ w4 (Own.rd O34.out) (Own.rd O4.out) E34.out.reads E4.out.reads (by have := HVl.out; omega)).mono ?_
  rintro e w5 ⟨rfl, nd, rfl⟩
  rw [beq_self_eq_true ls]
  go_wp2_with fail
  refine (same_any A2 A c2 c b b _ _ (w4.drewN nd) (RB.drewN (H2.out.still K24.out) nd) (RB.drewN (HB.out.still K4.out) nd)).mono ?_
  rintro e w6 ⟨rfl, rfl⟩
  rw [beq_self_eq_true b]
  have HST : Hid (WSt w2 (w4.drewN nd) w2.heap.size (.slice A3 vs.length c3) vs.length vs ls 0) := Lib.hid ⟨O34.out.drewN nd, rfl, E34.out.still ((Kept.refl noneS w4).drewN nd), fun m l _ hl => by
    have h1 := HBd.out.2 l (by
      have h2 : (wholeF (b.length + 1) b).1 = ls := congrArg Prod.fst HU.out
      rw [h2]
      exact List.mem_of_getElem? hl)
    omega, fun m l hm => by omega, K24.out.drewN nd⟩
  clear O34 E34 O4 E4
  generalize hN : vs.length = N at HST HVl
  clear hN
  have hNb : N ≤ 1048576 := HVl.out
  go_wp2
  go_loopw [44] (fun i wr => ∃ (j : Nat) (vs : List Value) (ls : List (List UInt8)), j ≤ N ∧ i = .int .i64 j ∧ WSt w2 wr w2.heap.size (.slice A3 N c3) N vs ls j) (fun i _ => N - (intOf i).toNat)
  case atStart => exact ⟨0, vs, ls, Nat.zero_le _, rfl, HST.out⟩
  case round =>
    clear HST HVl
    obtain ⟨j, vs, ls, hj, rfl, hst⟩ := hrel
    have HS := Lib.hid hst
    clear hst
    by_cases hlt : j < N
    · obtain ⟨Aj, cj, l, hv, hl, hob, hcl⟩ := HS.out.2.2.1.get (show j < vs.length by rw [HS.out.2.1]; exact hlt)
      have hll := HS.out.2.2.2.1 j l (Nat.le_refl _) hl
      have HV := Lib.hid hv
      have HL := Lib.hid hl
      have HJ : Hid (j < ls.length) := Lib.hid (List.getElem?_eq_some_iff.1 hl).1
      obtain ⟨g, hA, _, _, hcell, _, _⟩ := HS.out.1.store1 hlt (.int .u8 0)
      rw [hv] at hcell
      have HI := Lib.hid (WIn.start HS.out hl)
      clear hv hl hob hcl
      subst hA
      obtain ⟨wo, rfl⟩ : ∃ wo : World, wo = wr := ⟨_, rfl⟩
      go_wp2
      go_loopw [52] (fun i wr => ∃ (k : Nat) (l2 : List UInt8), k ≤ l.length ∧ i = .int .i64 k ∧ Hid (l2.length = l.length) ∧ WIn w2 wr w2.heap.size (.slice (some ⟨g, 0, none⟩) N c3) N vs ls j k l2) (fun i _ => l.length - (intOf i).toNat)
      case atStart => exact ⟨0, l, Nat.zero_le _, rfl, Lib.hid rfl, HI.out⟩
      case round =>
        clear HI hcell
        obtain ⟨k, l2, hk, rfl, HLl, hin⟩ := hrel
        have HIn := Lib.hid hin
        clear hin
        by_cases hkl : k < l.length
        · obtain ⟨g', gj, e1, c1, e2, ⟨u, c2⟩, f2, hnx⟩ := HIn.out.step (Nat.le_refl _) hlt HJ.out (by rw [HLl.out]; exact HV.out) (by rw [HLl.out]; exact hkl)
          injection e1 with e1
          injection e1 with e1
          subst e1 e2
          rw [HLl.out] at c1
          have HNx := Lib.hid hnx
          clear hnx
          go_wp2
          go_roundw
          case rel => exact ⟨k + 1, l2.set k 221, by omega, by go_num, Lib.hid (by rw [List.length_set]; exact HLl.out), HNx.out⟩
          case measure => simp [intOf]; omega
        · obtain rfl : k = l.length := by omega
          have hdd := all_dd (l := l2) (fun m hm => HIn.out.2.2.1 m (by rw [← HLl.out]; exact hm))
          obtain ⟨g', e1, _, hown, hc1, hf1, _⟩ := HIn.out.1.store1 hlt (.int .u8 0)
          injection e1 with e1
          injection e1 with e1
          subst e1
          rw [HV.out] at hc1
          have hob := HIn.out.2.1.2.1 j _ l2 HV.out (List.getElem?_set_self HJ.out)
          have HOb := Lib.hid hob
          have HDd := Lib.hid hdd
          have HAp : Hid (∀ k, ownS (.slice Aj l.length cj) k → ownS (.slice (some ⟨g, 0, none⟩) N c3) k → False) := Lib.hid (fun k h1 h2 => Own.apart hob HIn.out.1 (by decide) h1 h2)
          have hl2 : l2.length ≤ 1048576 := by rw [HLl.out]; exact hll
          clear hdd hob
          have hWs : w2.heap.size ≤ wr.heap.size := HIn.out.2.2.2.size
          go_wp2_with (at_builtin; refine wpList_appN rfl (.tmp 67) (.tmp 68) rfl (fun k => ownS (.slice Aj l.length cj) k ∨ wr.heap.size + 1 ≤ k) (fun _ => True) (.slice Aj l.length cj) l2 rfl (Own.alloc ⟨HOb.out.1, fun k hk => .inl hk⟩ _) (some ⟨wr.heap.size, 0, none⟩) 8 [221, 221, 221, 221, 221, 221, 221, 221] rfl (RB.lit _ _ _ _ _ _ rfl trivial) (by simp; omega) (.inr (by simp)) ?_; intro A5 c5 w5 hown5 hcap5 hk5; have h6 := Own.keep0 (Own.alloc HIn.out.1 _) hk5 (fun k _ h1 h2 => HAp.out k h2 h1); obtain ⟨g6, e6, _, _, c6, f6, s6⟩ := h6.store1 hlt (.slice A5 (l2.length + 8) c5); injection e6 with e6; injection e6 with e6; subst e6; rw [HV.out] at c6; have HO5 := Lib.hid hown5; have HK5 := Lib.hid hk5; have H6 := Lib.hid h6; have S6 := Lib.hid s6; clear hown5 hk5 h6 s6)
          go_roundw
          case rel =>
            refine ⟨j + 1, vs.set j (.slice A5 (l2.length + 8) c5), ls.set j (l2 ++ [221, 221, 221, 221, 221, 221, 221, 221]), by omega, by go_num, S6.out, by rw [List.length_set]; exact HS.out.2.1, ?_, ?_, ?_, ?_⟩
            · have e1 := (HIn.out.2.1.still ((Kept.refl noneS wr).alloc (.cells #[.int .u8 221, .int .u8 221, .int .u8 221, .int .u8 221, .int .u8 221, .int .u8 221, .int .u8 221, .int .u8 221] 5))).update (j := j) HV.out HK5.out (Own.mono (G := (w2.heap.size ≤ ·)) HO5.out (fun k _ h => h.elim (fun q => HOb.out.2 k q) (fun q => by omega))) (fun k hk => (HO5.out.2 k hk).elim .inl (fun q => .inr (by simpa using q)))
              rw [List.set_set] at e1
              exact e1.keep ((Kept.refl (· = g) w5).setCell (p := ⟨g, j, none⟩) (fun _ => rfl) _) (fun i v l _ _ hob k h1 h2 => Own.apart hob H6.out (by decide) h1 (by subst h2; rfl))
            · intro m l' hm hl'
              rw [List.getElem?_set_ne (by omega)] at hl'
              exact HS.out.2.2.2.1 m l' (by omega) hl'
            · intro m l' hm hl'
              by_cases e : j = m
              · subst e
                rw [List.getElem?_set_self HJ.out] at hl'
                injection hl' with hl'
                exact ⟨l2.length + 8, by rw [← hl']; exact dd_snoc HDd.out⟩
              · rw [List.getElem?_set_ne e] at hl'
                exact HS.out.2.2.2.2.1 m l' (by omega) hl'
            · exact ((HIn.out.2.2.2.alloc _).trans2 HK5.out (fun i hi h => by have := HOb.out.2 i h; exact absurd hi (by omega))).setCell (p := ⟨g, j, none⟩) (fun q => absurd q (by simp only; omega)) _
          case measure => simp [intOf]; omega
    · obtain rfl : j = N := by omega
      obtain ⟨wo, rfl⟩ : ∃ wo : World, wo = wr := ⟨_, rfl⟩
      have D1 := Lib.hid (H2.out.still HS.out.2.2.2.2.2)
      have D2 := Lib.hid ((HB.out.still K2.out).still HS.out.2.2.2.2.2)
      go_wp2
      go_loop [74] (fun i => ∃ m : Nat, m ≤ j ∧ i = .int .i64 m) (fun i => j - (intOf i).toNat)
      case atStart => exact ⟨0, Nat.zero_le _, rfl⟩
      case round =>
        obtain ⟨m, hm, rfl⟩ := hrel
        by_cases hmj : m < j
        · obtain ⟨Am, cm, l, hv, hl, hob, hcl⟩ := HS.out.2.2.1.get (show m < vs.length by rw [HS.out.2.1]; exact hmj)
          obtain ⟨q, hq⟩ := HS.out.2.2.2.2.1 m l hmj hl
          obtain ⟨g, hA, _, _, hcell, _, _⟩ := HS.out.1.store1 hmj (.int .u8 0)
          rw [hv] at hcell
          have hcm : l.length ≤ 9223372036854775807 := by
            obtain ⟨A', c', e', h1, h2, _⟩ := Own.form hob
            unfold maxLen at h2
            omega
          have HR := Lib.hid (OB.rb hob).2
          have HQ := Lib.hid hq
          clear hv hl hob hcl hq
          subst hA
          go_wp2
          go_loop [82] (fun i => ∃ k : Nat, k ≤ l.length ∧ i = .int .i64 k) (fun i => l.length - (intOf i).toNat)
          case atStart => exact ⟨0, Nat.zero_le _, rfl⟩
          case round =>
            obtain ⟨k, hk, rfl⟩ := hrel
            by_cases hkl : k < l.length
            · obtain ⟨gk, ok, rfl, _, hck⟩ := HR.out.at_ hkl
              have e1 : l[k] = 221 := by
                have h1 : l[k]? = some l[k] := List.getElem?_eq_getElem hkl
                have h2 : l[k]? = (List.replicate q (221 : UInt8))[k]? := congrArg (·[k]?) HQ.out
                rw [h1, List.getElem?_replicate] at h2
                split at h2
                · injection h2
                · cases h2
              rw [e1] at hck
              clear e1
              go_wp2
              go_round
              case rel => exact ⟨k + 1, by omega, by go_num⟩
              case measure => simp [intOf]; omega
            · go_wp2
              go_round
              case rel => exact ⟨m + 1, by omega, by go_num⟩
              case measure => simp [intOf]; omega
        · go_wp2_with fail
          refine (same_any A2 A c2 c b b _ _ wo D1.out D2.out).mono ?_
          rintro e w6 ⟨rfl, rfl⟩
          rw [beq_self_eq_true b]
          go_wp2
          go_ret
          exact ⟨rfl, (K2.out.trans HS.out.2.2.2.2.2).still⟩

end Go.Proofs.YtlfdpkgggoafaaaDoor
