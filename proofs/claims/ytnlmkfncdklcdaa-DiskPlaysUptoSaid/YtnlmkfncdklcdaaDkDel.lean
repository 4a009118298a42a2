/-
  slices.DeleteFunc at the writes that are pending.
-/
import Derived.Test.YtnlmkfncdklcdaaDkCrP
namespace Go.Proofs.Ytnlmkfncdklcdaa
open Go.RowKit

abbrev WV := WrS × Value
def wvc (p : WV) : List Value := [.string p.1.name, .int .i64 (p.1.off : Int), p.2]
def wvs (l : List WV) : List Value := (l.map wvc).flatten

theorem wvs_cons (p : WV) (l : List WV) : wvs (p :: l) = .string p.1.name :: .int .i64 (p.1.off : Int) :: p.2 :: wvs l := rfl
theorem wvs_length (l : List WV) : (wvs l).length = l.length * 3 := by
  induction l with
  | nil => rfl
  | cons p l ih =>
    rw [wvs_cons]
    simp only [List.length_cons]
    omega
theorem wvs_append (l m : List WV) : wvs (l ++ m) = wvs l ++ wvs m := by simp [wvs]
theorem wvs_get (l : List WV) (j k : Nat) (hj : j < l.length) (hk : k < 3) : (wvs l)[j * 3 + k]? = (wvc l[j])[k]? := by
  have := flatten_get 3 (l.map wvc) (fun x hx => by obtain ⟨p, _, rfl⟩ := List.mem_map.1 hx; rfl) j k (by simpa using hj) hk
  rw [List.getElem_map] at this
  exact this
theorem wvs_set (l : List WV) (j : Nat) (p : WV) : wvs (l.set j p) = (((wvs l).set (j * 3) (.string p.1.name)).set (j * 3 + 1) (.int .i64 (p.1.off : Int))).set (j * 3 + 2) p.2 := by
  induction l generalizing j with
  | nil => rfl
  | cons x l ih =>
    cases j with
    | zero => rfl
    | succ j =>
      rw [List.set_cons_succ, wvs_cons, wvs_cons, ih, show (j + 1) * 3 = j * 3 + 1 + 1 + 1 by omega]
      rfl

/-- The row of writes: its cells begin with these. -/
def WRow (w : World) (g c : Nat) (l : List WV) : Prop := ∃ cur, Blk w g 74 cur ∧ cur.size = c * 3 ∧ cur.toList.take (l.length * 3) = wvs l

section
variable {w w' : World} {g c : Nat} {l : List WV} {S : Nat → Prop}
theorem WRow.keep (h : WRow w g c l) (hk : Kept S w w') (hn : ¬ S g) : WRow w' g c l := by
  obtain ⟨cur, h1, h2, h3⟩ := h
  exact ⟨cur, h1.keep hk hn, h2, h3⟩
theorem WRow.at_ (h : WRow w g c l) {j : Nat} (hj : j < l.length) : w.cell? ⟨g, j * 3, none⟩ = some (.string l[j].1.name) ∧ w.cell? ⟨g, j * 3 + 1, none⟩ = some (.int .i64 (l[j].1.off : Int)) ∧ w.cell? ⟨g, j * 3 + 2, none⟩ = some l[j].2 ∧
    w.frozen? ⟨g, j * 3, none⟩ = false ∧ w.frozen? ⟨g, j * 3 + 1, none⟩ = false ∧ w.frozen? ⟨g, j * 3 + 2, none⟩ = false := by
  obtain ⟨cur, h1, h2, h3⟩ := h
  have hat : ∀ k, k < 3 → w.cell? ⟨g, j * 3 + k, none⟩ = (wvc l[j])[k]? := fun k hk => by
    rw [h1.cell, ← wvs_get l j k hj hk, ← h3, List.getElem?_take_of_lt (by omega)]
    simp
  exact ⟨hat 0 (by decide), hat 1 (by decide), hat 2 (by decide), h1.frozen _, h1.frozen _, h1.frozen _⟩
theorem WRow.set_ (h : WRow w g c l) (j : Nat) (p : WV) : WRow (((w.setCell ⟨g, j * 3, none⟩ (.string p.1.name)).setCell ⟨g, j * 3 + 1, none⟩ (.int .i64 (p.1.off : Int))).setCell ⟨g, j * 3 + 2, none⟩ p.2) g c (l.set j p) := by
  obtain ⟨cur, h1, h2, h3⟩ := h
  refine ⟨_, ((h1.set_ (j * 3) _).set_ (j * 3 + 1) _).set_ (j * 3 + 2) _, by simp [h2], ?_⟩
  rw [List.length_set, wvs_set, ← h3]
  simp [List.take_set]
theorem WRow.own (h : WRow w g c l) (hc : l.length ≤ c) (hm : c ≤ maxLen) {F : Nat → Prop} (hF : F g) : Own w 74 3 F (.slice (some ⟨g, 0, none⟩) l.length c) l.length (wvs l) := by
  obtain ⟨cur, h1, h2, h3⟩ := h
  exact ⟨⟨wvs_length l, .inr ⟨g, c, cur, rfl, Nat.zero_le _, h1, hc, hm, h2, h3⟩⟩, fun k q => by
    have : g = k := by simpa [Value.ownBlock] using q
    rw [← this]
    exact hF⟩
end

def clearSem (ats : Array TypeId) (ty : TypeId) (args : Array Value) : Sem Value := Builtin.clear_ ats ty args
theorem clear_as (ats : Array TypeId) (ty : TypeId) (args : Array Value) : Builtin.clear_ ats ty args = clearSem ats ty args := rfl

theorem zeroWr (w : World) : (zeroValue 74).run Try.prog w = .ok (.agg #[.string ⟨#[]⟩, .int .i64 0, .slice none 0 0]) w := by kernel_rfl

/-- clear of the row behind place k. -/
theorem WRow.clear {w : World} {g c : Nat} {l : List WV} (h : WRow w g c l) (k : Nat) (hk : k < l.length) (hc : l.length ≤ c) (d : Nat) :
    ∃ w', (clearSem #[66] 0 #[.slice (some ⟨g, k * 3, none⟩) (l.length - k) d]).run Try.prog w = .ok (.tuple #[]) w' ∧ WRow w' g c (l.take k) ∧ Kept (· = g) w w' := by
  obtain ⟨cur, h1, h2, h3⟩ := h
  have hzl : (Builtin.zeroCells #[.string ⟨#[]⟩, .int .i64 0, .slice none 0 0] (l.length - k)).toList.length = (l.length - k) * 3 := by
    rw [Array.length_toList, size_zeroCells]
    rfl
  have hone : ∀ v ∈ (Builtin.zeroCells #[.string ⟨#[]⟩, .int .i64 0, .slice none 0 0] (l.length - k)).toList, v.oneCell' = true := by
    intro v hv
    unfold Builtin.zeroCells at hv
    simp only [Array.toList_map, List.mem_map] at hv
    obtain ⟨i, _, rfl⟩ := hv
    have : i % (#[Value.string ⟨#[]⟩, .int .i64 0, .slice none 0 0] : Array Value).size < 3 := Nat.mod_lt _ (by decide)
    generalize i % (#[Value.string ⟨#[]⟩, .int .i64 0, .slice none 0 0] : Array Value).size = q at this
    match q, this with
    | 0, _ => rfl
    | 1, _ => rfl
    | 2, _ => rfl
  have hst := run_storeCells_at Try.prog g (k * 3) 74 (Builtin.zeroCells #[.string ⟨#[]⟩, .int .i64 0, .slice none 0 0] (l.length - k)).toList 0 cur w h1 (by rw [hzl]; omega) hone
  obtain ⟨nw, hnw⟩ : ∃ nw, (cur.toList.take (k * 3 + 0) ++ (Builtin.zeroCells #[.string ⟨#[]⟩, .int .i64 0, .slice none 0 0] (l.length - k)).toList ++ cur.toList.drop (k * 3 + 0 + (Builtin.zeroCells #[.string ⟨#[]⟩, .int .i64 0, .slice none 0 0] (l.length - k)).toList.length)).toArray = nw := ⟨_, rfl⟩
  rw [hnw] at hst
  refine ⟨w.setRow g nw, ?_, ⟨nw, setRow_heap w g cur nw 74 _ h1, ?_, ?_⟩, ⟨rfl, rfl, rfl, by simp, fun q _ hq => setRow_other w g q _ hq⟩⟩
  · unfold clearSem Builtin.clear_
    obtain ⟨q, hq⟩ : ∃ q, l.length - k = q + 1 := ⟨l.length - k - 1, by omega⟩
    rw [hq] at hst ⊢
    simp [run_underlying Try.underlying66, Value.cells, hst]
  · rw [← hnw]
    simp only [Nat.add_zero, List.size_toArray, List.length_append, List.length_take, List.length_drop, Array.length_toList, hzl]
    omega
  · have e : (l.take k).length * 3 = k * 3 := by rw [List.length_take, Nat.min_eq_left (Nat.le_of_lt hk)]
    have h4 : cur.toList.take (k * 3) = wvs (l.take k) := by
      have h5 : (wvs l).take (k * 3) = wvs (l.take k) := by
        conv => lhs; rw [← List.take_append_drop k l, wvs_append]
        exact List.take_left' (by rw [wvs_length, e])
      rw [← h5, ← h3, List.take_take, Nat.min_eq_left (by omega)]
    rw [e, ← h4, ← hnw]
    simp only [Nat.add_zero, List.append_assoc]
    exact List.take_left' (by rw [List.length_take, Array.length_toList]; omega)

/-- The function that forget hands over. -/
theorem forgetF (nm x : ByteArray) (bx : Nat) (off : Int) (B : Option Addr) (n d : Nat) (w : World) (hb : Blk w bx 9 #[.string nm]) :
    Calls Try.prog 45 #[.agg #[.string x, .int .i64 off, .slice B n d], .pointer (some ⟨bx, 0, none⟩)] w fun e w' => e = .returned (.bool (x.toList == nm.toList)) ∧ Kept noneS w w' := by
  have c0 : (w.alloc (.cells #[.string x, .int .i64 off, .slice B n d] 74)).cell? ⟨bx, 0, none⟩ = some (.string nm) := (hb.alloc _).cell 0
  go_enter Try.func45, Try.ntmps45
  go_wp2
  go_ret
  exact ⟨rfl, (Kept.refl _ _).alloc _⟩

/-- The writes of other files. -/
def notOf (nm : List UInt8) (p : WV) : Bool := !(p.1.key == nm)
/-- Where the first write of that file lies. -/
def firstOf (nm : List UInt8) (l : List WV) : Nat := l.findIdx fun p => p.1.key == nm

set_option maxHeartbeats 800000 in
theorem indexF (nm : ByteArray) (bx : Nat) (A : Option Addr) (c : Nat) (l : List WV) (w : World) (hA : A = none ∧ l = [] ∨ ∃ g, A = some ⟨g, 0, none⟩ ∧ WRow w g c l) (hl : l.length ≤ maxLen) (hv : ∀ p ∈ l, ∃ B n d, p.2 = .slice B n d) (hb : Blk w bx 9 #[.string nm]) :
    Calls Try.prog 49 #[.slice A l.length c, .func (.func 45) #[] #[.pointer (some ⟨bx, 0, none⟩)]] w fun e w' => e = .returned (.int .i64 (if firstOf nm.toList l < l.length then (firstOf nm.toList l : Int) else -1)) ∧ Kept noneS w w' := by
  obtain ⟨r, HR⟩ : ∃ r : Int, Hid ((if firstOf nm.toList l < l.length then (firstOf nm.toList l : Int) else -1) = r) := ⟨_, Lib.hid rfl⟩
  rw [HR.out]
  have HA := Lib.hid hA
  have HB := Lib.hid hb
  have HV := Lib.hid hv
  have hlm : l.length ≤ 9223372036854775807 := by unfold maxLen at hl; omega
  clear hA hb hv hl
  go_enter Try.func49, Try.ntmps49
  go_wp2
  go_loopw [4, 5, 8] (fun v _ i wr => ∃ j : Nat, j ≤ l.length ∧ i = .int .i64 j ∧ v = .int .i64 0 ∧ Hid (∀ k (h : k < l.length), k < j → (l[k].1.key == nm.toList) = false) ∧ Hid (Kept noneS w wr)) (fun _ _ i _ => l.length - (intOf i).toNat)
  case atStart => exact ⟨0, Nat.zero_le _, rfl, rfl, Lib.hid (fun k _ q => absurd q (Nat.not_lt_zero _)), Lib.hid (Kept.refl _ _)⟩
  case round =>
    obtain ⟨j, hj, rfl, rfl, HE, HK⟩ := hrel
    by_cases hlt : j < l.length
    · rcases HA.out with ⟨_, e⟩ | ⟨g, e, hrow⟩
      · rw [e] at hlt
        exact absurd hlt (Nat.not_lt_zero _)
      · subst e
        obtain ⟨q0, q1, q2, _⟩ := (hrow.keep HK.out (fun q => q)).at_ hlt
        obtain ⟨B, n, d, hB⟩ := HV.out l[j] (List.getElem_mem hlt)
        rw [hB] at q2
        have hji : (j : Int) < (l.length : Int) := by omega
        have hj0 : (0 : Int) ≤ (j : Int) := by omega
        have HJ : Hid (∀ b, (l[j].1.key == nm.toList) = b → ∀ k (h : k < l.length), k = j → (l[k].1.key == nm.toList) = b) := Lib.hid (fun b e k h q => by subst q; exact e)
        have hfix : (l[j].1.key == nm.toList) = true → firstOf nm.toList l = j := fun q => by
          unfold firstOf
          exact (List.findIdx_eq hlt).2 ⟨q, fun k hk => HE.out k (by omega) hk⟩
        have HF := Lib.hid hfix
        have hk : l[j].1.key = l[j].1.name.toList := rfl
        rw [hk] at HF HJ
        clear hrow hB hfix hk
        generalize l[j].1 = x at *
        go_wp2_with fail
        refine (forgetF nm x.name bx (x.off : Int) B n d wr (HB.out.keep HK.out (fun q => q))).mono ?_
        rintro e w1 ⟨rfl, k1⟩
        have K1 := Lib.hid (HK.out.trans k1)
        clear k1
        rcases hm : (x.name.toList == nm.toList) with _ | _
        · have hj := HJ.out false hm
          have HJ' := Lib.hid hj
          clear hj hm HF
          go_wp2
          go_roundw
          case rel => exact ⟨j + 1, by omega, by go_num, rfl, Lib.hid (fun k h q => by
            by_cases e : k = j
            · exact HJ'.out k h e
            · exact HE.out k h (by omega)), K1⟩
          case measure => simp [intOf]; omega
        · have hf := HF.out hm
          have hr := HR.out
          rw [hf, if_pos hlt] at hr
          subst hr
          clear hm hf HF
          go_wp2
          go_ret
          exact ⟨rfl, K1.out⟩
    · obtain rfl : j = l.length := by omega
      have hf : firstOf nm.toList l = l.length := List.findIdx_eq_length.2 (fun p hp => by
        obtain ⟨k, hk, rfl⟩ := List.mem_iff_getElem.1 hp
        exact HE.out k hk hk)
      have hr := HR.out
      rw [hf, if_neg (Nat.lt_irrefl _)] at hr
      subst hr
      clear hf
      go_wp2
      go_ret
      exact ⟨rfl, HK.out⟩

theorem filter_first (nm : List UInt8) (l : List WV) (h : firstOf nm l < l.length) : (l.take (firstOf nm l + 1)).filter (notOf nm) = l.take (firstOf nm l) := by
  have hp := List.findIdx_getElem (w := h)
  rw [List.take_succ_eq_append_getElem h, List.filter_append]
  have h1 : (l.take (firstOf nm l)).filter (notOf nm) = l.take (firstOf nm l) := by
    rw [List.filter_eq_self]
    intro p hp
    obtain ⟨k, hk, rfl⟩ := List.mem_iff_getElem.1 hp
    rw [List.length_take] at hk
    rw [List.getElem_take]
    have := List.not_of_lt_findIdx (p := fun p : WV => p.1.key == nm) (xs := l) (i := k) (by unfold firstOf at hk; omega)
    unfold notOf
    simpa using this
  have h2 : [l[firstOf nm l]].filter (notOf nm) = [] := by
    have : notOf nm l[firstOf nm l] = false := by
      unfold notOf firstOf
      rw [hp]
      rfl
    simp [List.filter, this]
  rw [h1, h2, List.append_nil]
theorem filter_none (nm : List UInt8) (l : List WV) (h : ¬ firstOf nm l < l.length) : l.filter (notOf nm) = l := by
  rw [List.filter_eq_self]
  intro p hp
  have h1 : firstOf nm l = l.length := Nat.le_antisymm List.findIdx_le_length (Nat.not_lt.1 h)
  have := List.findIdx_eq_length.1 h1 p hp
  unfold notOf
  rw [this]
  rfl

attribute [local go_sem ↓] clear_as
set_option maxRecDepth 100000 in
set_option maxHeartbeats 1600000 in
theorem deleteF (nm : ByteArray) (bx : Nat) (A : Option Addr) (c : Nat) (l : List WV) (w : World) (hA : A = none ∧ l = [] ∨ ∃ g, A = some ⟨g, 0, none⟩ ∧ WRow w g c l) (hc : l.length ≤ c) (hm : c ≤ maxLen) (hv : ∀ p ∈ l, ∃ B n d, p.2 = .slice B n d) (hb : Blk w bx 9 #[.string nm]) :
    Calls Try.prog 44 #[.slice A l.length c, .func (.func 45) #[] #[.pointer (some ⟨bx, 0, none⟩)]] w fun e w' => e = .returned (.slice A (l.filter (notOf nm.toList)).length c) ∧
      (A = none ∧ l.filter (notOf nm.toList) = [] ∨ ∃ g, A = some ⟨g, 0, none⟩ ∧ WRow w' g c (l.filter (notOf nm.toList))) ∧ Kept (fun k => A = some ⟨k, 0, none⟩) w w' := by
  have HA := Lib.hid hA
  have HB := Lib.hid hb
  have HV := Lib.hid hv
  have hlm : l.length ≤ 9223372036854775807 := by unfold maxLen at hm; omega
  have HM := Lib.hid (show l.length ≤ maxLen from Nat.le_trans hc hm)
  obtain ⟨fl, HFl⟩ : ∃ fl, Hid (l.filter (notOf nm.toList) = fl) := ⟨_, Lib.hid rfl⟩
  rw [HFl.out]
  clear hA hb hv
  go_enter Try.func44, Try.ntmps44
  go_wp2_with fail
  refine (indexF nm bx A c l w HA.out HM.out HV.out HB.out).mono ?_
  rintro e w1 ⟨rfl, k1⟩
  have K1 := Lib.hid k1
  clear k1
  by_cases hf : firstOf nm.toList l < l.length
  · rw [if_pos hf]
    rcases HA.out with ⟨_, e⟩ | ⟨g, rfl, hrow⟩
    · rw [e] at hf
      exact absurd hf (Nat.not_lt_zero _)
    · have HR1 := Lib.hid (hrow.keep K1.out (fun q => q))
      have HFF := Lib.hid (filter_first nm.toList l hf)
      have hBX : ¬ bx = g := fun q => by
        obtain ⟨cur, h1, _⟩ := hrow
        have h2 := HB.out
        rw [q] at h2
        unfold Blk at h1 h2
        rw [h1] at h2
        injection h2 with h2
        injection h2 with _ h2
        cases h2
      clear hrow HA
      generalize firstOf nm.toList l = i0 at *
      have hi0 : ((i0 : Int) == -1) = false := by simp only [beq_eq_false_iff_ne, ne_eq]; omega
      go_wp2
      go_loopw [5, 6, 7] (fun i j _ wr => ∃ (i' j' : Nat) (cur : List WV), j' ≤ l.length ∧ i' < j' ∧ i = .int .i64 i' ∧ j = .int .i64 j' ∧ cur.length = l.length ∧ Hid (WRow wr g c cur) ∧ Hid (cur.take i' = (l.take j').filter (notOf nm.toList)) ∧ Hid (cur.drop j' = l.drop j') ∧ Hid (Kept (· = g) w wr)) (fun _ j _ _ => l.length - (intOf j).toNat)
      case atStart => exact ⟨i0, i0 + 1, l, by omega, by omega, rfl, by go_num, rfl, HR1, Lib.hid HFF.out.symm, Lib.hid rfl, Lib.hid (K1.out.mono (fun _ _ q => q.elim))⟩
      case round =>
        obtain ⟨i, j, cur, hj, hij, rfl, rfl, hcl, HRow, HTk, HDr, HK⟩ := hrel
        by_cases hlt : j < l.length
        · have hltc : j < cur.length := by omega
          have hel : cur[j] = l[j] := by
            have h1 : (cur.drop j)[0]? = (l.drop j)[0]? := by rw [HDr.out]
            rw [List.getElem?_drop, List.getElem?_drop, Nat.add_zero, List.getElem?_eq_getElem hltc, List.getElem?_eq_getElem hlt] at h1
            exact Option.some.inj h1
          obtain ⟨q0, q1, q2, _⟩ := HRow.out.at_ hltc
          obtain ⟨r0, r1, r2, r3, r4, r5⟩ := HRow.out.at_ (show i < cur.length by omega)
          obtain ⟨B, n, d, hB⟩ := HV.out l[j] (List.getElem_mem hlt)
          rw [hel] at q0 q1 q2
          rw [hB] at q2
          have hTs := List.take_succ_eq_append_getElem hlt
          have HTs := Lib.hid hTs
          have hls : l[j] = (l[j].1, .slice B n d) := by rw [← hB]
          have hji : (j : Int) < (l.length : Int) := by omega
          have hj0 : (0 : Int) ≤ (j : Int) := by omega
          rw [hls] at HTs
          clear hTs hls hB hel
          generalize l[j].1 = x at *
          have k2 : Kept (· = g) w (wr.alloc (.cells #[.string x.name, .int .i64 (x.off : Int), .slice B n d] 74)) := HK.out.alloc _
          have hbv := Blk.new wr 74 #[.string x.name, .int .i64 (x.off : Int), .slice B n d]
          have BV := Lib.hid hbv
          have HR2 := Lib.hid (HRow.out.keep ((Kept.refl noneS wr).alloc (.cells #[.string x.name, .int .i64 (x.off : Int), .slice B n d] 74)) (fun q => q))
          have hgw : g < wr.heap.size := by
            obtain ⟨cur', h1, _⟩ := HRow.out
            exact h1.lt
          have KA := Lib.hid k2
          clear k2 hbv HRow HK
          go_wp2_with fail
          generalize wr.alloc (.cells #[.string x.name, .int .i64 (x.off : Int), .slice B n d] 74) = w2 at BV HR2 KA ⊢
          refine (forgetF nm x.name bx (x.off : Int) B n d w2 (HB.out.keep KA.out hBX)).mono ?_
          rintro e w3 ⟨rfl, k3⟩
          have K3 := Lib.hid (KA.out.trans2 k3 (fun _ _ q => q.elim))
          have HR3 := Lib.hid (HR2.out.keep k3 (fun q => q))
          have hv3 := BV.out.keep k3 (fun q => q)
          have v0 : w3.cell? ⟨wr.heap.size, 0, none⟩ = some (.string x.name) := hv3.cell 0
          have v1 : w3.cell? ⟨wr.heap.size, 1, none⟩ = some (.int .i64 (x.off : Int)) := hv3.cell 1
          have v2 : w3.cell? ⟨wr.heap.size, 2, none⟩ = some (.slice B n d) := hv3.cell 2
          clear k3 hv3 BV HR2 KA r0 r1 r2 r3 r4 r5 q0 q1 q2
          generalize wr.heap.size = bv at v0 v1 v2 hgw ⊢
          rcases hmt : (x.name.toList == nm.toList) with _ | _
          · have hno : notOf nm.toList (x, .slice B n d) = true := by unfold notOf WrS.key; rw [hmt]; rfl
            obtain ⟨r0, r1, r2, r3, r4, r5⟩ := HR3.out.at_ (show i < cur.length by omega)
            have HNo := Lib.hid hno
            clear hno hmt
            go_wp2
            go_roundw
            case rel =>
              refine ⟨i + 1, j + 1, cur.set i (x, .slice B n d), by omega, by omega, by go_num, by go_num, by rw [List.length_set]; exact hcl, Lib.hid (HR3.out.set_ i (x, .slice B n d)), Lib.hid ?_, Lib.hid ?_, Lib.hid (((K3.out.setCell (p := ⟨g, i * 3, none⟩) (fun _ => rfl) _).setCell (p := ⟨g, i * 3 + 1, none⟩) (fun _ => rfl) _).setCell (p := ⟨g, i * 3 + 2, none⟩) (fun _ => rfl) _)⟩
              · have hl1 : i < (cur.set i (x, .slice B n d)).length := by rw [List.length_set]; omega
                rw [HTs.out, List.filter_append, ← HTk.out, List.take_succ_eq_append_getElem hl1, List.getElem_set_self, List.take_set_of_le (Nat.le_refl _)]
                simp [List.filter, HNo.out]
              · rw [List.drop_set_of_lt (by omega), ← List.drop_drop, HDr.out, List.drop_drop]
            case measure => simp [intOf]; omega
          · have hno : notOf nm.toList (x, .slice B n d) = false := by unfold notOf WrS.key; rw [hmt]; rfl
            have HNo := Lib.hid hno
            clear hno hmt
            go_wp2
            go_roundw
            case rel =>
              refine ⟨i, j + 1, cur, by omega, by omega, rfl, by go_num, hcl, HR3, Lib.hid ?_, Lib.hid ?_, K3⟩
              · rw [HTs.out, List.filter_append, ← HTk.out]
                simp [List.filter, HNo.out]
              · rw [← List.drop_drop, HDr.out, List.drop_drop]
            case measure => simp [intOf]; omega
        · obtain rfl : j = l.length := by omega
          rw [List.take_length, HFl.out] at HTk
          obtain ⟨w2, hcl2, hr2, k2⟩ := HRow.out.clear i (by omega) (by omega) (c - i)
          rw [hcl] at hcl2
          rw [HTk.out] at hr2
          have hfl : fl.length = i := by
            rw [← HTk.out, List.length_take]
            omega
          have HR2 := Lib.hid hr2
          have K2 := Lib.hid (HK.out.trans k2)
          have HLen := Lib.hid hfl
          clear hr2 k2 hfl
          go_wp2
          go_ret
          exact ⟨by rw [HLen.out]; rfl, .inr ⟨g, rfl, HR2.out⟩, K2.out.mono (fun k _ q => by rw [q])⟩
  · rw [if_neg hf]
    have hn := filter_none nm.toList l hf
    rw [HFl.out] at hn
    subst hn
    clear hf HFl
    have hA1 : A = none ∧ fl = [] ∨ ∃ g, A = some ⟨g, 0, none⟩ ∧ WRow w1 g c fl := by
      rcases HA.out with h | ⟨g, h1, h2⟩
      · exact .inl h
      · exact .inr ⟨g, h1, h2.keep K1.out (fun q => q)⟩
    have HA1 := Lib.hid hA1
    clear hA1
    go_wp2
    go_ret
    exact ⟨rfl, HA1.out, K1.out.mono (fun _ _ q => q.elim)⟩

end Go.Proofs.Ytnlmkfncdklcdaa
