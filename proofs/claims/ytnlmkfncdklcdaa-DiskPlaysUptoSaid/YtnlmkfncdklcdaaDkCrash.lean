/-
  disk.Disk.Crash.
-/
import Derived.Test.YtnlmkfncdklcdaaDkCrP
import Derived.Test.YtnlmkfncdklcdaaDkFlo
import Derived.Test.YtnlmkfncdklcdaaDkNames
import Derived.Maps.RangeWalk
import Derived.Deep.CutRange
namespace Go.Proofs.Ytnlmkfncdklcdaa
open Go.RowKit Go.Maps

section
variable {w : World} {ops : Array Oper} {rest : List Oper} {o : Oper} {a : Act} {Q : Exit → Act → World → Prop}
set_option maxRecDepth 100000 in
/-- The step of a range over a map from texts. -/
theorem wpList_nextS (hg : o.guard = none) (it : Operand) (hop : o.op = Op.next it false) (b r n : Nat) (D : DataW Value) (left : Lit → Bool) (cnt : Nat) (hit : a.eval it = .pointer (some ⟨r, 0, none⟩)) (h : w.ranges Try.prog 9 rHeld b r n D left cnt)
    (lk : List UInt8 → Option Value) (hD : ∀ nm z, D.atKey (.string nm) z = match lk nm with | some v => .held v | none => z)
    (hDone : (∀ kl, left kl = false) → wpList Try.prog ops Q rest (a.put o.dst (.tuple #[.bool false])) w)
    (hMore : ∀ (x : ByteArray) (v : Value) (w' : World) (cnt' : Nat), left (.string x.toList) = true → lk x.toList = some v → w'.ranges Try.prog 9 rHeld b r n D (fun z => left z && !z.sameKey (.string x.toList)) cnt' → cnt' < cnt → Kept (· = r) w w' → w'.heap.size = w.heap.size →
      (Instr.entry (.pointer (some ⟨r, 0, none⟩))).run Try.prog w' = .ok (.tuple #[.string x, v]) w' → wpList Try.prog ops Q rest (a.put o.dst (.tuple #[.bool true, .string x, v])) w') :
    wpList Try.prog ops Q (o :: rest) a w := by
  refine wpList_next_ranges w hg it hop 9 strKeyed rHeld Value.string (fun v : Value => v) (fun key kl hk => ?_) (fun v _ _ => ⟨v, rfl⟩) b r n D left cnt hit h (fun _ => hDone) ?_
  · obtain ⟨x, rfl, _⟩ := Maps.keyOf_str Try.underlying9 hk
    exact ⟨_, rfl⟩
  · intro x c kl y w' cnt' hkey hlk hv hat hrg hlt hgr hsz hen
    obtain ⟨x', hx, rfl, _⟩ := Maps.keyOf_str Try.underlying9 hkey
    have hx' : x.toList = x' := by
      unfold encStr at hx
      injection hx with hx
      rw [hx, ByteArray.toList_eq]
    subst hx'
    have hy : y.1 = .held c := by
      unfold rHeld at hv
      injection hv with hv
      rw [← hv]
    have hl : lk x.toList = some c := by
      have h1 := hat .nil
      have h2 := hat (.lit (.bool true))
      rw [hD, hy] at h1 h2
      rcases e : lk x.toList with _ | u
      · rw [e] at h1
        cases h1
      · rw [e] at h1
        injection h1 with h1
        rw [h1]
    exact hMore x c w' cnt' hlk hl hrg hlt ((Kept.refl _ _).grown hgr (fun k hk _ => by cases hk; rfl)) hsz hen
end

def slLen : Value → Nat
  | .slice _ n _ => n
  | _ => 0

def CrashPost (w : World) (fs : List FlS) (e : Ending) (w' : World) : Prop := ∃ A c, e = .returned (.slice A fs.length c) ∧ FlsOwn w' (w.heap.size ≤ ·) (.slice A fs.length c) fs ∧ Kept noneS w w'

theorem left_start {s : DiskS} {D : DataW Value} {hb : List UInt8 → Nat} (h3 : ∀ nm z, D.atKey (.string nm) z = match (s.get nm).map fun _ => Value.pointer (some ⟨hb nm, 0, none⟩) with | some v => .held v | none => z) (nm : List UInt8) :
    none = if Maps.has D (.string nm) = true then none else (s.get nm).map FileS.safe := by
  rcases e : s.get nm with _ | f
  · simp
  · have h4 := has_true_of_atKey (D := D) (k := .string nm) (y := .held (.pointer (some ⟨hb nm, 0, none⟩))) (fun z => by rw [h3 nm z]; simp only [e]; rfl)
    rw [h4]
    simp
theorem left_step {s : DiskS} {left : Lit → Bool} {lf : Lf} {x : List UInt8} {f : FileS} (h : ∀ nm, lf nm = if left (.string nm) = true then none else (s.get nm).map FileS.safe) (hx : s.get x = some f) (nm : List UInt8) :
    lfPut lf x f.safe nm = if (left (.string nm) && !(Lit.string nm).sameKey (.string x)) = true then none else (s.get nm).map FileS.safe := by
  unfold lfPut
  by_cases e : nm = x
  · subst e
    have : (Lit.string nm).sameKey (.string nm) = true := by simp [Lit.sameKey]
    rw [this, hx]
    simp
  · have : (Lit.string nm).sameKey (.string x) = false := by simp [Lit.sameKey, e]
    rw [this, if_neg e, h nm]
    simp

attribute [local go_sem ↓] copy_as append_as
set_option maxRecDepth 100000 in
set_option maxHeartbeats 3200000 in
theorem diskCrash (F G : Nat → Prop) (p N : Nat) (s : DiskS) (w : World) (KA : Option Addr) (kc : Nat) (keep : List Bool) (tear : Int) (h : DAt w F p s N) (ha : Asc s.files) (hk : Rd w G KA (keep.map Value.bool)) (ht : -9223372036854775808 ≤ tear ∧ tear ≤ 9223372036854775807)
    (hs : s.files.length * 40 ≤ 140737488355328) (hn : s.files.length + s.pend.length < maxLen) (hp : ∀ x ∈ s.pend, x.off + x.data.length ≤ 140737488351232) (hf : ∀ f ∈ s.files, f.safe.length ≤ 140737488351232) :
    Calls Try.prog 15 #[.pointer (some ⟨p, 0, none⟩), .agg #[.slice KA keep.length kc, .int .i64 tear]] w (CrashPost w (s.left keep tear)) := by
  obtain ⟨tag, m, pv, hb, _, ho⟩ := h.open_
  obtain ⟨D, h1, h2, h3, h4⟩ := ho.map.names ha
  have hpl : s.pend.length ≤ 9223372036854775806 := by unfold maxLen at hn; omega
  generalize hP : CrashPost w (s.left keep tear) = Post
  have HP := Lib.hid hP
  clear hP
  have hmm := @run_makeMap Try.prog
  have hown := (h1.alloc (.cells #[.slice KA keep.length kc, .int .i64 tear] 40)).alloc (.map #[] 0)
  obtain ⟨w0, hrun, hrg0, hg0, hs0⟩ := hown.range strKeyed Try.underlying65
  have e1 : ((w.alloc (.cells #[.slice KA keep.length kc, .int .i64 tear] 40)).alloc (.map #[] 0)).heap.size = w.heap.size + 1 + 1 := by simp
  have c0 : ((w.alloc (.cells #[.slice KA keep.length kc, .int .i64 tear] 40)).alloc (.map #[] 0)).cell? ⟨p, 0, none⟩ = some (.map (some m)) := ((ho.blk.alloc _).alloc _).cell 0
  rw [e1] at hrun hrg0 hs0
  have BF0 : Hid (Blk w0 w.heap.size 40 #[.slice KA keep.length kc, .int .i64 tear]) := Lib.hid (((Blk.new w 40 #[.slice KA keep.length kc, .int .i64 tear]).alloc _).grown hg0 (by simp))
  have KW0 : Hid (Kept noneS w w0) := Lib.hid ((((Kept.refl noneS w).alloc _).alloc _).grown hg0 (fun k q _ => by cases q))
  have L0 : Hid (LfAt w0 w0.heap.size (w.heap.size + 1 + 1 + 1) (w.heap.size + 1) 0 (fun _ => none)) := Lib.hid (by
    have hv := VMap.made (w.alloc (.cells #[.slice KA keep.length kc, .int .i64 tear] 40))
    have e2 : (w.alloc (.cells #[.slice KA keep.length kc, .int .i64 tear] 40)).heap.size = w.heap.size + 1 := by simp
    rw [e2] at hv
    exact ⟨fun _ => none, fun _ => .slice none 0 0, ⟨rfl, fun k q => absurd rfl q, hv.keep ((Kept.refl noneS _).grown hg0 (fun k q _ => by cases q)) (fun q => q), fun nm d q => by cases q⟩, fun k q => absurd rfl q, fun nm d q => by cases q⟩)
  have HO := Lib.hid (ho.keep KW0.out (fun _ q => q.elim))
  have HOw := Lib.hid ho.old
  have HK := Lib.hid (hk.mono (G := (· < w.heap.size)) (fun k a _ => a))
  have H4 := Lib.hid h4
  have HAs := Lib.hid ha
  have HPd := Lib.hid hp
  have HFs := Lib.hid hf
  have hcs : Maps.size D ≤ s.files.length := by rw [h3]; exact Nat.le_refl _
  have hst := Lib.hid (left_start (s := s) h4)
  clear h h1 h2 h3 h4 ho hown hg0 ha hk hp hf
  go_enter Try.func15, Try.ntmps15
  go_wp2
  go_loopw [6, 7] (fun _ _ wr => ∃ (left : Lit → Bool) (cnt n : Nat) (lf : Lf), wr.ranges Try.prog 9 rHeld m (w.heap.size + 1 + 1) N D left cnt ∧ Hid (LfAt wr wr.heap.size (w.heap.size + 1 + 1 + 1) (w.heap.size + 1) n lf) ∧ n + cnt ≤ s.files.length ∧ Hid (∀ nm, lf nm = if left (.string nm) = true then none else (s.get nm).map FileS.safe) ∧ Hid (Kept (fun k => k = w.heap.size + 1 ∨ k = w.heap.size + 1 + 1) w0 wr)) (fun _ _ wr => wr.rangeLeft m (w.heap.size + 1 + 1))
  case atStart => exact ⟨_, _, 0, _, hrg0, L0, by omega, hst, Lib.hid (Kept.refl _ _)⟩
  case round =>
    obtain ⟨left, cnt, n, lf, hrg, HL, hnc, HE, HKr⟩ := hrel
    clear hst L0
    have HDO := Lib.hid (HO.out.keep HKr.out (fun k q => by
      by_cases e : tag k = .out
      · exact e
      · have := HOw.out k e
        omega))
    go_wp2_with (first | (at_next; refine wpList_nextS rfl _ rfl m (w.heap.size + 1 + 1) N D left cnt rfl hrg _ H4.out ?_ ?_) | go_in)
    · intro hl
      obtain ⟨wb, rfl⟩ : ∃ wb, wb = wr := ⟨wr, rfl⟩
      have hLF : lf = fun nm => (s.get nm).map FileS.safe := by
        funext nm
        rw [HE.out nm, hl]
        rfl
      have KW := Lib.hid (KW0.out.trans2 HKr.out (fun k _ q => by omega))
      have HLEFT : Hid (s.files.map (fun f => (⟨f.name, ((crF keep tear s.pend.length 0 (s.pend.drop 0) lf) f.key).getD []⟩ : FlS)) = s.left keep tear) := Lib.hid (by rw [hLF]; rfl)
      have BF := Lib.hid (BF0.out.keep HKr.out (fun q => by omega))
      have hB1 : w.heap.size + 1 + 1 + 1 ≤ wb.heap.size := by
        have := HKr.out.size
        omega
      obtain ⟨Ap, cp, hpv, _, _⟩ := HDO.out.pend.form
      have c1 : wb.cell? ⟨p, 1, none⟩ = some pv := HDO.out.blk.cell 1
      rw [hpv] at c1
      clear hLF hl HE hrg KW0 HKr BF0 HO hrg0 hrun hmm c0 e1
      obtain ⟨lf0, hlf0⟩ : ∃ lf0, lf = lf0 := ⟨_, rfl⟩
      go_wp2
      go_loopw [8, 9, 10, 11, 37] (fun _ _ _ _ i wr => ∃ (j n' : Nat) (lf' : Lf), j ≤ s.pend.length ∧ i = .int .i64 j ∧ n' ≤ s.files.length + j ∧ Hid (LfAt wr wr.heap.size (w.heap.size + 1 + 1 + 1) (w.heap.size + 1) n' lf') ∧ Hid (s.files.map (fun f => (⟨f.name, ((crF keep tear s.pend.length j (s.pend.drop j) lf') f.key).getD []⟩ : FlS)) = s.left keep tear) ∧ Hid (Kept (fun k => k = w.heap.size + 1 ∨ w.heap.size + 1 + 1 + 1 ≤ k) wb wr)) (fun _ _ _ _ i _ => s.pend.length - (intOf i).toNat)
      case atStart => exact ⟨0, n, lf, Nat.zero_le _, rfl, by omega, HL, HLEFT, Lib.hid (Kept.refl _ _)⟩
      case round =>
        obtain ⟨j, n', lf', hj, rfl, hn', HL', HC, HKx⟩ := hrel
        clear HL HLEFT hlf0
        have HDX := Lib.hid (HDO.out.keep HKx.out (fun k q => by
          by_cases e : tag k = .out
          · exact e
          · have := HOw.out k e
            omega))
        have BX := Lib.hid (BF.out.keep HKx.out (fun q => by omega))
        by_cases hlt : j < s.pend.length
        · obtain ⟨g, o, c, B, d, hpe, _, ⟨hn1, hn2⟩, ⟨hR1, hB2, hB3, hB4⟩, q0, q1, q2⟩ := HDX.out.pend.at_ hlt
          rw [hpv] at hpe
          injection hpe with e1 e2 e3
          subst e1 e3
          have hC' := HC.out
          rw [crF_step hlt] at hC'
          have hpx := HPd.out s.pend[j] (List.getElem_mem hlt)
          generalize s.pend[j] = x at *
          have HC' := Lib.hid hC'
          have HB := Lib.hid hR1
          have HB4 := Lib.hid hB4
          have hji : (j : Int) < (s.pend.length : Int) := by omega
          have hj0 : (0 : Int) ≤ (j : Int) := by omega
          have BW := Lib.hid (Blk.new wr 74 #[.string x.name, .int .i64 (x.off : Int), .slice B x.data.length d])
          have K2 := Lib.hid (HKx.out.alloc (.cells #[.string x.name, .int .i64 (x.off : Int), .slice B x.data.length d] 74))
          have HB2 := Lib.hid (HB.out.alloc (.cells #[.string x.name, .int .i64 (x.off : Int), .slice B x.data.length d] 74))
          have L2 := Lib.hid (HL'.out.keep ((Kept.refl noneS wr).alloc (.cells #[.string x.name, .int .i64 (x.off : Int), .slice B x.data.length d] 74)) (fun q => q) (fun _ q => q.elim))
          have hbw : w.heap.size + 1 + 1 + 1 ≤ wr.heap.size := Nat.le_trans hB1 HKx.out.size
          clear hC' HC hR1 hB4 BX HDX HKx HL' HB
          go_upto_region 9 with (fail)
          generalize wr.alloc (.cells #[.string x.name, .int .i64 (x.off : Int), .slice B x.data.length d] 74) = w2 at BW K2 HB2 L2 ⊢
          clear q0 q1 q2
          generalize wr.heap.size = bw at BW hbw L2 ⊢
          have v0 : w2.cell? ⟨bw, 0, none⟩ = some (.string x.name) := BW.out.cell 0
          have v1 : w2.cell? ⟨bw, 1, none⟩ = some (.int .i64 (x.off : Int)) := BW.out.cell 1
          have v2 : w2.cell? ⟨bw, 2, none⟩ = some (.slice B x.data.length d) := BW.out.cell 2
          have BX := Lib.hid (BF.out.keep K2.out (fun q => by omega))
          have HDX := Lib.hid (HDO.out.keep K2.out (fun k q => by
            by_cases e : tag k = .out
            · exact e
            · have := HOw.out k e
              omega))
          have f0 : w2.cell? ⟨w.heap.size, 0, none⟩ = some (.slice KA keep.length kc) := BX.out.cell 0
          have f1 : w2.cell? ⟨w.heap.size, 1, none⟩ = some (.int .i64 tear) := BX.out.cell 1
          have p1 : w2.cell? ⟨p, 1, none⟩ = some (.slice (some ⟨g, o, none⟩) s.pend.length cp) := by
            have := HDX.out.blk.cell 1
            rw [hpv] at this
            exact this
          have HK2 := Lib.hid (HK.out.keep (KW.out.trans2 K2.out (fun k _ q => by omega)) (fun _ _ _ q => q))
          have hcase : (keep.getD j false = false ∧ (j < keep.length → ∃ kg ko, KA = some ⟨kg, ko, none⟩ ∧ w2.cell? ⟨kg, ko + j, none⟩ = some (.bool false))) ∨ (keep.getD j false = true ∧ j < keep.length ∧ ∃ kg ko, KA = some ⟨kg, ko, none⟩ ∧ w2.cell? ⟨kg, ko + j, none⟩ = some (.bool true)) := by
            by_cases hkl : j < keep.length
            · obtain ⟨kg, ko, e, hc⟩ := keep_cell HK2.out hkl
              rcases hkb : keep.getD j false with _ | _
              · rw [hkb] at hc
                exact .inl ⟨rfl, fun _ => ⟨kg, ko, e, hc⟩⟩
              · rw [hkb] at hc
                exact .inr ⟨rfl, hkl, kg, ko, e, hc⟩
            · refine .inl ⟨?_, fun q => absurd q hkl⟩
              rw [List.getD_eq_getElem?_getD, List.getElem?_eq_none (by omega)]
              rfl
          rcases hcase with ⟨hk0, hkc⟩ | ⟨hk1, hkl, kg, ko, rfl, hkc⟩
          · have HS : Hid (crStep keep tear s.pend.length j x lf' = lf') := Lib.hid (by unfold crStep; rw [hk0]; rfl)
            rw [HS.out] at HC'
            by_cases hkl : j < keep.length
            · obtain ⟨kg, ko, rfl, hkc⟩ := hkc hkl
              have hkli : (j : Int) < (keep.length : Int) := by omega
              clear hk0 HS
              go_wp2
              go_roundw
              case rel => exact ⟨j + 1, n', lf', by omega, by go_num, by omega, Lib.hid (L2.out.up (Nat.le_of_lt BW.out.lt)), HC', K2⟩
              case measure => simp [intOf]; omega
            · have hkli : (keep.length : Int) ≤ (j : Int) := by omega
              clear hk0 HS hkc
              go_wp2
              go_roundw
              case rel => exact ⟨j + 1, n', lf', by omega, by go_num, by omega, Lib.hid (L2.out.up (Nat.le_of_lt BW.out.lt)), HC', K2⟩
              case measure => simp [intOf]; omega
          · have hkli : (j : Int) < (keep.length : Int) := by omega
            obtain ⟨b0, HB0⟩ : ∃ b0 : Bool, Hid (decide (j + 1 = s.pend.length ∧ 0 ≤ tear) = b0) := ⟨_, Lib.hid rfl⟩
            go_upto_region 11 with (fail)
            go_cut [37, 69] from 37 to 102 (fun i v wx => i = .int .i64 j ∧ v = .bool b0 ∧ w2 = wx)
            case first =>
              by_cases h1 : j + 1 = s.pend.length
              · have hq : ((j : Int) == (s.pend.length : Int) - 1) = true := by simp only [beq_iff_eq]; omega
                by_cases h2 : 0 ≤ tear
                · go_wp2_with fail
                  go_meet
                  case rel => exact ⟨rfl, by rw [← HB0.out]; simp [h1, h2], rfl⟩
                · have h3 : decide (0 ≤ tear) = false := by simp only [decide_eq_false_iff_not]; exact h2
                  go_wp2_with fail
                  go_meet
                  case rel => exact ⟨rfl, by rw [← HB0.out]; simp [h1, h2], rfl⟩
              · have hq : ((j : Int) == (s.pend.length : Int) - 1) = false := by simp only [beq_eq_false_iff_ne, ne_eq]; omega
                go_wp2_with fail
                go_meet
                case rel => exact ⟨rfl, by rw [← HB0.out]; simp [h1], rfl⟩
            case rest =>
              obtain ⟨rfl, rfl, rfl⟩ := hcut
              obtain ⟨xs, hxs⟩ : ∃ xs, x.data.take (wrLen s.pend.length j tear x) = xs := ⟨_, rfl⟩
              have HXS := Lib.hid hxs
              clear hxs
              go_upto_if 69 with (fail)
              go_cut [10, 37] from 37 to 102 (fun v i wx => i = .int .i64 j ∧ (∃ B' d', v = .slice B' xs.length d' ∧ Hid (RB wx (fun k => tag k = .ro) B' xs)) ∧ w2 = wx)
              case first =>
                rcases b0 with _ | _
                rotate_left
                · have h1 := of_decide_eq_true HB0.out
                  have hx1 := HXS.out
                  unfold wrLen at hx1
                  rw [if_pos h1] at hx1
                  have HX1 := Lib.hid hx1
                  have hmn : 0 ≤ tear := h1.2
                  clear hx1 h1
                  go_wp2_with fail
                  have hlx : (min (x.data.length : Int) tear).toNat = xs.length := by
                    rw [← HX1.out, List.length_take]
                    omega
                  have hrb : RB w2 (fun k => tag k = .ro) B xs := by
                    rw [← HX1.out]
                    exact HB2.out.take _
                  go_meet
                  case rel => exact ⟨rfl, ⟨_, _, by rw [hlx], Lib.hid hrb⟩, rfl⟩
                · have h1 := of_decide_eq_false HB0.out
                  have hx1 := HXS.out
                  unfold wrLen at hx1
                  rw [if_neg h1, List.take_length] at hx1
                  subst hx1
                  clear h1 HXS
                  go_wp2_with fail
                  go_meet
                  case rel => exact ⟨rfl, ⟨_, _, rfl, HB2⟩, rfl⟩
              case rest =>
                obtain ⟨rfl, ⟨B', d', rfl, HXB⟩, rfl⟩ := hcut
                have hB2' : w.heap.size + 1 + 1 + 1 ≤ w2.heap.size := Nat.le_of_lt (Nat.lt_of_le_of_lt hbw BW.out.lt)
                obtain ⟨v, FR, hlk, ob, hFR, hbl, hset⟩ := L2.out.look x.name hn1 (by omega) hB2' (by omega)
                have HSET := Lib.hid hset
                have hxl : xs.length ≤ x.data.length := by
                  have := congrArg List.length HXS.out
                  rw [List.length_take] at this
                  omega
                have HSTEP : Hid (crStep keep tear s.pend.length j x lf' = lfPut lf' x.name.toList (putAt ((lf' x.name.toList).getD []) x.off xs)) := Lib.hid (by
                  unfold crStep
                  rw [if_pos hk1, HXS.out]
                  rfl)
                clear hset p1 v2 hkc HXS hk1
                generalize (lf' x.name.toList).getD [] = b0 at ob hbl HSTEP
                have OB0 := Lib.hid ob
                clear ob
                go_wp2
                go_loopw [11] (fun v wr => ∃ i : Nat, i ≤ x.off + xs.length - b0.length ∧ Hid (OB wr (fun k => FR k ∨ w2.heap.size ≤ k) v (b0 ++ List.replicate i 0)) ∧ Hid (Kept FR w2 wr)) (fun v _ => x.off + xs.length - slLen v)
                case atStart => exact ⟨0, Nat.zero_le _, Lib.hid (by rw [List.replicate_zero, List.append_nil]; exact OB0.out.mono (fun _ _ q => Or.inl q)), Lib.hid (Kept.refl _ _)⟩
                case round =>
                  obtain ⟨i, hi, HOi, HKi⟩ := hrel
                  obtain ⟨A0, cap, rfl, hcap, _⟩ := Own.form HOi.out
                  have hBW := BW.out.keep HKi.out (fun q => by have := hFR bw q; omega)
                  have y0 : wr.cell? ⟨bw, 0, none⟩ = some (.string x.name) := hBW.cell 0
                  have y1 : wr.cell? ⟨bw, 1, none⟩ = some (.int .i64 (x.off : Int)) := hBW.cell 1
                  have hcl : (b0 ++ List.replicate i (0 : UInt8)).length = b0.length + i := by simp
                  obtain ⟨cur, hcur⟩ : ∃ cur, b0 ++ List.replicate i (0 : UInt8) = cur := ⟨_, rfl⟩
                  have HCur := Lib.hid hcur
                  rw [hcur] at hcl HOi hcap ⊢
                  have HCL := Lib.hid hcl
                  have hcb1 : cur.length ≤ 140737488351232 := by omega
                  clear hcur hBW OB0 hcl
                  by_cases hlt2 : cur.length < x.off + xs.length
                  · have hlt3 : (cur.length : Int) < (x.off : Int) + (xs.length : Int) := by omega
                    go_wp2_with (at_builtin; refine wpList_app1 rfl (.tmp 89) (.tmp 90) rfl (fun k => FR k ∨ w2.heap.size ≤ k) (.slice A0 cur.length cap) cur rfl (Own.alloc HOi.out _) wr.heap.size 0 rfl (by simp) (by omega) (Or.inr (by have := HKi.out.size; simp; omega)) ?_; intro A1 cap1 w3 hown hcap1 hk; have HO1 := Lib.hid hown; have HK1 := Lib.hid hk; clear hown hk)
                    go_roundw
                    case rel =>
                      refine ⟨i + 1, by have := HCL.out; omega, Lib.hid ?_, Lib.hid ((HKi.out.alloc _).trans2 HK1.out (fun k a q => (HOi.out.2 k q).elim id (fun e => absurd a (Nat.not_lt.2 e))))⟩
                      rw [List.replicate_succ', ← List.append_assoc, HCur.out]
                      exact HO1.out
                    case measure => have := HCL.out; simp [slLen]; omega
                  · have hlt3 : (x.off : Int) + (xs.length : Int) ≤ (cur.length : Int) := by omega
                    have hpad : padTo b0 (x.off + xs.length) = cur := by
                      rw [← HCur.out]
                      unfold padTo
                      rw [show x.off + xs.length - b0.length = i by have := HCL.out; omega]
                    have HPad := Lib.hid hpad
                    have hxb : RB wr (fun k => tag k = .ro) B' xs := HXB.out.keep HKi.out (fun k _ a q => by
                      have h5 := hFR k q
                      have h6 := HOw.out k (by rw [a]; simp)
                      omega)
                    have hsl := run_slice_from (P := Try.prog) wr 34 5 Try.underlying34 infoU8 A0 cur.length cap x.off (by omega) hcap
                    obtain ⟨w4, hcp, o4, k4⟩ := OB.copy (off := x.off) (d := d') HOi.out hxb (by omega)
                    have k24 : Kept FR w2 w4 := HKi.out.trans2 k4 (fun k a q => (HOi.out.2 k q).elim id (fun e => absurd a (Nat.not_lt.2 e)))
                    have hBW4 := BW.out.keep k24 (fun q => by have := hFR bw q; omega)
                    have z0 : w4.cell? ⟨bw, 0, none⟩ = some (.string x.name) := hBW4.cell 0
                    generalize (if cap = x.off then A0 else A0.map (·.add x.off)) = As at hsl hcp
                    have hfin : cur.take x.off ++ xs ++ cur.drop (x.off + xs.length) = putAt b0 x.off xs := by
                      unfold putAt
                      rw [HPad.out]
                    rw [hfin] at o4
                    obtain ⟨w5, hput, l5, k5⟩ := HSET.out w4 _ _ k24 o4 (by rw [putAt_length]; omega)
                    have L5 := Lib.hid l5
                    have K5 := Lib.hid ((K2.out.trans2 k24 (fun k _ q => .inr (hFR k q).1)).trans2 k5 (fun k _ q => .inl q))
                    rw [HSTEP.out] at HC'
                    clear hxb o4 k24 hBW4 l5 k5 k4
                    go_wp2
                    go_roundw
                    case rel => exact ⟨j + 1, n' + 1, _, by omega, by go_num, by omega, L5, HC', K5⟩
                    case measure => simp [intOf]; omega
        · obtain rfl : j = s.pend.length := by omega
          have hC := HC.out
          rw [List.drop_length, crF] at hC
          have HC2 := Lib.hid hC
          have hnames : ∀ f ∈ s.files, f.name.size ≤ 140737488351232 := fun f hf => (HDX.out.files f hf).2.1
          have HNm := Lib.hid hnames
          have KX := Lib.hid (KW.out.trans2 HKx.out (fun k _ q => by omega))
          clear hC HC hnames BX KW HDO HK HPd HFs H4 HKx BF
          have HB3 := Lib.hid (KX.out.size)
          go_wp2_with fail
          refine (diskNames _ p N s wr HDX.out.at_ HAs.out (by omega)).mono ?_
          rintro e w2 ⟨An, cn, rfl, on, kn⟩
          have ON := Lib.hid on.rd
          have L2 := Lib.hid (HL'.out.keep kn (fun q => q) (fun _ q => q.elim))
          have K2 := Lib.hid (KX.out.trans kn)
          clear on kn KX HL' HDX
          obtain ⟨fl, hfl⟩ : ∃ fl : List FlS, s.files.map (fun f => (⟨f.name, (lf' f.key).getD []⟩ : FlS)) = fl := ⟨_, rfl⟩
          have hfll : fl.length = s.files.length := by rw [← hfl, List.length_map]
          have HFL := Lib.hid hfl
          have HFLL := Lib.hid hfll
          rw [hfl] at HC2
          clear hfl hfll
          go_wp2
          go_loopw [4, 13, 106] (fun v _ i wr => ∃ j : Nat, j ≤ s.files.length ∧ i = .int .i64 j ∧ Hid (FlsOwn wr (w.heap.size ≤ ·) v (fl.take j)) ∧ Hid (∀ k, ownS v k → w2.heap.size ≤ k) ∧ Hid (Kept noneS w2 wr)) (fun _ _ i _ => s.files.length - (intOf i).toNat)
          case atStart => exact ⟨0, Nat.zero_le _, rfl, Lib.hid (FlsOwn.nil _ _), Lib.hid (fun k q => by simp [ownS, Value.ownBlock] at q), Lib.hid (Kept.refl _ _)⟩
          case round =>
            obtain ⟨j, hj, rfl, HFO, HOS, HKi⟩ := hrel
            by_cases hlt : j < s.files.length
            · have hjl : j < fl.length := by rw [HFLL.out]; exact hlt
              have hji : (j : Int) < (s.files.length : Int) := by omega
              have hj0 : (0 : Int) ≤ (j : Int) := by omega
              have hget : fl[j] = ⟨s.files[j].name, (lf' s.files[j].key).getD []⟩ := by
                have := HFL.out
                subst this
                rw [List.getElem_map]
              have hTk := List.take_succ_eq_append_getElem hjl
              rw [hget] at hTk
              have HTK := Lib.hid hTk
              have hnm := HNm.out s.files[j] (List.getElem_mem hlt)
              have hnc : ∃ g o, An = some ⟨g, o, none⟩ ∧ wr.cell? ⟨g, o + j, none⟩ = some (.string s.files[j].name) := by
                rcases ON.out.keep HKi.out (fun _ _ _ q => q) with q | ⟨g, o, e, _, hc⟩
                · have := congrArg List.length q
                  simp at this
                  rw [this] at hlt
                  cases hlt
                · exact ⟨g, o, e, hc j _ (by simp [hlt])⟩
              obtain ⟨g, o, rfl, hnc⟩ := hnc
              have hnk : s.files[j].key = s.files[j].name.toList := rfl
              clear hTk hget
              generalize s.files[j] = f at *
              obtain ⟨v, hlk, ob, hbl⟩ := (L2.out.keep HKi.out (fun q => q) (fun _ q => q.elim)).row f.name hnm
              rw [hnk] at HTK
              obtain ⟨Av, cv, rfl, _⟩ := Own.form ob
              obtain ⟨A3, c3, w3, hap, fo3, k3, os3⟩ := HFO.out.append f.name _ _ (ob.mono (fun _ _ q => by omega)) hnm hbl (fun k q => by have := HKi.out.size; have := K2.out.size; omega) (by rw [List.length_take]; omega)
              rw [List.length_take] at hap fo3 os3
              rw [show min j fl.length = j by omega] at hap fo3 os3
              rw [← HTK.out] at fo3
              have FO3 := Lib.hid fo3
              have K3 := Lib.hid (HKi.out.trans2 k3 (fun k a q => absurd a (Nat.not_lt.2 (HOS.out k q))))
              have OS3 : Hid (∀ k, ownS (.slice A3 (j + 1) c3) k → w2.heap.size ≤ k) := Lib.hid (fun k q => (os3 k q).elim (HOS.out k) (fun e => Nat.le_trans HKi.out.size e))
              clear ob fo3 k3 os3
              go_wp2
              go_roundw
              case rel => exact ⟨j + 1, by omega, by go_num, FO3, OS3, K3⟩
              case measure => simp [intOf]; omega
            · obtain rfl : j = s.files.length := by omega
              have hfo := HFO.out
              rw [← HFLL.out, List.take_length] at hfo
              obtain ⟨A3, c3, rfl, _⟩ := hfo.form
              have FO := Lib.hid hfo
              clear hfo HFO
              go_wp2
              rw [← HP.out]
              refine ⟨A3, c3, ?_, ?_, K2.out.trans HKi.out⟩
              · rw [← HC2.out]
                rfl
              · rw [← HC2.out]
                exact FO.out
    · intro x v w1 cnt1 hlx f hg hlv hrg1 hlt k1 hs1 hen
      subst hlv
      have HG := Lib.hid hg
      have K1 := Lib.hid (HKr.out.trans2 k1 (fun k _ q => .inr q))
      obtain ⟨hfm, hfk⟩ := DiskS.get_mem hg
      have hx : x = f.name := name_inj hfk.symm
      subst hx
      have hfat := (HDO.out.keep k1 (fun k q => by
        by_cases e : tag k = .out
        · exact e
        · have := HOw.out k e
          omega)).files f hfm
      rw [hfk] at hfat
      obtain ⟨_, hxn, dv, sv, b1, _, b2⟩ := hfat
      obtain ⟨A, c, rfl, r1, r2, r3, r4⟩ := b2
      have d1 : w1.cell? ⟨hb f.name.toList, 1, none⟩ = some (.slice A f.safe.length c) := b1.cell 1
      have hsl := HFs.out f hfm
      have HR := Lib.hid r1
      have HA := Lib.hid r4
      clear hg b1 r1 r4 hfm hfk
      generalize hb f.name.toList = b at d1 hen
      have hml : m < w.heap.size := HOw.out m (by rw [HDO.out.tm]; simp)
      have hB1 : w.heap.size + 1 + 1 + 1 ≤ w1.heap.size := by
        have := HKr.out.size
        omega
      obtain ⟨_, F1, _, _, hF1, _, hset⟩ := (HL.out.keep k1 (by omega) (fun k q => by omega)).look f.name hxn (by omega) hB1 (by omega)
      have HSET := Lib.hid hset
      have HRG := Lib.hid hrg1
      clear hset hrg1 k1 hF1 HL
      go_wp2_with fail
      refine (sClone A c f.safe _ w1 HR.out HA.out (by omega)).mono ?_
      rintro e w2 ⟨v2, rfl, o2, k2⟩
      obtain ⟨w3, hput, L3, k3⟩ := HSET.out w2 v2 f.safe (k2.mono (fun _ _ q => q.elim)) (o2.mono (fun _ _ q => .inr q)) hsl
      have K3 := Lib.hid ((k2.mono (S' := (· = w.heap.size + 1)) (fun _ _ q => q.elim)).trans k3)
      have LL := Lib.hid L3
      clear o2 k2 k3 L3
      go_wp2
      go_roundw
      case rel =>
        refine ⟨_, cnt1, n + 1, _, ranges_keep HRG.out K3.out (by omega) (by omega), LL, by omega, Lib.hid (left_step HE.out HG.out), Lib.hid (K1.out.trans2 K3.out (fun k _ q => .inl q))⟩
      case measure =>
        rw [(ranges_keep HRG.out K3.out (by omega) (by omega)).left_eq, hrg.left_eq]
        exact hlt

end Go.Proofs.Ytnlmkfncdklcdaa
