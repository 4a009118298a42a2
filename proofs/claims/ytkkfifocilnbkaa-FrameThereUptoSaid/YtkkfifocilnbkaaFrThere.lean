/-
  The walk of FrameThere.
-/
import Derived.Test.YtkkfifocilnbkaaFrThP
import Derived.Test.YtkkfifocilnbkaaFrPack
import Derived.Test.YtkkfifocilnbkaaSpeaks4
import Derived.Test.YtkkfifocilnbkaaNext2
import Derived.Test.YtkkfifocilnbkaaRefNext
namespace Go.Proofs.Ytkkfifocilnbkaa
open Go.RowKit
attribute [local go_sem ↓] append_as

theorem Rd.fr {w : World} {F : Nat → Prop} {A : Option Addr} {l : List Fr} (h : Rd w F A (l.flatMap Fr.cells)) {j : Nat} (hj : j < l.length) :
    ∃ g o, A = some ⟨g, o, none⟩ ∧ F g ∧ w.cell? ⟨g, o + j * 3, none⟩ = some (.int .i64 (l[j]).t) ∧ w.cell? ⟨g, o + j * 3 + 1, none⟩ = some (.int .i64 (l[j]).ch) ∧ w.cell? ⟨g, o + j * 3 + 2, none⟩ = some (.slice (l[j]).addr (l[j]).pl.length (l[j]).cap) := by
  have h7 : ∀ x ∈ l, (Fr.cells x).length = 3 := fun _ _ => rfl
  rcases h with h | ⟨g, o, h, hF, hc⟩
  · have := congrArg List.length h
    rw [flat_length _ 3 _ h7, List.length_nil] at this
    omega
  · have at_ : ∀ k u, (l[j]).cells[k]? = some u → w.cell? ⟨g, o + j * 3 + k, none⟩ = some u := by
      intro k u hu
      have hk : k < 3 := (List.getElem?_eq_some_iff.1 hu).1
      rw [Nat.add_assoc]
      exact hc _ u (by rw [flat_get _ 3 _ h7 j k hj hk, hu])
    exact ⟨g, o, h, hF, at_ 0 _ rfl, at_ 1 _ rfl, at_ 2 _ rfl⟩

/-- What is collected: full to its capacity, or a row of the call's own. -/
def Coll (w0 w : World) (v : Value) (xs : List UInt8) : Prop :=
  ∃ A c, v = .slice A xs.length c ∧ xs.length ≤ c ∧ RB w (w0.heap.size ≤ ·) A xs ∧ ((A ≠ none ∧ c = xs.length) ∨ OB w (w0.heap.size ≤ ·) v xs)

theorem Coll.keep {w0 w w' : World} {v : Value} {xs : List UInt8} (h : Coll w0 w v xs) (hk : Kept noneS w w') : Coll w0 w' v xs := by
  obtain ⟨A, c, h1, h2, h3, h4⟩ := h
  refine ⟨A, c, h1, h2, h3.still hk, ?_⟩
  rcases h4 with h4 | h4
  · exact .inl h4
  · exact .inr (Own.keep0 h4 hk (fun _ _ _ q => q.elim))

theorem Coll.append {w0 w : World} {A B : Option Addr} {c d : Nat} {xs ys : List UInt8} {G : Nat → Prop} (h : Coll w0 w (.slice A xs.length c) xs) (h0 : w0.heap.size ≤ w.heap.size) (hy : RB w G B ys) (hny : ys ≠ []) (hl : xs.length + ys.length ≤ 140737488355328) :
    ∃ A' c' w', (appSem #[23, 23] 23 #[.slice A xs.length c, .slice B ys.length d]).run Try.prog w = .ok (.slice A' (xs.length + ys.length) c') w' ∧ Coll w0 w' (.slice A' (xs ++ ys).length c') (xs ++ ys) ∧ Kept (w0.heap.size ≤ ·) w w' := by
  obtain ⟨i0, hi, hz0, hz1, hz2⟩ := info_parts infoU8
  obtain ⟨A1, c1, e, h2, h3, h4⟩ := h
  injection e with e1 _ e3
  subst e1 e3
  have hll : (xs ++ ys).length = xs.length + ys.length := List.length_append
  rcases h4 with ⟨hA, hc⟩ | h4
  · rcases A with _ | ad
    · exact absurd rfl hA
    rcases B with _ | bd
    · exfalso
      rcases hy with h | ⟨g, o, h, _⟩
      · exact hny (by simpa [bvs] using h)
      · cases h
    have hold : ∀ j v, (bvs xs)[j]? = some v → w.cell? (ad.add j) = some v := fun j v hv => Rd.add h3 hv
    have hnew : ∀ j v, (bvs ys)[j]? = some v → w.cell? (bd.add j) = some v := fun j v hv => Rd.add hy hv
    have hyp : 0 < ys.length := List.length_pos_iff.2 hny
    have hr := run_append_grow (P := Try.prog) w 23 23 5 i0 (.int .u8 0) Try.underlying23 hi hz0 ad xs.length c (bvs xs) (by rw [hz1, bvs_length, Nat.mul_one]) hold bd ys.length d (bvs ys) (by rw [hz1, bvs_length, Nat.mul_one]) hnew (by omega) (by omega) (growslice_fits (by omega) (by rw [hz2]; omega))
    have hge := grownCap_ge w (xs.length + ys.length) c 5
    have hle := grownCap_le_maxLen w (xs.length + ys.length) c 5 (by simp [maxLen]; omega)
    have ho : OB (w.drew.alloc (.cells ((bvs xs).toArray ++ (bvs ys).toArray ++ Builtin.zeroCells (Value.int .u8 0).cells (grownCap w (xs.length + ys.length) c 5 - (xs.length + ys.length))) 5)) (w0.heap.size ≤ ·) (.slice (some ⟨w.heap.size, 0, none⟩) (xs ++ ys).length (grownCap w (xs.length + ys.length) c 5)) (xs ++ ys) := by
      unfold OB
      rw [bvs_append, hll]
      refine ⟨⟨by simp [bvs_length], .inr ⟨w.heap.size, _, _, rfl, Nat.zero_le _, heap_alloc_new w.drew _, hge, hle, ?_, ?_⟩⟩, fun k hk => ?_⟩
      · simp only [Array.size_append, List.size_toArray, size_zeroCells, bvs_length, Value.cells]
        simp
        omega
      · simp only [Array.toList_append]
        exact List.take_left' (by rw [List.length_append, bvs_length, bvs_length]; simp)
      · simp [Value.ownBlock] at hk
        omega
    exact ⟨_, _, _, hr, ⟨_, _, rfl, by omega, (OB.rb ho).2, .inr ho⟩, ⟨rfl, rfl, rfl, by simp, fun k hk _ => Below.heap_alloc w.drew _ k hk⟩⟩
  · obtain ⟨v', w', hrun, o2, k2⟩ := run_append_Own (P := Try.prog) w 23 23 5 i0 (.int .u8 0) 1 1 Try.underlying23 hi hz0 hz1 hz2 rfl (by decide) (w0.heap.size ≤ ·) G _ xs.length (bvs xs) h4 B ys.length d (bvs ys) (by simp [bvs_length]) hy (bvs_one ys) (by simp [maxLen]; omega) (by omega)
    obtain ⟨A', c', rfl, hc', _⟩ := Own.form o2
    have ho : OB w' (w0.heap.size ≤ ·) (.slice A' (xs ++ ys).length c') (xs ++ ys) := by
      unfold OB
      rw [bvs_append, hll]
      exact o2.mono (fun k _ q => by rcases q with q | q; exact q; omega)
    exact ⟨A', c', w', hrun, ⟨A', c', rfl, by omega, (OB.rb ho).2, .inr ho⟩, k2.mono (fun k _ q => h4.2 k q)⟩

theorem flat_bound (fs : List Fr) : (flat fs).length ≤ 2 * (fs.map Fr.bulk).sum := by
  unfold flat
  induction fs with
  | nil => simp
  | cons f l ih =>
    rw [List.flatMap_cons, List.length_append, List.map_cons, List.sum_cons]
    have hk : f.pk.length = f.pl.length + 8 := packed_length _ _ _
    unfold Fr.bulk at *
    omega
theorem pl_bound (fs : List Fr) : ∀ f ∈ fs, f.pl.length ≤ (fs.map Fr.bulk).sum := by
  induction fs with
  | nil => intro f h; cases h
  | cons x l ih =>
    intro f h
    rw [List.map_cons, List.sum_cons]
    rcases List.mem_cons.1 h with rfl | h
    · unfold Fr.bulk; omega
    · have := ih f h; omega

theorem Rd.int {w : World} {F : Nat → Prop} {A : Option Addr} {l : List Int} (h : Rd w F A (l.map (Value.int .i64))) {j : Nat} (hj : j < l.length) : ∃ g o, A = some ⟨g, o, none⟩ ∧ w.cell? ⟨g, o + j, none⟩ = some (.int .i64 l[j]) := by
  rcases h with h | ⟨g, o, h, _, hc⟩
  · have := congrArg List.length h
    simp at this
    rw [this] at hj
    simp at hj
  · exact ⟨g, o, h, hc j _ (by rw [List.getElem?_map, List.getElem?_eq_getElem hj]; rfl)⟩

theorem cloneN (A : Option Addr) (c n : Nat) (xs : List UInt8) (hl : xs.length = n) (F : Nat → Prop) (w : World) (hx : RB w F A xs) (hn : xs.length ≤ 140737488355328) :
    Calls Try.prog 8 #[.slice A n c] w fun e w' => ∃ A' c', e = .returned (.slice A' n c') ∧ OB w' (w.heap.size ≤ ·) (.slice A' n c') xs ∧ Kept noneS w w' := by
  subst hl
  exact clone_any A c xs F w hx hn

theorem and63 (x : Int) : bits .and .i64 x 63 = ((x % 64).toNat : Int) := by
  have h1 : (BitVec.ofInt 64 x).toNat % 64 = (x % 64).toNat := by
    rw [BitVec.toNat_ofInt]
    omega
  show IntKind.i64.wrap ((BitVec.ofInt 64 x &&& BitVec.ofInt 64 63).toNat : Int) = _
  rw [BitVec.toNat_and, show (BitVec.ofInt 64 63).toNat = 63 from rfl, show ∀ n : Nat, n &&& 63 = n % 64 from fun n => Nat.and_two_pow_sub_one_eq_mod n 6, h1, IntKind.wrap_i64]
  omega

set_option maxHeartbeats 8000000 in
set_option maxRecDepth 100000 in
theorem frameThere_walk (A : Option Addr) (c : Nat) (fs : List Fr) (A2 : Option Addr) (c2 : Nat) (cuts : List Int) (w : World) (hr : Rd w (· < w.heap.size) A (fs.flatMap Fr.cells)) (hg : ∀ o ∈ fs, o.good w) (hl : fs.length * 40 ≤ 140737488351232) (hsum : (fs.map Fr.bulk).sum ≤ 1048576)
    (hr2 : Rd w (· < w.heap.size) A2 (cuts.map (Value.int .i64))) (hl2 : cuts.length * 8 ≤ 140737488351232) :
    Calls Try.prog 5 #[.slice A fs.length c, .slice A2 cuts.length c2] w fun e w' => e = .returned (.bool true) ∧ Kept noneS w w' := by
  have HR := Lib.hid hr
  have HG := Lib.hid hg
  have HC := Lib.hid hr2
  have HFB := Lib.hid (Nat.le_trans (flat_bound fs) (Nat.mul_le_mul_left 2 hsum))
  have HPB := Lib.hid (fun f hf => Nat.le_trans (pl_bound fs f hf) hsum)
  clear hr hg hr2 hsum
  go_enter Try.func5, Try.ntmps5
  go_wp2_with fail
  refine (speaks4 w).mono ?_
  rintro e w1 ⟨rfl, k1⟩
  have S1 := Lib.hid k1
  have z1 := k1.size
  clear k1
  go_wp2_with fail
  refine (frameHeader w1).mono ?_
  rintro e w2 ⟨rfl, rb2, z2, k2⟩
  have S2 := Lib.hid (S1.out.trans k2)
  have CO : Hid (Coll w w2 (.slice (some ⟨w1.heap.size, 0, none⟩) 8 8) (helloBs ++ flat (fs.take 0))) := Lib.hid (by
    rw [show helloBs ++ flat (fs.take 0) = helloBs by simp [flat]]
    exact ⟨_, 8, rfl, Nat.le_refl _, rb2.mono (fun k _ q => by omega), .inl ⟨by simp, rfl⟩⟩)
  clear rb2 k2 S1
  generalize w1.heap.size = hd at CO z2 z1 ⊢
  go_wp2
  go_loopw [5, 6, 30] (fun v l i wr => ∃ (j lim : Nat), j ≤ fs.length ∧ i = .int .i64 j ∧ l = .int .i64 lim ∧ 8 ≤ lim ∧ lim ≤ 2097160 ∧ Hid (∀ f ∈ fs.take j, f.ok ∧ f.pl.length + 8 ≤ lim) ∧ Coll w wr v (helloBs ++ flat (fs.take j)) ∧ Kept noneS w wr) (fun _ _ i _ => fs.length - (intOf i).toNat)
  case atStart => exact ⟨0, 8, Nat.zero_le _, rfl, rfl, by decide, by decide, Lib.hid (by intro f hf; simp at hf), CO.out, S2.out⟩
  case round =>
    clear CO S2
    obtain ⟨j, lim, hj, rfl, rfl, hlm1, hlm2, HOK, hco, hk⟩ := hrel
    obtain ⟨xs, HXS⟩ : ∃ xs, Hid (helloBs ++ flat (fs.take j) = xs) := ⟨_, Lib.hid rfl⟩
    rw [HXS.out] at hco
    have CO := Lib.hid hco
    have KR := Lib.hid hk
    have zr := hk.size
    clear hco hk
    obtain ⟨AW, cW, rfl, hcW, rbW, _⟩ := CO.out
    have RW := Lib.hid rbW
    clear rbW
    by_cases hlt : j < fs.length
    · obtain ⟨g, o, rfl, hgg, d0, d1, d2⟩ := (HR.out.keep KR.out (fun _ _ _ q => q.elim)).fr hlt
      have hgood := HG.out fs[j] (List.getElem_mem hlt)
      have hpb := HPB.out fs[j] (List.getElem_mem hlt)
      have HSN := Lib.hid (flat_snoc fs j hlt)
      have HTK : Hid (∀ f ∈ fs.take (j + 1), f ∈ fs.take j ∨ f = fs[j]) := Lib.hid (by
        intro f hf
        rw [List.take_succ_eq_append_getElem hlt, List.mem_append] at hf
        rcases hf with hf | hf
        · exact .inl hf
        · exact .inr (by simpa using hf))
      have hfl : (flat (fs.take (j + 1))).length ≤ 2097152 := by
        have := congrArg List.length (flat_split fs (j + 1))
        rw [List.length_append] at this
        have := HFB.out
        omega
      generalize fs[j] = f at d0 d1 d2 hgood hpb HSN HTK
      obtain ⟨⟨ht1, ht2⟩, _, hrb, hdc, hdm, _⟩ := hgood
      have RBd := Lib.hid (hrb.still KR.out)
      clear hrb
      have ka : Kept noneS wr (wr.alloc (.cells #[.int .i64 f.t, .int .i64 f.ch, .slice f.addr f.pl.length f.cap] 25)) := (Kept.refl _ _).alloc _
      have BKo := Lib.hid (Blk.new wr 25 #[.int .i64 f.t, .int .i64 f.ch, .slice f.addr f.pl.length f.cap])
      have RBa := Lib.hid (RBd.out.still ka)
      have COa := Lib.hid (CO.out.keep ka)
      have KA := Lib.hid (KR.out.trans ka)
      clear ka CO RW RBd KR
      go_upto_region 9 with (fail)
      clear d0 d1 d2
      generalize wr.alloc (.cells #[.int .i64 f.t, .int .i64 f.ch, .slice f.addr f.pl.length f.cap] 25) = wa at BKo RBa COa KA ⊢
      generalize wr.heap.size = bo at BKo ⊢
      have a0 : wa.cell? ⟨bo, 0, none⟩ = some (.int .i64 f.t) := BKo.out.cell 0
      have a1 : wa.cell? ⟨bo, 1, none⟩ = some (.int .i64 f.ch) := BKo.out.cell 1
      have a2 : wa.cell? ⟨bo, 2, none⟩ = some (.slice f.addr f.pl.length f.cap) := BKo.out.cell 2
      go_region_held3 (fun W => W.cell? ⟨bo, 0, none⟩ = some (.int .i64 f.t) ∧ W.cell? ⟨bo, 1, none⟩ = some (.int .i64 f.ch) ∧ W.cell? ⟨bo, 2, none⟩ = some (.slice f.addr f.pl.length f.cap))
        (first | exact ⟨a0, a1, a2⟩ | exact ⟨b0, b1, b2⟩ | exact ⟨e0, e1, e2⟩)
        (first
          | (go_at_call 8; refine (clone_any f.addr f.cap f.pl _ wa.drew RBa.out.drew (by omega)).mono ?_; rintro e wb ⟨Ai, ci, rfl, oi, ki⟩; have kb : Kept noneS wa wb := ((Kept.refl noneS wa).drew).trans ki; have BKb := Lib.hid (BKo.out.keep kb (fun q => q)); have b0 : wb.cell? ⟨bo, 0, none⟩ = some (.int .i64 f.t) := BKb.out.cell 0; have b1 : wb.cell? ⟨bo, 1, none⟩ = some (.int .i64 f.ch) := BKb.out.cell 1; have b2 : wb.cell? ⟨bo, 2, none⟩ = some (.slice f.addr f.pl.length f.cap) := BKb.out.cell 2; have RI := Lib.hid (OB.rb oi).2; have KB := Lib.hid kb; clear kb ki oi)
          | (go_at_call 9; refine (framePack f.t f.ch Ai ci f.pl.length f.pl rfl _ wb RI.out (by omega) ht1 ht2).mono ?_; rintro e wc ⟨Ap, cp, rfl, op, kp⟩; have kc : Kept noneS wa wc := KB.out.trans kp; have BKc := Lib.hid (BKo.out.keep kc (fun q => q)); have e0 : wc.cell? ⟨bo, 0, none⟩ = some (.int .i64 f.t) := BKc.out.cell 0; have e1 : wc.cell? ⟨bo, 1, none⟩ = some (.int .i64 f.ch) := BKc.out.cell 1; have e2 : wc.cell? ⟨bo, 2, none⟩ = some (.slice f.addr f.pl.length f.cap) := BKc.out.cell 2; have RP := Lib.hid (OB.rb op).2; have KC := Lib.hid kc; clear kc kp op))
      clear a0 a1 a2 b0 b1 b2 e0 e1
      by_cases hpe : packErr f.t f.ch = 0
      · have ho : packOut f.t f.ch f.pl = f.pk := by unfold packOut; rw [if_pos hpe]; rfl
        have hlen : f.pk.length = f.pl.length + 8 := packed_length _ _ _
        obtain ⟨i1, i2, i3⟩ := (packErr_iff _ _).1 hpe
        have HFO : Hid (f.ok) := Lib.hid ⟨i1, i2, i3, hpb⟩
        rw [ho] at RP ⊢
        rw [hpe]
        have hfl2 : xs.length + f.pk.length ≤ 2097160 := by
          have := congrArg List.length HSN.out
          rw [List.length_append] at this
          rw [← HXS.out, List.length_append]
          show 8 + _ + _ ≤ _
          omega
        have zw : w.heap.size ≤ wc.heap.size := Nat.le_trans KA.out.size KC.out.size
        obtain ⟨A', c', wd, hrun, hco', kd⟩ := Coll.append (d := cp) (COa.out.keep KC.out) zw RP.out (by intro e; rw [e] at hlen; simp at hlen) (by omega)
        have HX : Hid (xs ++ f.pk = helloBs ++ flat (fs.take (j + 1))) := Lib.hid (by rw [HSN.out, ← HXS.out, List.append_assoc])
        rw [show (xs ++ f.pk).length = xs.length + f.pk.length from List.length_append] at hco'
        have HCO := Lib.hid hco'
        rw [hlen] at hrun HCO ⊢
        have KD := Lib.hid (((KA.out.trans KC.out).trans2 kd (fun k a q => by omega)))
        have HLN := Lib.hid hlen
        clear hco' kd hlen ho hpe COa RP HSN i1 i2 i3 KA KC BKc BKb BKo RI KB RBa
        by_cases hlx : lim < f.pl.length + 8
        · go_wp2
          go_roundw
          case rel =>
            refine ⟨j + 1, f.pl.length + 8, by omega, by go_num, by go_num, by omega, by omega, Lib.hid (fun x hx => ?_), by rw [← HX.out]; exact HCO.out, KD.out⟩
            rcases HTK.out x hx with h | rfl
            · exact ⟨(HOK.out x h).1, by have := (HOK.out x h).2; omega⟩
            · exact ⟨HFO.out, Nat.le_refl _⟩
          case measure => simp [intOf]; omega
        · go_wp2
          go_roundw
          case rel =>
            refine ⟨j + 1, lim, by omega, by go_num, rfl, by omega, by omega, Lib.hid (fun x hx => ?_), by rw [← HX.out]; exact HCO.out, KD.out⟩
            rcases HTK.out x hx with h | rfl
            · exact HOK.out x h
            · exact ⟨HFO.out, by omega⟩
          case measure => simp [intOf]; omega
      · have hq : (packErr f.t f.ch != 0) = true := by simpa using hpe
        clear hpe
        generalize packErr f.t f.ch = er at hq ⊢
        generalize packOut f.t f.ch f.pl = out at RP ⊢
        go_wp2
        go_ret
        exact ⟨rfl, KA.out.trans KC.out⟩
    · obtain rfl : j = fs.length := by omega
      have hall : ∀ f ∈ fs, f.ok ∧ (f.pl.length : Int) + 8 ≤ (lim : Int) := by
        intro f hf
        have h := HOK.out f (by rw [List.take_length]; exact hf)
        exact ⟨h.1, by have := h.2; omega⟩
      have HALL := Lib.hid hall
      have HW : Hid (wholeOf fs = xs) := Lib.hid (by rw [← HXS.out, List.take_length]; rfl)
      have hxl : xs.length ≤ 2097160 := by
        rw [← HW.out, whole_length]
        have := HFB.out
        omega
      clear hall HOK HXS CO
      obtain ⟨wo, rfl⟩ : ∃ wo : World, wo = wr := ⟨_, rfl⟩
      go_wp2_with fail
      refine (newParser (lim : Int) wo).mono ?_
      rintro e wp ⟨rfl, pp, zp, kp⟩
      have PP := Lib.hid pp
      have KP := Lib.hid kp
      clear pp kp
      go_wp2
      go_loopw [12, 13, 14, 15] (fun va vg vh vi wx => ∃ (at_ got i : Nat) (hello : Bool) (wait : List UInt8), va = .int .i64 at_ ∧ vg = .int .i64 got ∧ vh = .bool hello ∧ vi = .int .i64 i ∧ i ≤ cuts.length + 1 ∧ (i = cuts.length + 1 → at_ = xs.length) ∧ ThSt fs at_ got hello wait ∧ ThQ fs got hello wait ∧ PAt wx (wo.heap.size ≤ ·) wo.heap.size wait lim ∧ Kept noneS wo wx) (fun _ _ _ vi _ => cuts.length + 1 - (intOf vi).toNat)
      case atStart => exact ⟨0, 0, 0, false, [], rfl, rfl, rfl, rfl, by omega, by omega, ThSt.start fs, (fun q => by cases q), PP.out, KP.out⟩
      case round =>
        clear PP KP
        obtain ⟨at_, got, i, hello, wait, rfl, rfl, rfl, rfl, hi, hend, hst, hq, hpa, hk⟩ := hrel
        have ST := Lib.hid hst
        have HQ := Lib.hid hq
        have PA := Lib.hid hpa
        have KX := Lib.hid hk
        have hat : at_ ≤ xs.length := by rw [← HW.out]; exact hst.1
        have hwl := hst.len
        have hgl := hst.2.1
        have HEnd := Lib.hid hend
        clear hst hq hpa hk hend
        by_cases hic : i ≤ cuts.length
        · have hz0 : wo.heap.size ≤ wr.heap.size := KX.out.size
          go_upto_block 3 with (fail)
          go_cut [12, 13, 14, 16, 17, 18, 19, 20, 21] from 73 to 141 (fun va vg vh _ _ _ _ _ _ wx => ∃ (at' got' : Nat) (hello' : Bool) (wait' : List UInt8), va = .int .i64 at' ∧ vg = .int .i64 got' ∧ vh = .bool hello' ∧ (i = cuts.length → at' = xs.length) ∧ ThSt fs at' got' hello' wait' ∧ ThQ fs got' hello' wait' ∧ PAt wx (wo.heap.size ≤ ·) wo.heap.size wait' lim ∧ Kept noneS wo wx)
          case first =>
            go_upto_if 80 with (fail)
            go_cut [16, 80] from 81 to 87 (fun v _ wx => ∃ n : Nat, v = .int .i64 n ∧ at_ + n ≤ xs.length ∧ (i = cuts.length → at_ + n = xs.length) ∧ wr = wx)
            case first =>
              by_cases hil : i < cuts.length
              · obtain ⟨g2, o2, rfl, dc⟩ := Rd.int (HC.out.keep (KR.out.trans KX.out) (fun _ _ _ q => q.elim)) hil
                have a63 := and63 cuts[i]
                generalize cuts[i] = x at dc a63
                have hm63 : (x % 64).toNat ≤ 63 := by omega
                generalize (x % 64).toNat = mm at a63 hm63
                by_cases hmn : (xs.length : Int) - (at_ : Int) < (mm : Int)
                · go_wp2_with fail
                  go_meet
                  case rel => exact ⟨xs.length - at_, by go_num, by omega, by omega, rfl⟩
                · go_wp2_with fail
                  go_meet
                  case rel => exact ⟨mm, rfl, by omega, by omega, rfl⟩
              · go_wp2_with fail
                go_meet
                case rel => exact ⟨xs.length - at_, by go_num, by omega, by omega, rfl⟩
            case rest =>
              obtain ⟨n, rfl, hn1, hn2, rfl⟩ := hcut
              have HN2 := Lib.hid hn2
              clear hn2
              have g1 := fun W => run_slice_mid W AW xs.length cW at_ (at_ + n) (by omega) (by omega)
              have rbc : RB wr (w.heap.size ≤ ·) (if cW = at_ then AW else AW.map (·.add at_)) ((xs.drop at_).take n) := RB.take (RB.cut (RW.out.still KX.out) (k := at_) (cap := cW) hcW) n
              rw [show ((at_ + n : Nat) : Int) = (at_ : Int) + (n : Int) by omega, show at_ + n - at_ = n by omega] at g1
              generalize (if cW = at_ then AW else AW.map (·.add at_)) = AS at g1 rbc
              have hls : ((xs.drop at_).take n).length = n := by simp; omega
              have RC := Lib.hid rbc
              have HLS := Lib.hid hls
              clear rbc hls
              go_wp2_with fail
              refine (cloneN AS (cW - at_) n ((xs.drop at_).take n) HLS.out _ wr RC.out (by have := HLS.out; omega)).mono ?_
              rintro e wd ⟨Ad, cd, rfl, od, kd⟩
              have RD := Lib.hid (OB.rb od).2
              have PD := Lib.hid (PA.out.keep kd (fun _ _ _ q => q.elim))
              have KD := Lib.hid (KX.out.trans kd)
              have zd := KD.out.size
              clear od kd g1 PA KX RC
              go_wp2_with fail
              refine (parserFeed (lim : Int) wd (wo.heap.size ≤ ·) _ wo.heap.size wait ((xs.drop at_).take n) PD.out Ad n cd HLS.out RD.out (by have := HLS.out; omega) zd).mono ?_
              rintro e we ⟨⟨v, rfl⟩, pe, ke⟩
              have PE := Lib.hid pe
              have KE := Lib.hid (KD.out.trans2 ke (fun k a q => by omega))
              have ze := KE.out.size
              clear pe ke PD KD RD
              go_upto_if 101 with (fail)
              go_cut [14, 17, 18] from 102 to 115 (fun vh _ _ wx => ∃ (hello' : Bool) (wait' : List UInt8), vh = .bool hello' ∧ ThSt fs (at_ + n) got hello' wait' ∧ PAt wx (wo.heap.size ≤ ·) wo.heap.size wait' lim ∧ Kept noneS wo wx)
              case first =>
                rcases hello with _ | _
                · have hh := ST.out.hello (n := n) (by rw [HW.out]; exact hn1)
                  rw [HW.out] at hh
                  have HHe := Lib.hid hh
                  clear hh
                  have hwl2 : (wait ++ (xs.drop at_).take n).length ≤ 140737488355328 := by rw [List.length_append]; have := HLS.out; omega
                  by_cases h8 : 8 ≤ at_ + n
                  · have hd : decide (8 ≤ at_ + n) = true := by simpa using h8
                    rw [if_pos h8, hd] at HHe
                    clear hd
                    go_wp2_with fail
                    refine (parserHello (lim : Int) we (wo.heap.size ≤ ·) wo.heap.size _ PE.out hwl2).mono ?_
                    rw [HHe.out.1]
                    rintro e wf ⟨rfl, pf, kf⟩
                    have PF := Lib.hid pf
                    have KF := Lib.hid (KE.out.trans2 kf (fun k a q => by omega))
                    clear pf kf
                    have h8i : (8 : Int) ≤ (at_ : Int) + (n : Int) := by omega
                    go_wp2
                    go_meet
                    case rel => exact ⟨true, _, rfl, HHe.out.2, PF.out, KF.out⟩
                  · have hd : decide (8 ≤ at_ + n) = false := by simpa using h8
                    rw [if_neg h8, hd] at HHe
                    clear hd
                    go_wp2_with fail
                    refine (parserHello (lim : Int) we (wo.heap.size ≤ ·) wo.heap.size _ PE.out hwl2).mono ?_
                    rw [HHe.out.1]
                    rintro e wf ⟨rfl, pf, kf⟩
                    have PF := Lib.hid pf
                    have KF := Lib.hid (KE.out.trans2 kf (fun k a q => by omega))
                    clear pf kf
                    have h8i : ¬ (8 : Int) ≤ (at_ : Int) + (n : Int) := by omega
                    go_wp2
                    go_meet
                    case rel => exact ⟨false, _, rfl, HHe.out.2, PF.out, KF.out⟩
                · have hf := ST.out.fed (n := n) (by rw [HW.out]; exact hn1)
                  rw [HW.out] at hf
                  have HFd := Lib.hid hf
                  clear hf
                  go_wp2_with fail
                  go_meet
                  case rel => exact ⟨true, _, rfl, HFd.out, PE.out, KE.out⟩
              case rest =>
                clear PE KE ST HQ
                obtain ⟨hello', wait', rfl, hst, hpa, hk⟩ := hcut
                have ST := Lib.hid hst
                have PA := Lib.hid hpa
                have KX := Lib.hid hk
                clear hst hpa hk
                have hgl := ST.out.2.1
                go_wp2
                go_loopw [13, 19, 20, 21] (fun vg _ _ _ wx => ∃ (got : Nat) (wait : List UInt8), vg = .int .i64 got ∧ ThSt fs (at_ + n) got hello' wait ∧ PAt wx (wo.heap.size ≤ ·) wo.heap.size wait lim ∧ Kept noneS wo wx) (fun vg _ _ _ _ => fs.length + 1 - (intOf vg).toNat)
                case atStart => exact ⟨got, wait', rfl, ST.out, PA.out, KX.out⟩
                case round =>
                  clear ST PA KX hgl HEnd hat hwl
                  obtain ⟨got, wait, rfl, hst, hpa, hk⟩ := hrel
                  have ST := Lib.hid hst
                  have PA := Lib.hid hpa
                  have KX := Lib.hid hk
                  have hgl := hst.2.1
                  have hwl := hst.len
                  clear hst hpa hk
                  rcases hello' with _ | _
                  · go_wp2
                    go_meet
                    case rel => exact ⟨at_ + n, got, false, wait, by go_num, rfl, rfl, HN2.out, ST.out, (fun q => by cases q), PA.out, KX.out⟩
                  · have hx := nextAny (lim : Int) (by omega) (by omega) wr (wo.heap.size ≤ ·) wo.heap.size wait PA.out (by omega)
                    rcases ST.out.next HALL.out with ⟨e, hq⟩ | ⟨hg, wait', e, st'⟩
                    · rw [e] at hx
                      have HX := Lib.hid hx
                      have HQ := Lib.hid hq
                      clear hx e hq
                      go_wp2_with fail
                      refine HX.out.mono ?_
                      rintro e wd ⟨Ax, cx, rfl, ox, px, kx⟩
                      have PX := Lib.hid px
                      have KD := Lib.hid (KX.out.trans2 kx (fun k a q => by omega))
                      clear ox px kx HX
                      go_wp2
                      go_meet
                      case rel => exact ⟨at_ + n, got, true, wait, by go_num, rfl, rfl, HN2.out, ST.out, HQ.out, PX.out.keep ((Kept.refl noneS _).alloc _) (fun _ _ _ q => q.elim), KD.out.alloc _⟩
                    · rw [e] at hx
                      have HX := Lib.hid hx
                      have ST' := Lib.hid st'
                      clear hx e st'
                      have hgood := HG.out fs[got] (List.getElem_mem hg)
                      obtain ⟨g, o, rfl, hgg, d0, d1, d2⟩ := HR.out.fr hg
                      generalize fs[got] = f at HX hgood d0 d1 d2
                      obtain ⟨_, _, hrb, hdc, hdm, _⟩ := hgood
                      have HRB := Lib.hid hrb
                      have HD0 := Lib.hid d0
                      have HD1 := Lib.hid d1
                      have HD2 := Lib.hid d2
                      clear hrb d0 d1 d2 ST
                      go_wp2_with fail
                      refine HX.out.mono ?_
                      rintro e wd ⟨Ax, cx, rfl, ox, px, kx⟩
                      have KD := Lib.hid (KX.out.trans2 kx (fun k a q => by omega))
                      have ka : Kept noneS wd (wd.alloc (.cells #[.int .i64 f.t, .int .i64 f.ch, .slice Ax f.pl.length cx] 25)) := (Kept.refl _ _).alloc _
                      have BF := Lib.hid (Blk.new wd 25 #[.int .i64 f.t, .int .i64 f.ch, .slice Ax f.pl.length cx])
                      have PX := Lib.hid (px.keep ka (fun _ _ _ q => q.elim))
                      have RX := Lib.hid ((OB.rb ox).2.still ka)
                      have KF := Lib.hid (KD.out.trans ka)
                      clear ox px kx HX ka KD
                      go_upto_region 39 with (fail)
                      generalize (wd.alloc (.cells #[.int .i64 f.t, .int .i64 f.ch, .slice Ax f.pl.length cx] 25)) = wf at BF PX RX KF ⊢
                      generalize wd.heap.size = qf at BF ⊢
                      have kw := KR.out.trans KF.out
                      have f0 : wf.cell? ⟨qf, 0, none⟩ = some (.int .i64 f.t) := BF.out.cell 0
                      have f1 : wf.cell? ⟨qf, 1, none⟩ = some (.int .i64 f.ch) := BF.out.cell 1
                      have f2 : wf.cell? ⟨qf, 2, none⟩ = some (.slice Ax f.pl.length cx) := BF.out.cell 2
                      have h0 : wf.cell? ⟨g, o + got * 3, none⟩ = some (.int .i64 f.t) := (kw.cell (p := ⟨g, o + got * 3, none⟩) hgg (fun q => q)).trans HD0.out
                      have h1 : wf.cell? ⟨g, o + got * 3 + 1, none⟩ = some (.int .i64 f.ch) := (kw.cell (p := ⟨g, o + got * 3 + 1, none⟩) hgg (fun q => q)).trans HD1.out
                      have h2 : wf.cell? ⟨g, o + got * 3 + 2, none⟩ = some (.slice f.addr f.pl.length f.cap) := (kw.cell (p := ⟨g, o + got * 3 + 2, none⟩) hgg (fun q => q)).trans HD2.out
                      have RF := Lib.hid (HRB.out.still kw)
                      clear kw
                      have hgd : decide (fs.length ≤ got) = false := by simp; omega
                      have hgi : ¬ ((fs.length : Int) ≤ (got : Int)) := by omega
                      go_region_held3 (fun W => W.cell? ⟨qf, 0, none⟩ = some (.int .i64 f.t) ∧ W.cell? ⟨qf, 1, none⟩ = some (.int .i64 f.ch) ∧ W.cell? ⟨qf, 2, none⟩ = some (.slice Ax f.pl.length cx) ∧ W.cell? ⟨g, o + got * 3, none⟩ = some (.int .i64 f.t) ∧ W.cell? ⟨g, o + got * 3 + 1, none⟩ = some (.int .i64 f.ch) ∧ W.cell? ⟨g, o + got * 3 + 2, none⟩ = some (.slice f.addr f.pl.length f.cap))
                        (first | exact ⟨f0, f1, f2, h0, h1, h2⟩ | exact SS.out)
                        (first
                          | (go_at_call 12; refine (refSame f.t f.ch f.t f.ch Ax f.addr cx f.cap f.pl.length f.pl.length f.pl f.pl rfl rfl _ _ wf.drew RX.out.drew RF.out.drew).mono ?_; rw [show sameB f.t f.ch f.pl f.t f.ch f.pl = true by simp [sameB]]; rintro e wg ⟨rfl, kg⟩; have kg' : Kept noneS wf wg := ((Kept.refl noneS wf).drew).trans kg; have SS : Hid (wg.cell? ⟨qf, 0, none⟩ = some (.int .i64 f.t) ∧ wg.cell? ⟨qf, 1, none⟩ = some (.int .i64 f.ch) ∧ wg.cell? ⟨qf, 2, none⟩ = some (.slice Ax f.pl.length cx) ∧ wg.cell? ⟨g, o + got * 3, none⟩ = some (.int .i64 f.t) ∧ wg.cell? ⟨g, o + got * 3 + 1, none⟩ = some (.int .i64 f.ch) ∧ wg.cell? ⟨g, o + got * 3 + 2, none⟩ = some (.slice f.addr f.pl.length f.cap)) := Lib.hid ⟨(kg'.cell (p := ⟨qf, 0, none⟩) (lt_of_cell f0) (fun q => q)).trans f0, (kg'.cell (p := ⟨qf, 1, none⟩) (lt_of_cell f1) (fun q => q)).trans f1, (kg'.cell (p := ⟨qf, 2, none⟩) (lt_of_cell f2) (fun q => q)).trans f2, (kg'.cell (p := ⟨g, o + got * 3, none⟩) (lt_of_cell h0) (fun q => q)).trans h0, (kg'.cell (p := ⟨g, o + got * 3 + 1, none⟩) (lt_of_cell h1) (fun q => q)).trans h1, (kg'.cell (p := ⟨g, o + got * 3 + 2, none⟩) (lt_of_cell h2) (fun q => q)).trans h2⟩; have KG := Lib.hid kg'; clear kg kg'))
                      clear f0 f1 f2 h0 h1 h2
                      go_wp2
                      go_roundw
                      case rel => exact ⟨got + 1, wait', by go_num, ST'.out, PX.out.keep KG.out (fun _ _ _ q => q.elim), KF.out.trans KG.out⟩
                      case measure => simp [intOf]; omega
          case rest =>
            obtain ⟨at', got', hello', wait', rfl, rfl, rfl, hend', hst, hq, hpa, hk⟩ := hcut
            have ST' := Lib.hid hst
            have HQ' := Lib.hid hq
            have PA' := Lib.hid hpa
            have KX' := Lib.hid hk
            have HE' := Lib.hid hend'
            clear hst hq hpa hk ST PA KX hend'
            go_wp2
            go_roundw
            case rel => exact ⟨at', got', i + 1, hello', wait', rfl, rfl, rfl, by go_num, by omega, (fun e => HE'.out (by omega)), ST'.out, HQ'.out, PA'.out, KX'.out⟩
            case measure => simp [intOf]; omega
        · obtain rfl : i = cuts.length + 1 := by omega
          obtain ⟨rfl, rfl, rfl⟩ := ST.out.done HQ.out (by rw [HW.out]; exact HEnd.out rfl)
          go_wp2_with fail
          refine (parserLeft (lim : Int) wr _ _ [] PA.out).mono ?_
          rintro e w' ⟨rfl, rfl⟩
          go_wp2
          go_ret
          exact ⟨rfl, KR.out.trans KX.out⟩

end Go.Proofs.Ytkkfifocilnbkaa
