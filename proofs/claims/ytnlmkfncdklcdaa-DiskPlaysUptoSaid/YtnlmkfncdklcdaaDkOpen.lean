/-
  disk.Open.
-/
import Derived.Test.YtnlmkfncdklcdaaDkFls
import Derived.Sort.Walk0
import Derived.Deep.RegionHeld3
import Derived.Deep.CutRange
namespace Go.Proofs.Ytnlmkfncdklcdaa
open Go.RowKit

def OpenPost (w : World) (fs : List FlS) (room : Int) (e : Ending) (w' : World) : Prop :=
  (openErr fs [] ≠ 0 ∧ e = .returned (.tuple #[.pointer none, .int .i64 (openErr fs [])]) ∧ Kept noneS w w') ∨
    (openErr fs [] = 0 ∧ ∃ p F, e = .returned (.tuple #[.pointer (some ⟨p, 0, none⟩), .int .i64 0]) ∧ DAt w' F p (openS fs room) fs.length ∧ (∀ k, F k → w.heap.size ≤ k) ∧ Asc (openS fs room).files ∧ Kept noneS w w')

/-- The tags of a new disk. -/
def tag0 (n : Nat) : Nat → DTag := tagAt (tagAt (fun _ => .out) n .mp) (n + 1) .hdr

theorem open0 (w : World) (room : Int) (hr : -9223372036854775808 ≤ room ∧ room ≤ 9223372036854775807) :
    DOpen ((w.alloc (.map #[] 0)).alloc (.cells #[.map (some w.heap.size), .slice none 0 0, .int .i64 room, .int .i64 0] 68)) (tag0 w.heap.size) w.heap.size (.slice none 0 0) (fun _ => 0) (w.heap.size + 1) (openS [] room) 0 := by
  have hv := VMap.made w
  have hb := Blk.new (w.alloc (.map #[] 0)) 68 #[.map (some w.heap.size), .slice none 0 0, .int .i64 room, .int .i64 0]
  have e : (w.alloc (.map #[] 0)).heap.size = w.heap.size + 1 := by simp
  rw [e] at hb
  refine ⟨fun k q => ?_, tagAt_same _ _ _, ?_, hb, hv.keep ((Kept.refl noneS _).alloc _) (fun q => q), (fun f hf => by cases hf), ⟨[], Own.nil _ _ _ _, rfl, (fun j h => by cases h)⟩, hr, (by decide : -9223372036854775808 ≤ IntKind.i64.wrap 0 ∧ IntKind.i64.wrap 0 ≤ 9223372036854775807)⟩
  · rcases tagAt_out k q with e | e
    · simp; omega
    · rcases tagAt_out k e with e | e
      · simp; omega
      · exact absurd rfl e
  · unfold tag0 tagAt
    rw [if_neg (by omega), if_pos rfl]

theorem open_step {w1 w2 w3 w4 : World} {tag : Nat → DTag} {m : Nat} {pv : Value} {hb : List UInt8 → Nat} {p N : Nat} {s : DiskS} {A2 A3 : Option Addr} {c2 c3 : Nat} {nm : ByteArray} {d e : List UInt8} (h : DOpen w1 tag m pv hb p s N) (ha : Asc s.files) (hn : nm.size ≤ 140737488351232)
    (o2 : OB w2 (w1.heap.size ≤ ·) (.slice A2 d.length c2) d) (k2 : Kept noneS w1 w2) (o3 : OB w3 (w2.heap.size ≤ ·) (.slice A3 e.length c3) e) (k3 : Kept noneS w2 w3)
    (k4 : Kept (· = m) (w3.alloc (.cells #[.slice A2 d.length c2, .slice A3 e.length c3] 71)) w4)
    (hv : VMap w4 m (N + 1) (fun k => if k = nm.toList then some (.pointer (some ⟨w3.heap.size, 0, none⟩)) else (s.get k).map fun _ => .pointer (some ⟨hb k, 0, none⟩))) :
    ∃ tag' hb', DOpen w4 tag' m pv hb' p { s with files := putF ⟨nm, d, e⟩ s.files } (N + 1) ∧ ∀ k, tag' k ≠ .out → tag k ≠ .out ∨ w1.heap.size ≤ k := by
  have z2 := k2.size
  have z3 := k3.size
  have hlt := h.old
  have kB : Kept noneS w1 (w3.alloc (.cells #[.slice A2 d.length c2, .slice A3 e.length c3] 71)) := (k2.trans k3).alloc _
  have k3' : Kept noneS w2 (w3.alloc (.cells #[.slice A2 d.length c2, .slice A3 e.length c3] 71)) := k3.alloc _
  have k4' : Kept noneS w3 (w3.alloc (.cells #[.slice A2 d.length c2, .slice A3 e.length c3] 71)) := (Kept.refl noneS w3).alloc _
  have hto : ∀ k, tag k ≠ .out → tagAt (tagR (tagR tag w1.heap.size w2.heap.size (.fd nm.toList)) w2.heap.size w3.heap.size .ro) w3.heap.size (.fh nm.toList) k = tag k := fun k q => by
    have := hlt k q
    unfold tagAt tagR
    rw [if_neg (by omega), if_neg (by omega), if_neg (by omega)]
  have hout : ∀ k, tagAt (tagR (tagR tag w1.heap.size w2.heap.size (.fd nm.toList)) w2.heap.size w3.heap.size .ro) w3.heap.size (.fh nm.toList) k ≠ .out → tag k ≠ .out ∨ (w1.heap.size ≤ k ∧ k < w3.heap.size + 1) := fun k q => by
    rcases tagAt_out k q with e | e
    · exact .inr (by omega)
    · rcases tagR_out k e with e | e
      · exact .inr (by omega)
      · rcases tagR_out k e with e | e
        · exact .inr (by omega)
        · exact .inl e
  have hB := (h.keep kB (fun _ q => q.elim)).retag hto (fun k q => by
    rcases hout k q with e | e
    · have := hlt k e
      simp; omega
    · simp; omega)
  refine ⟨_, _, hB.addNew ha ⟨nm, d, e⟩ w3.heap.size ⟨tagAt_same _ _ _, hn, _, _, Blk.new _ _ _, ?_, ?_⟩ k4 hv, fun k q => ?_⟩
  · refine ((OB.data o2).mono (fun k a q => ?_)).keep k3' (fun _ _ _ q => q)
    show tagAt _ _ _ k = .fd nm.toList
    unfold tagAt tagR
    rw [if_neg (by omega), if_neg (by omega), if_pos ⟨q, a⟩]
  · refine ((OB.sl o3).mono (fun k a q => ?_)).keep k4' (fun _ _ _ q => q)
    show tagAt _ _ _ k = .ro
    unfold tagAt tagR
    rw [if_neg (by omega), if_pos ⟨q, a⟩]
  · rcases hout k q with e | e
    · exact .inl e
    · exact .inr e.1

theorem totLen_snoc (l : List FlS) (f : FlS) : totLen (l ++ [f]) = totLen l + f.data.length := by simp [totLen]
theorem openS_snoc {l : List FlS} {f : FlS} {room : Int} {la : List UInt8} (ha : ∀ x ∈ l, ¬ la < x.key) (hf : la < f.key) : { openS l room with files := putF ⟨f.name, f.data, f.data⟩ (openS l room).files, used := IntKind.i64.wrap ((openS l room).used + f.data.length) } = openS (l ++ [f]) room := by
  unfold openS
  have e1 : putF ⟨f.name, f.data, f.data⟩ (l.map FlS.file) = (l ++ [f]).map FlS.file := by
    rw [put_last _ _ (fun x hx => ?_)]
    · simp [FlS.file]
    · obtain ⟨y, hy, rfl⟩ := List.mem_map.1 hx
      exact lt_of_le_lt (ha y hy) hf
  have e2 : IntKind.i64.wrap (IntKind.i64.wrap (totLen l : Int) + (f.data.length : Int)) = IntKind.i64.wrap (totLen (l ++ [f]) : Int) := by
    rw [totLen_snoc, IntKind.wrap_i64, IntKind.wrap_i64, IntKind.wrap_i64]
    omega
  simp only [e1, e2]
theorem asc_snoc {l : List FlS} {f : FlS} {room : Int} {la : List UInt8} (hA : Asc (openS l room).files) (ha : ∀ x ∈ l, ¬ la < x.key) (hf : la < f.key) : Asc (openS (l ++ [f]) room).files := by
  rw [← openS_snoc ha hf]
  exact asc_put _ _ hA

set_option maxRecDepth 100000 in
set_option maxHeartbeats 3200000 in
theorem diskOpen (A : Option Addr) (c : Nat) (fs : List FlS) (room : Int) (G : Nat → Prop) (w : World) (h : FlsAt w G A fs) (hl : fs.length ≤ 140737488351232) (hr : -9223372036854775808 ≤ room ∧ room ≤ 9223372036854775807) :
    Calls Try.prog 12 #[.slice A fs.length c, .int .i64 room] w (OpenPost w fs room) := by
  have HX := Lib.hid (h.mono (G := (· < w.heap.size)) (fun k a _ => a))
  have HR := Lib.hid hr
  have D0 := Lib.hid (open0 w room hr)
  clear h hr
  generalize hP : OpenPost w fs room = Post
  have HP := Lib.hid hP
  clear hP
  have hmm := @run_makeMap Try.prog
  go_enter Try.func12, Try.ntmps12
  go_wp2
  have K0 : Hid (Kept noneS w ((w.alloc (.map #[] 0)).alloc (.cells #[.map (some w.heap.size), .slice none 0 0, .int .i64 room, .int .i64 0] 68))) := Lib.hid (((Kept.refl noneS w).alloc _).alloc _)
  generalize (w.alloc (.map #[] 0)).alloc (.cells #[.map (some w.heap.size), .slice none 0 0, .int .i64 room, .int .i64 0] 68) = wa at D0 K0 ⊢
  obtain ⟨tg0, HT0, ht0⟩ : ∃ tg0 : Nat → DTag, Hid (tag0 w.heap.size = tg0) ∧ Hid (∀ k, tg0 k ≠ .out → w.heap.size ≤ k) := ⟨_, Lib.hid rfl, Lib.hid (fun k q => by
    rcases tagAt_out k q with e | e
    · omega
    · rcases tagAt_out k e with e | e
      · omega
      · exact absurd rfl e)⟩
  rw [HT0.out] at D0
  clear HT0
  generalize w.heap.size + 1 = p at D0 ⊢
  generalize hm : w.heap.size = m at D0 ⊢
  have HM := Lib.hid hm
  clear hm
  have hs0 : Hid (openErr fs [] = openErr (fs.drop 0) (⟨#[]⟩ : ByteArray).toList) := Lib.hid (by rw [ByteArray.toList_eq]; rfl)
  go_loopw [7, 16] (fun last i wr => ∃ (j : Nat) (la : ByteArray) (tag : Nat → DTag) (hb : List UInt8 → Nat), j ≤ fs.length ∧ i = .int .i64 j ∧ last = .string la ∧ la.size ≤ 140737488351232 ∧ Hid (openErr fs [] = openErr (fs.drop j) la.toList) ∧ Hid (DOpen wr tag m (.slice none 0 0) hb p (openS (fs.take j) room) j) ∧ Hid (Asc (openS (fs.take j) room).files ∧ ∀ f ∈ fs.take j, ¬ la.toList < f.key) ∧ Hid (∀ k, tag k ≠ .out → w.heap.size ≤ k) ∧ Hid (Kept noneS w wr)) (fun _ i _ => fs.length - (intOf i).toNat)
  case atStart => exact ⟨0, ⟨#[]⟩, tg0, _, Nat.zero_le _, rfl, rfl, by decide, hs0, D0, Lib.hid ⟨List.Pairwise.nil, fun f hf => by cases hf⟩, ht0, K0⟩
  case round =>
    obtain ⟨j, la, tag, hb, hj, rfl, rfl, hla, HE, HD, HA, HT, KR⟩ := hrel
    clear hs0 D0 ht0 K0
    by_cases hlt : j < fs.length
    · obtain ⟨g, o, B, d, rfl, hg, ⟨hn1, hn2⟩, ⟨hB1, hB2, hB3, hB4⟩, c0, c1⟩ := (HX.out.still KR.out).at_ hlt
      have hE' := HE.out
      rw [List.drop_eq_getElem_cons hlt, openErr] at hE'
      have HTk := Lib.hid (List.take_succ_eq_append_getElem hlt)
      generalize fs[j] = f at *
      have hji : (j : Int) < (fs.length : Int) := by omega
      have hj0 : (0 : Int) ≤ (j : Int) := by omega
      have HE' := Lib.hid hE'
      have HB := Lib.hid hB1
      have HB4 := Lib.hid hB4
      clear hE' hB1 hB4 HE
      have hz : m ≤ m := Nat.le_refl m
      rcases hgd : goodB f.name with _ | _
      · rw [hgd, if_pos rfl] at HE'
        go_wp2_with fail
        refine (goodName f.name _ hn1).mono ?_
        rw [hgd]
        rintro e w1 ⟨rfl, k1⟩
        have K1 := Lib.hid k1
        clear k1
        go_wp2
        rw [← HP.out]
        exact .inl ⟨by rw [HE'.out]; decide, by rw [HE'.out]; rfl, (KR.out.alloc _).trans K1.out⟩
      · rw [hgd, if_neg (by decide)] at HE'
        go_wp2_with fail
        refine (goodName f.name _ hn1).mono ?_
        rw [hgd]
        rintro e w1 ⟨rfl, k1⟩
        have kA : Kept noneS wr w1 := ((Kept.refl noneS wr).alloc _).trans k1
        have bv := (Blk.new wr 36 #[.string f.name, .slice B f.data.length d]).keep k1 (fun q => q)
        have v0 : w1.cell? ⟨wr.heap.size, 0, none⟩ = some (.string f.name) := bv.cell 0
        have v1 : w1.cell? ⟨wr.heap.size, 1, none⟩ = some (.slice B f.data.length d) := bv.cell 1
        have BV := Lib.hid bv
        have KA := Lib.hid kA
        clear k1 kA bv
        by_cases hlk : la.toList < f.key
        · rw [if_pos hlk] at HE'
          have bl : Op.bytesLess f.name.toList la.toList = false := by rw [bytesLess_eq]; exact decide_eq_false (fun q => lt_irr _ (lt_tr q hlk))
          have be : (f.name.toList == la.toList) = false := by simpa using fun q => lt_ne hlk (show la.toList = f.name.toList from q.symm)
          have hdo := HD.out.keep KA.out (fun _ q => q.elim)
          have p0 : w1.cell? ⟨p, 0, none⟩ = some (.map (some m)) := hdo.blk.cell 0
          have HD1 := Lib.hid hdo
          have HB1 := Lib.hid (HB.out.still KA.out)
          clear hdo
          go_wp2
          go_region_held3 (fun W => W.cell? ⟨p, 0, none⟩ = some (.map (some m)) ∧ W.cell? ⟨wr.heap.size, 0, none⟩ = some (.string f.name) ∧ W.cell? ⟨wr.heap.size, 1, none⟩ = some (.slice B f.data.length d))
            (first | exact ⟨p0, v0, v1⟩ | exact ⟨q0, u0, u1⟩ | exact ⟨r0, x0, x1⟩ | exact ⟨r0', x0', x1'⟩ | go_keep)
            (first
              | (go_at_call 30; refine (sClone B d f.data _ w2 (HB1.out.still K2.out) HB4.out (by omega)).mono ?_; rintro e w3 ⟨v3, rfl, o3, k3⟩; obtain ⟨A3, c3, rfl, _⟩ := Own.form o3; have kC : Kept noneS w1 w3 := K2.out.trans k3; have r0 : w3.cell? ⟨p, 0, none⟩ = some (.map (some m)) := (HD1.out.blk.keep kC (fun q => q)).cell 0; have x0 : w3.cell? ⟨wr.heap.size, 0, none⟩ = some (.string f.name) := (BV.out.keep kC (fun q => q)).cell 0; have x1 : w3.cell? ⟨wr.heap.size, 1, none⟩ = some (.slice B f.data.length d) := (BV.out.keep kC (fun q => q)).cell 1; obtain ⟨w4, hput, vm4, k4, z4⟩ := (HD1.out.map.keep (kC.alloc (.cells #[.slice A2 f.data.length c2, .slice A3 f.data.length c3] 71)) (fun q => q)).put Try.underlying65 (by unfold maxLen; omega) f.name hn1 (.pointer (some ⟨w3.heap.size, 0, none⟩)); have kD : Kept (· = m) w1 w4 := ((kC.alloc _).mono (fun _ _ q => q.elim)).trans k4; have r0' : w4.cell? ⟨p, 0, none⟩ = some (.map (some m)) := (HD1.out.blk.keep kD (fun q => by have h1 := HD1.out.tp; have h2 := HD1.out.tm; rw [q, h2] at h1; cases h1)).cell 0; have hmb : ¬ wr.heap.size = m := (by have := HM.out; have h1 := HD.out.map.lt; omega); have x0' : w4.cell? ⟨wr.heap.size, 0, none⟩ = some (.string f.name) := (BV.out.keep kD hmb).cell 0; have x1' : w4.cell? ⟨wr.heap.size, 1, none⟩ = some (.slice B f.data.length d) := (BV.out.keep kD hmb).cell 1; have O3 := Lib.hid o3; have K3 := Lib.hid k3; have KC := Lib.hid kC; have VM4 := Lib.hid vm4; have K4 := Lib.hid k4; have KD := Lib.hid kD; clear o3 k3 kC vm4 k4 z4 kD hmb)
              | (go_at_call 30; refine (sClone B d f.data _ w1.drew HB1.out.drew HB4.out (by omega)).mono ?_; rintro e w2 ⟨v2, rfl, o2, k2⟩; obtain ⟨A2, c2, rfl, _⟩ := Own.form o2; have kB : Kept noneS w1 w2 := ((Kept.refl noneS w1).drew).trans k2; have q0 : w2.cell? ⟨p, 0, none⟩ = some (.map (some m)) := (HD1.out.blk.keep kB (fun q => q)).cell 0; have u0 : w2.cell? ⟨wr.heap.size, 0, none⟩ = some (.string f.name) := (BV.out.keep kB (fun q => q)).cell 0; have u1 : w2.cell? ⟨wr.heap.size, 1, none⟩ = some (.slice B f.data.length d) := (BV.out.keep kB (fun q => q)).cell 1; have O2 := Lib.hid o2; have K2 := Lib.hid kB; clear o2 k2 kB))
          obtain ⟨tag', hb', ho4, ht4⟩ := open_step (nm := f.name) (d := f.data) (e := f.data) HD1.out HA.out.1 hn1 O2.out K2.out O3.out K3.out K4.out VM4.out
          have p3 : w4.cell? ⟨p, 3, none⟩ = some (.int .i64 (openS (fs.take j) room).used) := ho4.blk.cell 3
          have p3f : w4.frozen? ⟨p, 3, none⟩ = false := ho4.blk.frozen 3
          have HO4 := Lib.hid ho4
          have K4' : Hid (Kept noneS w w4) := Lib.hid ((KR.out.trans KA.out).trans2 KD.out (fun k a q => by have := HM.out; omega))
          have HT4 : Hid (∀ k, tag' k ≠ .out → w.heap.size ≤ k) := Lib.hid (fun k q => by
            rcases ht4 k q with e | e
            · exact HT.out k e
            · have := (KR.out.trans KA.out).size
              omega)
          have HHP : Hid (w.heap.size ≤ p) := Lib.hid (HT.out p (by rw [HD.out.tp]; simp))
          clear ho4 ht4 bl be p0 v0 v1 q0 u0 u1 r0 x0 x1 hput r0' x0' O2 K2 O3 K3 K4 VM4 KD KC
          go_wp2
          go_region
          all_goals
            go_wp2
            go_roundw
            case rel =>
              have o5 := (HO4.out.setUsed (wrap64 ((openS (fs.take j) room).used + (f.data.length : Int))) (by unfold wrap64; omega)).keep ((Kept.refl noneS _).drew) (fun _ q => q.elim)
              have e := openS_snoc (room := room) HA.out.2 hlk
              rw [show IntKind.i64.wrap ((openS (fs.take j) room).used + (f.data.length : Int)) = wrap64 ((openS (fs.take j) room).used + (f.data.length : Int)) by rw [IntKind.wrap_i64]; unfold wrap64; omega] at e
              refine ⟨j + 1, f.name, tag', hb', by omega, by go_num, rfl, hn1, Lib.hid HE'.out, Lib.hid ?_, Lib.hid ⟨?_, ?_⟩, HT4, Lib.hid ((K4'.out.setCell (p := ⟨p, 3, none⟩) (fun q => absurd q (Nat.not_lt.2 HHP.out)) _).drew)⟩
              · rw [HTk.out, ← e]
                exact o5
              · rw [HTk.out]
                exact asc_snoc HA.out.1 HA.out.2 hlk
              · rw [HTk.out]
                intro x hx
                rcases List.mem_append.1 hx with q | q
                · exact fun q2 => lt_irr _ (lt_tr q2 (lt_of_le_lt (HA.out.2 x q) hlk))
                · have : x = f := by simpa using q
                  rw [this]
                  exact lt_irr _
            case measure => simp [intOf]; omega
        · rw [if_neg hlk] at HE'
          by_cases heq : f.name.toList = la.toList
          · have bl : Op.bytesLess f.name.toList la.toList = false := by rw [bytesLess_eq, heq]; exact decide_eq_false (lt_irr _)
            have be : (f.name.toList == la.toList) = true := by simpa using heq
            go_wp2
            rw [← HP.out]
            exact .inl ⟨by rw [HE'.out]; decide, by rw [HE'.out]; rfl, KR.out.trans KA.out⟩
          · have bl : Op.bytesLess f.name.toList la.toList = true := by rw [bytesLess_eq]; exact decide_eq_true (lt_total heq hlk)
            have be : (f.name.toList == la.toList) = false := by simpa using heq
            go_wp2
            rw [← HP.out]
            exact .inl ⟨by rw [HE'.out]; decide, by rw [HE'.out]; rfl, KR.out.trans KA.out⟩
    · obtain rfl : j = fs.length := by omega
      rw [List.drop_length, openErr] at HE
      rw [List.take_length] at HD HA
      go_wp2
      rw [← HP.out]
      exact .inr ⟨HE.out, p, _, rfl, HD.out.at_, HT.out, HA.out.1, KR.out⟩

end Go.Proofs.Ytnlmkfncdklcdaa
