/-
  HeadsMore: the walk.
-/
import Derived.Test.YtdhaojicphhikaaHeadsS
import Derived.Deep.RegionHeld3
namespace Go.Proofs.Ytdhaojicphhikaa
open Go.RowKit

theorem getF_more (hd : List FF) (f : FF) (name : ByteArray) (h : hasT hd name = true) : getF (hd ++ [f]) name = getF hd name := by
  unfold hasT at h
  unfold getF at h ⊢
  rw [List.find?_append]
  rcases hq : hd.find? (fun f => f.name.toList == name.toList) with _ | x
  · rw [hq] at h; cases h
  · rw [hq]; rfl
theorem holds_more (hd : List FF) (f g : FF) (h : holdsB g hd = true) : holdsB g (hd ++ [f]) = true := by
  unfold holdsB at h ⊢
  rw [Bool.and_eq_true] at h
  have e := getF_more hd f g.name h.1
  have e1 : hasT (hd ++ [f]) g.name = hasT hd g.name := by unfold hasT; rw [e]
  have e2 : getV (hd ++ [f]) g.name = getV hd g.name := by unfold getV; rw [e]
  rw [e1, e2, h.1, h.2]
  rfl
theorem match_more (t hd : List FF) (f : FF) (h : matchB t hd = true) : matchB t (hd ++ [f]) = true := by
  unfold matchB at h ⊢
  rcases ha : anyB t with _ | _
  · rw [ha] at h
    rw [if_neg]
    · rfl
    · intro hq
      obtain ⟨x, hx, hy⟩ := List.any_eq_true.1 hq
      have h2 : ¬ t.any (decB false hd) = true := fun q => by rw [if_pos q] at h; cases h
      refine h2 (List.any_eq_true.2 ⟨x, hx, ?_⟩)
      unfold decB at hy ⊢
      rw [Bool.and_eq_true] at hy ⊢
      refine ⟨hy.1, ?_⟩
      rcases hh : holdsB x hd with _ | _
      · rfl
      · rw [holds_more hd f x hh] at hy
        exact absurd hy.2 (by decide)
  · rw [ha] at h
    by_cases hq : t.any (decB true hd) = true
    · rw [if_pos]
      obtain ⟨x, hx, hy⟩ := List.any_eq_true.1 hq
      refine List.any_eq_true.2 ⟨x, hx, ?_⟩
      unfold decB at hy ⊢
      rw [Bool.and_eq_true] at hy ⊢
      refine ⟨hy.1, ?_⟩
      have : holdsB x hd = true := by simpa using hy.2
      rw [holds_more hd f x this]
      rfl
    · rw [if_neg hq] at h
      cases h

/-- An append of one field that lies in a block. -/
theorem step_appFB {ops : Array Oper} {o : Oper} {a : Act} {K : Act → World → Prop} {Q : Exit → Act → World → Prop} {E : Prop} (hgd : o.guard = none) (s x : Operand)
    (ho : o.op = .call { callee := .builtin .append, args := #[s, x], argTypes := #[22, 22] })
    (w1 : World) (F : Nat → Prop) (v : Value) (n : Nat) (xs : List Value) (hs : a.eval s = v) (hown : Own w1 34 6 F v n xs) (f : FF) (A : Option Addr) (c : Nat) (B : Option Addr) (d : Nat) (b : Nat) (hb : Blk w1 b 34 (fCells f A c B d).toArray)
    (hx : a.eval x = .slice (some ⟨b, 0, none⟩) 1 1) (hn : (n + 1) * 96 ≤ 140737488355328)
    (h : ∀ A' c' w', Own w' 34 6 (fun k => ownS v k ∨ k = w1.heap.size) (.slice A' (n + 1) c') (n + 1) (xs ++ fCells f A c B d) → (n + 1 ≤ c' ∧ c' ≤ maxLen) → Kept (ownS v) w1 w' → K (a.put o.dst (.slice A' (n + 1) c')) w') :
    if Region.wanted o (yielded ops a.tmps) = true then Oper.wp Try.prog o a w1 K Q else E := by
  obtain ⟨i0, hi, hz0, hz1, hz2⟩ := info_parts infoField
  have ho1 : Own w1 34 6 (ownS v) v n xs := ⟨hown.1, fun _ a => a⟩
  have hr : Rd w1 (fun _ => True) (some ⟨b, 0, none⟩) (fCells f A c B d) := by
    refine .inr ⟨b, 0, rfl, trivial, fun j u hu => ?_⟩
    rw [Nat.zero_add, hb.cell j]
    simpa using hu
  refine step_append_Own w1 hgd s x 22 ho 34 i0 _ 6 96 Try.underlying22 hi hz0 hz1 hz2 rfl (by decide) (ownS v) (fun _ => True) v n xs hs ho1 _ 1 1 (fCells f A c B d) hx rfl hr (one_cells6 _ _ _ _ _ _ _ _ _ _) (by unfold maxLen; omega) hn ?_
  intro v' w' h2 h3
  obtain ⟨A', c', rfl, hc, hm, _⟩ := Own.form h2
  exact h A' c' w' h2 ⟨hc, hm⟩ h3

/-- The headers with one more. -/
theorem more_step {w1 w3 : World} {N : Nat} {A0 A1 A2 A3 : Option Addr} {j cap e1 e2 e3 : Nat} {G G' : Nat → Prop} {t : List FF} {f : FF} {css : List (List Value)} (hl : t.length = j) (hN : N ≤ w1.heap.size)
    (ho : Own w1 34 6 (N ≤ ·) (.slice A0 j cap) j css.flatten) (hfs : FsAt w1 G t css) (hG : ∀ k, G k → N ≤ k ∧ k < w1.heap.size ∧ ¬ ownS (.slice A0 j cap) k) (hn : f.name.size ≤ 140737488351232) (hf : f.val.fit e1 e2)
    (hL : LAt w1 G' A1 f.val.list) (hT : TAt w1 G' A2 f.val.table) (hG' : ∀ k, G' k → k < N)
    (o3 : Own w3 34 6 (fun k => ownS (.slice A0 j cap) k ∨ k = w1.heap.size) (.slice A3 (j + 1) e3) (j + 1) (css.flatten ++ fCells f A1 e1 A2 e2)) (k3 : Kept (ownS (.slice A0 j cap)) w1 w3) :
    TAt w3 (fun _ => True) A3 (t ++ [f]) ∧ Kept (N ≤ ·) w1 w3 := by
  subst hl
  refine ⟨?_, k3.mono (fun k _ q => ho.2 k q)⟩
  have h := TOwn.add (F := fun _ => True) hfs (fun k a => ⟨trivial, (hG k a).2⟩) (FAt.mk' hn hf hL hT) (fun k a => ⟨trivial, by have := hG' k a; omega, fun q => by have := ho.2 k q; have := hG' k a; omega⟩) o3 k3 (fun _ _ => trivial) trivial
  have e : (t ++ [f]).length = t.length + 1 := by simp
  rw [← e] at h
  exact h.at'.1

set_option maxHeartbeats 3200000 in
theorem headsMore (t hd : List FF) (f : FF) (A H FA FB : Option Addr) (c ch fc fe : Nat) (w : World) (h : TAt w (· < w.heap.size) A t) (hH : TAt w (· < w.heap.size) H hd) (hl : t.length * 96 ≤ 140737488351232) (hl' : hd.length * 96 ≤ 140737488351232)
    (hn : f.name.size ≤ 140737488351232) (hf : f.val.fit fc fe) (hL : LAt w (· < w.heap.size) FA f.val.list) (hT : TAt w (· < w.heap.size) FB f.val.table) :
    Calls Try.prog 4 #[.slice A t.length c, .slice H hd.length ch, .agg #[.string f.name, .int .i64 f.val.kind, .int .i64 f.val.num, .string f.val.text, .slice FA f.val.list.length fc, .slice FB f.val.table.length fe]] w fun e w' => e = .returned (.bool true) ∧ Kept noneS w w' := by
  have ka : Kept noneS w (w.alloc (.cells (fCells f FA fc FB fe).toArray 34)) := (Kept.refl noneS w).alloc _
  have KA := Lib.hid ka
  have HT := Lib.hid (h.still ka)
  have HH := Lib.hid (hH.still ka)
  have HL := Lib.hid (hL.still ka)
  have HTb := Lib.hid (hT.still ka)
  have HF := Lib.hid hf
  have BK := Lib.hid (Blk.new w 34 (fCells f FA fc FB fe).toArray)
  clear ka h hH hL hT hf
  go_enter Try.func4, Try.ntmps4
  go_wp2_with fail
  refine (speaks8 _).mono ?_
  rintro e w1 ⟨rfl, k1⟩
  have K1 := Lib.hid (KA.out.trans k1)
  have HT1 := Lib.hid (HT.out.still k1)
  have HH1 := Lib.hid (HH.out.still k1)
  have HL1 := Lib.hid (HL.out.still k1)
  have HTb1 := Lib.hid (HTb.out.still k1)
  have bk := BK.out.keep k1 (fun q => q)
  have BK1 := Lib.hid bk
  have d0 : w1.cell? ⟨w.heap.size, 0, none⟩ = some (.string f.name) := bk.cell 0
  have d1 : w1.cell? ⟨w.heap.size, 1, none⟩ = some (.int .i64 f.val.kind) := bk.cell 1
  have d2 : w1.cell? ⟨w.heap.size, 2, none⟩ = some (.int .i64 f.val.num) := bk.cell 2
  have d3 : w1.cell? ⟨w.heap.size, 3, none⟩ = some (.string f.val.text) := bk.cell 3
  have d4 : w1.cell? ⟨w.heap.size, 4, none⟩ = some (.slice FA f.val.list.length fc) := bk.cell 4
  have d5 : w1.cell? ⟨w.heap.size, 5, none⟩ = some (.slice FB f.val.table.length fe) := bk.cell 5
  have hbl := bk.lt
  clear k1 bk KA HT HH HL HTb BK
  generalize hb0 : w.heap.size = b at d0 d1 d2 d3 d4 d5 hbl BK1 ⊢
  have HB0 := Lib.hid hb0
  clear hb0
  go_wp2_with fail
  refine (refFind H ch hd f.name _ w1 HH1.out hl').mono ?_
  rintro e w2 ⟨rfl, rfl⟩
  rcases find_get hd f.name with ⟨hh, hfd⟩ | ⟨j, hj, hh, hfd, _⟩
  · rw [hfd]
    clear hh hfd
    go_upto_region 5 with (fail)
    go_cut [7] from 15 to 19 (fun u wx => ∃ A3 c3, u = .slice A3 (hd.length + 1) c3 ∧ TAt wx (fun _ => True) A3 (hd ++ [f]) ∧ Kept noneS w1 wx)
    case first =>
      go_region_held3 (fun W => W.cell? ⟨b, 0, none⟩ = some (.string f.name) ∧ W.cell? ⟨b, 1, none⟩ = some (.int .i64 f.val.kind) ∧ W.cell? ⟨b, 2, none⟩ = some (.int .i64 f.val.num) ∧ W.cell? ⟨b, 3, none⟩ = some (.string f.val.text) ∧ W.cell? ⟨b, 4, none⟩ = some (.slice FA f.val.list.length fc) ∧ W.cell? ⟨b, 5, none⟩ = some (.slice FB f.val.table.length fe))
        (first | exact ⟨d0, d1, d2, d3, d4, d5⟩ | exact S2.out | exact S1.out | go_keep)
        (first
          | (go_at_call 7; refine (refCopy hd H ch _ _ (HH1.out.still (by first | exact (Kept.refl _ _).drew | exact ((Kept.refl _ _).alloc _).drew)) hl').mono ?_; rintro e w4 ⟨A4, c4, rfl, to4, k4⟩; have kA : Kept noneS w1 w4 := (by first | exact ((Kept.refl noneS w1).drew).trans k4 | exact (((Kept.refl noneS w1).alloc _).drew).trans k4); have bA := BK1.out.keep kA (fun q => q); have S1 := Lib.hid (show w4.cell? ⟨b, 0, none⟩ = some (.string f.name) ∧ w4.cell? ⟨b, 1, none⟩ = some (.int .i64 f.val.kind) ∧ w4.cell? ⟨b, 2, none⟩ = some (.int .i64 f.val.num) ∧ w4.cell? ⟨b, 3, none⟩ = some (.string f.val.text) ∧ w4.cell? ⟨b, 4, none⟩ = some (.slice FA f.val.list.length fc) ∧ w4.cell? ⟨b, 5, none⟩ = some (.slice FB f.val.table.length fe) from ⟨bA.cell 0, bA.cell 1, bA.cell 2, bA.cell 3, bA.cell 4, bA.cell 5⟩); obtain ⟨css, G4, hown4, hfs4, hG4⟩ := to4.mono (G := (w1.heap.size ≤ ·)) (fun k a => Nat.le_trans (by first | exact Nat.le_refl _ | simp) a); have HO4 := Lib.hid hown4; have HFS4 := Lib.hid hfs4; have HG4 := Lib.hid hG4; (try (have bs := ((Blk.new w1 34 (fCells f FA fc FB fe).toArray).drew).keep k4 (fun q => q); have BS := Lib.hid bs; clear bs)); have KA := Lib.hid kA; have HL4 := Lib.hid (HL1.out.still kA); have HTb4 := Lib.hid (HTb1.out.still kA); have z4 := kA.size; clear kA bA to4 k4 hown4 hfs4 hG4)
          | (refine step_appFB rfl (.tmp 16) (.tmp 18) rfl (w4.alloc (.cells (fCells f FA fc FB fe).toArray 34)) (w1.heap.size ≤ ·) (.slice A4 hd.length c4) hd.length css.flatten rfl (HO4.out.alloc _) f FA fc FB fe w4.heap.size (Blk.new _ _ _) rfl (by omega) ?_; intro A5 c5 w5 own5 cap5 k5; have ms := more_step (N := w1.heap.size) rfl (by (try simp); omega) (HO4.out.alloc _) (FsAt.keep ((Kept.refl noneS w4).alloc _) (fun _ _ _ q => q.elim) hd css HFS4.out) (fun k a => ⟨(HG4.out k a).1, by have := (HG4.out k a).2.1; simp; omega, (HG4.out k a).2.2⟩) hn HF.out (HL4.out.still ((Kept.refl _ _).alloc _)) (HTb4.out.still ((Kept.refl _ _).alloc _)) (fun k a => by have := HB0.out; have : k < w.heap.size := a; omega) own5 k5; have kB : Kept noneS w1 w5 := (KA.out.alloc _).trans2 ms.2 (fun k a q => absurd q (Nat.not_le.2 a)); have bB := BK1.out.keep kB (fun q => q); have S2 := Lib.hid (show w5.cell? ⟨b, 0, none⟩ = some (.string f.name) ∧ w5.cell? ⟨b, 1, none⟩ = some (.int .i64 f.val.kind) ∧ w5.cell? ⟨b, 2, none⟩ = some (.int .i64 f.val.num) ∧ w5.cell? ⟨b, 3, none⟩ = some (.string f.val.text) ∧ w5.cell? ⟨b, 4, none⟩ = some (.slice FA f.val.list.length fc) ∧ w5.cell? ⟨b, 5, none⟩ = some (.slice FB f.val.table.length fe) from ⟨bB.cell 0, bB.cell 1, bB.cell 2, bB.cell 3, bB.cell 4, bB.cell 5⟩); have KB := Lib.hid kB; have T5 := Lib.hid ms.1; clear kB bB ms own5 k5)
          | (refine step_appFB rfl (.tmp 16) (.tmp 18) rfl w4 (w1.heap.size ≤ ·) (.slice A4 hd.length c4) hd.length css.flatten rfl HO4.out f FA fc FB fe w1.heap.size BS.out rfl (by omega) ?_; intro A5 c5 w5 own5 cap5 k5; have ms := more_step (N := w1.heap.size) rfl (by (try simp); omega) HO4.out HFS4.out HG4.out hn HF.out (HL4.out.still (Kept.refl _ _)) (HTb4.out.still (Kept.refl _ _)) (fun k a => by have := HB0.out; have : k < w.heap.size := a; omega) own5 k5; have kB : Kept noneS w1 w5 := KA.out.trans2 ms.2 (fun k a q => absurd q (Nat.not_le.2 a)); have bB := BK1.out.keep kB (fun q => q); have S2 := Lib.hid (show w5.cell? ⟨b, 0, none⟩ = some (.string f.name) ∧ w5.cell? ⟨b, 1, none⟩ = some (.int .i64 f.val.kind) ∧ w5.cell? ⟨b, 2, none⟩ = some (.int .i64 f.val.num) ∧ w5.cell? ⟨b, 3, none⟩ = some (.string f.val.text) ∧ w5.cell? ⟨b, 4, none⟩ = some (.slice FA f.val.list.length fc) ∧ w5.cell? ⟨b, 5, none⟩ = some (.slice FB f.val.table.length fe) from ⟨bB.cell 0, bB.cell 1, bB.cell 2, bB.cell 3, bB.cell 4, bB.cell 5⟩); have KB := Lib.hid kB; have T5 := Lib.hid ms.1; clear kB bB ms own5 k5))
      all_goals
        go_wp2_with fail
        go_meet
        case rel => exact ⟨A5, c5, rfl, T5.out, KB.out⟩
    case rest =>
      obtain ⟨A3, c3, rfl, t3, kc⟩ := hcut
      have T3 := Lib.hid t3
      have KC := Lib.hid (K1.out.trans kc)
      have HT3 := Lib.hid (HT1.out.still kc)
      have HH3 := Lib.hid (HH1.out.still kc)
      clear t3 kc d0 d1 d2 d3 d4 d5 BK1
      go_wp2_with fail
      refine (headsMatch t hd A H c ch _ _ wc HT3.out HH3.out (by omega) (by omega)).mono ?_
      have HM := Lib.hid (match_more t hd f)
      generalize matchB t hd = m1 at HM
      rintro e w4 ⟨rfl, k4⟩
      have K4 := Lib.hid (KC.out.trans k4)
      have T4 := Lib.hid (T3.out.still k4)
      have HT4 := Lib.hid (HT3.out.still k4)
      clear k4
      rcases m1 with _ | _
      · clear HM
        go_wp2_with fail
        go_ret
        exact ⟨rfl, K4.out⟩
      · have HM' := Lib.hid (HM.out rfl)
        clear HM
        go_wp2_with fail
        have e1 : (hd ++ [f]).length = hd.length + 1 := by simp
        have HX := headsMatch t (hd ++ [f]) A A3 c c3 _ _ w4 HT4.out T4.out (by omega) (by omega)
        rw [e1] at HX
        refine HX.mono ?_
        rw [HM'.out]
        clear HX e1
        rintro e w5 ⟨rfl, k5⟩
        have K5 := Lib.hid (K4.out.trans k5)
        clear k5
        go_wp2_with fail
        go_ret
        exact ⟨rfl, K5.out⟩
  · rw [hfd]
    clear hh hfd
    have hj0 : (0 : Int) ≤ (j : Int) := by omega
    go_wp2_with fail
    go_ret
    exact ⟨rfl, K1.out⟩

end Go.Proofs.Ytdhaojicphhikaa
