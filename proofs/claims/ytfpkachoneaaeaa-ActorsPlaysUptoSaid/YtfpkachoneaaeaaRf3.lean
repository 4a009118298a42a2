/-
  The document's System in memory: warrenref26.System; Find, Waiting.
-/
import Derived.Test.YtfpkachoneaaeaaBbSrt
import Derived.OwnWalkIn
import Derived.TacticsInMore
import Derived.RegionIn
import Derived.LoopIn
import Derived.Sort.EveryDepth
import Derived.Test.YtfpkachoneaaeaaBbMem
set_option linter.unusedSimpArgs false
set_option linter.unusedVariables false
namespace Go.Proofs.Ytfpkachoneaaeaa
open Go.RowKit
structure Im where
  A : Option Addr
  c : Nat
  bs : List UInt8
def Im.val (i : Im) : Value := .slice i.A i.bs.length i.c
structure Bx where
  id : Int
  A : Option Addr
  c : Nat
  items : List Im
def bxs : List Bx → List Value
  | [] => []
  | b :: l => .int .i64 b.id :: .slice b.A b.items.length b.c :: bxs l
theorem bxs_len : ∀ l : List Bx, (bxs l).length = l.length * 2
  | [] => rfl
  | _ :: l => by simp only [bxs, List.length_cons, bxs_len l]; omega
theorem bxs_app : ∀ l l' : List Bx, bxs (l ++ l') = bxs l ++ bxs l'
  | [], _ => rfl
  | b :: l, l' => by simp only [List.cons_append, bxs, bxs_app l l']
theorem bxs_0 : ∀ {l : List Bx} {j : Nat} (h : j < l.length), (bxs l)[j * 2]? = some (.int .i64 l[j].id)
  | _ :: _, 0, _ => rfl
  | _ :: l, j + 1, h => by
    have := bxs_0 (l := l) (j := j) (Nat.lt_of_succ_lt_succ h)
    rw [show (j + 1) * 2 = j * 2 + 1 + 1 by omega]
    exact this
theorem bxs_1 : ∀ {l : List Bx} {j : Nat} (h : j < l.length), (bxs l)[j * 2 + 1]? = some (.slice l[j].A l[j].items.length l[j].c)
  | _ :: _, 0, _ => rfl
  | _ :: l, j + 1, h => by
    have := bxs_1 (l := l) (j := j) (Nat.lt_of_succ_lt_succ h)
    rw [show (j + 1) * 2 + 1 = j * 2 + 1 + 1 + 1 by omega]
    exact this
theorem Rd.bx {w : World} {F : Nat → Prop} {A : Option Addr} {l : List Bx} (h : Rd w F A (bxs l)) {j : Nat} (hj : j < l.length) :
    ∃ g o, A = some ⟨g, o, none⟩ ∧ w.cell? ⟨g, o + j * 2, none⟩ = some (.int .i64 l[j].id) ∧ w.cell? ⟨g, o + j * 2 + 1, none⟩ = some (.slice l[j].A l[j].items.length l[j].c) := by
  rcases h with h | ⟨g, o, hA, _, hc⟩
  · have := congrArg List.length h
    rw [bxs_len] at this
    simp at this
    omega
  · exact ⟨g, o, hA, hc _ _ (bxs_0 hj), by have := hc _ _ (bxs_1 hj); rw [← Nat.add_assoc] at this; exact this⟩
/-- tg: whose a block is; 3: the struct, 4: the boxes, (5, id): a box's mail, 6: the items. -/
structure RfAt (w : World) (tg : Nat → Nat × Int) (p : Nat) (l : List Bx) (st : Bool) : Prop where
  tp : tg p = (3, 0)
  ex : ∃ A c, Blk w p 62 #[.slice A l.length c, .bool st] ∧ SegV w (fun k => tg k = (4, 0)) 82 2 A l.length c (bxs l)
  mail : ∀ b ∈ l, SegV w (fun k => tg k = (5, b.id)) 27 1 b.A b.items.length b.c (b.items.map Im.val)
  its : ∀ b ∈ l, ∀ i ∈ b.items, RB w (fun k => tg k = (6, 0)) i.A i.bs ∧ i.bs.length ≤ 140737488355328
  nd : (l.map Bx.id).Nodup
  small : l.length ≤ 2000000000 ∧ ∀ b ∈ l, b.items.length ≤ 64
section
variable {w w' : World} {tg tg' : Nat → Nat × Int} {p : Nat} {l : List Bx} {st : Bool} {S : Nat → Prop}
theorem RfAt.keep (h : RfAt w tg p l st) (hk : Kept S w w') (hd : ∀ k, k < w.heap.size → 3 ≤ (tg k).1 → S k → False) : RfAt w' tg p l st := by
  obtain ⟨A, c, hB, hS⟩ := h.ex
  exact ⟨h.tp, ⟨A, c, hB.keep hk fun q => hd p hB.lt (by rw [h.tp]; decide) q, hS.keep hk fun k h1 h2 h3 => hd k h1 (by rw [h2]; show 3 ≤ 4; decide) h3⟩, fun b hb => (h.mail b hb).keep hk fun k h1 h2 h3 => hd k h1 (by rw [h2]; show 3 ≤ 5; decide) h3,
    fun b hb i hi => ⟨(h.its b hb i hi).1.keep hk fun k h1 h2 h3 => hd k h1 (by rw [h2]; show 3 ≤ 6; decide) h3, (h.its b hb i hi).2⟩, h.nd, h.small⟩
end
def findI (id : Int) (l : List Bx) : Int := if (l.findIdx fun b => b.id == id) < l.length then ((l.findIdx fun b => b.id == id : Nat) : Int) else -1
theorem findI_at {id : Int} {l : List Bx} {j : Nat} (hj : j < l.length) (h : l[j].id = id) (hb : ∀ k (h : k < l.length), k < j → (l[k].id == id) = false) : findI id l = j := by
  have : (l.findIdx fun b => b.id == id) = j := (List.findIdx_eq hj).2 ⟨by simpa using h, fun k hk => by simpa using hb k (by omega) hk⟩
  unfold findI
  rw [this, if_pos hj]
theorem findI_no {id : Int} {l : List Bx} (hb : ∀ k (h : k < l.length), (l[k].id == id) = false) : findI id l = -1 := by
  have : (l.findIdx fun b => b.id == id) = l.length := List.findIdx_eq_length.2 fun b hb' => by
    obtain ⟨k, hk, rfl⟩ := List.mem_iff_getElem.1 hb'
    exact hb k hk
  unfold findI
  rw [this, if_neg (Nat.lt_irrefl _)]
theorem findI_or (id : Int) (l : List Bx) : (findI id l = -1 ∧ ∀ b ∈ l, b.id ≠ id) ∨ ∃ (j : Nat) (hj : j < l.length), findI id l = j ∧ l[j].id = id := by
  by_cases h : (l.findIdx fun b => b.id == id) < l.length
  · have h2 := List.findIdx_getElem (w := h)
    exact .inr ⟨_, h, by unfold findI; rw [if_pos h], by simpa using h2⟩
  · refine .inl ⟨by unfold findI; rw [if_neg h], fun b hb e => h (List.findIdx_lt_length_of_exists ⟨b, hb, by simpa using e⟩)⟩
set_option maxHeartbeats 1000000 in
theorem refFind (w : World) (tg : Nat → Nat × Int) (p : Nat) (l : List Bx) (st : Bool) (id : Int) (h : RfAt w tg p l st) (m : Nat) : CallsIn (Fence.list [33] none) m Try.prog 33 #[.pointer (some ⟨p, 0, none⟩), .int .i64 id] w fun e w' => e = .returned (.int .i64 (findI id l)) ∧ w = w' := by
  obtain ⟨A, c, hB, hS⟩ := h.ex
  have c0 : w.cell? ⟨p, 0, none⟩ = some (.slice A l.length c) := hB.cell 0
  have hlm := h.small.1
  obtain ⟨r, HR⟩ : ∃ r, Hid (findI id l = r) := ⟨_, Lib.hid rfl⟩
  rw [HR.out]
  have HS := Lib.hid hS.rd
  clear h hB hS
  gi_enter Try.func33, Try.ntmps33
  gi_wp2
  gi_loopw [4, 5] (fun v i wr => ∃ j : Nat, j ≤ l.length ∧ i = .int .i64 j ∧ v = .int .i64 0 ∧ Hid (∀ k (h : k < l.length), k < j → (l[k].id == id) = false) ∧ w = wr) (fun _ i _ => l.length - (intOf i).toNat)
  case atStart => exact ⟨0, Nat.zero_le _, rfl, rfl, Lib.hid (fun k _ a => absurd a (Nat.not_lt_zero _)), rfl⟩
  case round =>
    obtain ⟨j, hj, rfl, rfl, HE, rfl⟩ := hrel
    by_cases hlt : j < l.length
    · obtain ⟨g, o, rfl, q0, q1⟩ := HS.out.bx hlt
      have hji : (j : Int) < (l.length : Int) := by omega
      have hj0 : (0 : Int) ≤ (j : Int) := by omega
      have HF : Hid (l[j].id = id → findI id l = j) := Lib.hid fun a => findI_at hlt a HE.out
      have HJ : Hid (∀ b, (l[j].id == id) = b → ∀ k (h : k < l.length), k = j → (l[k].id == id) = b) := Lib.hid (fun b e k h a => by subst a; exact e)
      clear q1
      generalize l[j].id = x at *
      by_cases hx : x = id
      · subst hx
        have hr := HR.out
        rw [HF.out rfl] at hr
        subst hr
        clear HF HJ
        gi_wp2
        go_ret
        exact ⟨rfl, rfl⟩
      · have hxb : (x == id) = false := by simpa using hx
        have HJ' := Lib.hid (HJ.out false hxb)
        clear HF HJ
        gi_wp2
        go_roundw
        case rel => exact ⟨j + 1, by omega, by go_num, rfl, Lib.hid (fun k h a => by
          by_cases e : k = j
          · exact HJ'.out k h e
          · exact HE.out k h (by omega)), by trivial⟩
        case measure => simp [intOf]; omega
    · obtain rfl : j = l.length := by omega
      have hr := HR.out
      rw [findI_no fun k h => HE.out k h h] at hr
      subst hr
      gi_wp2
      go_ret
      exact ⟨rfl, rfl⟩
end Go.Proofs.Ytfpkachoneaaeaa
namespace Go.Proofs.Ytfpkachoneaaeaa
open Go.RowKit
def appSem (ats : Array TypeId) (ty : TypeId) (args : Array Value) : Sem Value := Builtin.append_ ats ty args
theorem append_as (ats : Array TypeId) (ty : TypeId) (args : Array Value) : Builtin.append_ ats ty args = appSem ats ty args := rfl
def lenB (l : List Bx) (id : Int) : Nat := ((l.find? fun b => b.id == id).map fun b => b.items.length).getD 0
theorem findB_nd : ∀ {l : List Bx} {b : Bx}, (l.map Bx.id).Nodup → b ∈ l → l.find? (fun q => q.id == b.id) = some b
  | [], _, _, h => by cases h
  | q :: l, b, hn, h => by
    rw [List.map_cons, List.nodup_cons] at hn
    rw [List.find?_cons]
    rcases List.mem_cons.1 h with rfl | h
    · simp
    · have : (q.id == b.id) = false := by
        rw [beq_eq_false_iff_ne]
        intro e
        exact hn.1 (e ▸ List.mem_map.2 ⟨b, h, rfl⟩)
      rw [this]
      exact findB_nd hn.2 h
theorem findB_no {l : List Bx} {id : Int} (h : ∀ b ∈ l, b.id ≠ id) : l.find? (fun q => q.id == id) = none :=
  List.find?_eq_none.2 fun b hb => by simpa using h b hb
set_option maxHeartbeats 1000000 in
theorem refWaiting (w : World) (tg : Nat → Nat × Int) (p : Nat) (l : List Bx) (st : Bool) (id : Int) (h : RfAt w tg p l st) (m : Nat) : CallsIn (Fence.list [33, 22] none) (m + 1) Try.prog 22 #[.pointer (some ⟨p, 0, none⟩), .int .i64 id] w fun e w' => e = .returned (.int .i64 (lenB l id : Int)) ∧ w = w' := by
  have hc := (refFind w tg p l st id h m).wider (L' := [33, 22]) (by decide)
  obtain ⟨A, c, hB, hS⟩ := h.ex
  have c0 : w.cell? ⟨p, 0, none⟩ = some (.slice A l.length c) := hB.cell 0
  rcases findI_or id l with ⟨hf, hno⟩ | ⟨j, hj, hf, hid⟩
  · have hl : lenB l id = 0 := by unfold lenB; rw [findB_no hno]; rfl
    rw [hf] at hc
    rw [hl]
    clear hf hno hS hB h
    gi_enter Try.func22, Try.ntmps22
    gi_wp2_with (gi_at_call 33; refine hc.mono ?_; rintro e w' ⟨rfl, rfl⟩)
    go_ret
    exact ⟨rfl, rfl⟩
  · have hl : lenB l id = l[j].items.length := by
      unfold lenB
      rw [← hid, findB_nd h.nd (List.getElem_mem hj)]
      rfl
    rw [hf] at hc
    obtain ⟨g, o, rfl, q0, q1⟩ := hS.rd.bx hj
    have hji : (j : Int) < (l.length : Int) := by omega
    have hj0 : (0 : Int) ≤ (j : Int) := by omega
    have hj1 : ¬ (j : Int) < 0 := by omega
    rw [hl]
    clear hf hid hl q0 hS hB h
    generalize l[j].items.length = y at *
    gi_enter Try.func22, Try.ntmps22
    gi_wp2_with (gi_at_call 33; refine hc.mono ?_; rintro e w' ⟨rfl, rfl⟩)
    go_ret
    exact ⟨rfl, rfl⟩
set_option maxHeartbeats 1000000 in
theorem refStop (w : World) (tg : Nat → Nat × Int) (p : Nat) (l : List Bx) (st : Bool) (h : RfAt w tg p l st) (m : Nat) : CallsIn (Fence.list [33, 21] none) m Try.prog 21 #[.pointer (some ⟨p, 0, none⟩)] w fun e w' => e = .returned (.tuple #[]) ∧ RfAt w' tg p [] true ∧ Kept (· = p) w w' := by
  obtain ⟨A, c, hB, hS⟩ := h.ex
  have c0 : w.cell? ⟨p, 0, none⟩ = some (.slice A l.length c) := hB.cell 0
  have c1 : w.cell? ⟨p, 1, none⟩ = some (.bool st) := hB.cell 1
  have k1 := kset w ⟨p, 1, none⟩ (.bool true)
  have hB1 := hB.set_ 1 (.bool true)
  have k2 : Kept (· = p) w ((w.setCell ⟨p, 1, none⟩ (.bool true)).alloc (.cells #[] 82)) := k1.alloc _
  have hB2 := hB1.keep (S := noneS) ((Kept.refl _ (w.setCell ⟨p, 1, none⟩ (.bool true))).alloc (.cells #[] 82)) fun q => q
  have q0 := hB2.cell 0
  have k3 : Kept (· = p) w (((w.setCell ⟨p, 1, none⟩ (.bool true)).alloc (.cells #[] 82)).setCell ⟨p, 0, none⟩ (.slice (some ⟨w.heap.size, 0, none⟩) 0 0)) := k2.trans (kset _ ⟨p, 0, none⟩ _)
  have hB3 := hB2.set_ 0 (.slice (some ⟨w.heap.size, 0, none⟩) 0 0)
  have HH := Lib.hid h
  have H3 := Lib.hid hB3
  have HK := Lib.hid k3
  have fz := hB.frozen 1
  have fz2 := hB2.frozen 0
  clear hS h k1 hB1 k2 hB2 hB3 k3 hB
  gi_enter Try.func21, Try.ntmps21
  gi_wp2
  go_end0
  exact ⟨rfl, ⟨HH.out.tp, ⟨_, _, H3.out, by simp [bxs], .inl ⟨rfl, rfl⟩⟩, fun b hb => (by cases hb), fun b hb => (by cases hb), by simp, ⟨by simp, fun b hb => (by cases hb)⟩⟩, HK.out⟩
def runB (l : List Bx) : List Int := (l.filter fun b => decide (0 < b.items.length)).map Bx.id
theorem runB_snoc (l : List Bx) (b : Bx) : runB (l ++ [b]) = runB l ++ (if 0 < b.items.length then [b.id] else []) := by
  unfold runB
  rw [List.filter_append, List.map_append]
  congr 1
  by_cases h : 0 < b.items.length
  · rw [List.filter_cons_of_pos (by simpa using h), if_pos h]; rfl
  · rw [List.filter_cons_of_neg (by simpa using h), if_neg h]; rfl
theorem infoInt : (Try.prog.info? 3).map (fun i => (i.zero, i.size, i.bytes)) = some (some (.int .i64 0), 1, 8) := by kernel_rfl
section
attribute [local go_sem ↓] append_as
set_option maxHeartbeats 2000000 in
theorem refRunnable (w : World) (tg : Nat → Nat × Int) (p : Nat) (l : List Bx) (st : Bool) (h : RfAt w tg p l st) (m : Nat) : CallsIn (Fence.list [33, 23] none) m Try.prog 23 #[.pointer (some ⟨p, 0, none⟩)] w fun e w' =>
    ∃ A c, e = .returned (.slice A (runB l).length c) ∧ SegV w' (fun k => w.heap.size ≤ k) 3 1 A (runB l).length c ((runB l).map (Value.int .i64)) ∧ Kept noneS w w' := by
  obtain ⟨A, c, hB, hS⟩ := h.ex
  have hlm := h.small.1
  have HB := Lib.hid hB
  have HS := Lib.hid hS.rd
  obtain ⟨r, HR⟩ : ∃ r, Hid (runB l = r) := ⟨_, Lib.hid rfl⟩
  rw [HR.out]
  clear h hB hS
  gi_enter Try.func23, Try.ntmps23
  gi_wp2
  gi_loopw [3, 4] (fun v3 i wr => ∃ (j : Nat) (A' : Option Addr) (c' n' : Nat) (xs : List Int), j ≤ l.length ∧ i = .int .i64 j ∧ v3 = .slice A' n' c' ∧ n' ≤ j ∧ Hid (runB (l.take j) = xs ∧ xs.length = n') ∧ Hid (SegV wr (fun k => w.heap.size ≤ k) 3 1 A' n' c' (xs.map (Value.int .i64))) ∧ Hid (Kept noneS w wr)) (fun _ i _ => l.length - (intOf i).toNat)
  case atStart => exact ⟨0, _, 0, 0, [], Nat.zero_le _, rfl, rfl, Nat.le_refl _, Lib.hid ⟨rfl, rfl⟩, Lib.hid ⟨rfl, .inl ⟨rfl, rfl⟩⟩, Lib.hid ((Kept.refl _ _).alloc _)⟩
  case round =>
    obtain ⟨j, A', c', n', xs, hj, rfl, rfl, hn', HX, HV, HK⟩ := hrel
    have c0 : wr.cell? ⟨p, 0, none⟩ = some (.slice A l.length c) := (HB.out.keep HK.out fun q => q).cell 0
    by_cases hlt : j < l.length
    · obtain ⟨g, o, rfl, q0, q1⟩ := (HS.out.keep HK.out fun _ _ _ q => q).bx hlt
      have hji : (j : Int) < (l.length : Int) := by omega
      have hj0 : (0 : Int) ≤ (j : Int) := by omega
      have HT : Hid (runB (l.take (j + 1)) = xs ++ (if 0 < l[j].items.length then [l[j].id] else [])) := Lib.hid (by
        rw [List.take_succ_eq_append_getElem hlt, runB_snoc, HX.out.1])
      generalize hy : l[j].items.length = y at *
      generalize l[j].id = x at *
      clear hy
      by_cases hy0 : 0 < y
      · have hgt : (0 : Int) < (y : Int) := by omega
        have hT := HT.out
        rw [if_pos hy0] at hT
        obtain ⟨A3, c3, w3, hap, hs3, k3⟩ := SegV.append (P := Try.prog) (t := 33) (B := some ⟨wr.heap.size, 0, none⟩) (m := 1) (ys := [.int .i64 x]) (G := fun k => k = wr.heap.size) 33 Try.underlying33 infoInt rfl (by decide) (HV.out.keep ((Kept.refl noneS wr).alloc (.cells #[.int .i64 x] 3)) fun _ _ _ q => q) (rdFresh wr [.int .i64 x] 3 (0, 0)) rfl (by simp [Value.oneCell']) (by unfold maxLen; omega) (by omega) (by have := HK.out.size; show w.heap.size ≤ (wr.alloc _).heap.size; simp; omega) 1
        have hap' : (appSem #[33, 33] 33 #[.slice A' n' c', .slice (some ⟨wr.heap.size, 0, none⟩) 1 1]).run Try.prog (wr.alloc (.cells #[.int .i64 x] 3)) = .ok (.slice A3 (n' + 1) c3) w3 := hap
        have H3 := Lib.hid hs3
        have K3 := Lib.hid (((HK.out.alloc (.cells #[.int .i64 x] 3)).trans2 k3 fun k hk q => by have : w.heap.size ≤ k := q; omega : Kept noneS w w3))
        have HT2 := Lib.hid hT
        clear hap hs3 k3 hT HT
        gi_wp2
        go_roundw
        case rel =>
          refine ⟨j + 1, A3, c3, n' + 1, xs ++ [x], by omega, by go_num, rfl, by omega, Lib.hid ⟨HT2.out, by rw [List.length_append, HX.out.2]; rfl⟩, Lib.hid ?_, K3⟩
          rw [List.map_append]
          exact H3.out
        case measure => simp [intOf]; omega
      · obtain rfl : y = 0 := by omega
        have hT := HT.out
        rw [if_neg (by omega), List.append_nil] at hT
        have HT2 := Lib.hid hT
        clear hT HT
        gi_wp2
        go_roundw
        case rel => exact ⟨j + 1, A', c', n', xs, by omega, by go_num, rfl, by omega, Lib.hid ⟨HT2.out, HX.out.2⟩, HV, HK⟩
        case measure => simp [intOf]; omega
    · obtain rfl : j = l.length := by omega
      have hX := HX.out
      rw [List.take_length, HR.out] at hX
      obtain ⟨rfl, hX⟩ := hX
      gi_wp2
      go_ret
      refine ⟨A', c', ?_, ?_, HK.out⟩
      · rw [hX]; rfl
      · rw [hX]; exact HV.out
end
end Go.Proofs.Ytfpkachoneaaeaa
namespace Go.Proofs.Ytfpkachoneaaeaa
open Go.RowKit
theorem bxs_set1 : ∀ {l : List Bx} {j : Nat} (hj : j < l.length) (b : Bx), b.id = l[j].id → (bxs l).set (j * 2 + 1) (.slice b.A b.items.length b.c) = bxs (l.set j b)
  | x :: l, 0, _, b, hb => by
    have hb : b.id = x.id := hb
    simp only [bxs, Nat.zero_mul, Nat.zero_add, List.set_cons_zero, List.set_cons_succ, hb]
  | x :: l, j + 1, hj, b, hb => by
    have := bxs_set1 (l := l) (j := j) (Nat.lt_of_succ_lt_succ hj) b hb
    rw [show (j + 1) * 2 + 1 = j * 2 + 1 + 1 + 1 by omega]
    simp only [bxs, List.set_cons_succ, this]
theorem mem_set_or {α : Type} {l : List α} {j : Nat} {a b : α} (h : b ∈ l.set j a) : b = a ∨ b ∈ l := (List.mem_or_eq_of_mem_set h).symm
theorem ids_set {l : List Bx} {j : Nat} (hj : j < l.length) {b : Bx} (hb : b.id = l[j].id) : (l.set j b).map Bx.id = l.map Bx.id := by
  rw [List.map_set, hb]
  refine List.ext_getElem? fun k => ?_
  rw [List.getElem?_set]
  split
  · rename_i h
    subst h
    simp [hj]
  · rfl
set_option maxHeartbeats 1000000 in
theorem refTake0 (w : World) (tg : Nat → Nat × Int) (p : Nat) (l : List Bx) (st : Bool) (id : Int) (h : RfAt w tg p l st) (h0 : lenB l id = 0) (m : Nat) : CallsIn (Fence.list [33, 20] none) (m + 1) Try.prog 20 #[.pointer (some ⟨p, 0, none⟩), .int .i64 id] w fun e w' => ∃ A, e = .returned (.tuple #[.slice A 0 0, .bool false]) ∧ Kept noneS w w' := by
  have hc := (refFind w tg p l st id h m).wider (L' := [33, 20]) (by decide)
  obtain ⟨A, c, hB, hS⟩ := h.ex
  have c0 : w.cell? ⟨p, 0, none⟩ = some (.slice A l.length c) := hB.cell 0
  rcases findI_or id l with ⟨hf, hno⟩ | ⟨j, hj, hf, hid⟩
  · rw [hf] at hc
    clear hf hno hS hB h h0
    gi_enter Try.func20, Try.ntmps20
    gi_wp2_with (gi_at_call 33; refine hc.mono ?_; rintro e w' ⟨rfl, rfl⟩)
    go_ret2
    exact ⟨_, rfl, (Kept.refl _ _).alloc _⟩
  · have hl : lenB l id = l[j].items.length := by
      unfold lenB
      rw [← hid, findB_nd h.nd (List.getElem_mem hj)]
      rfl
    rw [h0] at hl
    rw [hf] at hc
    obtain ⟨g, o, rfl, q0, q1⟩ := hS.rd.bx hj
    rw [← hl] at q1
    have hji : (j : Int) < (l.length : Int) := by omega
    have hj0 : (0 : Int) ≤ (j : Int) := by omega
    have hj1 : ¬ (j : Int) < 0 := by omega
    clear hf hid hl q0 hS hB h h0
    gi_enter Try.func20, Try.ntmps20
    gi_wp2_with (gi_at_call 33; refine hc.mono ?_; rintro e w' ⟨rfl, rfl⟩)
    go_ret2
    exact ⟨_, rfl, (Kept.refl _ _).alloc _⟩
/-- The box without its first item. -/
def Bx.pop (b : Bx) : Bx := ⟨b.id, if b.c = 1 then b.A else b.A.map (·.add 1), b.c - 1, b.items.tail⟩
theorem RfAt.boxes {w : World} {tg : Nat → Nat × Int} {p : Nat} {l : List Bx} {st : Bool} (h : RfAt w tg p l st) {g o c j : Nat} {b : Bx} (hB : Blk w p 62 #[.slice (some ⟨g, o, none⟩) l.length c, .bool st]) (hS : SegV w (fun k => tg k = (4, 0)) 82 2 (some ⟨g, o, none⟩) l.length c (bxs l)) (hg : tg g = (4, 0)) (hj : j < l.length) (hb : b.id = l[j].id)
    (hm : SegV w (fun k => tg k = (5, b.id)) 27 1 b.A b.items.length b.c (b.items.map Im.val)) (hi : ∀ i ∈ b.items, RB w (fun k => tg k = (6, 0)) i.A i.bs ∧ i.bs.length ≤ 140737488355328) (hsm : b.items.length ≤ 64) :
    RfAt (w.setCell ⟨g, o + j * 2 + 1, none⟩ (.slice b.A b.items.length b.c)) tg p (l.set j b) st := by
  have hk := kset w ⟨g, o + j * 2 + 1, none⟩ (.slice b.A b.items.length b.c)
  have hS' := hS.set_ (k := j * 2 + 1) (by omega) (.slice b.A b.items.length b.c)
  rw [bxs_set1 hj b hb, ← Nat.add_assoc] at hS'
  have ne : ∀ {k : Nat} {t : Nat × Int}, tg k = t → t ≠ (4, 0) → ¬ k = g := fun e n q => n (by rw [← e, q, hg])
  have km : ∀ b' : Bx, SegV w (fun k => tg k = (5, b'.id)) 27 1 b'.A b'.items.length b'.c (b'.items.map Im.val) → SegV (w.setCell ⟨g, o + j * 2 + 1, none⟩ (.slice b.A b.items.length b.c)) (fun k => tg k = (5, b'.id)) 27 1 b'.A b'.items.length b'.c (b'.items.map Im.val) := fun b' q => q.keep hk fun k _ h1 h2 => ne h1 (fun e => by injection e with e _; cases e) h2
  have ki : ∀ b' : Bx, (∀ i ∈ b'.items, RB w (fun k => tg k = (6, 0)) i.A i.bs ∧ i.bs.length ≤ 140737488355328) → ∀ i ∈ b'.items, RB (w.setCell ⟨g, o + j * 2 + 1, none⟩ (.slice b.A b.items.length b.c)) (fun k => tg k = (6, 0)) i.A i.bs ∧ i.bs.length ≤ 140737488355328 := fun b' q i hi => ⟨(q i hi).1.keep hk fun k _ h1 h2 => ne h1 (by decide) h2, (q i hi).2⟩
  refine ⟨h.tp, ⟨some ⟨g, o, none⟩, c, ?_, ?_⟩, fun b' hb' => ?_, fun b' hb' => ?_, ?_, ?_, fun b' hb' => ?_⟩
  · rw [List.length_set]
    exact hB.keep hk (ne h.tp (by decide))
  · rw [List.length_set]
    exact hS'
  · rcases mem_set_or hb' with rfl | q
    · exact km _ hm
    · exact km _ (h.mail b' q)
  · rcases mem_set_or hb' with rfl | q
    · exact ki _ hi
    · exact ki _ (h.its b' q)
  · rw [ids_set hj hb]
    exact h.nd
  · rw [List.length_set]
    exact h.small.1
  · rcases mem_set_or hb' with rfl | q
    · exact hsm
    · exact h.small.2 b' q
theorem nd_box {l : List Bx} {a b : Bx} (hn : (l.map Bx.id).Nodup) (ha : a ∈ l) (hb : b ∈ l) (h : a.id = b.id) : a = b := by
  have h1 := findB_nd hn ha
  rw [h, findB_nd hn hb] at h1
  exact (Option.some.inj h1).symm
theorem set_map {id : Int} (f : Bx → Bx) : ∀ {l : List Bx} {j : Nat} (hj : j < l.length), (l.map Bx.id).Nodup → l[j].id = id → l.set j (f l[j]) = l.map (fun x => if x.id = id then f x else x)
  | x :: l, 0, _, hn, h => by
    have h : x.id = id := h
    rw [List.map_cons, List.nodup_cons] at hn
    rw [List.set_cons_zero, List.map_cons, if_pos h]
    congr 1
    refine (List.map_id l).symm.trans (List.map_congr_left fun y hy => ?_)
    rw [if_neg fun e => hn.1 (by rw [h, ← e]; exact List.mem_map.2 ⟨y, hy, rfl⟩)]
    rfl
  | x :: l, j + 1, hj, hn, h => by
    rw [List.map_cons, List.nodup_cons] at hn
    have hj' : j < l.length := Nat.lt_of_succ_lt_succ hj
    have h : l[j].id = id := h
    rw [List.set_cons_succ, List.map_cons, if_neg fun e => hn.1 (by rw [e, ← h]; exact List.mem_map.2 ⟨_, List.getElem_mem hj', rfl⟩)]
    congr 1
    exact set_map f hj' hn.2 h
set_option maxHeartbeats 2000000 in
theorem refTake1 (w : World) (tg : Nat → Nat × Int) (p : Nat) (l : List Bx) (st : Bool) (id : Int) (h : RfAt w tg p l st) (b : Bx) (hbl : b ∈ l) (hbi : b.id = id) (i : Im) (r : List Im) (hbr : b.items = i :: r) (m : Nat) : CallsIn (Fence.list [33, 20] none) (m + 1) Try.prog 20 #[.pointer (some ⟨p, 0, none⟩), .int .i64 id] w fun e w' =>
    e = .returned (.tuple #[i.val, .bool true]) ∧ RfAt w' tg p (l.map fun x => if x.id = id then x.pop else x) st ∧ Kept (fun k => tg k = (4, 0)) w w' := by
  have hc := (refFind w tg p l st id h m).wider (L' := [33, 20]) (by decide)
  obtain ⟨A, c, hB, hS⟩ := h.ex
  obtain ⟨j, hj, hf, hid⟩ := (findI_or id l).resolve_left fun q => q.2 b hbl hbi
  have hi : l[j].items = i :: r := by rw [nd_box h.nd (List.getElem_mem hj) hbl (hid.trans hbi.symm)]; exact hbr
  have hsm := set_map Bx.pop hj h.nd hid
  rw [hf] at hc
  obtain ⟨g, o, rfl, q0, q1⟩ := hS.rd.bx hj
  have hg : tg g = (4, 0) := by
    rcases hS.2 with ⟨h1, _⟩ | ⟨g', o', cur, hA, hF, _⟩
    · omega
    · injection hA with hA
      injection hA with e1 e2
      subst e1
      exact hF
  have hm := h.mail _ (List.getElem_mem hj)
  have ht := hm.tail (by rw [hi]; simp)
  obtain ⟨gm, om, hA, q2⟩ : ∃ gm om, l[j].A = some ⟨gm, om, none⟩ ∧ w.cell? ⟨gm, om, none⟩ = some i.val := by
    rcases hm.rd with q | ⟨gm, om, e1, _, e3⟩
    · rw [hi] at q; cases q
    · exact ⟨gm, om, e1, e3 0 _ (by rw [hi]; rfl)⟩
  have hcap := hm.cap
  have hW := h.boxes hB hS hg hj (b := l[j].pop) rfl (by
    unfold Bx.pop
    have e1 : l[j].items.tail.length = l[j].items.length - 1 := List.length_tail
    have e2 : l[j].items.tail.map Im.val = (l[j].items.map Im.val).drop 1 := by rw [List.map_tail, List.drop_one]
    rw [e1, e2]
    exact ht) (fun x hx => h.its _ (List.getElem_mem hj) x (List.mem_of_mem_tail hx)) (by have := h.small.2 _ (List.getElem_mem hj); unfold Bx.pop; rw [List.length_tail]; omega)
  rw [hsm] at hW
  have hKW := kset w ⟨g, o + j * 2 + 1, none⟩ (.slice l[j].pop.A l[j].pop.items.length l[j].pop.c)
  have hKW' : Kept (fun k => tg k = (4, 0)) w (w.setCell ⟨g, o + j * 2 + 1, none⟩ (.slice l[j].pop.A l[j].pop.items.length l[j].pop.c)) := hKW.mono fun k _ q => by rw [show k = g from q]; exact hg
  have hlen : l[j].items.length = r.length + 1 := by rw [hi]; rfl
  have hpl : l[j].pop.items.length = r.length := by unfold Bx.pop; rw [hi]; rfl
  have hpa : l[j].pop.A = (if l[j].c = 1 then some ⟨gm, om, none⟩ else some (Addr.add ⟨gm, om, none⟩ 1)) := by unfold Bx.pop; rw [hA]; rfl
  have hpc : l[j].pop.c = l[j].c - 1 := rfl
  rw [hpl, hpa, hpc] at hKW' hW
  rw [hlen, hA] at q1
  have c0 : w.cell? ⟨p, 0, none⟩ = some (.slice (some ⟨g, o, none⟩) l.length c) := hB.cell 0
  have hji : (j : Int) < (l.length : Int) := by omega
  have hj0 : (0 : Int) ≤ (j : Int) := by omega
  have hj1 : ¬ (j : Int) < 0 := by omega
  have hr1 : ¬ ((r.length : Int) + 1 = 0) := by omega
  have fzg : w.frozen? ⟨g, o + j * 2 + 1, none⟩ = false := by
    rcases hS.2 with ⟨h1, _⟩ | ⟨g', o', cur, hA, hF, hb, _⟩
    · omega
    · injection hA with hA
      injection hA with e1 e2
      subst e1
      exact hb.frozen _
  rw [hlen] at hcap
  have had : Addr.add ⟨gm, om, none⟩ 1 = ⟨gm, om + 1, none⟩ := rfl
  rw [had] at hW hKW'
  clear hf hid hS hB h q0 hKW hpl hpa hpc hm ht hi hlen hg hbl hbr hbi hsm had
  generalize l[j].c = cm at *
  generalize i.val = iv at *
  by_cases hcm : cm = 1
  · subst hcm
    rw [if_pos rfl, show r.length = 0 by omega, show (1 : Nat) - 1 = 0 from rfl] at hW hKW'
    have HW := Lib.hid hW
    have HKW := Lib.hid hKW'
    clear hW hKW'
    gi_enter Try.func20, Try.ntmps20
    gi_wp2_with (gi_at_call 33; refine hc.mono ?_; rintro e w' ⟨rfl, rfl⟩)
    gi_region
    gi_wp2
    go_ret2
    exact ⟨rfl, HW.out.keep ((Kept.refl noneS _).drew) (fun _ _ _ q => q), HKW.out.drew⟩
  · rw [if_neg hcm] at hW hKW'
    have HW := Lib.hid hW
    have HKW := Lib.hid hKW'
    clear hW hKW'
    gi_enter Try.func20, Try.ntmps20
    gi_wp2_with (gi_at_call 33; refine hc.mono ?_; rintro e w' ⟨rfl, rfl⟩)
    gi_region
    gi_wp2
    go_ret2
    exact ⟨rfl, HW.out.keep ((Kept.refl noneS _).drew) (fun _ _ _ q => q), HKW.out.drew⟩
end Go.Proofs.Ytfpkachoneaaeaa
