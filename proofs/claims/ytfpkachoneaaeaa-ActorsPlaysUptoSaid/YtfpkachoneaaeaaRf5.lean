/-
  The document's System: Post, where the actor has a box already.
-/
import Derived.Test.YtfpkachoneaaeaaRf3
set_option linter.unusedSimpArgs false
set_option linter.unusedVariables false
namespace Go.Proofs.Ytfpkachoneaaeaa
open Go.RowKit
theorem infoB : (Try.prog.info? 5).map (fun i => (i.zero, i.size, i.bytes)) = some (some (.int .u8 0), 1, 1) := by kernel_rfl
theorem infoBs : (Try.prog.info? 27).map (fun i => (i.zero, i.size, i.bytes)) = some (some (.slice none 0 0), 1, 24) := by kernel_rfl
theorem RfAt.retag {w : World} {tg tg' : Nat → Nat × Int} {p : Nat} {l : List Bx} {st : Bool} (h : RfAt w tg p l st) (ht : ∀ k, k < w.heap.size → tg' k = tg k) : RfAt w tg' p l st := by
  obtain ⟨A, c, hB, hS⟩ := h.ex
  exact ⟨by rw [ht p hB.lt]; exact h.tp, ⟨A, c, hB, hS.mono fun k hk q => by rw [ht k hk]; exact q⟩, fun b hb => (h.mail b hb).mono fun k hk q => by rw [ht k hk]; exact q, fun b hb i hi => ⟨(h.its b hb i hi).1.mono fun k hk q => by rw [ht k hk]; exact q, (h.its b hb i hi).2⟩, h.nd, h.small⟩
/-- A box is written anew. -/
theorem RfAt.turn {w : World} {tg : Nat → Nat × Int} {p : Nat} {l : List Bx} {st : Bool} {g o c j : Nat} {b : Bx} (tp : tg p = (3, 0)) (hB : Blk w p 62 #[.slice (some ⟨g, o, none⟩) l.length c, .bool st]) (hS : SegV w (fun k => tg k = (4, 0)) 82 2 (some ⟨g, o, none⟩) l.length c (bxs l)) (hg : tg g = (4, 0)) (hj : j < l.length) (hb : b.id = l[j].id)
    (nd : (l.map Bx.id).Nodup) (small : l.length ≤ 2000000000 ∧ ∀ b ∈ l, b.items.length ≤ 64) (mail : ∀ b' ∈ l, b'.id ≠ b.id → SegV w (fun k => tg k = (5, b'.id)) 27 1 b'.A b'.items.length b'.c (b'.items.map Im.val)) (its : ∀ b' ∈ l, ∀ i ∈ b'.items, RB w (fun k => tg k = (6, 0)) i.A i.bs ∧ i.bs.length ≤ 140737488355328)
    (hm : SegV w (fun k => tg k = (5, b.id)) 27 1 b.A b.items.length b.c (b.items.map Im.val)) (hi : ∀ i ∈ b.items, RB w (fun k => tg k = (6, 0)) i.A i.bs ∧ i.bs.length ≤ 140737488355328) (hsm : b.items.length ≤ 64) :
    RfAt (w.setCell ⟨g, o + j * 2 + 1, none⟩ (.slice b.A b.items.length b.c)) tg p (l.map fun x => if x.id = b.id then b else x) st := by
  have hk := kset w ⟨g, o + j * 2 + 1, none⟩ (.slice b.A b.items.length b.c)
  have hS' := hS.set_ (k := j * 2 + 1) (by omega) (.slice b.A b.items.length b.c)
  have hsm' := set_map (fun _ => b) hj nd hb.symm
  rw [bxs_set1 hj b hb, ← Nat.add_assoc, hsm'] at hS'
  have ne : ∀ {k : Nat} {t : Nat × Int}, tg k = t → t ≠ (4, 0) → ¬ k = g := fun e n q => n (by rw [← e, q, hg])
  have km : ∀ b' : Bx, SegV w (fun k => tg k = (5, b'.id)) 27 1 b'.A b'.items.length b'.c (b'.items.map Im.val) → SegV (w.setCell ⟨g, o + j * 2 + 1, none⟩ (.slice b.A b.items.length b.c)) (fun k => tg k = (5, b'.id)) 27 1 b'.A b'.items.length b'.c (b'.items.map Im.val) := fun b' q => q.keep hk fun k _ h1 h2 => ne h1 (fun e => by injection e with e _; cases e) h2
  have ki : ∀ b' : Bx, (∀ i ∈ b'.items, RB w (fun k => tg k = (6, 0)) i.A i.bs ∧ i.bs.length ≤ 140737488355328) → ∀ i ∈ b'.items, RB (w.setCell ⟨g, o + j * 2 + 1, none⟩ (.slice b.A b.items.length b.c)) (fun k => tg k = (6, 0)) i.A i.bs ∧ i.bs.length ≤ 140737488355328 := fun b' q i hi => ⟨(q i hi).1.keep hk fun k _ h1 h2 => ne h1 (by decide) h2, (q i hi).2⟩
  have key : ∀ b' ∈ l.map (fun x => if x.id = b.id then b else x), b' = b ∨ (b' ∈ l ∧ b'.id ≠ b.id) := fun b' hb' => by
    obtain ⟨x, hx, rfl⟩ := List.mem_map.1 hb'
    by_cases e : x.id = b.id
    · rw [if_pos e]; exact .inl rfl
    · rw [if_neg e]; exact .inr ⟨hx, e⟩
  refine ⟨tp, ⟨some ⟨g, o, none⟩, c, ?_, ?_⟩, fun b' hb' => ?_, fun b' hb' => ?_, ?_, ?_, fun b' hb' => ?_⟩
  · rw [List.length_map]
    exact hB.keep hk (ne tp (by decide))
  · rw [List.length_map]
    exact hS'
  · rcases key b' hb' with rfl | ⟨q, e⟩
    · exact km _ hm
    · exact km _ (mail b' q e)
  · rcases key b' hb' with rfl | ⟨q, e⟩
    · exact ki _ hi
    · exact ki _ (its b' q)
  · rw [← hsm', ids_set hj hb]
    exact nd
  · rw [List.length_map]
    exact small.1
  · rcases key b' hb' with rfl | ⟨q, e⟩
    · exact hsm
    · exact small.2 b' q
/-- An item is put behind a box's mail. -/
theorem RfAt.put {w : World} {tg : Nat → Nat × Int} {p : Nat} {l : List Bx} {st : Bool} (h : RfAt w tg p l st) {g o c j : Nat} (hB : Blk w p 62 #[.slice (some ⟨g, o, none⟩) l.length c, .bool st]) (hS : SegV w (fun k => tg k = (4, 0)) 82 2 (some ⟨g, o, none⟩) l.length c (bxs l)) (hg : tg g = (4, 0)) (hgl : g < w.heap.size) (hj : j < l.length)
    {IA : Option Addr} {ic : Nat} {bs : List UInt8} {G : Nat → Prop} (hr : RB w G IA bs) (hbl : bs.length ≤ 140737488355328) (hlt : l[j].items.length < 64) :
    ∃ A2 c2 W2 A3 c3 W4 tg' b, (appSem #[27, 27] 27 #[.slice (some ⟨w.heap.size, 0, none⟩) 0 0, .slice IA bs.length ic]).run Try.prog (w.alloc (.cells #[] 5)) = .ok (.slice A2 bs.length c2) W2 ∧
      (appSem #[72, 72] 72 #[.slice l[j].A l[j].items.length l[j].c, .slice (some ⟨W2.heap.size, 0, none⟩) 1 1]).run Try.prog (W2.alloc (.cells #[.slice A2 bs.length c2] 27)) = .ok (.slice A3 (l[j].items.length + 1) c3) W4 ∧
      Kept noneS w W2 ∧ Kept (fun k => tg k = (5, l[j].id)) w W4 ∧ (∀ k, k < w.heap.size → tg' k = tg k) ∧ b.id = l[j].id ∧ b.items.map Im.bs = l[j].items.map Im.bs ++ [bs] ∧
      RfAt (W4.setCell ⟨g, o + j * 2 + 1, none⟩ (.slice A3 (l[j].items.length + 1) c3)) tg' p (l.map fun x => if x.id = b.id then b else x) st := by
  have k1 : Kept noneS w (w.alloc (.cells #[] 5)) := (Kept.refl _ _).alloc _
  have s1 : (w.alloc (.cells #[] 5)).heap.size = w.heap.size + 1 := by simp
  obtain ⟨A2, c2, W2, ha1, hs2, k2⟩ := SegV.append (P := Try.prog) (F := fun k => k = w.heap.size + 1) (A := some ⟨w.heap.size, 0, none⟩) (n := 0) (c := 0) (xs := []) (t := 27) (B := IA) (m := bs.length) (ys := bvs bs) (G := G) 27 Try.underlying27 infoB rfl (by decide) (w := w.alloc (.cells #[] 5)) ⟨rfl, .inl ⟨rfl, rfl⟩⟩ (hr.keep k1 fun _ _ _ q => q) (by rw [bvs_length, Nat.mul_one]) (by intro u hu; obtain ⟨b, _, rfl⟩ := List.mem_map.1 hu; rfl) (by unfold maxLen; omega) (by omega) s1 ic
  rw [Nat.zero_add] at ha1 hs2
  rw [List.nil_append] at hs2
  have k12 : Kept noneS w W2 := k1.trans2 k2 fun k hk q => by omega
  have hs2z := k2.size
  rw [s1] at hs2z
  have k3 : Kept noneS W2 (W2.alloc (.cells #[.slice A2 bs.length c2] 27)) := (Kept.refl _ _).alloc _
  have s3 : (W2.alloc (.cells #[.slice A2 bs.length c2] 27)).heap.size = W2.heap.size + 1 := by simp
  have hrd3 := rdFresh W2 [.slice A2 bs.length c2] 27 (0, 0)
  obtain ⟨tg', htg⟩ : ∃ tg' : Nat → Nat × Int, tg' = fun k => if k = w.heap.size + 1 then (6, 0) else if k = W2.heap.size + 1 then (5, l[j].id) else tg k := ⟨_, rfl⟩
  have ht : ∀ k, k < w.heap.size → tg' k = tg k := fun k hk => by rw [htg]; exact (if_neg (by omega)).trans (if_neg (by omega))
  have ht1 : tg' (w.heap.size + 1) = (6, 0) := by rw [htg]; exact if_pos rfl
  have ht2 : tg' (W2.heap.size + 1) = (5, l[j].id) := by rw [htg]; exact (if_neg (by omega)).trans (if_pos rfl)
  have h0 := h.retag ht
  have hm := h0.mail _ (List.getElem_mem hj)
  have k13 : Kept noneS w (W2.alloc (.cells #[.slice A2 bs.length c2] 27)) := k12.trans k3
  obtain ⟨A3, c3, W4, ha2, hs4, k4⟩ := SegV.append (P := Try.prog) (t := 72) (m := 1) 72 Try.underlying72 infoBs rfl (by decide) (hm.keep k13 fun _ _ _ q => q) hrd3 rfl (by simp [Value.oneCell']) (by unfold maxLen; omega) (by omega) (by show tg' _ = _; rw [s3]; exact ht2) 1
  have k14 : Kept (fun k => tg' k = (5, l[j].id)) w W4 := (k13.mono fun _ _ q => q.elim).trans k4
  have hlt2 : w.heap.size + 1 < W2.heap.size + 1 ∨ True := .inr trivial
  refine ⟨A2, c2, W2, A3, c3, W4, tg', ⟨l[j].id, A3, c3, l[j].items ++ [⟨A2, c2, bs⟩]⟩, ha1, ha2, k12, k14.mono fun k hk q => by rw [← ht k hk]; exact q, ht, rfl, by rw [List.map_append]; rfl, ?_⟩
  have hlen : (l[j].items ++ [(⟨A2, c2, bs⟩ : Im)]).length = l[j].items.length + 1 := by simp
  have hn5 : ∀ {k : Nat} {t : Nat × Int}, tg' k = t → t ≠ (5, l[j].id) → ¬ tg' k = (5, l[j].id) := fun e n q => n (e.symm.trans q)
  have hti := RfAt.turn (w := W4) (tg := tg') (p := p) (l := l) (st := st) (g := g) (o := o) (c := c) (j := j) (b := ⟨l[j].id, A3, c3, l[j].items ++ [⟨A2, c2, bs⟩]⟩) h0.tp (hB.keep k14 (hn5 h0.tp (by simp))) ((hS.mono fun k hk q => by rw [ht k hk]; exact q).keep k14 fun k _ q => hn5 q (by simp)) (by rw [ht g hgl]; exact hg) hj rfl h.nd h.small
    (fun b' hb' e => (h0.mail b' hb').keep k14 fun k _ q => hn5 q (fun r => e (by injection r)))
    (fun b' hb' i hi => ⟨((h0.its b' hb' i hi).1).keep k14 fun k _ q => hn5 q (by simp), (h0.its b' hb' i hi).2⟩)
    (by simp only [hlen, List.map_append]; exact hs4)
    (fun i hi => by
      rcases List.mem_append.1 hi with q | q
      · exact ⟨((h0.its _ (List.getElem_mem hj) i q).1).keep k14 fun k _ q => hn5 q (by simp), (h0.its _ (List.getElem_mem hj) i q).2⟩
      · rw [List.mem_singleton.1 q]
        refine ⟨?_, hbl⟩
        have r2 : RB W2 (fun k => k = w.heap.size + 1) A2 bs := hs2.rd
        have r3 := r2.keep k3 fun _ _ _ q => q
        have r4 := r3.keep k4 fun k _ q r => by
          rw [show k = w.heap.size + 1 from q, ht1] at r
          injection r with r _
          cases r
        exact Rd.mono r4 fun k _ q => by rw [show k = w.heap.size + 1 from q]; exact ht1)
    (by rw [hlen]; omega)
  simp only [hlen] at hti
  exact hti
set_option maxHeartbeats 2000000 in
theorem refPostNo (w : World) (tg : Nat → Nat × Int) (p : Nat) (l : List Bx) (id : Int) (IA : Option Addr) (ic : Nat) (bs : List UInt8) (h : RfAt w tg p l true) (m : Nat) : CallsIn (Fence.list [33, 19] none) (m + 1) Try.prog 19 #[.pointer (some ⟨p, 0, none⟩), .int .i64 id, .slice IA bs.length ic] w fun e w' => e = .returned (.bool false) ∧ Kept noneS w w' := by
  obtain ⟨A, c, hB, hS⟩ := h.ex
  have c1 : w.cell? ⟨p, 1, none⟩ = some (.bool true) := hB.cell 1
  clear h hB hS
  gi_enter Try.func19, Try.ntmps19
  gi_wp2
  go_ret
  exact ⟨rfl, Kept.refl _ _⟩
set_option maxHeartbeats 2000000 in
theorem refPostFull (w : World) (tg : Nat → Nat × Int) (p : Nat) (l : List Bx) (id : Int) (IA : Option Addr) (ic : Nat) (bs : List UInt8) (h : RfAt w tg p l false) (b : Bx) (hbm : b ∈ l) (hbi : b.id = id) (hfull : 64 ≤ b.items.length) (m : Nat) : CallsIn (Fence.list [33, 19] none) (m + 1) Try.prog 19 #[.pointer (some ⟨p, 0, none⟩), .int .i64 id, .slice IA bs.length ic] w fun e w' => e = .returned (.bool false) ∧ Kept noneS w w' := by
  have hc := (refFind w tg p l false id h m).wider (L' := [33, 19]) (by decide)
  obtain ⟨A, c, hB, hS⟩ := h.ex
  obtain ⟨j, hj, hf, hid⟩ := (findI_or id l).resolve_left fun q => q.2 b hbm hbi
  have hjb : l[j] = b := nd_box h.nd (List.getElem_mem hj) hbm (hid.trans hbi.symm)
  rw [hf] at hc
  obtain ⟨g, o, rfl, q0, q1⟩ := hS.rd.bx hj
  rw [hjb] at q1
  have c0 : w.cell? ⟨p, 0, none⟩ = some (.slice (some ⟨g, o, none⟩) l.length c) := hB.cell 0
  have c1 : w.cell? ⟨p, 1, none⟩ = some (.bool false) := hB.cell 1
  have hji : (j : Int) < (l.length : Int) := by omega
  have hj0 : (0 : Int) ≤ (j : Int) := by omega
  have hj1 : ¬ (j : Int) < 0 := by omega
  have hge : (64 : Int) ≤ (b.items.length : Int) := by omega
  clear hf hid hS hB h q0 hjb hbm hbi hfull
  generalize b.items.length = y at *
  gi_enter Try.func19, Try.ntmps19
  gi_wp2_with (gi_at_call 33; refine hc.mono ?_; rintro e w' ⟨rfl, rfl⟩)
  go_ret
  exact ⟨rfl, Kept.refl _ _⟩
section
attribute [local go_sem ↓] append_as
set_option maxRecDepth 20000 in
set_option maxHeartbeats 4000000 in
theorem refPost1 (w : World) (tg : Nat → Nat × Int) (p : Nat) (l : List Bx) (id : Int) (IA : Option Addr) (ic : Nat) (bs : List UInt8) (G : Nat → Prop) (h : RfAt w tg p l false) (b : Bx) (hbm : b ∈ l) (hbi : b.id = id) (hlt : b.items.length < 64) (hr : RB w G IA bs) (hbl : bs.length ≤ 140737488355328) (m : Nat) : CallsIn (Fence.list [33, 19] none) (m + 1) Try.prog 19 #[.pointer (some ⟨p, 0, none⟩), .int .i64 id, .slice IA bs.length ic] w fun e w' => e = .returned (.bool true) ∧ ∃ tg' b', (∀ k, k < w.heap.size → tg' k = tg k) ∧ b'.id = id ∧ b'.items.map Im.bs = b.items.map Im.bs ++ [bs] ∧ RfAt w' tg' p (l.map fun x => if x.id = id then b' else x) false ∧ Kept (fun k => tg k = (4, 0) ∨ tg k = (5, id)) w w' := by
  have hc := (refFind w tg p l false id h m).wider (L' := [33, 19]) (by decide)
  have kd : Kept noneS w w.drew := (Kept.refl _ _).drew
  have hd := h.keep kd fun _ _ _ q => q
  obtain ⟨A, c, hB, hS⟩ := h.ex
  obtain ⟨j, hj, hf, hid⟩ := (findI_or id l).resolve_left fun q => q.2 b hbm hbi
  have hjb : l[j] = b := nd_box h.nd (List.getElem_mem hj) hbm (hid.trans hbi.symm)
  rw [hf] at hc
  obtain ⟨g, o, rfl, q0, q1⟩ := hS.rd.bx hj
  obtain ⟨hg, hgl, cur, hb⟩ : tg g = (4, 0) ∧ g < w.heap.size ∧ ∃ cur, Blk w g 82 cur := by
    rcases hS.2 with ⟨h1, _⟩ | ⟨g', o', cur, hA, hF, hb, _⟩
    · omega
    · injection hA with hA
      injection hA with e1 e2
      subst e1
      exact ⟨hF, hb.lt, cur, hb⟩
  have c0 : w.cell? ⟨p, 0, none⟩ = some (.slice (some ⟨g, o, none⟩) l.length c) := hB.cell 0
  have c1 : w.cell? ⟨p, 1, none⟩ = some (.bool false) := hB.cell 1
  obtain ⟨A2, c2, W2, A3, c3, W4, tg', b', ha1, ha2, k2, k4, ht, hb1, hb2, hR⟩ := hd.put (ic := ic) (hB.keep kd fun q => q) (hS.keep kd fun _ _ _ q => q) hg hgl hj (hr.keep kd fun _ _ _ q => q) hbl (by rw [hjb]; exact hlt)
  rw [hjb] at q1 ha2 k4 hb1 hb2 hR
  rw [hb1, hbi] at hR
  have np : ¬ tg p = (5, id) := fun q => by rw [h.tp] at q; injection q with q _; cases q
  have ng : ¬ tg g = (5, id) := fun q => by rw [hg] at q; injection q with q _; cases q
  rw [hbi] at k4
  have K1 : Kept noneS w (w.alloc (.cells #[] 5)).drew := ((Kept.refl _ _).alloc _).drew
  have K2 : Kept noneS w W2 := kd.trans k2
  have K3 : Kept noneS w (W2.alloc (.cells #[.slice A2 bs.length c2] 27)) := K2.alloc _
  have K4 : Kept (fun k => tg k = (5, id)) w W4 := (kd.mono fun _ _ q => q.elim).trans k4
  have pl := hB.lt
  have c01 := (K1.cell (p := ⟨p, 0, none⟩) pl fun q => q).trans c0
  have c02 := (K2.cell (p := ⟨p, 0, none⟩) pl fun q => q).trans c0
  have c03 := (K3.cell (p := ⟨p, 0, none⟩) pl fun q => q).trans c0
  have c04 := (K4.cell (p := ⟨p, 0, none⟩) pl np).trans c0
  have q11 := (K1.cell (p := ⟨g, o + j * 2 + 1, none⟩) hgl fun q => q).trans q1
  have q12 := (K2.cell (p := ⟨g, o + j * 2 + 1, none⟩) hgl fun q => q).trans q1
  have q13 := (K3.cell (p := ⟨g, o + j * 2 + 1, none⟩) hgl fun q => q).trans q1
  have q14 := (K4.cell (p := ⟨g, o + j * 2 + 1, none⟩) hgl ng).trans q1
  have fz4 : W4.frozen? ⟨g, o + j * 2 + 1, none⟩ = false := (hb.keep K4 ng).frozen _
  have HK := Lib.hid ((K4.mono fun k _ q => .inr q : Kept (fun k => tg k = (4, 0) ∨ tg k = (5, id)) w W4).trans ((kset W4 ⟨g, o + j * 2 + 1, none⟩ (.slice A3 (b.items.length + 1) c3)).mono fun k _ q => by rw [show k = g from q]; exact .inl hg))
  have HR := Lib.hid hR
  have HT := Lib.hid ht
  have HB2 := Lib.hid hb2
  have hb3 : b'.id = id := hb1.trans hbi
  have ha1' : (appSem #[27, 27] 27 #[.slice (some ⟨w.heap.size, 0, none⟩) 0 0, .slice IA bs.length ic]).run Try.prog (w.alloc (.cells #[] 5)).drew = .ok (.slice A2 bs.length c2) W2 := ha1
  have hji : (j : Int) < (l.length : Int) := by omega
  have hj0 : (0 : Int) ≤ (j : Int) := by omega
  have hj1 : ¬ (j : Int) < 0 := by omega
  have hge : ¬ (64 : Int) ≤ (b.items.length : Int) := by omega
  clear hf hid hS hB h q0 hjb hbm hd kd hr k2 k4 ht hb2 hR np ng K1 K2 K3 K4 pl hb ha1 hb1 hgl hg
  generalize b.items.length = y at *
  gi_enter Try.func19, Try.ntmps19
  gi_wp2_with (gi_at_call 33; refine hc.mono ?_; rintro e w' ⟨rfl, rfl⟩)
  gi_region
  gi_wp2
  go_ret
  exact ⟨rfl, tg', b', HT.out, hb3, HB2.out, HR.out, HK.out⟩
end
end Go.Proofs.Ytfpkachoneaaeaa
namespace Go.Proofs.Ytfpkachoneaaeaa
open Go.RowKit
theorem bxs_swap (x y : Bx) : ∀ (a b : List Bx), ((((bxs (a ++ y :: x :: b)).set ((a.length + 1) * 2) (.int .i64 y.id)).set ((a.length + 1) * 2 + 1) (.slice y.A y.items.length y.c)).set (a.length * 2) (.int .i64 x.id)).set (a.length * 2 + 1) (.slice x.A x.items.length x.c) = bxs (a ++ x :: y :: b)
  | [], b => rfl
  | z :: a, b => by
    have := bxs_swap x y a b
    simp only [List.cons_append, bxs, List.length_cons]
    rw [show (a.length + 1 + 1) * 2 = (a.length + 1) * 2 + 1 + 1 by omega, show (a.length + 1) * 2 = a.length * 2 + 1 + 1 by omega]
    rw [show (a.length + 1) * 2 = a.length * 2 + 1 + 1 by omega] at this
    simp only [List.set_cons_succ, this]
theorem Rd.bxm {w : World} {F : Nat → Prop} {g o : Nat} {a r : List Bx} {y : Bx} (h : Rd w F (some ⟨g, o, none⟩) (bxs (a ++ y :: r))) :
    w.cell? ⟨g, o + a.length * 2, none⟩ = some (.int .i64 y.id) ∧ w.cell? ⟨g, o + a.length * 2 + 1, none⟩ = some (.slice y.A y.items.length y.c) := by
  obtain ⟨g', o', e, h1, h2⟩ := h.bx (j := a.length) (by simp)
  injection e with e
  injection e with e1 e2
  subst e1 e2
  have : (a ++ y :: r)[a.length]'(by simp) = y := by simp
  rw [this] at h1 h2
  exact ⟨h1, h2⟩
/-- All that Post needs to know behind the box. -/
theorem RfAt.puts {w : World} {tg : Nat → Nat × Int} {p : Nat} {l : List Bx} {id : Int} {IA : Option Addr} {ic : Nat} {bs : List UInt8} {G : Nat → Prop} (h : RfAt w tg p l false) (b : Bx) (hbm : b ∈ l) (hbi : b.id = id) (hlt : b.items.length < 64) (hr : RB w G IA bs) (hbl : bs.length ≤ 140737488355328) :
    ∃ (j g o c : Nat) (A2 : Option Addr) (c2 : Nat) (W2 : World) (A3 : Option Addr) (c3 : Nat) (W4 : World) (tg' : Nat → Nat × Int) (b' : Bx), j < l.length ∧ findI id l = j ∧
      w.cell? ⟨p, 0, none⟩ = some (.slice (some ⟨g, o, none⟩) l.length c) ∧ (w.alloc (.cells #[] 5)).drew.cell? ⟨p, 0, none⟩ = some (.slice (some ⟨g, o, none⟩) l.length c) ∧ W2.cell? ⟨p, 0, none⟩ = some (.slice (some ⟨g, o, none⟩) l.length c) ∧ (W2.alloc (.cells #[.slice A2 bs.length c2] 27)).cell? ⟨p, 0, none⟩ = some (.slice (some ⟨g, o, none⟩) l.length c) ∧ W4.cell? ⟨p, 0, none⟩ = some (.slice (some ⟨g, o, none⟩) l.length c) ∧
      w.cell? ⟨g, o + j * 2 + 1, none⟩ = some (.slice b.A b.items.length b.c) ∧ (w.alloc (.cells #[] 5)).drew.cell? ⟨g, o + j * 2 + 1, none⟩ = some (.slice b.A b.items.length b.c) ∧ W2.cell? ⟨g, o + j * 2 + 1, none⟩ = some (.slice b.A b.items.length b.c) ∧ (W2.alloc (.cells #[.slice A2 bs.length c2] 27)).cell? ⟨g, o + j * 2 + 1, none⟩ = some (.slice b.A b.items.length b.c) ∧ W4.cell? ⟨g, o + j * 2 + 1, none⟩ = some (.slice b.A b.items.length b.c) ∧
      W4.frozen? ⟨g, o + j * 2 + 1, none⟩ = false ∧
      (appSem #[27, 27] 27 #[.slice (some ⟨w.heap.size, 0, none⟩) 0 0, .slice IA bs.length ic]).run Try.prog (w.alloc (.cells #[] 5)).drew = .ok (.slice A2 bs.length c2) W2 ∧
      (appSem #[72, 72] 72 #[.slice b.A b.items.length b.c, .slice (some ⟨W2.heap.size, 0, none⟩) 1 1]).run Try.prog (W2.alloc (.cells #[.slice A2 bs.length c2] 27)) = .ok (.slice A3 (b.items.length + 1) c3) W4 ∧
      Hid (RfAt (W4.setCell ⟨g, o + j * 2 + 1, none⟩ (.slice A3 (b.items.length + 1) c3)) tg' p (l.map fun x => if x.id = id then b' else x) false) ∧ Hid (∀ k, k < w.heap.size → tg' k = tg k) ∧ b'.id = id ∧ Hid (b'.items.map Im.bs = b.items.map Im.bs ++ [bs]) ∧
      Hid (Kept (fun k => tg k = (4, 0) ∨ tg k = (5, id)) w (W4.setCell ⟨g, o + j * 2 + 1, none⟩ (.slice A3 (b.items.length + 1) c3))) := by
  have kd : Kept noneS w w.drew := (Kept.refl _ _).drew
  have hd := h.keep kd fun _ _ _ q => q
  obtain ⟨A, c, hB, hS⟩ := h.ex
  obtain ⟨j, hj, hf, hid⟩ := (findI_or id l).resolve_left fun q => q.2 b hbm hbi
  have hjb : l[j] = b := nd_box h.nd (List.getElem_mem hj) hbm (hid.trans hbi.symm)
  obtain ⟨g, o, rfl, q0, q1⟩ := hS.rd.bx hj
  obtain ⟨hg, hgl, cur, hb⟩ : tg g = (4, 0) ∧ g < w.heap.size ∧ ∃ cur, Blk w g 82 cur := by
    rcases hS.2 with ⟨h1, _⟩ | ⟨g', o', cur, hA, hF, hb, _⟩
    · omega
    · injection hA with hA
      injection hA with e1 e2
      subst e1
      exact ⟨hF, hb.lt, cur, hb⟩
  have c0 : w.cell? ⟨p, 0, none⟩ = some (.slice (some ⟨g, o, none⟩) l.length c) := hB.cell 0
  obtain ⟨A2, c2, W2, A3, c3, W4, tg', b', ha1, ha2, k2, k4, ht, hb1, hb2, hR⟩ := hd.put (ic := ic) (hB.keep kd fun q => q) (hS.keep kd fun _ _ _ q => q) hg hgl hj (hr.keep kd fun _ _ _ q => q) hbl (by rw [hjb]; exact hlt)
  rw [hjb] at q1 ha2 k4 hb1 hb2 hR
  rw [hb1, hbi] at hR
  have np : ¬ tg p = (5, id) := fun q => by rw [h.tp] at q; injection q with q _; cases q
  have ng : ¬ tg g = (5, id) := fun q => by rw [hg] at q; injection q with q _; cases q
  rw [hbi] at k4
  have K1 : Kept noneS w (w.alloc (.cells #[] 5)).drew := ((Kept.refl _ _).alloc _).drew
  have K2 : Kept noneS w W2 := kd.trans k2
  have K3 : Kept noneS w (W2.alloc (.cells #[.slice A2 bs.length c2] 27)) := K2.alloc _
  have K4 : Kept (fun k => tg k = (5, id)) w W4 := (kd.mono fun _ _ q => q.elim).trans k4
  have pl := hB.lt
  exact ⟨j, g, o, c, A2, c2, W2, A3, c3, W4, tg', b', hj, hf, c0, (K1.cell (p := ⟨p, 0, none⟩) pl fun q => q).trans c0, (K2.cell (p := ⟨p, 0, none⟩) pl fun q => q).trans c0, (K3.cell (p := ⟨p, 0, none⟩) pl fun q => q).trans c0, (K4.cell (p := ⟨p, 0, none⟩) pl np).trans c0,
    q1, (K1.cell (p := ⟨g, o + j * 2 + 1, none⟩) hgl fun q => q).trans q1, (K2.cell (p := ⟨g, o + j * 2 + 1, none⟩) hgl fun q => q).trans q1, (K3.cell (p := ⟨g, o + j * 2 + 1, none⟩) hgl fun q => q).trans q1, (K4.cell (p := ⟨g, o + j * 2 + 1, none⟩) hgl ng).trans q1,
    (hb.keep K4 ng).frozen _, ha1, ha2, Lib.hid hR, Lib.hid ht, hb1.trans hbi, Lib.hid hb2,
    Lib.hid ((K4.mono fun k _ q => .inr q : Kept (fun k => tg k = (4, 0) ∨ tg k = (5, id)) w W4).trans ((kset W4 ⟨g, o + j * 2 + 1, none⟩ (.slice A3 (b.items.length + 1) c3)).mono fun k _ q => by rw [show k = g from q]; exact .inl hg))⟩
theorem infoBox : (Try.prog.info? 82).map (fun i => (i.zero, i.size, i.bytes)) = some (some (.agg #[.int .i64 0, .slice none 0 0]), 2, 32) := by kernel_rfl
/-- The list, where the new box stands at k. -/
def insAt (l : List Bx) (id : Int) (k : Nat) : List Bx := l.take k ++ ⟨id, none, 0, []⟩ :: l.drop k
theorem insAt_len (l : List Bx) (id : Int) {k : Nat} (hk : k ≤ l.length) : (insAt l id k).length = l.length + 1 := by
  unfold insAt
  simp
  omega
theorem insAt_split (l : List Bx) (id : Int) {i : Nat} (hi : i < l.length) : insAt l id (i + 1) = l.take i ++ l[i] :: ⟨id, none, 0, []⟩ :: l.drop (i + 1) ∧ insAt l id i = l.take i ++ ⟨id, none, 0, []⟩ :: l[i] :: l.drop (i + 1) := by
  unfold insAt
  constructor
  · rw [List.take_succ_eq_append_getElem hi, List.append_assoc]; rfl
  · rw [List.drop_eq_getElem_cons hi]
theorem insAt_end (l : List Bx) (id : Int) : insAt l id l.length = l ++ [⟨id, none, 0, []⟩] := by
  unfold insAt
  rw [List.take_length, List.drop_length]
theorem insAt_mem {l : List Bx} {id : Int} {k : Nat} {b : Bx} : b ∈ insAt l id k ↔ b = ⟨id, none, 0, []⟩ ∨ b ∈ l := by
  unfold insAt
  rw [List.mem_append, List.mem_cons]
  have : b ∈ l ↔ b ∈ l.take k ∨ b ∈ l.drop k := by rw [← List.mem_append, List.take_append_drop]
  rw [this]
  constructor
  · rintro (h | h | h)
    · exact .inr (.inl h)
    · exact .inl h
    · exact .inr (.inr h)
  · rintro (h | h | h)
    · exact .inr (.inl h)
    · exact .inl h
    · exact .inr (.inr h)
theorem insAt_perm (l : List Bx) (id : Int) (k : Nat) : (insAt l id k).Perm (⟨id, none, 0, []⟩ :: l) := by
  unfold insAt
  refine List.perm_middle.trans ?_
  rw [List.take_append_drop]
/-- In the midst of the sorting-in. -/
structure Mid (w0 w : World) (tg tg1 : Nat → Nat × Int) (p : Nat) (l : List Bx) (id : Int) (g o c k : Nat) : Prop where
  tgs : ∀ k, k < w0.heap.size → tg1 k = tg k
  tgg : tg1 g = (4, 0)
  kept : Kept (fun k => tg1 k = (4, 0) ∨ k = p) w0 w
  blk : Blk w p 62 #[.slice (some ⟨g, o, none⟩) (l.length + 1) c, .bool false]
  row : SegV w (fun k => tg1 k = (4, 0)) 82 2 (some ⟨g, o, none⟩) (l.length + 1) c (bxs (insAt l id k))
  big : ∀ b ∈ l.drop k, id < b.id
theorem Mid.drew {w0 w : World} {tg tg1 : Nat → Nat × Int} {p : Nat} {l : List Bx} {id : Int} {g o c k : Nat} (M : Mid w0 w tg tg1 p l id g o c k) : Mid w0 w.drew tg tg1 p l id g o c k :=
  ⟨M.tgs, M.tgg, M.kept.drew, M.blk.keep ((Kept.refl noneS _).drew) fun q => q, M.row.keep ((Kept.refl noneS _).drew) fun _ _ _ q => q, M.big⟩
theorem Mid.rf {w0 w : World} {tg tg1 : Nat → Nat × Int} {p : Nat} {l : List Bx} {id : Int} {g o c k : Nat} (M : Mid w0 w tg tg1 p l id g o c k) (h : RfAt w0 tg p l false) (hno : ∀ b ∈ l, b.id ≠ id) (hk : k ≤ l.length) (hl : l.length < 2000000000) : RfAt w tg1 p (insAt l id k) false := by
  have h1 := h.retag M.tgs
  have hd : ∀ {k : Nat} {t : Nat × Int}, tg1 k = t → t ≠ (4, 0) → t ≠ (3, 0) → ¬ (tg1 k = (4, 0) ∨ k = p) := fun e n n3 q => by
    rcases q with q | q
    · exact n (e.symm.trans q)
    · rw [q, h1.tp] at e; exact n3 e.symm
  refine ⟨h1.tp, ⟨some ⟨g, o, none⟩, c, by rw [insAt_len l id hk]; exact M.blk, by rw [insAt_len l id hk]; exact M.row⟩, fun b hb => ?_, fun b hb i hi => ?_, ?_, ?_, fun b hb => ?_⟩
  · rcases insAt_mem.1 hb with rfl | q
    · exact SegV.nil _ _ _ _
    · exact (h1.mail b q).keep M.kept fun k _ q => hd q (fun e => by injection e with e _; cases e) (fun e => by injection e with e _; cases e)
  · rcases insAt_mem.1 hb with rfl | q
    · cases hi
    · exact ⟨(h1.its b q i hi).1.keep M.kept fun k _ q => hd q (by decide) (by decide), (h1.its b q i hi).2⟩
  · refine (((insAt_perm l id k).map Bx.id).nodup_iff).2 ?_
    rw [List.map_cons, List.nodup_cons]
    exact ⟨fun q => by obtain ⟨b, hb, e⟩ := List.mem_map.1 q; exact hno b hb e, h.nd⟩
  · rw [insAt_len l id hk]; omega
  · rcases insAt_mem.1 hb with rfl | q
    · simp
    · exact h.small.2 b q
def PutNew (w : World) (tg : Nat → Nat × Int) (p : Nat) (l : List Bx) (id : Int) (bs : List UInt8) (w' : World) : Prop := ∃ tg' b' k, (∀ k, k < w.heap.size → tg' k = tg k) ∧ b'.id = id ∧ b'.items.map Im.bs = [bs] ∧ k ≤ l.length ∧ (∀ b ∈ l.drop k, id < b.id) ∧ (∀ j (_ : j < l.length), j + 1 = k → ¬ id < l[j].id) ∧ RfAt w' tg' p ((insAt l id k).map fun x => if x.id = id then b' else x) false ∧ Kept (fun k => tg k = (4, 0) ∨ tg k = (5, id) ∨ k = p) w w'
section
attribute [local go_sem ↓] append_as
set_option maxRecDepth 20000 in
set_option maxHeartbeats 6000000 in
theorem refPost2 (w : World) (tg : Nat → Nat × Int) (p : Nat) (l : List Bx) (id : Int) (IA : Option Addr) (ic : Nat) (bs : List UInt8) (G : Nat → Prop) (h : RfAt w tg p l false) (hno : ∀ b ∈ l, b.id ≠ id) (hl : l.length < 2000000000) (hr : RB w G IA bs) (hG : ∀ k, k < w.heap.size → G k → tg k ≠ (4, 0) ∧ k ≠ p) (hbl : bs.length ≤ 140737488355328) (m : Nat) :
    CallsIn (Fence.list [33, 19] none) (m + 1) Try.prog 19 #[.pointer (some ⟨p, 0, none⟩), .int .i64 id, .slice IA bs.length ic] w fun e w' => e = .returned (.bool true) ∧ PutNew w tg p l id bs w' := by
  have hc := (refFind w tg p l false id h m).wider (L' := [33, 19]) (by decide)
  have hf : findI id l = -1 := by
    rcases findI_or id l with ⟨hf, _⟩ | ⟨j, hj, _, hid⟩
    · exact hf
    · exact absurd hid (hno _ (List.getElem_mem hj))
  rw [hf] at hc
  obtain ⟨A, c, hB, hS⟩ := h.ex
  have c0 : w.cell? ⟨p, 0, none⟩ = some (.slice A l.length c) := hB.cell 0
  have c1 : w.cell? ⟨p, 1, none⟩ = some (.bool false) := hB.cell 1
  have pl := hB.lt
  have k1 : Kept noneS w (w.alloc (.cells #[.int .i64 id, .slice none 0 0] 82)) := (Kept.refl _ _).alloc _
  have s1 : (w.alloc (.cells #[.int .i64 id, .slice none 0 0] 82)).heap.size = w.heap.size + 1 := by simp
  obtain ⟨tg1, htg⟩ : ∃ tg1 : Nat → Nat × Int, tg1 = fun k => if k = w.heap.size + 1 then (4, 0) else tg k := ⟨_, rfl⟩
  have ht : ∀ k, k < w.heap.size → tg1 k = tg k := fun k hk => by rw [htg]; exact if_neg (by omega)
  have ht1 : tg1 (w.heap.size + 1) = (4, 0) := by rw [htg]; exact if_pos rfl
  obtain ⟨A1, c1', W1, ha1, hs1, k2⟩ := SegV.append (P := Try.prog) (F := fun k => tg1 k = (4, 0)) (t := 60) (B := some ⟨w.heap.size, 0, none⟩) (m := 1) (ys := [.int .i64 id, .slice none 0 0]) 60 Try.underlying60 infoBox rfl (by decide) ((hS.mono fun k hk q => by rw [ht k hk]; exact q).keep k1 fun _ _ _ q => q) (rdFresh w [.int .i64 id, .slice none 0 0] 82 (0, 0)) rfl (by simp [Value.oneCell']) (by unfold maxLen; omega) (by omega) (by show tg1 _ = _; rw [s1]; exact ht1) 1
  have ha1' : (appSem #[60, 60] 60 #[.slice A l.length c, .slice (some ⟨w.heap.size, 0, none⟩) 1 1]).run Try.prog (w.alloc (.cells #[.int .i64 id, .slice none 0 0] 82)) = .ok (.slice A1 (l.length + 1) c1') W1 := ha1
  have k12 : Kept (fun k => tg1 k = (4, 0)) w W1 := (k1.mono fun _ _ q => q.elim).trans k2
  have np4 : ¬ tg1 p = (4, 0) := fun q => by rw [ht p pl, h.tp] at q; cases q
  have hB1 := hB.keep k12 np4
  have c01 := hB1.cell 0
  have fz1 := hB1.frozen 0
  have k3 := kset W1 ⟨p, 0, none⟩ (.slice A1 (l.length + 1) c1')
  have hB2 := hB1.set_ 0 (.slice A1 (l.length + 1) c1')
  have hs2 := hs1.keep k3 fun k _ q r => np4 (by rw [← show k = p from r]; exact q)
  obtain ⟨g, o, cur, rfl, hg, hgl, _, _, _⟩ := hs2.at_ (by omega)
  have hM : Mid w (W1.setCell ⟨p, 0, none⟩ (.slice (some ⟨g, o, none⟩) (l.length + 1) c1')) tg tg1 p l id g o c1' l.length := ⟨ht, hg, (k12.mono fun k _ q => .inl q).trans (k3.mono fun k _ q => .inr q), hB2, by rw [insAt_end, bxs_app]; exact hs2, fun b hb => by rw [List.drop_length] at hb; cases hb⟩
  have HM := Lib.hid hM
  have HH := Lib.hid h
  have HN := Lib.hid hno
  have HR := Lib.hid hr
  have HG := Lib.hid hG
  have hp2 : ((W1.setCell ⟨p, 0, none⟩ (.slice (some ⟨g, o, none⟩) (l.length + 1) c1')).cell? ⟨p, 0, none⟩) = some (.slice (some ⟨g, o, none⟩) (l.length + 1) c1') := hM.blk.cell 0
  clear hf hB hS h hno hr hG k1 s1 htg ht ht1 ha1 hs1 k2 k12 np4 hB1 k3 hB2 hs2 hg hgl hM
  gi_enter Try.func19, Try.ntmps19
  gi_wp2_with (gi_at_call 33; refine hc.mono ?_; rintro e w' ⟨rfl, rfl⟩)
  gi_loopw [7, 8] (fun i _ wr => ∃ k : Nat, k ≤ l.length ∧ i = .int .i64 (k : Int) ∧ Hid (Mid w wr tg tg1 p l id g o c1' k)) (fun i _ _ => (intOf i).toNat)
  case atStart => exact ⟨l.length, Nat.le_refl _, by go_num, HM⟩
  case round =>
    obtain ⟨k, hk, rfl, HMk⟩ := hrel
    have d0 : wr.cell? ⟨p, 0, none⟩ = some (.slice (some ⟨g, o, none⟩) (l.length + 1) c1') := HMk.out.blk.cell 0
    rcases k with _ | i
    · rw [show ((0 : Nat) : Int) = 0 from rfl]
      obtain ⟨j, g', o', c', A2, c2, W2, A3, c3, W4, tg', b', hj, hf, e0, e01, e02, e03, e04, q1, q11, q12, q13, q14, fz4, ha1, ha2, HR', HT', hb', HB', HK'⟩ := ((HMk.out.rf HH.out HN.out hk hl).keep ((Kept.refl noneS wr).drew) (fun _ _ _ q => q)).puts (ic := ic) (G := G) ⟨id, none, 0, []⟩ (insAt_mem.2 (.inl rfl)) rfl (by show 0 < 64; omega) (Rd.keep (HR.out.keep HMk.out.kept fun k h1 h2 h3 => by
        have := HG.out k h1 h2
        rcases h3 with q | q
        · rw [HMk.out.tgs k h1] at q; exact this.1 q
        · exact this.2 q) ((Kept.refl noneS wr).drew) fun _ _ _ q => q) hbl
      have hc2 := (refFind wr.drew tg1 p _ false id ((HMk.out.rf HH.out HN.out hk hl).keep ((Kept.refl noneS wr).drew) (fun _ _ _ q => q)) m).wider (L' := [33, 19]) (by decide)
      rw [hf] at hc2
      rw [insAt_len l id hk] at e0 e01 e02 e03 e04 hj
      have e0' : wr.cell? ⟨p, 0, none⟩ = some (.slice (some ⟨g', o', none⟩) (l.length + 1) c') := e0
      rw [d0] at e0'
      obtain ⟨rfl, rfl, rfl⟩ : g = g' ∧ o = o' ∧ c1' = c' := by
        injection e0' with e0'
        injection e0' with x1 x2 x3
        injection x1 with x1
        injection x1 with x1 x4
        exact ⟨x1, x4, x3⟩
      simp only [List.length_nil, Nat.zero_add] at q1 q11 q12 q13 q14 ha2
      have ha1' : (appSem #[27, 27] 27 #[.slice (some ⟨wr.heap.size, 0, none⟩) 0 0, .slice IA bs.length ic]).run Try.prog (wr.alloc (.cells #[] 5)).drew.drew = .ok (.slice A2 bs.length c2) W2 := ha1
      have e01' : (wr.alloc (.cells #[] 5)).drew.drew.cell? ⟨p, 0, none⟩ = some (.slice (some ⟨g, o, none⟩) (l.length + 1) c1') := e01
      have q11' : (wr.alloc (.cells #[] 5)).drew.drew.cell? ⟨g, o + j * 2 + 1, none⟩ = some (.slice none 0 0) := q11
      have q1' : wr.cell? ⟨g, o + j * 2 + 1, none⟩ = some (.slice none 0 0) := q1
      have hji : (j : Int) < (l.length : Int) + 1 := by omega
      have hj0 : (0 : Int) ≤ (j : Int) := by omega
      have hj1 : ¬ (j : Int) < 0 := by omega
      clear e0 e0' ha1 q1 hf e01 q11
      gi_wp2
      refine wpIn_region_any (by kernel_rfl) ?_
      show wpAnyIn _ _ _ _ _ _ 22 (Array.replicate 22 false) _ _
      refine wpAnyIn_take (i := 0) (v := .int .i64 0) rfl rfl (by kernel_rfl) (by kernel_rfl) (by kernel_rfl) (fun _ _ _ h => h) ⟨.inl ⟨by kernel_rfl, fun w => by simp [go_sem]⟩, fun _ => rfl⟩ ?_
      simp only [Act.put, List.getElem_toArray, List.getElem_cons_succ, List.getElem_cons_zero, List.setIfInBounds_toArray, List.set_cons_succ, List.set_cons_zero]
      refine wpAnyIn_take (i := 1) (v := .bool false) rfl rfl (by kernel_rfl) (by kernel_rfl) (by kernel_rfl) (fun _ _ _ h => h) ⟨.inl ⟨by kernel_rfl, fun w => by simp [go_sem]⟩, fun _ => rfl⟩ ?_
      simp only [Act.put, List.getElem_toArray, List.getElem_cons_succ, List.getElem_cons_zero, List.setIfInBounds_toArray, List.set_cons_succ, List.set_cons_zero]
      refine wpAnyIn_take (i := 2) (v := .bool false) rfl rfl (by kernel_rfl) (by kernel_rfl) (by kernel_rfl) (fun _ _ _ h => h) ⟨.inl ⟨by kernel_rfl, fun w => by simp [go_sem]⟩, fun _ => rfl⟩ ?_
      simp only [Act.put, List.getElem_toArray, List.getElem_cons_succ, List.getElem_cons_zero, List.setIfInBounds_toArray, List.set_cons_succ, List.set_cons_zero]
      refine wpAnyIn_take (i := 3) (v := undef) rfl rfl (by kernel_rfl) (by kernel_rfl) (by kernel_rfl) (fun _ _ _ h => h) ⟨.inr ⟨by kernel_rfl, rfl⟩, fun _ => rfl⟩ ?_
      simp only [Act.put, List.getElem_toArray, List.getElem_cons_succ, List.getElem_cons_zero, List.setIfInBounds_toArray, List.set_cons_succ, List.set_cons_zero]
      refine wpAnyIn_take (i := 4) (v := undef) rfl rfl (by kernel_rfl) (by kernel_rfl) (by kernel_rfl) (fun _ _ _ h => h) ⟨.inr ⟨by kernel_rfl, rfl⟩, fun _ => rfl⟩ ?_
      simp only [Act.put, List.getElem_toArray, List.getElem_cons_succ, List.getElem_cons_zero, List.setIfInBounds_toArray, List.set_cons_succ, List.set_cons_zero]
      refine wpAnyIn_take (i := 5) (v := undef) rfl rfl (by kernel_rfl) (by kernel_rfl) (by kernel_rfl) (fun _ _ _ h => h) ⟨.inr ⟨by kernel_rfl, rfl⟩, fun _ => rfl⟩ ?_
      simp only [Act.put, List.getElem_toArray, List.getElem_cons_succ, List.getElem_cons_zero, List.setIfInBounds_toArray, List.set_cons_succ, List.set_cons_zero]
      refine wpAnyIn_take (i := 6) (v := undef) rfl rfl (by kernel_rfl) (by kernel_rfl) (by kernel_rfl) (fun _ _ _ h => h) ⟨.inr ⟨by kernel_rfl, rfl⟩, fun _ => rfl⟩ ?_
      simp only [Act.put, List.getElem_toArray, List.getElem_cons_succ, List.getElem_cons_zero, List.setIfInBounds_toArray, List.set_cons_succ, List.set_cons_zero]
      refine wpAnyIn_take (i := 7) (v := undef) rfl rfl (by kernel_rfl) (by kernel_rfl) (by kernel_rfl) (fun _ _ _ h => h) ⟨.inr ⟨by kernel_rfl, rfl⟩, fun _ => rfl⟩ ?_
      simp only [Act.put, List.getElem_toArray, List.getElem_cons_succ, List.getElem_cons_zero, List.setIfInBounds_toArray, List.set_cons_succ, List.set_cons_zero]
      refine wpAnyIn_take (i := 8) (v := undef) rfl rfl (by kernel_rfl) (by kernel_rfl) (by kernel_rfl) (fun _ _ _ h => h) ⟨.inr ⟨by kernel_rfl, rfl⟩, fun _ => rfl⟩ ?_
      simp only [Act.put, List.getElem_toArray, List.getElem_cons_succ, List.getElem_cons_zero, List.setIfInBounds_toArray, List.set_cons_succ, List.set_cons_zero]
      refine wpAnyIn_take (i := 9) (v := undef) rfl rfl (by kernel_rfl) (by kernel_rfl) (by kernel_rfl) (fun _ _ _ h => h) ⟨.inr ⟨by kernel_rfl, rfl⟩, fun _ => rfl⟩ ?_
      simp only [Act.put, List.getElem_toArray, List.getElem_cons_succ, List.getElem_cons_zero, List.setIfInBounds_toArray, List.set_cons_succ, List.set_cons_zero]
      refine wpAnyIn_take (i := 10) (v := undef) rfl rfl (by kernel_rfl) (by kernel_rfl) (by kernel_rfl) (fun _ _ _ h => h) ⟨.inr ⟨by kernel_rfl, rfl⟩, fun _ => rfl⟩ ?_
      simp only [Act.put, List.getElem_toArray, List.getElem_cons_succ, List.getElem_cons_zero, List.setIfInBounds_toArray, List.set_cons_succ, List.set_cons_zero]
      refine wpAnyIn_take (i := 11) (v := undef) rfl rfl (by kernel_rfl) (by kernel_rfl) (by kernel_rfl) (fun _ _ _ h => h) ⟨.inr ⟨by kernel_rfl, rfl⟩, fun _ => rfl⟩ ?_
      simp only [Act.put, List.getElem_toArray, List.getElem_cons_succ, List.getElem_cons_zero, List.setIfInBounds_toArray, List.set_cons_succ, List.set_cons_zero]
      refine wpAnyIn_take (i := 12) (v := undef) rfl rfl (by kernel_rfl) (by kernel_rfl) (by kernel_rfl) (fun _ _ _ h => h) ⟨.inr ⟨by kernel_rfl, rfl⟩, fun _ => rfl⟩ ?_
      simp only [Act.put, List.getElem_toArray, List.getElem_cons_succ, List.getElem_cons_zero, List.setIfInBounds_toArray, List.set_cons_succ, List.set_cons_zero]
      refine wpAnyIn_take (i := 13) (v := undef) rfl rfl (by kernel_rfl) (by kernel_rfl) (by kernel_rfl) (fun _ _ _ h => h) ⟨.inr ⟨by kernel_rfl, rfl⟩, fun _ => rfl⟩ ?_
      simp only [Act.put, List.getElem_toArray, List.getElem_cons_succ, List.getElem_cons_zero, List.setIfInBounds_toArray, List.set_cons_succ, List.set_cons_zero]
      refine wpAnyIn_take (i := 14) (v := undef) rfl rfl (by kernel_rfl) (by kernel_rfl) (by kernel_rfl) (fun _ _ _ h => h) ⟨.inr ⟨by kernel_rfl, rfl⟩, fun _ => rfl⟩ ?_
      simp only [Act.put, List.getElem_toArray, List.getElem_cons_succ, List.getElem_cons_zero, List.setIfInBounds_toArray, List.set_cons_succ, List.set_cons_zero]
      refine wpAnyIn_take (i := 15) (v := undef) rfl rfl (by kernel_rfl) (by kernel_rfl) (by kernel_rfl) (fun _ _ _ h => h) ⟨.inr ⟨by kernel_rfl, rfl⟩, fun _ => rfl⟩ ?_
      simp only [Act.put, List.getElem_toArray, List.getElem_cons_succ, List.getElem_cons_zero, List.setIfInBounds_toArray, List.set_cons_succ, List.set_cons_zero]
      refine wpAnyIn_take (i := 16) (v := undef) rfl rfl (by kernel_rfl) (by kernel_rfl) (by kernel_rfl) (fun _ _ _ h => h) ⟨.inr ⟨by kernel_rfl, rfl⟩, fun _ => rfl⟩ ?_
      simp only [Act.put, List.getElem_toArray, List.getElem_cons_succ, List.getElem_cons_zero, List.setIfInBounds_toArray, List.set_cons_succ, List.set_cons_zero]
      refine wpAnyIn_take (i := 17) (v := undef) rfl rfl (by kernel_rfl) (by kernel_rfl) (by kernel_rfl) (fun _ _ _ h => h) ⟨.inr ⟨by kernel_rfl, rfl⟩, fun _ => rfl⟩ ?_
      simp only [Act.put, List.getElem_toArray, List.getElem_cons_succ, List.getElem_cons_zero, List.setIfInBounds_toArray, List.set_cons_succ, List.set_cons_zero]
      refine wpAnyIn_take (i := 18) (v := undef) rfl rfl (by kernel_rfl) (by kernel_rfl) (by kernel_rfl) (fun _ _ _ h => h) ⟨.inr ⟨by kernel_rfl, rfl⟩, fun _ => rfl⟩ ?_
      simp only [Act.put, List.getElem_toArray, List.getElem_cons_succ, List.getElem_cons_zero, List.setIfInBounds_toArray, List.set_cons_succ, List.set_cons_zero]
      refine wpAnyIn_take (i := 19) (v := undef) rfl rfl (by kernel_rfl) (by kernel_rfl) (by kernel_rfl) (fun _ _ _ h => h) ⟨.inr ⟨by kernel_rfl, rfl⟩, fun _ => rfl⟩ ?_
      simp only [Act.put, List.getElem_toArray, List.getElem_cons_succ, List.getElem_cons_zero, List.setIfInBounds_toArray, List.set_cons_succ, List.set_cons_zero]
      refine wpAnyIn_take (i := 20) (v := undef) rfl rfl (by kernel_rfl) (by kernel_rfl) (by kernel_rfl) (fun _ _ _ h => h) ⟨.inr ⟨by kernel_rfl, rfl⟩, fun _ => rfl⟩ ?_
      simp only [Act.put, List.getElem_toArray, List.getElem_cons_succ, List.getElem_cons_zero, List.setIfInBounds_toArray, List.set_cons_succ, List.set_cons_zero]
      refine wpAnyIn_take (i := 21) (v := .bool false) rfl rfl (by kernel_rfl) (by kernel_rfl) (by kernel_rfl) (fun _ _ _ h => h) ⟨.inl ⟨by kernel_rfl, fun w => by simp [go_sem]⟩, fun _ => rfl⟩ ?_
      simp only [Act.put, List.getElem_toArray, List.getElem_cons_succ, List.getElem_cons_zero, List.setIfInBounds_toArray, List.set_cons_succ, List.set_cons_zero]
      refine wpAnyIn_done (by kernel_rfl) ?_ _
      gi_wp2_with (gi_at_call 33; refine hc2.mono ?_; rintro e w' ⟨rfl, rfl⟩)
      gi_region
      gi_wp2
      go_ret
      refine ⟨rfl, tg', b', _, fun k hk => (HT'.out k (Nat.lt_of_lt_of_le hk HMk.out.kept.size)).trans (HMk.out.tgs k hk), hb', HB'.out, hk, HMk.out.big, fun j _ e => by omega, HR'.out, ?_⟩
      have K1 : Kept (fun k => tg1 k = (4, 0) ∨ tg1 k = (5, id) ∨ k = p) w wr := HMk.out.kept.mono fun k _ q => q.imp (fun r => r) .inr
      have K2 := (K1.drew).trans (HK'.out.mono fun k _ q => q.imp (fun r => r) .inl)
      exact K2.mono fun k hk q => by rw [HMk.out.tgs k hk] at q; exact q
    · have hi : i < l.length := by omega
      have hsp := insAt_split l id hi
      have hil : (l.take i).length = i := by rw [List.length_take]; omega
      have hrow := HMk.out.row.rd
      rw [hsp.1] at hrow
      have y0 := hrow.bxm
      rw [show l.take i ++ l[i] :: (⟨id, none, 0, []⟩ : Bx) :: l.drop (i + 1) = (l.take i ++ [l[i]]) ++ (⟨id, none, 0, []⟩ : Bx) :: l.drop (i + 1) by rw [List.append_assoc]; rfl] at hrow
      have x0 := hrow.bxm
      rw [hil] at y0
      rw [List.length_append, hil] at x0
      obtain ⟨y0, y1⟩ := y0
      obtain ⟨x0, x1⟩ := x0
      replace x0 : wr.cell? ⟨g, o + (i + 1) * 2, none⟩ = some (.int .i64 id) := x0
      replace x1 : wr.cell? ⟨g, o + (i + 1) * 2 + 1, none⟩ = some (.slice none 0 0) := x1
      have hki : ((i + 1 : Nat) : Int) = (i : Int) + 1 := by omega
      have hwi : IntKind.i64.wrap ((i : Int) + 1 - 1) = (i : Int) := by rw [IntKind.wrap_i64]; have := hl; omega
      have hi0 : (0 : Int) ≤ (i : Int) := by omega
      have hi1 : (i : Int) < (l.length : Int) + 1 := by omega
      have hi2 : (i : Int) + 1 < (l.length : Int) + 1 := by omega
      have hi3 : (0 : Int) < (i : Int) + 1 := by omega
      rw [hki]
      clear hrow
      by_cases hlt : id < l[i].id
      · obtain ⟨g', o', cur', e1, hg', hgl', hb', _, _⟩ := HMk.out.row.at_ (by omega)
        injection e1 with e1
        injection e1 with e1 e2
        subst e1 e2
        have npg : p ≠ g := fun q => by have e := HMk.out.tgs p pl; rw [HH.out.tp, q, hg'] at e; cases e
        have K1 : Kept noneS wr (wr.alloc (.cells #[.int .i64 id, .slice none 0 0] 82)).drew := ((Kept.refl _ _).alloc _).drew
        have row1 := HMk.out.row.keep K1 fun _ _ _ q => q
        have rr1 := row1.rd
        have a0 := (K1.cell (p := ⟨p, 0, none⟩) HMk.out.blk.lt fun q => q).trans d0
        have a1 := (K1.cell (p := ⟨g, o + i * 2, none⟩) hgl' fun q => q).trans y0
        have a2 := (K1.cell (p := ⟨g, o + i * 2 + 1, none⟩) hgl' fun q => q).trans y1
        have a3 := (K1.cell (p := ⟨g, o + (i + 1) * 2, none⟩) hgl' fun q => q).trans x0
        have a4 := (K1.cell (p := ⟨g, o + (i + 1) * 2 + 1, none⟩) hgl' fun q => q).trans x1
        have hb1 := hb'.keep K1 fun q => q
        have fz1 := hb1.frozen (o + (i + 1) * 2)
        have fz1' := hb1.frozen (o + (i + 1) * 2 + 1)
        have row2 := (row1.set_ (k := (i + 1) * 2) (by omega) (.int .i64 l[i].id)).set_ (k := (i + 1) * 2 + 1) (by omega) (.slice l[i].A l[i].items.length l[i].c)
        have K12 : Kept (· = g) (wr.alloc (.cells #[.int .i64 id, .slice none 0 0] 82)).drew (((wr.alloc (.cells #[.int .i64 id, .slice none 0 0] 82)).drew.setCell ⟨g, o + (i + 1) * 2, none⟩ (.int .i64 l[i].id)).setCell ⟨g, o + (i + 1) * 2 + 1, none⟩ (.slice l[i].A l[i].items.length l[i].c)).drew := ((kset _ ⟨g, o + (i + 1) * 2, none⟩ _).trans (kset _ ⟨g, o + (i + 1) * 2 + 1, none⟩ _)).drew
        rw [← Nat.add_assoc] at row2
        have row2' := row2.keep ((Kept.refl noneS _).drew) fun _ _ _ q => q
        have K2 : Kept (· = g) wr (((wr.alloc (.cells #[.int .i64 id, .slice none 0 0] 82)).drew.setCell ⟨g, o + (i + 1) * 2, none⟩ (.int .i64 l[i].id)).setCell ⟨g, o + (i + 1) * 2 + 1, none⟩ (.slice l[i].A l[i].items.length l[i].c)).drew := (K1.mono fun _ _ q => q.elim).trans K12
        have b0 := (K2.cell (p := ⟨p, 0, none⟩) HMk.out.blk.lt npg).trans d0
        have hbv : Blk (wr.alloc (.cells #[.int .i64 id, .slice none 0 0] 82)).drew wr.heap.size 82 #[.int .i64 id, .slice none 0 0] := Blk.keep (heap_alloc_new wr _) ((Kept.refl noneS _).drew) fun q => q
        have hbv2 := hbv.keep K12 fun q => by have : wr.heap.size = g := q; omega
        have v0 := hbv2.cell 0
        have v1 := hbv2.cell 1
        have hb2 : ∃ cur2, Blk (((wr.alloc (.cells #[.int .i64 id, .slice none 0 0] 82)).drew.setCell ⟨g, o + (i + 1) * 2, none⟩ (.int .i64 l[i].id)).setCell ⟨g, o + (i + 1) * 2 + 1, none⟩ (.slice l[i].A l[i].items.length l[i].c)).drew g 82 cur2 := by
          obtain ⟨g2, o2, cur2, e1, _, _, hb2, _, _⟩ := row2'.at_ (by omega)
          injection e1 with e1
          injection e1 with e1 e2
          subst e1 e2
          exact ⟨cur2, hb2⟩
        obtain ⟨cur2, hb2⟩ := hb2
        have fz2 := hb2.frozen (o + i * 2)
        have fz2' := hb2.frozen (o + i * 2 + 1)
        have row3 := (row2'.set_ (k := i * 2) (by omega) (.int .i64 id)).set_ (k := i * 2 + 1) (by omega) (.slice none 0 0)
        rw [← Nat.add_assoc] at row3
        have hswap := bxs_swap ⟨id, none, 0, []⟩ l[i] (l.take i) (l.drop (i + 1))
        rw [hil, ← hsp.1, ← hsp.2] at hswap
        have hlen4 : (bxs (insAt l id (i + 1))).length = (l.length + 1) * 2 := by rw [bxs_len, insAt_len l id hk]
        have gv2 : (bxs (insAt l id (i + 1)))[i * 2]? = some (.int .i64 l[i].id) ∧ (bxs (insAt l id (i + 1)))[i * 2 + 1]? = some (.slice l[i].A l[i].items.length l[i].c) := by
          have h1 := @bxs_0 (insAt l id (i + 1)) i (by rw [insAt_len l id hk]; omega)
          have h2 := @bxs_1 (insAt l id (i + 1)) i (by rw [insAt_len l id hk]; omega)
          have : (insAt l id (i + 1))[i]'(by rw [insAt_len l id hk]; omega) = l[i] := by
            rw [List.getElem_eq_iff, hsp.1, List.getElem?_append_right (by omega), hil, Nat.sub_self]; rfl
          rw [this] at h1 h2
          exact ⟨h1, h2⟩
        have b1 : ((((wr.alloc (.cells #[.int .i64 id, .slice none 0 0] 82)).drew.setCell ⟨g, o + (i + 1) * 2, none⟩ (.int .i64 l[i].id)).setCell ⟨g, o + (i + 1) * 2 + 1, none⟩ (.slice l[i].A l[i].items.length l[i].c)).drew).cell? ⟨g, o + i * 2, none⟩ = some (.int .i64 l[i].id) := by
          obtain ⟨g2, o2, cur2, e1, _, _, _, _, hc2⟩ := row2'.at_ (by omega)
          injection e1 with e1
          injection e1 with e1 e2
          subst e1 e2
          refine hc2 _ _ ?_
          rw [List.getElem?_set_ne (by omega), List.getElem?_set_ne (by omega)]
          exact gv2.1
        have b2 : ((((wr.alloc (.cells #[.int .i64 id, .slice none 0 0] 82)).drew.setCell ⟨g, o + (i + 1) * 2, none⟩ (.int .i64 l[i].id)).setCell ⟨g, o + (i + 1) * 2 + 1, none⟩ (.slice l[i].A l[i].items.length l[i].c)).drew).cell? ⟨g, o + i * 2 + 1, none⟩ = some (.slice l[i].A l[i].items.length l[i].c) := by
          obtain ⟨g2, o2, cur2, e1, _, _, _, _, hc2⟩ := row2'.at_ (by omega)
          injection e1 with e1
          injection e1 with e1 e2
          subst e1 e2
          have := hc2 (i * 2 + 1) _ (by rw [List.getElem?_set_ne (by omega), List.getElem?_set_ne (by omega)]; exact gv2.2)
          rw [← Nat.add_assoc] at this
          exact this
        have HM3 : Hid (Mid w ((((((wr.alloc (.cells #[.int .i64 id, .slice none 0 0] 82)).drew.setCell ⟨g, o + (i + 1) * 2, none⟩ (.int .i64 l[i].id)).setCell ⟨g, o + (i + 1) * 2 + 1, none⟩ (.slice l[i].A l[i].items.length l[i].c)).drew).setCell ⟨g, o + i * 2, none⟩ (.int .i64 id)).setCell ⟨g, o + i * 2 + 1, none⟩ (.slice none 0 0)) tg tg1 p l id g o c1' i) := Lib.hid (by
          have K23 : Kept (· = g) ((((wr.alloc (.cells #[.int .i64 id, .slice none 0 0] 82)).drew.setCell ⟨g, o + (i + 1) * 2, none⟩ (.int .i64 l[i].id)).setCell ⟨g, o + (i + 1) * 2 + 1, none⟩ (.slice l[i].A l[i].items.length l[i].c)).drew) ((((((wr.alloc (.cells #[.int .i64 id, .slice none 0 0] 82)).drew.setCell ⟨g, o + (i + 1) * 2, none⟩ (.int .i64 l[i].id)).setCell ⟨g, o + (i + 1) * 2 + 1, none⟩ (.slice l[i].A l[i].items.length l[i].c)).drew).setCell ⟨g, o + i * 2, none⟩ (.int .i64 id)).setCell ⟨g, o + i * 2 + 1, none⟩ (.slice none 0 0)) := (kset _ ⟨g, o + i * 2, none⟩ _).trans (kset _ ⟨g, o + i * 2 + 1, none⟩ _)
          refine ⟨HMk.out.tgs, HMk.out.tgg, HMk.out.kept.trans ((K2.trans K23).mono fun k _ q => by rw [show k = g from q]; exact .inl hg'), HMk.out.blk.keep (K2.trans K23) npg, ?_, fun b hb => ?_⟩
          · rw [← hswap]
            exact row3
          · rw [List.drop_eq_getElem_cons hi] at hb
            rcases List.mem_cons.1 hb with rfl | q
            · exact hlt
            · exact HMk.out.big b q)
        clear hsp hil row1 rr1 row2 row2' row3 hswap gv2 hb1 hb2 hb' hg' hbv hbv2 K1 K2 K12 hlen4
        generalize l[i] = y at *
        generalize y.items.length = yn at *
        generalize y.A = yA at *
        generalize y.c = yc at *
        generalize y.id = yi at *
        gi_wp2
        gi_region
        gi_wp2
        generalize (wr.alloc (.cells #[.int .i64 id, .slice none 0 0] 82)).drew = w2 at *
        gi_region
        gi_wp2
        generalize ((w2.setCell ⟨g, o + (i + 1) * 2, none⟩ (.int .i64 yi)).setCell ⟨g, o + (i + 1) * 2 + 1, none⟩ (.slice yA yn yc)).drew = w3 at *
        gi_region
        gi_wp2
        go_roundw
        case rel => exact ⟨i, by omega, by go_num, Lib.hid HM3.out.drew⟩
        case measure => simp [intOf]
      · have HLS : Hid (∀ j (_ : j < l.length), j + 1 = i + 1 → ¬ id < l[j].id) := Lib.hid fun j _ e => by
          obtain rfl : j = i := by omega
          exact hlt
        generalize l[i] = y at *
        generalize y.id = yi at *
        obtain ⟨j, g', o', c', A2, c2, W2, A3, c3, W4, tg', b', hj, hf, e0, e01, e02, e03, e04, q1, q11, q12, q13, q14, fz4, ha1, ha2, HR', HT', hb', HB', HK'⟩ := ((HMk.out.rf HH.out HN.out hk hl).keep ((Kept.refl noneS wr).drew) (fun _ _ _ q => q)).puts (ic := ic) (G := G) ⟨id, none, 0, []⟩ (insAt_mem.2 (.inl rfl)) rfl (by show 0 < 64; omega) (Rd.keep (HR.out.keep HMk.out.kept fun k h1 h2 h3 => by
          have := HG.out k h1 h2
          rcases h3 with q | q
          · rw [HMk.out.tgs k h1] at q; exact this.1 q
          · exact this.2 q) ((Kept.refl noneS wr).drew) fun _ _ _ q => q) hbl
        have hc2 := (refFind wr.drew tg1 p _ false id ((HMk.out.rf HH.out HN.out hk hl).keep ((Kept.refl noneS wr).drew) (fun _ _ _ q => q)) m).wider (L' := [33, 19]) (by decide)
        rw [hf] at hc2
        rw [insAt_len l id hk] at e0 e01 e02 e03 e04 hj
        have e0' : wr.cell? ⟨p, 0, none⟩ = some (.slice (some ⟨g', o', none⟩) (l.length + 1) c') := e0
        rw [d0] at e0'
        obtain ⟨rfl, rfl, rfl⟩ : g = g' ∧ o = o' ∧ c1' = c' := by
          injection e0' with e0'
          injection e0' with x1 x2 x3
          injection x1 with x1
          injection x1 with x1 x4
          exact ⟨x1, x4, x3⟩
        simp only [List.length_nil, Nat.zero_add] at q1 q11 q12 q13 q14 ha2
        have ha1' : (appSem #[27, 27] 27 #[.slice (some ⟨wr.heap.size, 0, none⟩) 0 0, .slice IA bs.length ic]).run Try.prog (wr.alloc (.cells #[] 5)).drew.drew = .ok (.slice A2 bs.length c2) W2 := ha1
        have e01' : (wr.alloc (.cells #[] 5)).drew.drew.cell? ⟨p, 0, none⟩ = some (.slice (some ⟨g, o, none⟩) (l.length + 1) c1') := e01
        have q11' : (wr.alloc (.cells #[] 5)).drew.drew.cell? ⟨g, o + j * 2 + 1, none⟩ = some (.slice none 0 0) := q11
        have q1' : wr.cell? ⟨g, o + j * 2 + 1, none⟩ = some (.slice none 0 0) := q1
        have hji : (j : Int) < (l.length : Int) + 1 := by omega
        have hj0 : (0 : Int) ≤ (j : Int) := by omega
        have hj1 : ¬ (j : Int) < 0 := by omega
        clear e0 e0' ha1 q1 hf e01 q11
        gi_wp2
        gi_region
        gi_wp2_with (gi_at_call 33; refine hc2.mono ?_; rintro e w' ⟨rfl, rfl⟩)
        gi_region
        gi_wp2
        go_ret
        refine ⟨rfl, tg', b', _, fun k hk => (HT'.out k (Nat.lt_of_lt_of_le hk HMk.out.kept.size)).trans (HMk.out.tgs k hk), hb', HB'.out, hk, HMk.out.big, (by first | exact HLS.out | exact fun j hj e => Int.not_lt.2 (HLS.out j hj e)), HR'.out, ?_⟩
        have K1 : Kept (fun k => tg1 k = (4, 0) ∨ tg1 k = (5, id) ∨ k = p) w wr := HMk.out.kept.mono fun k _ q => q.imp (fun r => r) .inr
        have K2 := (K1.drew).trans (HK'.out.mono fun k _ q => q.imp (fun r => r) .inl)
        exact K2.mono fun k hk q => by rw [HMk.out.tgs k hk] at q; exact q
end
end Go.Proofs.Ytfpkachoneaaeaa
