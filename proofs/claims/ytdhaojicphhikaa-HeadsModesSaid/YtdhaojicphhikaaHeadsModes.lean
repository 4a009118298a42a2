/-
  HeadsModes: the walk.
-/
import Derived.Test.YtdhaojicphhikaaHeadsMore
namespace Go.Proofs.Ytdhaojicphhikaa
open Go.RowKit

theorem wpList_appFB {ops : Array Oper} {rest : List Oper} {o : Oper} {a : Act} {Q : Exit → Act → World → Prop} (hgd : o.guard = none) (s x : Operand)
    (ho : o.op = .call { callee := .builtin .append, args := #[s, x], argTypes := #[22, 22] })
    (w1 : World) (F : Nat → Prop) (v : Value) (n : Nat) (xs : List Value) (hs : a.eval s = v) (hown : Own w1 34 6 F v n xs) (f : FF) (A : Option Addr) (c : Nat) (B : Option Addr) (d : Nat) (b : Nat) (hb : Blk w1 b 34 (fCells f A c B d).toArray)
    (hx : a.eval x = .slice (some ⟨b, 0, none⟩) 1 1) (hn : (n + 1) * 96 ≤ 140737488355328)
    (h : ∀ A' c' w', Own w' 34 6 (fun k => ownS v k ∨ k = w1.heap.size) (.slice A' (n + 1) c') (n + 1) (xs ++ fCells f A c B d) → (n + 1 ≤ c' ∧ c' ≤ maxLen) → Kept (ownS v) w1 w' → wpList Try.prog ops Q rest (a.put o.dst (.slice A' (n + 1) c')) w') :
    wpList Try.prog ops Q (o :: rest) a w1 := by
  obtain ⟨i0, hi, hz0, hz1, hz2⟩ := info_parts infoField
  have ho1 : Own w1 34 6 (ownS v) v n xs := ⟨hown.1, fun _ a => a⟩
  have hr : Rd w1 (fun _ => True) (some ⟨b, 0, none⟩) (fCells f A c B d) := by
    refine .inr ⟨b, 0, rfl, trivial, fun j u hu => ?_⟩
    rw [Nat.zero_add, hb.cell j]
    simpa using hu
  refine wpList_append_Own w1 hgd s x 22 ho 34 i0 _ 6 96 Try.underlying22 hi hz0 hz1 hz2 rfl (by decide) (ownS v) (fun _ => True) v n xs hs ho1 _ 1 1 (fCells f A c B d) hx rfl hr (one_cells6 _ _ _ _ _ _ _ _ _ _) (by unfold maxLen; omega) hn ?_
  intro v' w' h2 h3
  obtain ⟨A', c', rfl, hc, hm, _⟩ := Own.form h2
  exact h A' c' w' h2 ⟨hc, hm⟩ h3

/-- A row of one's own, from block N on, whose fields' parts lie below. -/
def MRow (w : World) (N : Nat) (v : Value) (t : List FF) : Prop := ∃ css : List (List Value), Own w 34 6 (N ≤ ·) v t.length css.flatten ∧ FsAt w (· < N) t css

section
variable {w w' : World} {N : Nat} {v : Value} {t : List FF} {S : Nat → Prop}
theorem MRow.keep (h : MRow w N v t) (hk : Kept S w w') (hd : ∀ k, S k → N ≤ k ∧ ¬ ownS v k) : MRow w' N v t := by
  obtain ⟨css, h1, h2⟩ := h
  exact ⟨css, h1.keep0 hk (fun k _ a b => (hd k b).2 a), FsAt.keep hk (fun k _ a b => by have := (hd k b).1; have : k < N := a; omega) t css h2⟩
theorem MRow.at' {A : Option Addr} {c : Nat} (h : MRow w N (.slice A t.length c) t) : TAt w (fun _ => True) A t := by
  obtain ⟨css, h1, h2⟩ := h
  exact ⟨css, (Own.rd h1).mono (fun _ _ _ => trivial), FsAt.mono (fun _ _ _ => trivial) t css h2⟩
theorem MRow.add {f : FF} {A B A' : Option Addr} {c d c' : Nat} (h : MRow w N v t) (hN : N ≤ w.heap.size) (hn : f.name.size ≤ 140737488351232) (hf : f.val.fit c d) (hl : LAt w (· < N) A f.val.list) (ht : TAt w (· < N) B f.val.table) {css : List (List Value)} (h1 : Own w 34 6 (N ≤ ·) v t.length css.flatten) (h2 : FsAt w (· < N) t css)
    (o : Own w' 34 6 (fun k => ownS v k ∨ k = w.heap.size) (.slice A' (t.length + 1) c') (t.length + 1) (css.flatten ++ fCells f A c B d)) (hk : Kept (ownS v) w w') : MRow w' N (.slice A' (t.length + 1) c') (t ++ [f]) := by
  refine ⟨css ++ [fCells f A c B d], ?_, FsAt.snoc ?_ t css ?_⟩
  · rw [List.length_append, List.flatten_append]
    simp only [List.length_cons, List.length_nil, List.flatten_cons, List.flatten_nil, List.append_nil]
    exact o.mono (fun k _ a => by rcases a with a | a; exact h1.2 k a; omega)
  · exact FAt.keep hk (fun k _ a b => by have := h1.2 k b; have : k < N := a; omega) f _ (FAt.mk' hn hf hl ht)
  · exact FsAt.keep hk (fun k _ a b => by have := h1.2 k b; have : k < N := a; omega) t css h2
end

theorem modes_step {wr w5 w6 : World} {N : Nat} (hN : N ≤ wr.heap.size) {v5 v6 : Value} {ws : List FF} {x f : FF} {css5 css6 : List (List Value)} {B1 B2 A5 A6 : Option Addr} {c1 c2 c5 c6 : Nat} {o1 o2 o3 : Obj}
    (o5 : Own wr 34 6 (N ≤ ·) v5 ws.length css5.flatten) (fs5 : FsAt wr (· < N) ws css5) (o6 : Own wr 34 6 (N ≤ ·) v6 (ws.length + 1) css6.flatten) (fs6 : FsAt wr (· < N) (x :: ws) css6) (hd : ∀ k, ownS v5 k → ¬ ownS v6 k)
    (hn : f.name.size ≤ 140737488351232) (hf : f.val.fit c1 c2) (hl : LAt wr (· < N) B1 f.val.list) (ht : TAt wr (· < N) B2 f.val.table)
    (ow : Own w5 34 6 (fun k => ownS v5 k ∨ k = ((wr.alloc o1).alloc o2).heap.size) (.slice A5 (ws.length + 1) c5) (ws.length + 1) (css5.flatten ++ fCells f B1 c1 B2 c2)) (kw : Kept (ownS v5) ((wr.alloc o1).alloc o2) w5)
    (ox : Own w6 34 6 (fun k => ownS v6 k ∨ k = (w5.alloc o3).heap.size) (.slice A6 (ws.length + 1 + 1) c6) (ws.length + 1 + 1) (css6.flatten ++ fCells f B1 c1 B2 c2)) (kx : Kept (ownS v6) (w5.alloc o3) w6) :
    MRow w6 N (.slice A5 (ws ++ [f]).length c5) (ws ++ [f]) ∧ MRow w6 N (.slice A6 ((ws ++ [f]).length + 1) c6) (x :: (ws ++ [f])) ∧ (∀ k, ownS (.slice A5 (ws ++ [f]).length c5) k → ¬ ownS (.slice A6 ((ws ++ [f]).length + 1) c6) k) ∧ Kept (N ≤ ·) wr w6 := by
  have e : (ws ++ [f]).length = ws.length + 1 := by simp
  rw [e]
  have k2 : Kept noneS wr ((wr.alloc o1).alloc o2) := ((Kept.refl _ _).alloc _).alloc _
  have s2 : ((wr.alloc o1).alloc o2).heap.size = wr.heap.size + 2 := by simp
  have s3 : (w5.alloc o3).heap.size = w5.heap.size + 1 := by simp
  have z5 := kw.size
  rw [s2] at z5
  have m5 : MRow ((wr.alloc o1).alloc o2) N v5 ws := MRow.keep ⟨css5, o5, fs5⟩ k2 (fun _ q => q.elim)
  have r5 : MRow w5 N (.slice A5 (ws.length + 1) c5) (ws ++ [f]) := m5.add (by omega) hn hf (hl.still k2) (ht.still k2) ((o5.alloc _).alloc _) (FsAt.keep k2 (fun _ _ _ q => q.elim) ws css5 fs5) ow kw
  have own5 : ∀ k, ownS (.slice A5 (ws.length + 1) c5) k → ownS v5 k ∨ k = wr.heap.size + 2 := fun k q => by
    have := ow.2 k q
    rwa [s2] at this
  have own6 : ∀ k, ownS (.slice A6 (ws.length + 1 + 1) c6) k → ownS v6 k ∨ k = w5.heap.size + 1 := fun k q => by
    have := ox.2 k q
    rwa [s3] at this
  have l5 : ∀ k, ownS v5 k → k < wr.heap.size := fun k q => o5.lt k q
  have l6 : ∀ k, ownS v6 k → k < wr.heap.size := fun k q => o6.lt k q
  have k5 : Kept (N ≤ ·) wr (w5.alloc o3) := ((k2.mono (S' := (N ≤ ·)) (fun _ _ q => q.elim)).trans2 kw (fun k _ q => o5.2 k q)).alloc _
  have o6' : Own (w5.alloc o3) 34 6 (N ≤ ·) v6 (ws.length + 1) css6.flatten := (((o6.alloc _).alloc _).keep0 kw (fun k _ a b => hd k b a)).alloc _
  have fs6' : FsAt (w5.alloc o3) (· < N) (x :: ws) css6 := FsAt.keep k5 (fun k _ a b => by have : k < N := a; have : N ≤ k := b; omega) (x :: ws) css6 fs6
  have hl' : LAt (w5.alloc o3) (· < N) B1 f.val.list := hl.keep k5 (fun k _ a b => by omega)
  have ht' : TAt (w5.alloc o3) (· < N) B2 f.val.table := ht.keep k5 (fun k _ a b => by omega)
  have r6 : MRow w6 N (.slice A6 (ws.length + 1 + 1) c6) ((x :: ws) ++ [f]) := MRow.add (t := x :: ws) ⟨css6, o6', fs6'⟩ (by omega) hn hf hl' ht' o6' fs6' ox kx
  refine ⟨(r5.keep ((Kept.refl noneS w5).alloc o3) (fun _ q => q.elim)).keep kx (fun k q => ⟨o6.2 k q, fun q5 => ?_⟩), r6, fun k q5 q6 => ?_, k5.trans2 kx (fun k _ q => o6.2 k q)⟩
  · rcases own5 k q5 with a | a
    · exact hd k a q
    · have := l6 k q; omega
  · rcases own5 k q5 with a | a <;> rcases own6 k q6 with b | b
    · exact hd k a b
    · have := l5 k a; omega
    · have := l6 k b; omega
    · omega

theorem own_mode : ownB sMode = true := by kernel_rfl
theorem any_fx : isTextB fx.val sAny = true := by kernel_rfl
theorem fx_mode : (fx.name.toList == sMode.toList) = true := by kernel_rfl

theorem modes (ws hd : List FF) (hw : ∀ f ∈ ws, ownB f.name = false) (hne : ws ≠ []) (hm : matchB ws hd = true) : matchB (fx :: ws) hd = true := by
  have h0 : anyB ws = false := by
    unfold anyB
    have hg : getF ws sMode = none := by
      unfold getF
      rw [List.find?_eq_none]
      intro x hx hq
      have e : x.name.toList = sMode.toList := by simpa using hq
      rw [ByteArray.toList_eq, ByteArray.toList_eq] at e
      have e2 : x.name = sMode := by
        rcases hn : x.name with ⟨d⟩
        rw [hn] at e
        have : d = sMode.data := by simpa using e
        rw [this]
      have := hw x hx
      rw [e2, own_mode] at this
      cases this
    unfold hasT
    rw [hg]
    rfl
  have h1 : anyB (fx :: ws) = true := by
    have hg : getF (fx :: ws) sMode = some fx := by
      unfold getF
      rw [List.find?_cons, fx_mode]
    unfold anyB hasT getV
    rw [hg]
    exact any_fx
  unfold matchB at hm
  rw [h0] at hm
  have hall : ∀ f ∈ ws, holdsB f hd = true := by
    intro f hf
    rcases hh : holdsB f hd with _ | _
    · rw [if_pos (List.any_eq_true.2 ⟨f, hf, by unfold decB; rw [hw f hf, hh]; rfl⟩)] at hm
      cases hm
    · rfl
  unfold matchB
  rw [h1, if_pos]
  obtain ⟨f, l, rfl⟩ := List.exists_cons_of_ne_nil hne
  refine List.any_eq_true.2 ⟨f, by simp, ?_⟩
  unfold decB
  rw [hw f (by simp), hall f (by simp)]
  rfl

def wantsOf (t : List FF) (j : Nat) : List FF := (t.take j).filter fun f => !ownB f.name
theorem wantsOf_len (t : List FF) (j : Nat) : (wantsOf t j).length ≤ j := by
  unfold wantsOf
  have := List.length_filter_le (fun f : FF => !ownB f.name) (t.take j)
  have := List.length_take_le j t
  omega
theorem wantsOf_own (t : List FF) (j : Nat) : ∀ f ∈ wantsOf t j, ownB f.name = false := by
  intro f hf
  have := (List.mem_filter.1 hf).2
  simpa using this
theorem wantsOf_yes (t : List FF) (j : Nat) (h : j < t.length) (ho : ownB (t[j]).name = false) : wantsOf t (j + 1) = wantsOf t j ++ [t[j]] := by
  unfold wantsOf
  rw [List.take_succ_eq_append_getElem h, List.filter_append]
  simp [ho]
theorem wantsOf_no (t : List FF) (j : Nat) (h : j < t.length) (ho : ownB (t[j]).name = true) : wantsOf t (j + 1) = wantsOf t j := by
  unfold wantsOf
  rw [List.take_succ_eq_append_getElem h, List.filter_append]
  simp [ho]

set_option maxHeartbeats 3200000 in
theorem headsModes (t hd : List FF) (A H : Option Addr) (c ch : Nat) (w : World) (h : TAt w (· < w.heap.size) A t) (hH : TAt w (· < w.heap.size) H hd) (hl : t.length * 96 ≤ 140737488351232) (hl' : hd.length * 96 ≤ 140737488351232) :
    Calls Try.prog 5 #[.slice A t.length c, .slice H hd.length ch] w fun e w' => e = .returned (.bool true) ∧ Kept noneS w w' := by
  have HT := Lib.hid h
  have HH := Lib.hid hH
  clear h hH
  go_enter Try.func5, Try.ntmps5
  go_wp2_with fail
  refine (speaks8 _).mono ?_
  rintro e w1 ⟨rfl, k1⟩
  have K1 := Lib.hid k1
  have hz1 := k1.size
  have HT1 := Lib.hid (HT.out.still k1)
  have HH1 := Lib.hid (HH.out.still k1)
  clear k1 HT HH
  go_wp2_with fail
  go_loopw [5, 6, 17] (fun v5 v6 i wr => ∃ (j : Nat) (A5 A6 : Option Addr) (c5 c6 : Nat), j ≤ t.length ∧ i = .int .i64 j ∧ v5 = .slice A5 (wantsOf t j).length c5 ∧ v6 = .slice A6 ((wantsOf t j).length + 1) c6 ∧ MRow wr w1.heap.size (.slice A5 (wantsOf t j).length c5) (wantsOf t j) ∧ MRow wr w1.heap.size (.slice A6 ((wantsOf t j).length + 1) c6) (fx :: wantsOf t j) ∧ Hid (∀ k, ownS (.slice A5 (wantsOf t j).length c5) k → ¬ ownS (.slice A6 ((wantsOf t j).length + 1) c6) k) ∧ Kept noneS w1 wr) (fun _ _ i _ => t.length - (intOf i).toNat)
  case atStart =>
    refine ⟨0, some ⟨w1.heap.size, 0, none⟩, some ⟨w1.heap.size + 1, 0, none⟩, 0, 1, Nat.zero_le _, rfl, rfl, rfl, ⟨[], (Own.empty w1 34 6 (w1.heap.size ≤ ·) (Nat.le_refl _)).alloc _, by rw [show wantsOf t 0 = [] from rfl, FsAt]⟩, ⟨[fCells fx none 0 none 0], ?_, ?_⟩, Lib.hid (fun k a b => ?_), ((Kept.refl _ _).alloc _).alloc _⟩
    · have h9 := Own.lit (w1.alloc (.cells #[] 34)) 34 6 (w1.heap.size ≤ ·) (fCells fx none 0 none 0).toArray 1 rfl (by decide) (by simp)
      rw [show (w1.alloc (.cells #[] 34)).heap.size = w1.heap.size + 1 by simp] at h9
      exact h9
    · rw [show wantsOf t 0 = [] from rfl, FsAt]
      exact ⟨_, [], rfl, FAt.mk' (by decide) fit_fx (LAt.nil _ _ _) (TAt.nil _ _ _), by rw [FsAt]⟩
    · simp [ownS, Value.ownBlock] at a b
      omega
  case round =>
    obtain ⟨j, A5, A6, c5, c6, hj, rfl, rfl, rfl, m5, m6, HDj, hk⟩ := hrel
    have KR := Lib.hid hk
    have M5 := Lib.hid m5
    have M6 := Lib.hid m6
    have hzr := hk.size
    have hws := wantsOf_len t j
    clear hk m5 m6
    by_cases hlt : j < t.length
    · obtain ⟨g, o, B1, c1, B2, c2, rfl, _, hnm, hf1, hL1, hT1, d0, d1, d2, d3, d4, d5⟩ := ((HT1.out.mono (G := (· < w1.heap.size)) (fun k _ q => Nat.lt_of_lt_of_le q hz1)).still KR.out).at_ hlt
      have HY := Lib.hid (wantsOf_yes t j hlt)
      have HNo := Lib.hid (wantsOf_no t j hlt)
      generalize hfj : t[j] = f at *
      clear hfj
      have hji : (j : Int) < (t.length : Int) := by omega
      have hj0 : (0 : Int) ≤ (j : Int) := by omega
      have HL1 := Lib.hid hL1
      have HTb1 := Lib.hid hT1
      have HF1 := Lib.hid hf1
      clear hL1 hT1 hf1
      rcases ho : ownB f.name with _ | _
      · have HW := Lib.hid (HY.out ho)
        have hcase : decide ((f.name.size : Int) < 2) = true ∨ (decide ((f.name.size : Int) < 2) = false ∧ 2 ≤ f.name.size ∧ ((f.name.extract 0 2).toList == [120, 45]) = false) := by
          unfold ownB at ho
          by_cases h2 : 2 ≤ f.name.size
          · rw [decide_eq_true h2, Bool.true_and] at ho
            exact .inr ⟨by simp; omega, h2, ho⟩
          · exact .inl (by simp; omega)
        clear HY HNo ho
        generalize wantsOf t j = ws at *
        obtain ⟨css5, o5, fs5⟩ := M5.out
        obtain ⟨css6, o6, fs6⟩ := M6.out
        have O5 := Lib.hid o5
        have FS5 := Lib.hid fs5
        have O6 := Lib.hid (show Own wr 34 6 (w1.heap.size ≤ ·) (.slice A6 (ws.length + 1) c6) (ws.length + 1) css6.flatten from o6)
        have FS6 := Lib.hid fs6
        have bs1 := Blk.new (wr.alloc (.cells #[.string f.name, .int .i64 f.val.kind, .int .i64 f.val.num, .string f.val.text, .slice B1 f.val.list.length c1, .slice B2 f.val.table.length c2] 34)) 34 (fCells f B1 c1 B2 c2).toArray
        rw [show (wr.alloc (.cells #[.string f.name, .int .i64 f.val.kind, .int .i64 f.val.num, .string f.val.text, .slice B1 f.val.list.length c1, .slice B2 f.val.table.length c2] 34)).heap.size = wr.heap.size + 1 by simp] at bs1
        have BS1 := Lib.hid bs1
        have BV := Lib.hid ((Blk.new wr 34 (fCells f B1 c1 B2 c2).toArray).alloc (.cells #[.string f.name, .int .i64 f.val.kind, .int .i64 f.val.num, .string f.val.text, .slice B1 f.val.list.length c1, .slice B2 f.val.table.length c2] 34))
        have NV : Hid (¬ ownS (.slice A5 ws.length c5) wr.heap.size) := Lib.hid (fun q => by have := o5.lt _ q; omega)
        clear o5 fs5 o6 fs6 bs1
        rcases hcase with hc1 | ⟨hc1, hc2, hc3⟩
        all_goals
          go_wp2_with (first
            | (at_builtin; refine wpList_appFB rfl (.tmp 31) (.tmp 33) rfl ((wr.alloc (.cells #[.string f.name, .int .i64 f.val.kind, .int .i64 f.val.num, .string f.val.text, .slice B1 f.val.list.length c1, .slice B2 f.val.table.length c2] 34)).alloc (.cells #[.string f.name, .int .i64 f.val.kind, .int .i64 f.val.num, .string f.val.text, .slice B1 f.val.list.length c1, .slice B2 f.val.table.length c2] 34)) (w1.heap.size ≤ ·) (.slice A5 ws.length c5) ws.length css5.flatten rfl ((O5.out.alloc _).alloc _) f B1 c1 B2 c2 (wr.heap.size + 1) BS1.out rfl (by omega) ?_; intro A5' c5' w5 own5 cap5 k5; have KW := Lib.hid k5; have OW := Lib.hid own5; have bv5 := BV.out.keep k5 NV.out; have g0 : w5.cell? ⟨wr.heap.size, 0, none⟩ = some (.string f.name) := bv5.cell 0; have g1 : w5.cell? ⟨wr.heap.size, 1, none⟩ = some (.int .i64 f.val.kind) := bv5.cell 1; have g2 : w5.cell? ⟨wr.heap.size, 2, none⟩ = some (.int .i64 f.val.num) := bv5.cell 2; have g3 : w5.cell? ⟨wr.heap.size, 3, none⟩ = some (.string f.val.text) := bv5.cell 3; have g4 : w5.cell? ⟨wr.heap.size, 4, none⟩ = some (.slice B1 f.val.list.length c1) := bv5.cell 4; have g5 : w5.cell? ⟨wr.heap.size, 5, none⟩ = some (.slice B2 f.val.table.length c2) := bv5.cell 5; have BV5 := Lib.hid bv5; have z5 := k5.size; clear own5 k5 bv5)
            | (at_builtin; refine wpList_appFB rfl (.tmp 35) (.tmp 37) rfl (w5.alloc (.cells #[.string f.name, .int .i64 f.val.kind, .int .i64 f.val.num, .string f.val.text, .slice B1 f.val.list.length c1, .slice B2 f.val.table.length c2] 34)) (w1.heap.size ≤ ·) (.slice A6 (ws.length + 1) c6) (ws.length + 1) css6.flatten rfl ((((O6.out.alloc _).alloc _).keep0 KW.out (fun k _ a b => HDj.out k b a)).alloc _) f B1 c1 B2 c2 w5.heap.size (Blk.new _ _ _) rfl (by omega) ?_; intro A6' c6' w6 own6 cap6 k6; have KX := Lib.hid k6; have OX := Lib.hid own6; have z6 := k6.size; clear own6 k6))
          go_roundw
          case rel =>
            have MS := modes_step hzr O5.out FS5.out O6.out FS6.out HDj.out hnm HF1.out HL1.out HTb1.out OW.out KW.out OX.out KX.out
            refine ⟨j + 1, A5', A6', c5', c6', ?_⟩
            rw [HW.out]
            exact ⟨by omega, by go_num, by rw [List.length_append]; rfl, by rw [List.length_append]; rfl, MS.1, MS.2.1, Lib.hid MS.2.2.1, KR.out.trans2 MS.2.2.2 (fun k a q => absurd q (Nat.not_le.2 a))⟩
          case measure => simp [intOf]; omega
      · have HW := Lib.hid (HNo.out ho)
        have hc : decide ((f.name.size : Int) < 2) = false ∧ 2 ≤ f.name.size ∧ ((f.name.extract 0 2).toList == [120, 45]) = true := by
          unfold ownB at ho
          rw [Bool.and_eq_true] at ho
          have h2 : 2 ≤ f.name.size := of_decide_eq_true ho.1
          exact ⟨by simp; omega, h2, ho.2⟩
        obtain ⟨hc1, hc2, hc3⟩ := hc
        clear HY HNo ho
        go_wp2
        go_roundw
        case rel =>
          refine ⟨j + 1, A5, A6, c5, c6, ?_⟩
          rw [HW.out]
          exact ⟨by omega, by go_num, rfl, rfl, M5.out.keep ((Kept.refl noneS wr).alloc _) (fun _ q => q.elim), M6.out.keep ((Kept.refl noneS wr).alloc _) (fun _ q => q.elim), HDj, KR.out.alloc _⟩
        case measure => simp [intOf]; omega
    · obtain rfl : j = t.length := by omega
      have HO := Lib.hid (wantsOf_own t t.length)
      generalize wantsOf t t.length = ws at *
      have HMd := Lib.hid (modes ws hd HO.out)
      have TW := Lib.hid (M5.out.at')
      have TX := Lib.hid (MRow.at' (t := fx :: ws) M6.out)
      have hwl : ws.length * 96 ≤ 140737488355328 := by omega
      go_wp2_with fail
      refine (headsMatch ws hd A5 H c5 ch _ _ wr TW.out (HH1.out.still KR.out) hwl (by omega)).mono ?_
      generalize matchB ws hd = m1 at HMd ⊢
      rintro e w4 ⟨rfl, k4⟩
      have K4 := Lib.hid (KR.out.trans k4)
      have TX4 := Lib.hid (TX.out.still k4)
      have HH4 := Lib.hid (HH1.out.still K4.out)
      clear k4
      rcases m1 with _ | _
      · clear HMd
        go_wp2_with fail
        go_ret
        exact ⟨rfl, K1.out.trans K4.out⟩
      · by_cases hne : ws = []
        · have hz : ((ws.length : Int) == 0) = true := by rw [hne]; rfl
          clear hne HMd
          go_wp2_with fail
          go_ret
          exact ⟨rfl, K1.out.trans K4.out⟩
        · have HM' := Lib.hid (HMd.out hne rfl)
          have hz : ((ws.length : Int) == 0) = false := by
            have := List.length_pos_iff.2 hne
            simp
            omega
          clear hne HMd
          go_wp2_with fail
          refine (headsMatch (fx :: ws) hd A6 H c6 ch _ _ w4 TX4.out HH4.out (by simp; omega) (by omega)).mono ?_
          rw [HM'.out]
          rintro e w5 ⟨rfl, k5⟩
          have K5 := Lib.hid (K4.out.trans k5)
          clear k5
          go_wp2_with fail
          go_ret
          exact ⟨rfl, K1.out.trans K5.out⟩

end Go.Proofs.Ytdhaojicphhikaa
