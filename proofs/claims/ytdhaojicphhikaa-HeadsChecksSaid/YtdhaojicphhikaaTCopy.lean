/-
  warrenref03: Copy, CopyValue.
-/
import Derived.Test.YtdhaojicphhikaaTOwn
import Derived.Deep.RegionHeld3
import Derived.Deep.CutRange
namespace Go.Proofs.Ytdhaojicphhikaa
open Go.RowKit

/-- The contract of warrenref03.CopyValue at v. -/
def RCV (v : FV) : Prop := ∀ (A B : Option Addr) (c d : Nat) (F : Nat → Prop) (w : World), LAt w F A v.list → TAt w F B v.table → v.fit c d →
  Calls Try.prog 13 #[.agg #[.int .i64 v.kind, .int .i64 v.num, .string v.text, .slice A v.list.length c, .slice B v.table.length d]] w fun e w' => ∃ A' c' B' d', e = .returned (.agg #[.int .i64 v.kind, .int .i64 v.num, .string v.text, .slice A' v.list.length c', .slice B' v.table.length d']) ∧
    LOwn w' (w.heap.size ≤ ·) (.slice A' v.list.length c') v.list ∧ TOwn w' (w.heap.size ≤ ·) (.slice B' v.table.length d') v.table ∧ Kept noneS w w'

theorem TOwn.at' {w : World} {F : Nat → Prop} {A : Option Addr} {c : Nat} {t : List FF} (h : TOwn w F (.slice A t.length c) t) : TAt w F A t ∧ t.length ≤ c ∧ c ≤ maxLen := by
  obtain ⟨css, G, h1, h2, h3⟩ := h
  obtain ⟨_, _, e, hc, hm, _⟩ := Own.form h1
  injection e with _ _ e
  exact ⟨⟨css, Own.rd h1, FsAt.mono (fun k _ a => (h3 k a).1) t css h2⟩, by omega, by omega⟩
theorem LOwn.at' {w : World} {F : Nat → Prop} {A : Option Addr} {c : Nat} {t : List FV} (h : LOwn w F (.slice A t.length c) t) : LAt w F A t ∧ t.length ≤ c ∧ c ≤ maxLen := by
  obtain ⟨css, G, h1, h2, h3⟩ := h
  obtain ⟨_, _, e, hc, hm, _⟩ := Own.form h1
  injection e with _ _ e
  exact ⟨⟨css, Own.rd h1, VsAt.mono (fun k _ a => (h3 k a).1) t css h2⟩, by omega, by omega⟩

theorem VAt.mk {w : World} {F : Nat → Prop} {v : FV} {A B : Option Addr} {c d : Nat} (hf : v.fit c d) (hl : LAt w F A v.list) (ht : TAt w F B v.table) : VAt w F v [.int .i64 v.kind, .int .i64 v.num, .string v.text, .slice A v.list.length c, .slice B v.table.length d] := by
  rw [VAt_iff]
  exact ⟨A, c, B, d, rfl, hf, hl, ht⟩

theorem FV.refit {v : FV} {c d c' d' : Nat} (h : v.fit c d) (h1 : v.list.length ≤ c') (h2 : v.table.length ≤ d') (h3 : c' ≤ maxLen) (h4 : d' ≤ maxLen) : v.fit c' d' :=
  ⟨h.1, h.2.1, h.2.2.1, h1, h.2.2.2.2.1, h2, h.2.2.2.2.2.2.1, h3, h4⟩

/-- A new field's six cells. -/
def fCells (f : FF) (A : Option Addr) (c : Nat) (B : Option Addr) (d : Nat) : List Value := [.string f.name, .int .i64 f.val.kind, .int .i64 f.val.num, .string f.val.text, .slice A f.val.list.length c, .slice B f.val.table.length d]

theorem FAt.mk' {w : World} {F : Nat → Prop} {f : FF} {A B : Option Addr} {c d : Nat} (hn : f.name.size ≤ 140737488351232) (hf : f.val.fit c d) (hl : LAt w F A f.val.list) (ht : TAt w F B f.val.table) : FAt w F f (fCells f A c B d) := by
  rw [FAt_iff]
  exact ⟨hn, _, rfl, VAt.mk hf hl ht⟩

theorem one_cells6 (a : ByteArray) (k n : Int) (t : ByteArray) (A B : Option Addr) (l c m d : Nat) : ∀ u ∈ ([.string a, .int .i64 k, .int .i64 n, .string t, .slice A l c, .slice B m d] : List Value), u.oneCell' = true := by
  intro u hu
  simp only [List.mem_cons, List.not_mem_nil, or_false] at hu
  rcases hu with rfl | rfl | rfl | rfl | rfl | rfl <;> rfl

theorem one_cells5 (k n : Int) (t : ByteArray) (A B : Option Addr) (l c m d : Nat) : ∀ u ∈ ([.int .i64 k, .int .i64 n, .string t, .slice A l c, .slice B m d] : List Value), u.oneCell' = true := by
  intro u hu
  simp only [List.mem_cons, List.not_mem_nil, or_false] at hu
  rcases hu with rfl | rfl | rfl | rfl | rfl <;> rfl

/-- An append of one element that lies in a new block. -/
theorem run_app1 {P : Program} (w1 : World) (t ty e : TypeId) (i : TypeInfo) (z : Value) (size bytes : Nat) (ht : P.underlying t = some (.slice e)) (hi : P.info? e = some i) (hz : i.zero = some z)
    (hsize : i.size = size) (hby : i.bytes = bytes) (hzs : z.cells.size = size) (hsz : 0 < size)
    (F : Nat → Prop) (v : Value) (n : Nat) (xs : List Value) (hown : Own w1 e size F v n xs) (cs : Array Value) (hcs : cs.toList.length = 1 * size) (h1 : ∀ u ∈ cs.toList, u.oneCell' = true)
    (h63 : n + 1 ≤ maxLen) (hbytes : (n + 1) * bytes ≤ 140737488355328) :
    ∃ A' c' w', (Builtin.append_ #[t, t] ty #[v, .slice (some ⟨w1.heap.size, 0, none⟩) 1 1]).run P (w1.alloc (.cells cs e)) = .ok (.slice A' (n + 1) c') w' ∧ Own w' e size (fun k => ownS v k ∨ k = w1.heap.size + 1) (.slice A' (n + 1) c') (n + 1) (xs ++ cs.toList) ∧ (n + 1 ≤ c' ∧ c' ≤ maxLen) ∧ Kept (ownS v) (w1.alloc (.cells cs e)) w' := by
  have ho : Own (w1.alloc (.cells cs e)) e size (ownS v) v n xs := ⟨(hown.alloc _).1, fun _ a => a⟩
  have hr : Rd (w1.alloc (.cells cs e)) (fun _ => True) (some ⟨w1.heap.size, 0, none⟩) cs.toList := by
    refine .inr ⟨w1.heap.size, 0, rfl, trivial, fun j u hu => ?_⟩
    rw [Nat.zero_add, (Blk.new w1 e cs).cell j]
    simpa using hu
  obtain ⟨v', w', hrun, h2, h3⟩ := run_append_Own (P := P) (w1.alloc (.cells cs e)) t ty e i z size bytes ht hi hz hsize hby hzs hsz (ownS v) (fun _ => True) v n xs ho _ 1 1 cs.toList hcs hr h1 h63 hbytes
  obtain ⟨A', c', rfl, hc, hm, _⟩ := Own.form h2
  exact ⟨A', c', w', hrun, h2.mono (fun k _ q => by simpa using q), ⟨hc, hm⟩, h3⟩

theorem step_appF {ops : Array Oper} {o : Oper} {a : Act} {K : Act → World → Prop} {Q : Exit → Act → World → Prop} {E : Prop} (hgd : o.guard = none) (s x : Operand)
    (ho : o.op = .call { callee := .builtin .append, args := #[s, x], argTypes := #[22, 22] })
    (w1 : World) (F : Nat → Prop) (v : Value) (n : Nat) (xs : List Value) (hs : a.eval s = v) (hown : Own w1 34 6 F v n xs) (f : FF) (A : Option Addr) (c : Nat) (B : Option Addr) (d : Nat)
    (hx : a.eval x = .slice (some ⟨w1.heap.size, 0, none⟩) 1 1) (hn : (n + 1) * 96 ≤ 140737488355328)
    (h : ∀ A' c' w', Own w' 34 6 (fun k => ownS v k ∨ k = w1.heap.size + 1) (.slice A' (n + 1) c') (n + 1) (xs ++ fCells f A c B d) → (n + 1 ≤ c' ∧ c' ≤ maxLen) → Kept (ownS v) (w1.alloc (.cells (fCells f A c B d).toArray 34)) w' → K (a.put o.dst (.slice A' (n + 1) c')) w') :
    if Region.wanted o (yielded ops a.tmps) = true then Oper.wp Try.prog o a (w1.alloc (.cells #[.string f.name, .int .i64 f.val.kind, .int .i64 f.val.num, .string f.val.text, .slice A f.val.list.length c, .slice B f.val.table.length d] 34)) K Q else E := by
  rw [if_pos (by simp [Region.wanted, hgd])]
  obtain ⟨i0, hi, hz0, hz1, hz2⟩ := info_parts infoField
  obtain ⟨A', c', w', hrun, h2, h3, h4⟩ := run_app1 (P := Try.prog) w1 22 o.type 34 i0 _ 6 96 Try.underlying22 hi hz0 hz1 hz2 rfl (by decide) F v n xs hown (fCells f A c B d).toArray rfl (one_cells6 _ _ _ _ _ _ _ _ _ _) (by unfold maxLen; omega) hn
  unfold Oper.wp execOp
  have hrun' : (Builtin.append_ #[22, 22] o.type #[v, .slice (some ⟨w1.heap.size, 0, none⟩) 1 1]).run Try.prog (w1.alloc (.cells #[.string f.name, .int .i64 f.val.kind, .int .i64 f.val.num, .string f.val.text, .slice A f.val.list.length c, .slice B f.val.table.length d] 34)) = .ok (.slice A' (n + 1) c') w' := hrun
  simp only [ho, resolve, invoke, builtin, Sem.run_bind, Sem.run_pure, Result.andThen_ok, List.map_toArray, List.map_cons, List.map_nil, hs, hx, hrun']
  exact h A' c' w' h2 h3 h4

theorem TOwn.form {w : World} {F : Nat → Prop} {v : Value} {t : List FF} (h : TOwn w F v t) : ∃ A c, v = .slice A t.length c := by
  obtain ⟨css, G, hown, _⟩ := h
  obtain ⟨A0, cap, e, _⟩ := Own.form hown
  exact ⟨A0, cap, e⟩
theorem LOwn.form {w : World} {F : Nat → Prop} {v : Value} {t : List FV} (h : LOwn w F v t) : ∃ A c, v = .slice A t.length c := by
  obtain ⟨css, G, hown, _⟩ := h
  obtain ⟨A0, cap, e, _⟩ := Own.form hown
  exact ⟨A0, cap, e⟩

/-- What a round of Copy does. -/
theorem copy_step {w wr w1 w3 : World} {A0 A1 A2 A3 : Option Addr} {j cap e1 e2 e3 c1 c2 : Nat} {G : Nat → Prop} {t : List FF} {f : FF} {css : List (List Value)} (hl : t.length = j) (hsz : w.heap.size ≤ wr.heap.size)
    (ho : Own wr 34 6 (w.heap.size ≤ ·) (.slice A0 j cap) j css.flatten) (hfs : FsAt wr G t css) (hG : ∀ k, G k → w.heap.size ≤ k ∧ k < wr.heap.size ∧ ¬ ownS (.slice A0 j cap) k) (hn : f.name.size ≤ 140737488351232) (hf : f.val.fit c1 c2)
    (lo : LOwn w1 (wr.heap.size ≤ ·) (.slice A1 f.val.list.length e1) f.val.list) (tow : TOwn w1 (wr.heap.size ≤ ·) (.slice A2 f.val.table.length e2) f.val.table) (kA : Kept noneS wr w1)
    (o3 : Own w3 34 6 (fun k => ownS (.slice A0 j cap) k ∨ k = w1.heap.size + 1) (.slice A3 (j + 1) e3) (j + 1) (css.flatten ++ fCells f A1 e1 A2 e2))
    (k3 : Kept (ownS (.slice A0 j cap)) (w1.alloc (.cells (fCells f A1 e1 A2 e2).toArray 34)) w3) : TOwn w3 (w.heap.size ≤ ·) (.slice A3 (j + 1) e3) (t ++ [f]) := by
  subst hl
  have hz := kA.size
  have ka : Kept noneS wr (w1.alloc (.cells (fCells f A1 e1 A2 e2).toArray 34)) := kA.alloc _
  have k1 : Kept noneS w1 (w1.alloc (.cells (fCells f A1 e1 A2 e2).toArray 34)) := (Kept.refl _ _).alloc _
  have e1' := lo.at'
  have e2' := tow.at'
  have hs : (w1.alloc (.cells (fCells f A1 e1 A2 e2).toArray 34)).heap.size = w1.heap.size + 1 := by simp
  refine TOwn.add (w := w1.alloc (.cells (fCells f A1 e1 A2 e2).toArray 34)) (v := .slice A0 t.length cap) (G := G) (G' := fun k => wr.heap.size ≤ k ∧ k < w1.heap.size) (FsAt.keep ka (fun _ _ _ q => q.elim) t css hfs) (fun k a => ?_) (FAt.mk' hn (FV.refit hf e1'.2.1 e2'.2.1 e1'.2.2 e2'.2.2) ((e1'.1.mono (fun k a q => ⟨q, a⟩)).still k1) ((e2'.1.mono (fun k a q => ⟨q, a⟩)).still k1)) (fun k a => ?_) ?_ k3 (fun k q => ho.2 k q) ?_
  · obtain ⟨a1, a2, a3⟩ := hG k a
    exact ⟨a1, by rw [hs]; omega, a3⟩
  · refine ⟨by omega, by rw [hs]; omega, fun q => ?_⟩
    have := ho.lt k q
    omega
  · rw [hs]
    exact o3
  · rw [hs]
    omega

set_option maxHeartbeats 1600000 in
theorem refCopyT (t : List FF) (ih : ∀ f ∈ t, RCV f.val) (A : Option Addr) (c : Nat) (F : Nat → Prop) (w : World) (h : TAt w F A t) (hl : t.length * 96 ≤ 140737488351232) :
    Calls Try.prog 7 #[.slice A t.length c] w fun e w' => ∃ A' c', e = .returned (.slice A' t.length c') ∧ TOwn w' (w.heap.size ≤ ·) (.slice A' t.length c') t ∧ Kept noneS w w' := by
  have HT := Lib.hid (h.mono (G := (· < w.heap.size)) (fun k a _ => a))
  have IH := Lib.hid ih
  clear h ih
  go_enter Try.func7, Try.ntmps7
  go_wp2
  go_loopw [3, 4] (fun v i wr => ∃ j : Nat, j ≤ t.length ∧ i = .int .i64 j ∧ TOwn wr (w.heap.size ≤ ·) v (t.take j) ∧ Kept noneS w wr) (fun _ i _ => t.length - (intOf i).toNat)
  case atStart => exact ⟨0, Nat.zero_le _, rfl, ⟨[], noneS, Own.empty _ _ _ _ (Nat.le_refl _), by simp [FsAt], fun _ q => q.elim⟩, (Kept.refl _ _).alloc _⟩
  case round =>
    obtain ⟨j, hj, rfl, hto, hk⟩ := hrel
    have KR := Lib.hid hk
    have hsz := hk.size
    clear hk
    by_cases hlt : j < t.length
    · obtain ⟨css, G, hown, hfs, hG⟩ := hto
      rw [List.length_take, Nat.min_eq_left hj] at hown
      obtain ⟨A0, cap, rfl, hcap, _⟩ := Own.form hown
      have HO := Lib.hid hown
      have HFS := Lib.hid hfs
      have HG := Lib.hid hG
      clear hown hfs hG
      obtain ⟨g, o, B1, c1, B2, c2, rfl, hg, hnm, hf1, hL1, hT1, d0, d1, d2, d3, d4, d5⟩ := (HT.out.still KR.out).at_ hlt
      have HI := Lib.hid (IH.out t[j] (List.getElem_mem hlt))
      have HTk := Lib.hid (List.take_succ_eq_append_getElem hlt)
      generalize t[j] = f at *
      have d0 : wr.cell? ⟨g, o + j * 6, none⟩ = some (.string f.name) := d0
      have d1 : wr.cell? ⟨g, o + j * 6 + 1, none⟩ = some (.int .i64 f.val.kind) := d1
      have d2 : wr.cell? ⟨g, o + j * 6 + 1 + 1, none⟩ = some (.int .i64 f.val.num) := d2
      have d3 : wr.cell? ⟨g, o + j * 6 + 1 + 2, none⟩ = some (.string f.val.text) := d3
      have d4 : wr.cell? ⟨g, o + j * 6 + 1 + 3, none⟩ = some (.slice B1 f.val.list.length c1) := d4
      have d5 : wr.cell? ⟨g, o + j * 6 + 1 + 4, none⟩ = some (.slice B2 f.val.table.length c2) := d5
      have hji : (j : Int) < (t.length : Int) := by omega
      have hj0 : (0 : Int) ≤ (j : Int) := by omega
      have HL1 := Lib.hid hL1
      have HT1 := Lib.hid hT1
      have HF1 := Lib.hid hf1
      clear hL1 hT1 hf1
      go_wp2
      go_region_held3 (fun W => W.cell? ⟨g, o + j * 6, none⟩ = some (.string f.name) ∧ W.cell? ⟨g, o + j * 6 + 1, none⟩ = some (.int .i64 f.val.kind) ∧ W.cell? ⟨g, o + j * 6 + 1 + 1, none⟩ = some (.int .i64 f.val.num) ∧ W.cell? ⟨g, o + j * 6 + 1 + 2, none⟩ = some (.string f.val.text) ∧ W.cell? ⟨g, o + j * 6 + 1 + 3, none⟩ = some (.slice B1 f.val.list.length c1) ∧ W.cell? ⟨g, o + j * 6 + 1 + 4, none⟩ = some (.slice B2 f.val.table.length c2))
        (first | exact ⟨d0, d1, d2, d3, d4, d5⟩ | exact S2.out | exact S1.out | go_keep)
        (first
          | (go_at_call 13; refine (HI.out B1 B2 c1 c2 (· < w.heap.size) wr.drew (HL1.out.still (Kept.refl _ _).drew) (HT1.out.still (Kept.refl _ _).drew) HF1.out).mono ?_; rintro e w1 ⟨A1, e1, A2, e2, rfl, lo1, to1, k1⟩; have kA : Kept noneS wr w1 := ((Kept.refl noneS wr).drew).trans k1; have S1 := Lib.hid (show w1.cell? ⟨g, o + j * 6, none⟩ = some (.string f.name) ∧ w1.cell? ⟨g, o + j * 6 + 1, none⟩ = some (.int .i64 f.val.kind) ∧ w1.cell? ⟨g, o + j * 6 + 1 + 1, none⟩ = some (.int .i64 f.val.num) ∧ w1.cell? ⟨g, o + j * 6 + 1 + 2, none⟩ = some (.string f.val.text) ∧ w1.cell? ⟨g, o + j * 6 + 1 + 3, none⟩ = some (.slice B1 f.val.list.length c1) ∧ w1.cell? ⟨g, o + j * 6 + 1 + 4, none⟩ = some (.slice B2 f.val.table.length c2) from ⟨(kA.cell (p := ⟨_, _, none⟩) (lt_of_cell d0) (fun q => q)).trans d0, (kA.cell (p := ⟨_, _, none⟩) (lt_of_cell d1) (fun q => q)).trans d1, (kA.cell (p := ⟨_, _, none⟩) (lt_of_cell d2) (fun q => q)).trans d2, (kA.cell (p := ⟨_, _, none⟩) (lt_of_cell d3) (fun q => q)).trans d3, (kA.cell (p := ⟨_, _, none⟩) (lt_of_cell d4) (fun q => q)).trans d4, (kA.cell (p := ⟨_, _, none⟩) (lt_of_cell d5) (fun q => q)).trans d5⟩); have LO1 := Lib.hid lo1; have TO1 := Lib.hid to1; have KA := Lib.hid kA; have z1 := kA.size; clear kA lo1 to1 k1)
          | (refine step_appF rfl (.tmp 12) (.tmp 25) rfl w1 (w.heap.size ≤ ·) (.slice A0 j cap) j css.flatten rfl (HO.out.keep0 KA.out (fun _ _ _ q => q.elim)) f A1 e1 A2 e2 rfl (by omega) ?_; intro A3 e3 w3 own3 cap3 k3; have kB : Kept (fun k => w.heap.size ≤ k) wr w3 := ((KA.out.alloc _).mono (fun _ _ q => q.elim)).trans2 k3 (fun k _ q => HO.out.2 k q); have S2 := Lib.hid (show w3.cell? ⟨g, o + j * 6, none⟩ = some (.string f.name) ∧ w3.cell? ⟨g, o + j * 6 + 1, none⟩ = some (.int .i64 f.val.kind) ∧ w3.cell? ⟨g, o + j * 6 + 1 + 1, none⟩ = some (.int .i64 f.val.num) ∧ w3.cell? ⟨g, o + j * 6 + 1 + 2, none⟩ = some (.string f.val.text) ∧ w3.cell? ⟨g, o + j * 6 + 1 + 3, none⟩ = some (.slice B1 f.val.list.length c1) ∧ w3.cell? ⟨g, o + j * 6 + 1 + 4, none⟩ = some (.slice B2 f.val.table.length c2) from ⟨(kB.cell (p := ⟨_, _, none⟩) (lt_of_cell d0) (fun q => Nat.not_le.2 (show g < w.heap.size from hg) q)).trans d0, (kB.cell (p := ⟨_, _, none⟩) (lt_of_cell d1) (fun q => Nat.not_le.2 (show g < w.heap.size from hg) q)).trans d1, (kB.cell (p := ⟨_, _, none⟩) (lt_of_cell d2) (fun q => Nat.not_le.2 (show g < w.heap.size from hg) q)).trans d2, (kB.cell (p := ⟨_, _, none⟩) (lt_of_cell d3) (fun q => Nat.not_le.2 (show g < w.heap.size from hg) q)).trans d3, (kB.cell (p := ⟨_, _, none⟩) (lt_of_cell d4) (fun q => Nat.not_le.2 (show g < w.heap.size from hg) q)).trans d4, (kB.cell (p := ⟨_, _, none⟩) (lt_of_cell d5) (fun q => Nat.not_le.2 (show g < w.heap.size from hg) q)).trans d5⟩); have KB := Lib.hid kB; have HO3 := Lib.hid own3; have HK3 := Lib.hid k3; clear kB own3 k3))
      go_wp2
      go_roundw
      case rel =>
        refine ⟨j + 1, by omega, by go_num, ?_, KR.out.trans2 KB.out (fun k a q => absurd q (Nat.not_le.2 a))⟩
        rw [HTk.out]
        exact copy_step (by rw [List.length_take]; omega) hsz HO.out HFS.out HG.out hnm HF1.out LO1.out TO1.out KA.out HO3.out HK3.out
      case measure => simp [intOf]; omega
    · obtain rfl : j = t.length := by omega
      rw [List.take_length] at hto
      obtain ⟨A0, cap, rfl⟩ := hto.form
      have HTO := Lib.hid hto
      clear hto
      go_wp2
      go_ret
      exact ⟨A0, cap, rfl, HTO.out, KR.out⟩

end Go.Proofs.Ytdhaojicphhikaa
