/-
  warrenref03.CopyValue, and Copy at every table.
-/
import Derived.Test.YtdhaojicphhikaaTCopy
import Derived.Test.YtdhaojicphhikaaTSameP
namespace Go.Proofs.Ytdhaojicphhikaa
open Go.RowKit

/-- A value's five cells. -/
def vCells (f : FV) (A : Option Addr) (c : Nat) (B : Option Addr) (d : Nat) : List Value := [.int .i64 f.kind, .int .i64 f.num, .string f.text, .slice A f.list.length c, .slice B f.table.length d]

theorem step_appV {ops : Array Oper} {o : Oper} {a : Act} {K : Act → World → Prop} {Q : Exit → Act → World → Prop} {E : Prop} (hgd : o.guard = none) (s x : Operand)
    (ho : o.op = .call { callee := .builtin .append, args := #[s, x], argTypes := #[30, 30] })
    (w1 : World) (F : Nat → Prop) (v : Value) (n : Nat) (xs : List Value) (hs : a.eval s = v) (hown : Own w1 32 5 F v n xs) (f : FV) (A : Option Addr) (c : Nat) (B : Option Addr) (d : Nat)
    (hx : a.eval x = .slice (some ⟨w1.heap.size, 0, none⟩) 1 1) (hn : (n + 1) * 80 ≤ 140737488355328)
    (h : ∀ A' c' w', Own w' 32 5 (fun k => ownS v k ∨ k = w1.heap.size + 1) (.slice A' (n + 1) c') (n + 1) (xs ++ vCells f A c B d) → (n + 1 ≤ c' ∧ c' ≤ maxLen) → Kept (ownS v) (w1.alloc (.cells (vCells f A c B d).toArray 32)) w' → K (a.put o.dst (.slice A' (n + 1) c')) w') :
    if Region.wanted o (yielded ops a.tmps) = true then Oper.wp Try.prog o a (w1.alloc (.cells #[.int .i64 f.kind, .int .i64 f.num, .string f.text, .slice A f.list.length c, .slice B f.table.length d] 32)) K Q else E := by
  rw [if_pos (by simp [Region.wanted, hgd])]
  obtain ⟨i0, hi, hz0, hz1, hz2⟩ := info_parts infoVal
  obtain ⟨A', c', w', hrun, h2, h3, h4⟩ := run_app1 (P := Try.prog) w1 30 o.type 32 i0 _ 5 80 Try.underlying30 hi hz0 hz1 hz2 rfl (by decide) F v n xs hown (vCells f A c B d).toArray rfl (one_cells5 _ _ _ _ _ _ _ _ _) (by unfold maxLen; omega) hn
  unfold Oper.wp execOp
  have hrun' : (Builtin.append_ #[30, 30] o.type #[v, .slice (some ⟨w1.heap.size, 0, none⟩) 1 1]).run Try.prog (w1.alloc (.cells #[.int .i64 f.kind, .int .i64 f.num, .string f.text, .slice A f.list.length c, .slice B f.table.length d] 32)) = .ok (.slice A' (n + 1) c') w' := hrun
  simp only [ho, resolve, invoke, builtin, Sem.run_bind, Sem.run_pure, Result.andThen_ok, List.map_toArray, List.map_cons, List.map_nil, hs, hx, hrun']
  exact h A' c' w' h2 h3 h4

/-- What a round of CopyValue does. -/
theorem copyV_step {wr w1 w3 : World} {F : Nat → Prop} {A0 A1 A2 A3 : Option Addr} {j cap e1 e2 e3 c1 c2 : Nat} {G : Nat → Prop} {t : List FV} {f : FV} {css : List (List Value)} (hl : t.length = j) (hF : ∀ k, wr.heap.size ≤ k → F k)
    (ho : Own wr 32 5 F (.slice A0 j cap) j css.flatten) (hfs : VsAt wr G t css) (hG : ∀ k, G k → F k ∧ k < wr.heap.size ∧ ¬ ownS (.slice A0 j cap) k) (hf : f.fit c1 c2)
    (lo : LOwn w1 (wr.heap.size ≤ ·) (.slice A1 f.list.length e1) f.list) (tow : TOwn w1 (wr.heap.size ≤ ·) (.slice A2 f.table.length e2) f.table) (kA : Kept noneS wr w1)
    (o3 : Own w3 32 5 (fun k => ownS (.slice A0 j cap) k ∨ k = w1.heap.size + 1) (.slice A3 (j + 1) e3) (j + 1) (css.flatten ++ vCells f A1 e1 A2 e2))
    (k3 : Kept (ownS (.slice A0 j cap)) (w1.alloc (.cells (vCells f A1 e1 A2 e2).toArray 32)) w3) : LOwn w3 F (.slice A3 (j + 1) e3) (t ++ [f]) := by
  subst hl
  have hz := kA.size
  have ka : Kept noneS wr (w1.alloc (.cells (vCells f A1 e1 A2 e2).toArray 32)) := kA.alloc _
  have k1 : Kept noneS w1 (w1.alloc (.cells (vCells f A1 e1 A2 e2).toArray 32)) := (Kept.refl _ _).alloc _
  have e1' := lo.at'
  have e2' := tow.at'
  have hs : (w1.alloc (.cells (vCells f A1 e1 A2 e2).toArray 32)).heap.size = w1.heap.size + 1 := by simp
  refine LOwn.add (w := w1.alloc (.cells (vCells f A1 e1 A2 e2).toArray 32)) (v := .slice A0 t.length cap) (G := G) (G' := fun k => wr.heap.size ≤ k ∧ k < w1.heap.size) (VsAt.keep ka (fun _ _ _ q => q.elim) t css hfs) (fun k a => ?_) (VAt.mk (FV.refit hf e1'.2.1 e2'.2.1 e1'.2.2 e2'.2.2) ((e1'.1.mono (fun k a q => ⟨q, a⟩)).still k1) ((e2'.1.mono (fun k a q => ⟨q, a⟩)).still k1)) (fun k a => ?_) ?_ k3 (fun k q => ho.2 k q) ?_
  · obtain ⟨a1, a2, a3⟩ := hG k a
    exact ⟨a1, by rw [hs]; omega, a3⟩
  · refine ⟨hF k a.1, by rw [hs]; omega, fun q => ?_⟩
    have := ho.lt k q
    omega
  · rw [hs]
    exact o3
  · rw [hs]
    exact hF _ (by omega)

theorem TOwn.mono {w : World} {F G : Nat → Prop} {v : Value} {t : List FF} (h : TOwn w F v t) (hF : ∀ k, F k → G k) : TOwn w G v t := by
  obtain ⟨css, G', h1, h2, h3⟩ := h
  exact ⟨css, G', h1.mono (fun k _ a => hF k a), h2, fun k a => ⟨hF k (h3 k a).1, (h3 k a).2⟩⟩
theorem LOwn.mono {w : World} {F G : Nat → Prop} {v : Value} {t : List FV} (h : LOwn w F v t) (hF : ∀ k, F k → G k) : LOwn w G v t := by
  obtain ⟨css, G', h1, h2, h3⟩ := h
  exact ⟨css, G', h1.mono (fun k _ a => hF k a), h2, fun k a => ⟨hF k (h3 k a).1, (h3 k a).2⟩⟩

theorem results_cellS {P : Program} {fn : Func} {p : Tmp} {ty : TypeId} (h : fn.results = #[.cell p ty]) (tmps : Array Value) (w : World) (g : Nat) (t : TypeId) (cs : Array Value) (fr : Nat × Nat) (d : TypeDesc)
    (hp : tmps.getD p undef = .pointer (some ⟨g, 0, none⟩)) (hg : w.heap[g]? = some (.cells cs t fr))
    (hu : P.underlying ty = some d) (hd : (match d with | .struct _ | .array _ _ => true | _ => false) = true) (hi : (P.info? ty).map (·.size) = some cs.size) :
    (results fn tmps).run P w = .ok (.agg cs) w := by
  have hp' : tmps[p]?.getD undef = .pointer (some ⟨g, 0, none⟩) := by simpa using hp
  simp [results, h, hp', asAddr, run_loadVar_row w g t ty cs fr d hg hu hd hi]

theorem valSize : (Try.prog.info? 32).map (·.size) = some 5 := by kernel_rfl

set_option maxHeartbeats 1600000 in
theorem refCopyV (v : FV) (ihl : ∀ x ∈ v.list, RCV x) (iht : ∀ f ∈ v.table, RCV f.val) : RCV v := by
  intro A B c d F w hL hT hf
  have IHL := Lib.hid ihl
  have IHT := Lib.hid iht
  have HL := Lib.hid (hL.mono (G := (· < w.heap.size)) (fun k a _ => a))
  have HT := Lib.hid (hT.mono (G := (· < w.heap.size)) (fun k a _ => a))
  have HF := Lib.hid hf
  obtain ⟨⟨_, _⟩, ⟨_, _⟩, ht, hlc, hcb, htd, hdb, _, _⟩ := hf
  clear hL hT ihl iht
  have BA := Lib.hid (((Blk.new w 32 #[.int .i64 v.kind, .int .i64 v.num, .string v.text, .slice A v.list.length c, .slice B v.table.length d]).alloc (.cells #[.int .i64 0, .int .i64 0, .string ⟨#[]⟩, .slice none 0 0, .slice none 0 0] 32)).alloc (.cells #[.int .i64 v.kind, .int .i64 v.num, .string v.text, .slice none 0 0, .slice none 0 0] 32))
  have BB := Lib.hid ((Blk.new (w.alloc (.cells #[.int .i64 v.kind, .int .i64 v.num, .string v.text, .slice A v.list.length c, .slice B v.table.length d] 32)) 32 #[.int .i64 0, .int .i64 0, .string ⟨#[]⟩, .slice none 0 0, .slice none 0 0]).alloc (.cells #[.int .i64 v.kind, .int .i64 v.num, .string v.text, .slice none 0 0, .slice none 0 0] 32))
  have BC := Lib.hid (Blk.new ((w.alloc (.cells #[.int .i64 v.kind, .int .i64 v.num, .string v.text, .slice A v.list.length c, .slice B v.table.length d] 32)).alloc (.cells #[.int .i64 0, .int .i64 0, .string ⟨#[]⟩, .slice none 0 0, .slice none 0 0] 32)) 32 #[.int .i64 v.kind, .int .i64 v.num, .string v.text, .slice none 0 0, .slice none 0 0])
  have K0 := Lib.hid ((((Kept.refl noneS w).alloc (.cells #[.int .i64 v.kind, .int .i64 v.num, .string v.text, .slice A v.list.length c, .slice B v.table.length d] 32)).alloc (.cells #[.int .i64 0, .int .i64 0, .string ⟨#[]⟩, .slice none 0 0, .slice none 0 0] 32)).alloc (.cells #[.int .i64 v.kind, .int .i64 v.num, .string v.text, .slice none 0 0, .slice none 0 0] 32))
  have e1 : (w.alloc (.cells #[.int .i64 v.kind, .int .i64 v.num, .string v.text, .slice A v.list.length c, .slice B v.table.length d] 32)).heap.size = w.heap.size + 1 := by simp
  have e2 : ((w.alloc (.cells #[.int .i64 v.kind, .int .i64 v.num, .string v.text, .slice A v.list.length c, .slice B v.table.length d] 32)).alloc (.cells #[.int .i64 0, .int .i64 0, .string ⟨#[]⟩, .slice none 0 0, .slice none 0 0] 32)).heap.size = w.heap.size + 1 + 1 := by simp
  rw [e1] at BB
  rw [e2] at BC
  clear e1 e2
  go_enter Try.func13, Try.ntmps13
  go_wp2
  generalize ((w.alloc (.cells #[.int .i64 v.kind, .int .i64 v.num, .string v.text, .slice A v.list.length c, .slice B v.table.length d] 32)).alloc (.cells #[.int .i64 0, .int .i64 0, .string ⟨#[]⟩, .slice none 0 0, .slice none 0 0] 32)).alloc (.cells #[.int .i64 v.kind, .int .i64 v.num, .string v.text, .slice none 0 0, .slice none 0 0] 32) = wb at BA BB BC K0 ⊢
  have h2 : w.heap.size + 1 < w.heap.size + 1 + 1 := by omega
  generalize w.heap.size + 1 + 1 = b2 at BC h2 ⊢
  have h1 : w.heap.size < w.heap.size + 1 := by omega
  generalize w.heap.size + 1 = b1 at BB h1 h2 ⊢
  have h0 : w.heap.size ≤ w.heap.size := by omega
  generalize hb0 : w.heap.size = b0 at BA h0 h1 ⊢
  rw [← hb0] at h0
  have h0' : w.heap.size ≤ b0 := by omega
  clear hb0
  go_loopw [4] (fun i wr => ∃ (j : Nat) (A0 : Option Addr) (cap : Nat), j ≤ v.list.length ∧ i = .int .i64 j ∧ Blk wr b0 32 #[.int .i64 v.kind, .int .i64 v.num, .string v.text, .slice A v.list.length c, .slice B v.table.length d] ∧ Blk wr b1 32 #[.int .i64 0, .int .i64 0, .string ⟨#[]⟩, .slice none 0 0, .slice none 0 0] ∧ Blk wr b2 32 #[.int .i64 v.kind, .int .i64 v.num, .string v.text, .slice A0 j cap, .slice none 0 0] ∧ LOwn wr (b2 < ·) (.slice A0 j cap) (v.list.take j) ∧ Kept noneS w wr) (fun i _ => v.list.length - (intOf i).toNat)
  case atStart => exact ⟨0, none, 0, Nat.zero_le _, rfl, BA.out, BB.out, BC.out, LOwn.nil _ _, K0.out⟩
  case round =>
    obtain ⟨j, A0, cap, hj, rfl, ba, bb, bc, hlo, hk⟩ := hrel
    have KR := Lib.hid hk
    have hsz := hk.size
    clear hk BA BB BC
    have s3 : wr.cell? ⟨b0, 3, none⟩ = some (.slice A v.list.length c) := ba.cell 3
    have hz2 := bc.lt
    by_cases hlt : j < v.list.length
    · obtain ⟨css, G, hown, hfs, hG⟩ := hlo
      rw [List.length_take, Nat.min_eq_left hj] at hown
      have HO := Lib.hid hown
      have HFS := Lib.hid hfs
      have HG := Lib.hid hG
      clear hown hfs hG
      obtain ⟨g, o, B1, c1, B2, c2, rfl, hg, hf1, hL1, hT1, d0, d1, d2, d3, d4⟩ := (HL.out.still KR.out).at_ hlt
      have HI := Lib.hid (IHL.out v.list[j] (List.getElem_mem hlt))
      have HTk := Lib.hid (List.take_succ_eq_append_getElem hlt)
      generalize v.list[j] = f at *
      have t3 : wr.cell? ⟨b2, 3, none⟩ = some (.slice A0 j cap) := bc.cell 3
      have t3f : wr.frozen? ⟨b2, 3, none⟩ = false := bc.frozen 3
      have hji : (j : Int) < (v.list.length : Int) := by omega
      have hj0 : (0 : Int) ≤ (j : Int) := by omega
      have HL1 := Lib.hid hL1
      have HT1 := Lib.hid hT1
      have HF1 := Lib.hid hf1
      have BA := Lib.hid ba
      have BB := Lib.hid bb
      have BC := Lib.hid bc
      clear hL1 hT1 hf1 ba bb bc
      go_wp2
      go_region_law (first
          | (refine step_appV rfl (.tmp 20) (.tmp 27) rfl w1 (b2 < ·) (.slice A0 j cap) j css.flatten rfl (HO.out.keep0 KA.out (fun _ _ _ q => q.elim)) f A1 e1 A2 e2 rfl (by omega) ?_; intro A3 e3 w3 own3 cap3 k3; have kB : Kept (fun k => b2 < k) wr w3 := ((KA.out.alloc _).mono (fun _ _ q => q.elim)).trans2 k3 (fun k _ q => HO.out.2 k q); have t3' : w3.cell? ⟨b2, 3, none⟩ = some (.slice A0 j cap) := (BC.out.keep kB (fun q => Nat.lt_irrefl _ q)).cell 3; have t3f' : w3.frozen? ⟨b2, 3, none⟩ = false := (BC.out.keep kB (fun q => Nat.lt_irrefl _ q)).frozen 3; have KB := Lib.hid kB; have HO3 := Lib.hid own3; have HK3 := Lib.hid k3; clear kB own3 k3)
          | (go_simp; go_at_call 13; refine (HI.out B1 B2 c1 c2 (· < w.heap.size) wr.drew (HL1.out.still (Kept.refl _ _).drew) (HT1.out.still (Kept.refl _ _).drew) HF1.out).mono ?_; rintro e w1 ⟨A1, e1, A2, e2, rfl, lo1, to1, k1⟩; have kA : Kept noneS wr w1 := ((Kept.refl noneS wr).drew).trans k1; have z1 := kA.size; have t3' : w1.cell? ⟨b2, 3, none⟩ = some (.slice A0 j cap) := (BC.out.keep kA (fun q => q)).cell 3; have t3'' : (w1.alloc (.cells #[.int .i64 f.kind, .int .i64 f.num, .string f.text, .slice A1 f.list.length e1, .slice A2 f.table.length e2] 32)).cell? ⟨b2, 3, none⟩ = some (.slice A0 j cap) := ((BC.out.keep kA (fun q => q)).alloc _).cell 3; have LO1 := Lib.hid lo1; have TO1 := Lib.hid to1; have KA := Lib.hid kA; clear kA lo1 to1 k1))
      all_goals
        go_wp2
        go_roundw
        case rel =>
          have kC : Kept (b2 ≤ ·) wr (w3.setCell ⟨b2, 3, none⟩ (.slice A3 (j + 1) e3)) := (KB.out.mono (S' := (b2 ≤ ·)) (fun k _ q => Nat.le_of_lt q)).setCell (fun _ => Nat.le_refl _) _
          refine ⟨j + 1, A3, e3, by omega, by go_num, BA.out.keep kC (fun q => by omega), BB.out.keep kC (fun q => by omega), (BC.out.keep KB.out (fun q => Nat.lt_irrefl _ q)).set_ 3 _, ?_, KR.out.trans2 kC (fun k a q => by omega)⟩
          rw [HTk.out]
          exact (copyV_step (by rw [List.length_take]; omega) (fun k a => by omega) HO.out HFS.out HG.out HF1.out LO1.out TO1.out KA.out HO3.out HK3.out).keep ((Kept.refl (· = b2) _).setCell (fun _ => rfl) _) (fun k _ a b => by omega)
        case measure => simp [intOf]; omega
    · obtain rfl : j = v.list.length := by omega
      rw [List.take_length] at hlo
      have s4 : wr.cell? ⟨b0, 4, none⟩ = some (.slice B v.table.length d) := ba.cell 4
      have HLO := Lib.hid hlo
      have BA := Lib.hid ba
      have BB := Lib.hid bb
      have BC := Lib.hid bc
      clear hlo ba bb bc
      go_wp2_with fail
      refine (refCopyT v.table IHT.out B d (· < w.heap.size) wr (HT.out.still KR.out) (by omega)).mono ?_
      rintro e w5 ⟨A5, c5, rfl, to5, k5⟩
      have z5 := k5.size
      have TO5 := Lib.hid to5
      have LO5 := Lib.hid (HLO.out.keep k5 (fun _ _ _ q => q))
      have bb5 := BB.out.keep k5 (fun q => q)
      have r0 : w5.cell? ⟨b1, 0, none⟩ = some (.int .i64 0) := bb5.cell 0
      have r0f : w5.frozen? ⟨b1, 0, none⟩ = false := bb5.frozen 0
      have r1 : w5.cell? ⟨b1, 1, none⟩ = some (.int .i64 0) := bb5.cell 1
      have r1f : w5.frozen? ⟨b1, 1, none⟩ = false := bb5.frozen 1
      have r2 : w5.cell? ⟨b1, 2, none⟩ = some (.string ⟨#[]⟩) := bb5.cell 2
      have r2f : w5.frozen? ⟨b1, 2, none⟩ = false := bb5.frozen 2
      have r3 : w5.cell? ⟨b1, 3, none⟩ = some (.slice none 0 0) := bb5.cell 3
      have r3f : w5.frozen? ⟨b1, 3, none⟩ = false := bb5.frozen 3
      have r4 : w5.cell? ⟨b1, 4, none⟩ = some (.slice none 0 0) := bb5.cell 4
      have r4f : w5.frozen? ⟨b1, 4, none⟩ = false := bb5.frozen 4
      have n12 : b1 ≠ b2 := by omega
      have n21 : b2 ≠ b1 := by omega
      have BB5 := Lib.hid bb5
      have bc5 := BC.out.keep k5 (fun q => q)
      have q0 : w5.cell? ⟨b2, 0, none⟩ = some (.int .i64 v.kind) := bc5.cell 0
      have q1 : w5.cell? ⟨b2, 1, none⟩ = some (.int .i64 v.num) := bc5.cell 1
      have q2 : w5.cell? ⟨b2, 2, none⟩ = some (.string v.text) := bc5.cell 2
      have q3 : w5.cell? ⟨b2, 3, none⟩ = some (.slice A0 v.list.length cap) := bc5.cell 3
      have q4 : w5.cell? ⟨b2, 4, none⟩ = some (.slice none 0 0) := bc5.cell 4
      have q4f : w5.frozen? ⟨b2, 4, none⟩ = false := bc5.frozen 4
      have BC5 := Lib.hid bc5
      have K5 := Lib.hid k5
      clear to5 bc5 k5 bb5
      go_wp2
      have kS : ∀ u0 u1 u2 u3 u4 u5, Kept (fun k => b1 ≤ k ∧ k ≤ b2) w5 ((((((w5.setCell ⟨b2, 4, none⟩ u5).setCell ⟨b1, 0, none⟩ u0).setCell ⟨b1, 1, none⟩ u1).setCell ⟨b1, 2, none⟩ u2).setCell ⟨b1, 3, none⟩ u3).setCell ⟨b1, 4, none⟩ u4) := fun u0 u1 u2 u3 u4 u5 =>
        ((((((Kept.refl (fun k => b1 ≤ k ∧ k ≤ b2) w5).setCell (p := ⟨b2, 4, none⟩) (fun _ => ⟨by show b1 ≤ b2; omega, Nat.le_refl _⟩) u5).setCell (p := ⟨b1, 0, none⟩) (fun _ => ⟨Nat.le_refl _, by show b1 ≤ b2; omega⟩) u0).setCell (p := ⟨b1, 1, none⟩) (fun _ => ⟨Nat.le_refl _, by show b1 ≤ b2; omega⟩) u1).setCell (p := ⟨b1, 2, none⟩) (fun _ => ⟨Nat.le_refl _, by show b1 ≤ b2; omega⟩) u2).setCell (p := ⟨b1, 3, none⟩) (fun _ => ⟨Nat.le_refl _, by show b1 ≤ b2; omega⟩) u3).setCell (p := ⟨b1, 4, none⟩) (fun _ => ⟨Nat.le_refl _, by show b1 ≤ b2; omega⟩) u4
      refine bodyPost_ret (results_cellS rfl _ _ b1 32 _ _ _ rfl ((((((BB5.out.far (p := ⟨b2, 4, none⟩) n12 _).set_ 0 _).set_ 1 _).set_ 2 _).set_ 3 _).set_ 4 _) Try.underlying32 rfl valSize) rfl ?_
      exact ⟨A0, cap, A5, c5, rfl, (LO5.out.keep (kS _ _ _ _ _ _) (fun k _ a b => by omega)).mono (fun k a => by omega), (TO5.out.keep (kS _ _ _ _ _ _) (fun k _ a b => by omega)).mono (fun k a => by omega), (KR.out.trans K5.out).trans2 (kS _ _ _ _ _ _) (fun k a q => absurd q.1 (by omega))⟩

theorem rcv_all : ∀ (n : Nat) (v : FV), v.sz ≤ n → RCV v
  | 0, v, h => by
    have := v.sz_eq
    omega
  | n + 1, v, h => by
    have hs := v.sz_eq
    refine refCopyV v (fun x hx => rcv_all n x ?_) (fun f hf => rcv_all n f.val ?_)
    · have := szVs_mem _ x hx
      omega
    · have := szFs_mem _ f hf
      omega
theorem rcv (v : FV) : RCV v := rcv_all v.sz v (Nat.le_refl _)

theorem refCopy (t : List FF) (A : Option Addr) (c : Nat) (F : Nat → Prop) (w : World) (h : TAt w F A t) (hl : t.length * 96 ≤ 140737488351232) :
    Calls Try.prog 7 #[.slice A t.length c] w fun e w' => ∃ A' c', e = .returned (.slice A' t.length c') ∧ TOwn w' (w.heap.size ≤ ·) (.slice A' t.length c') t ∧ Kept noneS w w' :=
  refCopyT t (fun f _ => rcv f.val) A c F w h hl

end Go.Proofs.Ytdhaojicphhikaa
