/-
  first: an actor's first item is taken out.
-/
import Derived.Test.YtfgpnfboolbbbaaBbWt
import Derived.Test.YtfgpnfboolbbbaaBbEnv
namespace Go.Proofs.Ytfgpnfboolbbbaa
open Go Go.Conc Go.RowKit
def Sy.setE (s : Sy) (e' : Ent) (own' : Nat → Nat × Nat) : Sy := { s with ents := s.ents.map fun x => if x.gi = e'.gi then e' else x, own := own' }
theorem run_tail {P : Program} {u : World} {x : Act} {o : Oper} {t e : TypeId} {X : Operand} {A : Option Addr} {m c sz : Nat} (hop : o.op = .slice t X (some (.const (.int .i64 1))) none none) (hx : x.eval X = .slice A (m + 1) c) (ht : P.underlying t = some (.slice e))
    (hs : (P.info? e).map (·.size) = some sz) : (execOp x.eval o).run P u = .ok (.value (.slice (if c = 1 then A else A.map (·.add sz)) m (c - 1))) u := by
  obtain ⟨i, hi, rfl⟩ := Option.map_eq_some_iff.1 hs
  have h1 : (1 : Int) ≤ ((m + 1 : Nat) : Int) := by omega
  have h2 : x.eval (.const (.int .i64 1)) = .int .i64 1 := rfl
  have h3 := run_sliceBound (P := P) u .i64 1 (m + 1) BoundsCode.sliceB (by decide) h1
  unfold execOp
  simp [hop, hx, h2, Instr.sliceAt, Instr.slice, run_underlying ht, Instr.sliceBounds, h3, sizeOf, typeInfo, hi, Result.andThen]
section
variable {Z : Scene} {n : Nat} {hd : Option (Nat × Chair)} {w w' : World} {s : Sy} {lk lk' : Int} {e e' : Ent} {F : Nat → Prop} {own' : Nat → Nat × Nat}
theorem Sy.setE_mem {y : Ent} (hy : y ∈ (s.setE e' own').ents) : y = e' ∨ (y ∈ s.ents ∧ y.gi ≠ e'.gi) := by
  obtain ⟨x, hx, rfl⟩ := List.mem_map.1 hy
  by_cases q : x.gi = e'.gi
  · simp [q]
  · simp [q, hx]
theorem Sy.setE_has (he : e ∈ s.ents) (hc : e'.toCore1 = e.toCore1) : e' ∈ (s.setE e' own').ents :=
  List.mem_map.2 ⟨e, he, by simp [hc]⟩
theorem Sy.setE_core (hn : (s.ents.map (·.gi)).Nodup) (he : e ∈ s.ents) (hc : e'.toCore1 = e.toCore1) : (s.setE e' own').ents.map (·.toCore1) = s.ents.map (·.toCore1) := by
  unfold Sy.setE
  rw [List.map_map]
  refine List.map_congr_left fun x hx => ?_
  by_cases q : x.gi = e'.gi
  · have : x = e := nodup_gi hn hx he (by rw [q, hc])
    subst this
    simp [hc]
  · simp [q]
theorem map_core {α : Type} (g : Core1 → α) (l : List Ent) : l.map (fun x => g x.toCore1) = (l.map (·.toCore1)).map g := by simp
theorem Sy.setE_map {α : Type} (g : Core1 → α) (hn : (s.ents.map (·.gi)).Nodup) (he : e ∈ s.ents) (hc : e'.toCore1 = e.toCore1) : (s.setE e' own').ents.map (fun x => g x.toCore1) = s.ents.map (fun x => g x.toCore1) := by
  rw [map_core, map_core, Sy.setE_core hn he hc]
theorem find_core (p : Core1 → Bool) (l : List Ent) : (l.find? fun x => p x.toCore1).map (·.toCore1) = (l.map (·.toCore1)).find? p := by
  rw [List.find?_map]; rfl
theorem Sy.seats_core (s : Sy) (i : Nat) : s.seats i = ((s.ents.map (·.toCore1)).find? fun c => c.gi == i).map (wChair s.S s.qc) := by
  rw [← find_core, Option.map_map]; rfl
theorem Sy.setE_seats (hn : (s.ents.map (·.gi)).Nodup) (he : e ∈ s.ents) (hc : e'.toCore1 = e.toCore1) : (s.setE e' own').seats = s.seats := by
  funext i
  rw [Sy.seats_core, Sy.seats_core, Sy.setE_core hn he hc]
  rfl
theorem Sy.setE_len : (s.setE e' own').ents.length = s.ents.length := by simp [Sy.setE]
theorem Rep.turnE (h : Rep Z n hd w s lk) (he : e ∈ s.ents) (hc : e'.toCore1 = e.toCore1) (hk : Kept F w w') (hF : ∀ k, k < w.heap.size → F k → (s.own k).1 = e.gi) (ho : ∀ k, k < w.heap.size → own' k = s.own k) (hv : ∀ k, 4 ≤ (own' k).2 → ¬ Z.Hd k ∧ ¬ Z.C k)
    (hE : EntOk w' own' e') (hfr : ∀ k, w'.heap.size ≤ k → own' k = (0, 0)) : Rep Z n hd w' (s.setE e' own') lk := by
  have hpos := (h.ents e he).pos
  let F' : Nat → Prop := fun k => F k ∧ k < w.heap.size
  have hk' : Kept F' w w' := hk.mono fun k hlt hf => ⟨hf, hlt⟩
  have key : ∀ k t, s.own k = (0, t) → ¬ F' k := fun k t hok hf => by
    have := hF k hf.2 hf.1
    rw [hok] at this
    simp at this
    omega
  have hlt0 : ∀ k t, s.own k = t → k < w.heap.size → own' k = t := fun k t h1 h2 => by rw [ho k h2]; exact h1
  have hwS := h.sys.lt
  have hwM := h.map.lt
  refine ⟨?_, ?_, fun y hy => ?_, ?_, fun y hy => ?_, hlt0 _ _ h.oS hwS, ?_, hlt0 _ _ h.om hwM, fun hs => ⟨(h.opn hs).1.keep hk' (key _ _ h.oq), (h.opn hs).2⟩, h.hS, fun y hy => ?_, hv, fun y hy => ?_, fun hs => ?_, ?_, fun a q => ?_, fun j d q => ?_, h.pos, hfr⟩
  · have := h.sys.keep hk' (key _ _ h.oS)
    have hcells : (s.setE e' own').cells lk = s.cells lk := by
      simp only [Sy.cells, Sy.setE_len]
      rfl
    rw [hcells]
    exact this
  · rw [show (s.setE e' own').ents.map (fun e => (e.id, e.b)) = s.ents.map (fun e => (e.id, e.b)) from Sy.setE_map (fun c => (c.id, c.b)) h.gis he hc]
    exact h.map.keep hk' (key _ _ h.om)
  · rcases Sy.setE_mem hy with rfl | ⟨h1, h2⟩
    · exact hE
    · exact ((h.ents y h1).reown ho).keep hk' fun k hf q => h2 (by rw [← q, ho k hf.2, hF k hf.2 hf.1, hc])
  · rw [show (s.setE e' own').ents.map (·.gi) = s.ents.map (·.gi) from Sy.setE_map (fun c => c.gi) h.gis he hc]
    exact h.gis
  · rcases Sy.setE_mem hy with rfl | ⟨h1, h2⟩
    · rw [hc]; exact h.gin e he
    · exact h.gin y h1
  · have hns : s.stopped = false := by
      cases q : s.stopped with
      | false => rfl
      | true => rw [h.stop q] at he; cases he
    exact hlt0 _ _ h.oq (h.opn hns).1.lt
  · rcases Sy.setE_mem hy with rfl | ⟨h1, h2⟩
    · rw [hc]; exact h.hE e he
    · exact h.hE y h1
  · rcases Sy.setE_mem hy with rfl | ⟨h1, h2⟩
    · rw [hc]; exact h.cE e he
    · exact h.cE y h1
  · have : s.ents = [] := h.stop hs
    rw [this] at he
    cases he
  · rw [h.inb]
    have hse := Sy.setE_seats (own' := own') h.gis he hc
    cases hd with
    | none => exact hse.symm
    | some p => simp only [Sy.inb, hse]
  · obtain ⟨h1, h2⟩ := h.shun a q
    refine ⟨fun y hy => ?_, h2⟩
    rcases Sy.setE_mem hy with rfl | ⟨h3, h4⟩
    · rw [hc]; exact h1 e he
    · exact h1 y h3
  · obtain ⟨x, hx, h1, h2⟩ := h.hdk j d q
    by_cases hg : x.gi = e'.gi
    · have : x = e := nodup_gi h.gis hx he (by rw [hg, hc])
      subst this
      exact ⟨e', Sy.setE_has hx hc, by rw [hc]; exact h1, ⟨by rw [hc]; exact h2.val, by rw [hc]; exact h2.has⟩⟩
    · exact ⟨x, List.mem_map.2 ⟨x, hx, by simp [hg]⟩, h1, h2⟩
variable {Post : Value → World → Prop} {h : Nat} {c : Frame} {cs : List Frame}
/-- The first item is taken out. -/
def Ent.pop (e : Ent) : Ent := { e with A := if e.c = 1 then e.A else e.A.map (·.add 1), c := e.c - 1, items := e.items.tail }
theorem Rep.pop (R : Rep Z n hd w s lk) (he : e ∈ s.ents) {i : It} {rest : List It} (hi : e.items = i :: rest) :
    Rep Z n hd (w.setCell ⟨e.b, 0, none⟩ (.slice e.pop.A rest.length e.pop.c)) (s.setE e.pop s.own) lk ∧ Kept (· = e.b) w (w.setCell ⟨e.b, 0, none⟩ (.slice e.pop.A rest.length e.pop.c)) := by
  have hk := kept_set w ⟨e.b, 0, none⟩ (.slice e.pop.A rest.length e.pop.c)
  have hE := R.ents e he
  have hno : ∀ k t, s.own k = (e.gi, t) → t ≠ 1 → ¬ k = e.b := fun k t ho ht q => by
    rw [q, hE.ob] at ho
    exact ht (Prod.mk.inj ho).2.symm
  have hit : e.pop.items = rest := by simp [Ent.pop, hi]
  refine ⟨R.turnE he rfl hk (fun k _ hf => by rw [hf, hE.ob]) (fun _ _ => rfl) R.vis ⟨?_, ?_, fun x hx => ?_, ?_, hE.wk.keep hk (hno _ _ hE.ow (by decide)), hE.dn.keep hk (hno _ _ hE.od (by decide)), hE.ob, hE.ow, hE.od, hE.pos⟩ (fun k hk2 => R.fresh k (Nat.le_trans hk.size hk2)), hk⟩
  · have := hE.blk.set_ 0 (.slice e.pop.A rest.length e.pop.c)
    show Blk _ e.b _ #[.slice e.pop.A e.pop.items.length e.pop.c, .chan (some e.wk), .chan (some e.dn)]
    rw [hit]
    simpa [Ent.cells] using this
  · have := hE.row.tail (by rw [hi]; simp)
    rw [hi] at this
    simp only [List.length_cons, Nat.add_sub_cancel, List.map_cons, List.drop_succ_cons, List.drop_zero] at this
    rw [hit]
    exact this.keep hk fun k _ ho q => hno k _ ho (by decide) q
  · rw [hit] at hx
    exact (hE.its x (by rw [hi]; exact .tail _ hx)).keep hk fun k _ ho q => hno k _ ho (by omega) q
  · rw [hit]
    have := hE.tks
    rw [hi] at this
    exact (List.nodup_cons.1 this).2
set_option maxRecDepth 50000 in
set_option maxHeartbeats 4000000 in
theorem first_none (R : Rep Z n hd w s 0) (id : Int) (h0 : s.len id = 0) (H : ∀ w', Rep Z n hd w' s 0 → Kept (· = s.S) w w' → Run Try.prog Post Z n h 0 (G (c.finish (.tuple #[.pointer none, .slice none 0 0])) cs) w') :
    Run Try.prog Post Z n h 0 (G ((base 30).at { tmps := #[.pointer (some ⟨s.S, 0, none⟩), .int .i64 id] ++ Array.replicate (Try.f30.ntmps - 2) undef, defers := [] } [.code (Try.f30.body.getD .skip)]) (c :: cs)) w := by
  refine Run.okG fun hok => ?_
  simp only [Try.ntmps30]
  try simp only [Act.put, Act.eval, nrmL, Nat.reduceAdd, Nat.reduceSub]
  simp only [Try.f30, Option.getD_some]
  repeat (first
    | refine Run.auto rfl ?_
    | ((first | (refine Run.quietop rfl rfl rfl (by decide) ?_ ?_; (focus (intro w₁; simp [go_sem]; done)); intro w₁ K hK; go_simp; refine hK _ ?_; clear hK K w₁) | (refine Run.lookq theEnv rfl rfl rfl (by decide) rfl (fun _ _ q => by cases q) ?_; apply Exists.intro; apply And.intro; (focus (intro w; apply run_eq_of'; intro K hK; go_simp; exact hK))) | (refine Run.len theEnv rfl rfl (by decide) rfl rfl (by kernel_rfl) ?_) | (refine Run.not rfl rfl ?_)); try simp only [Act.put, Act.eval, nrmL, Nat.reduceAdd])
    | (refine Run.ctl (fun _ => stepG_region) rfl ?_; simp only [nrmL, Nat.reduceAdd, Nat.zero_add, List.range, List.range.loop])
    | (refine Run.ctl (fun _ => stepG_cond (t := true) rfl) rfl ?_; simp only [if_true])
    | (refine Run.ctl (fun _ => stepG_cond (t := false) rfl) rfl ?_; simp only [Bool.false_eq_true, if_false])
    | refine Run.ctl (fun _ => stepG_ret') rfl ?_
    | refine Run.ctl (fun _ => stepG_end) rfl ?_)
  refine Run.enter rfl rfl (by decide) rfl Try.func22 (by kernel_rfl) rfl ?_
  simp only [Act.eval, nrmL, Nat.reduceAdd]
  refine lock_run (a := ⟨s.S, 1, none⟩) (R.cell 1) (R.sys.frozen 1) (R.npl 1 (by decide)) (R.nC hok) ?_
  obtain ⟨R1, k1⟩ := R.lkTo 1
  have hok1 := hok.setCell ⟨s.S, 1, none⟩ (.int .i32 1)
  generalize w.setCell ⟨s.S, 1, none⟩ (.int .i32 1) = w1 at R1 k1 hok1
  rw [Frame.finish_at]
  try simp only [Act.put, Act.eval, nrmL, Nat.reduceAdd]
  repeat (first
    | refine Run.auto rfl ?_
    | ((first | (refine Run.quietop rfl rfl rfl (by decide) ?_ ?_; (focus (intro w₁; simp [go_sem]; done)); intro w₁ K hK; go_simp; refine hK _ ?_; clear hK K w₁) | (refine Run.lookq theEnv rfl rfl rfl (by decide) rfl (fun _ _ q => by cases q) ?_; apply Exists.intro; apply And.intro; (focus (intro w; apply run_eq_of'; intro K hK; go_simp; exact hK))) | (refine Run.len theEnv rfl rfl (by decide) rfl rfl (by kernel_rfl) ?_) | (refine Run.not rfl rfl ?_)); try simp only [Act.put, Act.eval, nrmL, Nat.reduceAdd])
    | (refine Run.ctl (fun _ => stepG_region) rfl ?_; simp only [nrmL, Nat.reduceAdd, Nat.zero_add, List.range, List.range.loop])
    | (refine Run.ctl (fun _ => stepG_cond (t := true) rfl) rfl ?_; simp only [if_true])
    | (refine Run.ctl (fun _ => stepG_cond (t := false) rfl) rfl ?_; simp only [Bool.false_eq_true, if_false])
    | refine Run.ctl (fun _ => stepG_ret') rfl ?_
    | refine Run.ctl (fun _ => stepG_end) rfl ?_)
  refine Run.defer rfl rfl (by decide) rfl ?_
  try simp only [Act.put, Act.eval, nrmL, Nat.reduceAdd]
  repeat (first
    | refine Run.auto rfl ?_
    | ((first | (refine Run.quietop rfl rfl rfl (by decide) ?_ ?_; (focus (intro w₁; simp [go_sem]; done)); intro w₁ K hK; go_simp; refine hK _ ?_; clear hK K w₁) | (refine Run.lookq theEnv rfl rfl rfl (by decide) rfl (fun _ _ q => by cases q) ?_; apply Exists.intro; apply And.intro; (focus (intro w; apply run_eq_of'; intro K hK; go_simp; exact hK))) | (refine Run.len theEnv rfl rfl (by decide) rfl rfl (by kernel_rfl) ?_) | (refine Run.not rfl rfl ?_)); try simp only [Act.put, Act.eval, nrmL, Nat.reduceAdd])
    | (refine Run.ctl (fun _ => stepG_region) rfl ?_; simp only [nrmL, Nat.reduceAdd, Nat.zero_add, List.range, List.range.loop])
    | (refine Run.ctl (fun _ => stepG_cond (t := true) rfl) rfl ?_; simp only [if_true])
    | (refine Run.ctl (fun _ => stepG_cond (t := false) rfl) rfl ?_; simp only [Bool.false_eq_true, if_false])
    | refine Run.ctl (fun _ => stepG_ret') rfl ?_
    | refine Run.ctl (fun _ => stepG_end) rfl ?_)
  refine Run.ld (a := ⟨s.S, 3, none⟩) (v := .map (some s.mp)) rfl rfl (by decide) (R1.cell 3) (R1.nsh 3 (.inr (by decide))) (fun w₁ hld => ⟨by go_simp, by simp [go_sem, hld]⟩) ?_
  try simp only [Act.put, Act.eval, nrmL, Nat.reduceAdd]
  repeat (first
    | refine Run.auto rfl ?_
    | ((first | (refine Run.quietop rfl rfl rfl (by decide) ?_ ?_; (focus (intro w₁; simp [go_sem]; done)); intro w₁ K hK; go_simp; refine hK _ ?_; clear hK K w₁) | (refine Run.lookq theEnv rfl rfl rfl (by decide) rfl (fun _ _ q => by cases q) ?_; apply Exists.intro; apply And.intro; (focus (intro w; apply run_eq_of'; intro K hK; go_simp; exact hK))) | (refine Run.len theEnv rfl rfl (by decide) rfl rfl (by kernel_rfl) ?_) | (refine Run.not rfl rfl ?_)); try simp only [Act.put, Act.eval, nrmL, Nat.reduceAdd])
    | (refine Run.ctl (fun _ => stepG_region) rfl ?_; simp only [nrmL, Nat.reduceAdd, Nat.zero_add, List.range, List.range.loop])
    | (refine Run.ctl (fun _ => stepG_cond (t := true) rfl) rfl ?_; simp only [if_true])
    | (refine Run.ctl (fun _ => stepG_cond (t := false) rfl) rfl ?_; simp only [Bool.false_eq_true, if_false])
    | refine Run.ctl (fun _ => stepG_ret') rfl ?_
    | refine Run.ctl (fun _ => stepG_end) rfl ?_)
  refine Run.look theEnv rfl rfl (by decide) rfl (fun _ _ q => by cases q) (s.val id) (fun u hu _ => by have := R1.look id u hu; go_simp) ?_
  try simp only [Act.put, Act.eval, nrmL, Nat.reduceAdd]
  have hend : ∀ (T : Array Value) (_ : T[4]? = some (.pointer none)) (_ : T[5]? = some (.slice none 0 0)) (k : List Item), Run Try.prog Post Z n h 0 (G { (base 30).at ⟨T, [dcall 23 #[.pointer (some ⟨s.S, 1, none⟩)]]⟩ k with mode := .returning } (c :: cs)) w1 := by
    intro T hT hT' k
    refine Run.undefer rfl Try.func23 (by kernel_rfl) rfl ?_
    simp only [Try.ntmps23]
    try simp only [Act.put, Act.eval, nrmL, Nat.reduceAdd, Nat.reduceSub]
    refine unlock_runD (a := ⟨s.S, 1, none⟩) (R1.cell 1) (R1.sys.frozen 1) (R1.npl 1 (by decide)) (R1.nsh 1 (.inr (by decide))) (R1.nC hok1) rfl ?_
    obtain ⟨R2, k2⟩ := R1.lkTo 0
    refine Run.leave2 rfl rfl Try.func30 (by rfl) ?_
    rw [Array.getD_eq_getD_getElem?, Array.getD_eq_getD_getElem?, hT, hT']
    exact H _ R2 (k1.trans k2)
  rcases he : s.ent id with _ | x
  · rw [show s.val id = .pointer none by simp [Sy.val, he]]
    repeat (first
      | refine Run.auto rfl ?_
      | ((first | (refine Run.quietop rfl rfl rfl (by decide) ?_ ?_; (focus (intro w₁; simp [go_sem]; done)); intro w₁ K hK; go_simp; refine hK _ ?_; clear hK K w₁) | (refine Run.lookq theEnv rfl rfl rfl (by decide) rfl (fun _ _ q => by cases q) ?_; apply Exists.intro; apply And.intro; (focus (intro w; apply run_eq_of'; intro K hK; go_simp; exact hK))) | (refine Run.len theEnv rfl rfl (by decide) rfl rfl (by kernel_rfl) ?_) | (refine Run.not rfl rfl ?_)); try simp only [Act.put, Act.eval, nrmL, Nat.reduceAdd])
      | (refine Run.ctl (fun _ => stepG_region) rfl ?_; simp only [nrmL, Nat.reduceAdd, Nat.zero_add, List.range, List.range.loop])
      | (refine Run.ctl (fun _ => stepG_cond (t := true) rfl) rfl ?_; simp only [if_true])
      | (refine Run.ctl (fun _ => stepG_cond (t := false) rfl) rfl ?_; simp only [Bool.false_eq_true, if_false])
      | refine Run.ctl (fun _ => stepG_ret') rfl ?_
      | refine Run.ctl (fun _ => stepG_end) rfl ?_)
    exact hend _ rfl rfl _
  · rw [show s.val id = ptr x.b by simp [Sy.val, he]]
    have hx := (Sy.ent_some he).1
    have hl : x.items.length = 0 := by simpa [Sy.len, he] using h0
    unfold ptr
    repeat (first
      | refine Run.auto rfl ?_
      | ((first | (refine Run.quietop rfl rfl rfl (by decide) ?_ ?_; (focus (intro w₁; simp [go_sem]; done)); intro w₁ K hK; go_simp; refine hK _ ?_; clear hK K w₁) | (refine Run.lookq theEnv rfl rfl rfl (by decide) rfl (fun _ _ q => by cases q) ?_; apply Exists.intro; apply And.intro; (focus (intro w; apply run_eq_of'; intro K hK; go_simp; exact hK))) | (refine Run.len theEnv rfl rfl (by decide) rfl rfl (by kernel_rfl) ?_) | (refine Run.not rfl rfl ?_)); try simp only [Act.put, Act.eval, nrmL, Nat.reduceAdd])
      | (refine Run.ctl (fun _ => stepG_region) rfl ?_; simp only [nrmL, Nat.reduceAdd, Nat.zero_add, List.range, List.range.loop])
      | (refine Run.ctl (fun _ => stepG_cond (t := true) rfl) rfl ?_; simp only [if_true])
      | (refine Run.ctl (fun _ => stepG_cond (t := false) rfl) rfl ?_; simp only [Bool.false_eq_true, if_false])
      | refine Run.ctl (fun _ => stepG_ret') rfl ?_
      | refine Run.ctl (fun _ => stepG_end) rfl ?_)
    refine Run.ld (a := ⟨x.b, 0, none⟩) (v := .slice x.A 0 x.c) rfl rfl (by decide) ((by rw [R1.cellE hx 0]; simp [Ent.cells, hl])) (R1.nshE hx 0) (fun w₁ hld => ⟨by go_simp, by simp [go_sem, hld]⟩) ?_
    try simp only [Act.put, Act.eval, nrmL, Nat.reduceAdd]
    repeat (first
      | refine Run.auto rfl ?_
      | ((first | (refine Run.quietop rfl rfl rfl (by decide) ?_ ?_; (focus (intro w₁; simp [go_sem]; done)); intro w₁ K hK; go_simp; refine hK _ ?_; clear hK K w₁) | (refine Run.lookq theEnv rfl rfl rfl (by decide) rfl (fun _ _ q => by cases q) ?_; apply Exists.intro; apply And.intro; (focus (intro w; apply run_eq_of'; intro K hK; go_simp; exact hK))) | (refine Run.len theEnv rfl rfl (by decide) rfl rfl (by kernel_rfl) ?_) | (refine Run.not rfl rfl ?_)); try simp only [Act.put, Act.eval, nrmL, Nat.reduceAdd])
      | (refine Run.ctl (fun _ => stepG_region) rfl ?_; simp only [nrmL, Nat.reduceAdd, Nat.zero_add, List.range, List.range.loop])
      | (refine Run.ctl (fun _ => stepG_cond (t := true) rfl) rfl ?_; simp only [if_true])
      | (refine Run.ctl (fun _ => stepG_cond (t := false) rfl) rfl ?_; simp only [Bool.false_eq_true, if_false])
      | refine Run.ctl (fun _ => stepG_ret') rfl ?_
      | refine Run.ctl (fun _ => stepG_end) rfl ?_)
    exact hend _ rfl rfl _
end
end Go.Proofs.Ytfgpnfboolbbbaa
namespace Go.Proofs.Ytfgpnfboolbbbaa
open Go Go.Conc Go.RowKit
section
variable {P : Program} {Post : Value → World → Prop} {Z : Scene} {n h k : Nat} {w : World} {b : Frame} {x : Act} {kk : List Item} {cs : List Frame} {ops : Array Oper} {i : Nat} {rest : List Nat} {o : Oper} {t : TypeId} {X Y : Operand} {a : Addr} {v : Value}
theorem store_one (hop : o.op = .store t X Y) (hx : x.eval X = .pointer (some a)) (hy : x.eval Y = v) (h1 : v.oneCell' = true) (hcs : v.cells = #[v]) (hsz : (P.info? t).map (·.size) = some 1) (hsp : a.spot = none) (hc : (w.cell? a).isSome = true) (hz : w.frozen? a = false) :
    (execOp x.eval o).run P w = .ok .skip (w.setCell a v) ∧ (execOp x.eval o).events P w #[] = #[⟨.cell a, true, false⟩] := by
  obtain ⟨i, hi, hs⟩ := Option.map_eq_some_iff.1 hsz
  obtain ⟨u, hu⟩ := Option.isSome_iff_exists.1 hc
  have e1 := run_store P w a v .plain h1
  have e2 := events_store P w #[] a v .plain h1
  have ea : a.add 0 = a := by obtain ⟨b, o, s⟩ := a; simp at hsp; subst hsp; simp [Addr.add_lit]
  rw [hu] at e2
  simp [hz] at e2
  simp only [stored, hu, hz] at e1
  unfold execOp
  simp [hop, hx, hy, Instr.storeAt, Instr.sureAddr, storeVar, sizeOf, typeInfo, hi, hs, hcs, storeCells, Result.andThen, ea, e1, e2]
theorem Run.stO (a : Addr) (v : Value) (ho : ops[i]? = some o) (hw : Region.wanted o (yielded ops x.tmps) = true) (hk : b.kind ≠ .early) (hop : o.op = .store t X Y) (hx : x.eval X = .pointer (some a)) (hy : x.eval Y = v) (h1 : v.oneCell' = true) (hcs : v.cells = #[v])
    (hsz : (P.info? t).map (·.size) = some 1) (hsp : a.spot = none) (hc : (w.cell? a).isSome = true) (hz : w.frozen? a = false) (hs : ¬ Z.Sh (.cell a)) (hp : ¬ Z.Place a) (hC : ¬ Z.C a.block)
    (H : Run P Post Z n h k (G (b.at (x.put o.dst undef) (.inRegion ops rest :: kk)) cs) (w.setCell a v)) : Run P Post Z n h k (G (b.at x (.inRegion ops (i :: rest) :: kk)) cs) w :=
  Run.st ho hw hk hc hz hs hp hC (fun _ h2 h3 => store_one hop hx hy h1 hcs hsz hsp h2 h3) H
end
end Go.Proofs.Ytfgpnfboolbbbaa
namespace Go.Proofs.Ytfgpnfboolbbbaa
open Go Go.Conc Go.RowKit
section
variable {Z : Scene} {n : Nat} {hd : Option (Nat × Chair)} {w : World} {s : Sy} {e : Ent} {Post : Value → World → Prop} {h : Nat} {c : Frame} {cs : List Frame}
set_option maxRecDepth 50000 in
set_option maxHeartbeats 4000000 in
theorem first_some (R : Rep Z n hd w s 0) (id : Int) (he : s.ent id = some e) {i : It} {rest : List It} (hi : e.items = i :: rest)
    (H : ∀ w', Rep Z n hd w' (s.setE e.pop s.own) 0 → Kept (fun k => k = s.S ∨ k = e.b) w w' → Run Try.prog Post Z n h 0 (G (c.finish (.tuple #[ptr e.b, i.val])) cs) w') :
    Run Try.prog Post Z n h 0 (G ((base 30).at { tmps := #[.pointer (some ⟨s.S, 0, none⟩), .int .i64 id] ++ Array.replicate (Try.f30.ntmps - 2) undef, defers := [] } [.code (Try.f30.body.getD .skip)]) (c :: cs)) w := by
  refine Run.okG fun hok => ?_
  have hx := (Sy.ent_some he).1
  simp only [Try.ntmps30]
  try simp only [Act.put, Act.eval, nrmL, Nat.reduceAdd, Nat.reduceSub]
  simp only [Try.f30, Option.getD_some]
  repeat (first
    | refine Run.auto rfl ?_
    | ((first | (refine Run.quietop rfl rfl rfl (by decide) ?_ ?_; (focus (intro w₁; simp [go_sem]; done)); intro w₁ K hK; go_simp; refine hK _ ?_; clear hK K w₁) | (refine Run.lookq theEnv rfl rfl rfl (by decide) rfl (fun _ _ q => by cases q) ?_; apply Exists.intro; apply And.intro; (focus (intro w; apply run_eq_of'; intro K hK; go_simp; exact hK))) | (refine Run.len theEnv rfl rfl (by decide) rfl rfl (by kernel_rfl) ?_) | (refine Run.not rfl rfl ?_)); try simp only [Act.put, Act.eval, nrmL, Nat.reduceAdd])
    | (refine Run.ctl (fun _ => stepG_region) rfl ?_; simp only [nrmL, Nat.reduceAdd, Nat.zero_add, List.range, List.range.loop])
    | (refine Run.ctl (fun _ => stepG_cond (t := true) rfl) rfl ?_; simp only [if_true])
    | (refine Run.ctl (fun _ => stepG_cond (t := false) rfl) rfl ?_; simp only [Bool.false_eq_true, if_false])
    | refine Run.ctl (fun _ => stepG_ret') rfl ?_
    | refine Run.ctl (fun _ => stepG_end) rfl ?_)
  refine Run.enter rfl rfl (by decide) rfl Try.func22 (by kernel_rfl) rfl ?_
  simp only [Act.eval, nrmL, Nat.reduceAdd]
  refine lock_run (a := ⟨s.S, 1, none⟩) (R.cell 1) (R.sys.frozen 1) (R.npl 1 (by decide)) (R.nC hok) ?_
  obtain ⟨R1, k1⟩ := R.lkTo 1
  have hok1 := hok.setCell ⟨s.S, 1, none⟩ (.int .i32 1)
  generalize w.setCell ⟨s.S, 1, none⟩ (.int .i32 1) = w1 at R1 k1 hok1
  rw [Frame.finish_at]
  try simp only [Act.put, Act.eval, nrmL, Nat.reduceAdd]
  repeat (first
    | refine Run.auto rfl ?_
    | ((first | (refine Run.quietop rfl rfl rfl (by decide) ?_ ?_; (focus (intro w₁; simp [go_sem]; done)); intro w₁ K hK; go_simp; refine hK _ ?_; clear hK K w₁) | (refine Run.lookq theEnv rfl rfl rfl (by decide) rfl (fun _ _ q => by cases q) ?_; apply Exists.intro; apply And.intro; (focus (intro w; apply run_eq_of'; intro K hK; go_simp; exact hK))) | (refine Run.len theEnv rfl rfl (by decide) rfl rfl (by kernel_rfl) ?_) | (refine Run.not rfl rfl ?_)); try simp only [Act.put, Act.eval, nrmL, Nat.reduceAdd])
    | (refine Run.ctl (fun _ => stepG_region) rfl ?_; simp only [nrmL, Nat.reduceAdd, Nat.zero_add, List.range, List.range.loop])
    | (refine Run.ctl (fun _ => stepG_cond (t := true) rfl) rfl ?_; simp only [if_true])
    | (refine Run.ctl (fun _ => stepG_cond (t := false) rfl) rfl ?_; simp only [Bool.false_eq_true, if_false])
    | refine Run.ctl (fun _ => stepG_ret') rfl ?_
    | refine Run.ctl (fun _ => stepG_end) rfl ?_)
  refine Run.defer rfl rfl (by decide) rfl ?_
  try simp only [Act.put, Act.eval, nrmL, Nat.reduceAdd]
  repeat (first
    | refine Run.auto rfl ?_
    | ((first | (refine Run.quietop rfl rfl rfl (by decide) ?_ ?_; (focus (intro w₁; simp [go_sem]; done)); intro w₁ K hK; go_simp; refine hK _ ?_; clear hK K w₁) | (refine Run.lookq theEnv rfl rfl rfl (by decide) rfl (fun _ _ q => by cases q) ?_; apply Exists.intro; apply And.intro; (focus (intro w; apply run_eq_of'; intro K hK; go_simp; exact hK))) | (refine Run.len theEnv rfl rfl (by decide) rfl rfl (by kernel_rfl) ?_) | (refine Run.not rfl rfl ?_)); try simp only [Act.put, Act.eval, nrmL, Nat.reduceAdd])
    | (refine Run.ctl (fun _ => stepG_region) rfl ?_; simp only [nrmL, Nat.reduceAdd, Nat.zero_add, List.range, List.range.loop])
    | (refine Run.ctl (fun _ => stepG_cond (t := true) rfl) rfl ?_; simp only [if_true])
    | (refine Run.ctl (fun _ => stepG_cond (t := false) rfl) rfl ?_; simp only [Bool.false_eq_true, if_false])
    | refine Run.ctl (fun _ => stepG_ret') rfl ?_
    | refine Run.ctl (fun _ => stepG_end) rfl ?_)
  refine Run.ld (a := ⟨s.S, 3, none⟩) (v := .map (some s.mp)) rfl rfl (by decide) (R1.cell 3) (R1.nsh 3 (.inr (by decide))) (fun w₁ hld => ⟨by go_simp, by simp [go_sem, hld]⟩) ?_
  try simp only [Act.put, Act.eval, nrmL, Nat.reduceAdd]
  repeat (first
    | refine Run.auto rfl ?_
    | ((first | (refine Run.quietop rfl rfl rfl (by decide) ?_ ?_; (focus (intro w₁; simp [go_sem]; done)); intro w₁ K hK; go_simp; refine hK _ ?_; clear hK K w₁) | (refine Run.lookq theEnv rfl rfl rfl (by decide) rfl (fun _ _ q => by cases q) ?_; apply Exists.intro; apply And.intro; (focus (intro w; apply run_eq_of'; intro K hK; go_simp; exact hK))) | (refine Run.len theEnv rfl rfl (by decide) rfl rfl (by kernel_rfl) ?_) | (refine Run.not rfl rfl ?_)); try simp only [Act.put, Act.eval, nrmL, Nat.reduceAdd])
    | (refine Run.ctl (fun _ => stepG_region) rfl ?_; simp only [nrmL, Nat.reduceAdd, Nat.zero_add, List.range, List.range.loop])
    | (refine Run.ctl (fun _ => stepG_cond (t := true) rfl) rfl ?_; simp only [if_true])
    | (refine Run.ctl (fun _ => stepG_cond (t := false) rfl) rfl ?_; simp only [Bool.false_eq_true, if_false])
    | refine Run.ctl (fun _ => stepG_ret') rfl ?_
    | refine Run.ctl (fun _ => stepG_end) rfl ?_)
  refine Run.look theEnv rfl rfl (by decide) rfl (fun _ _ q => by cases q) (s.val id) (fun u hu _ => by have := R1.look id u hu; go_simp) ?_
  try simp only [Act.put, Act.eval, nrmL, Nat.reduceAdd]
  rw [show s.val id = ptr e.b by simp [Sy.val, he]]
  unfold ptr
  have hE := R1.ents e hx
  obtain ⟨g, o, cur, hA, hF, hb, hnc, hcm, ho, hd⟩ : ∃ g o cur, e.A = some ⟨g, o, none⟩ ∧ s.own g = (e.gi, 4) ∧ Blk w1 g 27 cur ∧ e.items.length ≤ e.c ∧ e.c ≤ maxLen ∧ o + e.c * 1 ≤ cur.size ∧ (cur.toList.drop o).take (e.items.length * 1) = e.items.map It.val := by
    rcases hE.row.2 with ⟨q, _⟩ | q
    · rw [hi] at q; simp at q
    · exact q
  have hcell : w1.cell? ⟨g, o, none⟩ = some i.val := by
    rw [hb.cell, ← Array.getElem?_toList]
    have : ((cur.toList.drop o).take (e.items.length * 1))[0]? = some i.val := by rw [hd, hi]; rfl
    rw [List.getElem?_take, List.getElem?_drop] at this
    split at this
    · simpa using this
    · cases this
  have hl : e.items.length = rest.length + 1 := by rw [hi]; rfl
  have hlr : ((rest.length + 1 : Nat) : Int) = (rest.length : Int) + 1 := by simp
  have h00 : (((rest.length + 1 : Nat) : Int) == 0) = false := by simp; omega
  have hfree := Scene.free (Z := Z) (a := ⟨g, o, none⟩) (R1.vis g (by rw [hF]; exact Nat.le_refl 4)).1
  repeat (first
    | refine Run.auto rfl ?_
    | ((first | (refine Run.quietop rfl rfl rfl (by decide) ?_ ?_; (focus (intro w₁; simp [go_sem]; done)); intro w₁ K hK; go_simp; refine hK _ ?_; clear hK K w₁) | (refine Run.lookq theEnv rfl rfl rfl (by decide) rfl (fun _ _ q => by cases q) ?_; apply Exists.intro; apply And.intro; (focus (intro w; apply run_eq_of'; intro K hK; go_simp; exact hK))) | (refine Run.len theEnv rfl rfl (by decide) rfl rfl (by kernel_rfl) ?_) | (refine Run.not rfl rfl ?_)); try simp only [Act.put, Act.eval, nrmL, Nat.reduceAdd])
    | (refine Run.ctl (fun _ => stepG_region) rfl ?_; simp only [nrmL, Nat.reduceAdd, Nat.zero_add, List.range, List.range.loop])
    | (refine Run.ctl (fun _ => stepG_cond (t := true) rfl) rfl ?_; simp only [if_true])
    | (refine Run.ctl (fun _ => stepG_cond (t := false) rfl) rfl ?_; simp only [Bool.false_eq_true, if_false])
    | refine Run.ctl (fun _ => stepG_ret') rfl ?_
    | refine Run.ctl (fun _ => stepG_end) rfl ?_)
  refine Run.ld (a := ⟨e.b, 0, none⟩) (v := .slice (some ⟨g, o, none⟩) (rest.length + 1) e.c) rfl rfl (by decide) ((by rw [R1.cellE hx 0, ← hl, ← hA]; rfl)) (R1.nshE hx 0) (fun w₁ hld => ⟨by go_simp, by simp [go_sem, hld]⟩) ?_
  try simp only [Act.put, Act.eval, nrmL, Nat.reduceAdd]
  repeat (first
    | refine Run.auto rfl ?_
    | ((first | (refine Run.quietop rfl rfl rfl (by decide) ?_ ?_; (focus (intro w₁; simp [go_sem]; done)); intro w₁ K hK; go_simp; refine hK _ ?_; clear hK K w₁) | (refine Run.lookq theEnv rfl rfl rfl (by decide) rfl (fun _ _ q => by cases q) ?_; apply Exists.intro; apply And.intro; (focus (intro w; apply run_eq_of'; intro K hK; go_simp; exact hK))) | (refine Run.len theEnv rfl rfl (by decide) rfl rfl (by kernel_rfl) ?_) | (refine Run.not rfl rfl ?_)); try simp only [Act.put, Act.eval, nrmL, Nat.reduceAdd])
    | (refine Run.ctl (fun _ => stepG_region) rfl ?_; simp only [nrmL, Nat.reduceAdd, Nat.zero_add, List.range, List.range.loop])
    | (refine Run.ctl (fun _ => stepG_cond (t := true) rfl) rfl ?_; simp only [if_true])
    | (refine Run.ctl (fun _ => stepG_cond (t := false) rfl) rfl ?_; simp only [Bool.false_eq_true, if_false])
    | refine Run.ctl (fun _ => stepG_ret') rfl ?_
    | refine Run.ctl (fun _ => stepG_end) rfl ?_)
  refine Run.ld (a := ⟨e.b, 0, none⟩) (v := .slice (some ⟨g, o, none⟩) (rest.length + 1) e.c) rfl rfl (by decide) ((by rw [R1.cellE hx 0, ← hl, ← hA]; rfl)) (R1.nshE hx 0) (fun w₁ hld => ⟨by go_simp, by simp [go_sem, hld]⟩) ?_
  try simp only [Act.put, Act.eval, nrmL, Nat.reduceAdd]
  repeat (first
    | refine Run.auto rfl ?_
    | ((first | (refine Run.quietop rfl rfl rfl (by decide) ?_ ?_; (focus (intro w₁; simp [go_sem]; done)); intro w₁ K hK; go_simp; refine hK _ ?_; clear hK K w₁) | (refine Run.lookq theEnv rfl rfl rfl (by decide) rfl (fun _ _ q => by cases q) ?_; apply Exists.intro; apply And.intro; (focus (intro w; apply run_eq_of'; intro K hK; go_simp; exact hK))) | (refine Run.len theEnv rfl rfl (by decide) rfl rfl (by kernel_rfl) ?_) | (refine Run.not rfl rfl ?_)); try simp only [Act.put, Act.eval, nrmL, Nat.reduceAdd])
    | (refine Run.ctl (fun _ => stepG_region) rfl ?_; simp only [nrmL, Nat.reduceAdd, Nat.zero_add, List.range, List.range.loop])
    | (refine Run.ctl (fun _ => stepG_cond (t := true) rfl) rfl ?_; simp only [if_true])
    | (refine Run.ctl (fun _ => stepG_cond (t := false) rfl) rfl ?_; simp only [Bool.false_eq_true, if_false])
    | refine Run.ctl (fun _ => stepG_ret') rfl ?_
    | refine Run.ctl (fun _ => stepG_end) rfl ?_)
  refine Run.ld (a := ⟨g, o, none⟩) (v := i.val) rfl rfl (by decide) (hcell) (hfree.2) (fun w₁ hld => ⟨by go_simp, by simp [go_sem, hld]⟩) ?_
  try simp only [Act.put, Act.eval, nrmL, Nat.reduceAdd]
  repeat (first
    | refine Run.auto rfl ?_
    | ((first | (refine Run.quietop rfl rfl rfl (by decide) ?_ ?_; (focus (intro w₁; simp [go_sem]; done)); intro w₁ K hK; go_simp; refine hK _ ?_; clear hK K w₁) | (refine Run.lookq theEnv rfl rfl rfl (by decide) rfl (fun _ _ q => by cases q) ?_; apply Exists.intro; apply And.intro; (focus (intro w; apply run_eq_of'; intro K hK; go_simp; exact hK))) | (refine Run.len theEnv rfl rfl (by decide) rfl rfl (by kernel_rfl) ?_) | (refine Run.not rfl rfl ?_)); try simp only [Act.put, Act.eval, nrmL, Nat.reduceAdd])
    | (refine Run.ctl (fun _ => stepG_region) rfl ?_; simp only [nrmL, Nat.reduceAdd, Nat.zero_add, List.range, List.range.loop])
    | (refine Run.ctl (fun _ => stepG_cond (t := true) rfl) rfl ?_; simp only [if_true])
    | (refine Run.ctl (fun _ => stepG_cond (t := false) rfl) rfl ?_; simp only [Bool.false_eq_true, if_false])
    | refine Run.ctl (fun _ => stepG_ret') rfl ?_
    | refine Run.ctl (fun _ => stepG_end) rfl ?_)
  refine Run.ld (a := ⟨e.b, 0, none⟩) (v := .slice (some ⟨g, o, none⟩) (rest.length + 1) e.c) rfl rfl (by decide) ((by rw [R1.cellE hx 0, ← hl, ← hA]; rfl)) (R1.nshE hx 0) (fun w₁ hld => ⟨by go_simp, by simp [go_sem, hld]⟩) ?_
  try simp only [Act.put, Act.eval, nrmL, Nat.reduceAdd]
  repeat (first
    | refine Run.auto rfl ?_
    | ((first | (refine Run.quietop rfl rfl rfl (by decide) ?_ ?_; (focus (intro w₁; simp [go_sem]; done)); intro w₁ K hK; go_simp; refine hK _ ?_; clear hK K w₁) | (refine Run.lookq theEnv rfl rfl rfl (by decide) rfl (fun _ _ q => by cases q) ?_; apply Exists.intro; apply And.intro; (focus (intro w; apply run_eq_of'; intro K hK; go_simp; exact hK))) | (refine Run.len theEnv rfl rfl (by decide) rfl rfl (by kernel_rfl) ?_) | (refine Run.not rfl rfl ?_)); try simp only [Act.put, Act.eval, nrmL, Nat.reduceAdd])
    | (refine Run.ctl (fun _ => stepG_region) rfl ?_; simp only [nrmL, Nat.reduceAdd, Nat.zero_add, List.range, List.range.loop])
    | (refine Run.ctl (fun _ => stepG_cond (t := true) rfl) rfl ?_; simp only [if_true])
    | (refine Run.ctl (fun _ => stepG_cond (t := false) rfl) rfl ?_; simp only [Bool.false_eq_true, if_false])
    | refine Run.ctl (fun _ => stepG_ret') rfl ?_
    | refine Run.ctl (fun _ => stepG_end) rfl ?_)
  refine Run.look theEnv rfl rfl (by decide) rfl (fun _ _ q => by cases q) (.slice e.pop.A rest.length e.pop.c) (fun u _ _ => by
    refine (run_tail (sz := 1) (A := some ⟨g, o, none⟩) (m := rest.length) (c := e.c) rfl rfl Try.underlying72 (by kernel_rfl)).trans ?_
    rw [← hA]
    rfl) ?_
  try simp only [Act.put, Act.eval, nrmL, Nat.reduceAdd]
  repeat (first
    | refine Run.auto rfl ?_
    | ((first | (refine Run.quietop rfl rfl rfl (by decide) ?_ ?_; (focus (intro w₁; simp [go_sem]; done)); intro w₁ K hK; go_simp; refine hK _ ?_; clear hK K w₁) | (refine Run.lookq theEnv rfl rfl rfl (by decide) rfl (fun _ _ q => by cases q) ?_; apply Exists.intro; apply And.intro; (focus (intro w; apply run_eq_of'; intro K hK; go_simp; exact hK))) | (refine Run.len theEnv rfl rfl (by decide) rfl rfl (by kernel_rfl) ?_) | (refine Run.not rfl rfl ?_)); try simp only [Act.put, Act.eval, nrmL, Nat.reduceAdd])
    | (refine Run.ctl (fun _ => stepG_region) rfl ?_; simp only [nrmL, Nat.reduceAdd, Nat.zero_add, List.range, List.range.loop])
    | (refine Run.ctl (fun _ => stepG_cond (t := true) rfl) rfl ?_; simp only [if_true])
    | (refine Run.ctl (fun _ => stepG_cond (t := false) rfl) rfl ?_; simp only [Bool.false_eq_true, if_false])
    | refine Run.ctl (fun _ => stepG_ret') rfl ?_
    | refine Run.ctl (fun _ => stepG_end) rfl ?_)
  obtain ⟨R2, k2⟩ := R1.pop hx hi
  have hcl0 : w1.cell? ⟨e.b, 0, none⟩ = some (.slice e.A e.items.length e.c) := R1.cellE hx 0
  refine Run.stO (⟨e.b, 0, none⟩) (.slice e.pop.A rest.length e.pop.c) rfl rfl (by decide) rfl rfl rfl rfl rfl (by kernel_rfl) rfl ((by rw [hcl0]; rfl)) ((R1.ents e hx).blk.frozen 0) (R1.nshE hx 0) (R1.nplE hx) (R1.nCE hok1 hx) ?_
  try simp only [Act.put, Act.eval, nrmL, Nat.reduceAdd]
  generalize w1.setCell ⟨e.b, 0, none⟩ (.slice e.pop.A rest.length e.pop.c) = w2 at R2 k2
  repeat (first
    | refine Run.auto rfl ?_
    | ((first | (refine Run.quietop rfl rfl rfl (by decide) ?_ ?_; (focus (intro w₁; simp [go_sem]; done)); intro w₁ K hK; go_simp; refine hK _ ?_; clear hK K w₁) | (refine Run.lookq theEnv rfl rfl rfl (by decide) rfl (fun _ _ q => by cases q) ?_; apply Exists.intro; apply And.intro; (focus (intro w; apply run_eq_of'; intro K hK; go_simp; exact hK))) | (refine Run.len theEnv rfl rfl (by decide) rfl rfl (by kernel_rfl) ?_) | (refine Run.not rfl rfl ?_)); try simp only [Act.put, Act.eval, nrmL, Nat.reduceAdd])
    | (refine Run.ctl (fun _ => stepG_region) rfl ?_; simp only [nrmL, Nat.reduceAdd, Nat.zero_add, List.range, List.range.loop])
    | (refine Run.ctl (fun _ => stepG_cond (t := true) rfl) rfl ?_; simp only [if_true])
    | (refine Run.ctl (fun _ => stepG_cond (t := false) rfl) rfl ?_; simp only [Bool.false_eq_true, if_false])
    | refine Run.ctl (fun _ => stepG_ret') rfl ?_
    | refine Run.ctl (fun _ => stepG_end) rfl ?_)
  refine Run.okG fun hok2 => ?_
  refine Run.undefer rfl Try.func23 (by kernel_rfl) rfl ?_
  simp only [Try.ntmps23]
  try simp only [Act.put, Act.eval, nrmL, Nat.reduceAdd, Nat.reduceSub]
  refine unlock_runD (a := ⟨s.S, 1, none⟩) (R2.cell 1) (R2.sys.frozen 1) (R2.npl 1 (by decide)) (R2.nsh 1 (.inr (by decide))) (R2.nC hok2) rfl ?_
  obtain ⟨R3, k3⟩ := R2.lkTo 0
  refine Run.leave2 rfl rfl Try.func30 (by rfl) ?_
  exact H _ R3 (((k1.mono fun _ _ q => .inl q).trans (k2.mono fun _ _ q => .inr q)).trans (k3.mono fun _ _ q => .inl q))
end
end Go.Proofs.Ytfgpnfboolbbbaa
