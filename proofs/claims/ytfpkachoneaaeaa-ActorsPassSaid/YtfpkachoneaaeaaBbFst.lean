/-
  Waiting.
-/
import Derived.Test.YtfpkachoneaaeaaBbSys
import Derived.Test.YtfpkachoneaaeaaBbMu
import Derived.Test.YtfpkachoneaaeaaBbEnv
set_option linter.unusedSimpArgs false
set_option linter.unusedVariables false
namespace Go.Proofs.Ytfpkachoneaaeaa
open Go Go.Conc Go.RowKit
section
variable {Z : Scene} {n : Nat} {hd : Option (Nat × Chair)} {w w' : World} {s : Sy} {lk lk' : Int} {e : Ent}
theorem Rep.sysTo (h : Rep Z n hd w s lk) (hk : Kept (· = s.S) w w') (hb : Blk w' s.S 58 (s.cells lk')) : Rep Z n hd w' s lk' := by
  have key : ∀ k g t, s.own k = (g, t) → (g ≠ 0 ∨ t ≠ 1) → ¬ k = s.S := fun k g t ho hne q => by
    rw [q, h.oS] at ho
    cases ho
    omega
  refine ⟨hb, h.map.keep hk (key _ _ _ h.om (by omega)), fun e he => (h.ents e he).keep hk fun k hf q => ?_, h.gis, h.gin, h.oS, h.oq, h.om, fun hs => ⟨(h.opn hs).1.keep hk (key _ _ _ h.oq (by omega)), (h.opn hs).2⟩, h.hS, h.hE, h.vis, h.cE, h.stop, h.inb, h.shun, h.hdk, h.pos, fun k hk2 => h.fresh k (Nat.le_trans hk.size hk2)⟩
  have := (h.ents e he).pos
  rw [hf, h.oS] at q
  simp at q
  omega
theorem kept_set (w : World) (a : Addr) (v : Value) : Kept (· = a.block) w (w.setCell a v) := (Kept.refl (· = a.block) _).setCell (fun _ => rfl) v
theorem Rep.lkTo (h : Rep Z n hd w s lk) (v : Int) : Rep Z n hd (w.setCell ⟨s.S, 1, none⟩ (.int .i32 v)) s v ∧ Kept (· = s.S) w (w.setCell ⟨s.S, 1, none⟩ (.int .i32 v)) := by
  have hk := kept_set w ⟨s.S, 1, none⟩ (.int .i32 v)
  exact ⟨h.sysTo hk (by have := h.sys.set_ 1 (.int .i32 v); simpa [Sy.cells] using this), hk⟩
/-- An actor's record, by its number. -/
def Sy.ent (s : Sy) (id : Int) : Option Ent := s.ents.find? fun e => e.id == id
def Sy.val (s : Sy) (id : Int) : Value := match s.ent id with
  | some e => ptr e.b
  | none => .pointer none
theorem Sy.ent_some {id : Int} (h : s.ent id = some e) : e ∈ s.ents ∧ e.id = id := ⟨List.mem_of_find?_eq_some h, by simpa using List.find?_some h⟩
theorem Sy.ent_none {id : Int} (h : s.ent id = none) : ∀ e ∈ s.ents, e.id ≠ id := fun e he q => by
  have := List.find?_eq_none.1 h e he
  simp [q] at this
theorem zeroActor (w : World) : (zeroValue 71).run Try.prog w = .ok (.pointer none) w := by kernel_rfl
/-- The look-up. -/
theorem Rep.look (h : Rep Z n hd w s lk) (id : Int) : ∀ u, Kept Z.Hd w u → (Instr.lookup 41 (.map (some s.mp)) (.int .i64 id) false).run Try.prog u = .ok (s.val id) u := by
  intro u hu
  have hm := h.map.keep hu (h.vis _ (by rw [h.om]; decide)).1
  unfold Sy.val
  cases e : s.ent id with
  | none => exact hm.look_miss Try.underlying41 Try.underlying3 (zeroActor u) (fun p hp q => by
      obtain ⟨x, hx, rfl⟩ := List.mem_map.1 hp
      exact Sy.ent_none e x hx q)
  | some x =>
    obtain ⟨h1, h2⟩ := Sy.ent_some e
    exact hm.look_hit Try.underlying41 Try.underlying3 (List.mem_map.2 ⟨x, h1, by rw [h2]⟩)
def Sy.len (s : Sy) (id : Int) : Nat := match s.ent id with
  | some e => e.items.length
  | none => 0
variable {Post : Value → World → Prop} {h : Nat} {c : Frame} {cs : List Frame}
set_option maxRecDepth 50000 in
set_option maxHeartbeats 4000000 in
theorem waiting_run (R : Rep Z n hd w s 0) (id : Int) (H : ∀ w', Rep Z n hd w' s 0 → Kept (· = s.S) w w' → Run Try.prog Post Z n h 0 (G (c.finish (.int .i64 (s.len id))) cs) w') :
    Run Try.prog Post Z n h 0 (G ((base 18).at { tmps := #[.pointer (some ⟨s.S, 0, none⟩), .int .i64 id] ++ Array.replicate (Try.f18.ntmps - 2) undef, defers := [] } [.code (Try.f18.body.getD .skip)]) (c :: cs)) w := by
  refine Run.okG fun hok => ?_
  simp only [Try.ntmps18]
  try simp only [Act.put, Act.eval, nrmL, Nat.reduceAdd, Nat.reduceSub]
  simp only [Try.f18, Option.getD_some]
  repeat (first | refine Run.auto rfl ?_ | ((first | (apply Run.lq rfl rfl rfl rfl; (focus (intro w K hK; go_simp; exact hK))) | (refine Run.ln rfl rfl rfl rfl rfl (by kernel_rfl) ?_) | (refine Run.not rfl rfl ?_)); try simp only [Act.put, Act.eval, nrmL, Nat.reduceAdd]) | (refine Run.rg ?_; simp only [nrmL, rngL, Nat.reduceAdd]) | refine Run.cT rfl ?_ | refine Run.cF rfl ?_ | refine Run.rt ?_ | refine Run.nd ?_)
  refine Run.enter rfl rfl (by decide) rfl Try.func24 (by kernel_rfl) rfl ?_
  simp only [Act.eval, nrmL, Nat.reduceAdd]
  refine lock_run (a := ⟨s.S, 1, none⟩) (R.cell 1) (R.sys.frozen 1) (R.npl 1 (by decide)) (R.nC hok) ?_
  obtain ⟨R1, k1⟩ := R.lkTo 1
  have hok1 := hok.setCell ⟨s.S, 1, none⟩ (.int .i32 1)
  generalize w.setCell ⟨s.S, 1, none⟩ (.int .i32 1) = w1 at R1 k1 hok1
  rw [Frame.finish_at]
  try simp only [Act.put, Act.eval, nrmL, Nat.reduceAdd]
  repeat (first | refine Run.auto rfl ?_ | ((first | (apply Run.lq rfl rfl rfl rfl; (focus (intro w K hK; go_simp; exact hK))) | (refine Run.ln rfl rfl rfl rfl rfl (by kernel_rfl) ?_) | (refine Run.not rfl rfl ?_)); try simp only [Act.put, Act.eval, nrmL, Nat.reduceAdd]) | (refine Run.rg ?_; simp only [nrmL, rngL, Nat.reduceAdd]) | refine Run.cT rfl ?_ | refine Run.cF rfl ?_ | refine Run.rt ?_ | refine Run.nd ?_)
  refine Run.defer rfl rfl (by decide) rfl ?_
  try simp only [Act.put, Act.eval, nrmL, Nat.reduceAdd]
  repeat (first | refine Run.auto rfl ?_ | ((first | (apply Run.lq rfl rfl rfl rfl; (focus (intro w K hK; go_simp; exact hK))) | (refine Run.ln rfl rfl rfl rfl rfl (by kernel_rfl) ?_) | (refine Run.not rfl rfl ?_)); try simp only [Act.put, Act.eval, nrmL, Nat.reduceAdd]) | (refine Run.rg ?_; simp only [nrmL, rngL, Nat.reduceAdd]) | refine Run.cT rfl ?_ | refine Run.cF rfl ?_ | refine Run.rt ?_ | refine Run.nd ?_)
  refine Run.ld (a := ⟨s.S, 3, none⟩) (v := .map (some s.mp)) rfl rfl (by decide) (R1.cell 3) (R1.nsh 3 (.inr (by decide))) (fun w₁ hld => ⟨by go_simp, by simp [go_sem, hld]⟩) ?_
  try simp only [Act.put, Act.eval, nrmL, Nat.reduceAdd]
  repeat (first | refine Run.auto rfl ?_ | ((first | (apply Run.lq rfl rfl rfl rfl; (focus (intro w K hK; go_simp; exact hK))) | (refine Run.ln rfl rfl rfl rfl rfl (by kernel_rfl) ?_) | (refine Run.not rfl rfl ?_)); try simp only [Act.put, Act.eval, nrmL, Nat.reduceAdd]) | (refine Run.rg ?_; simp only [nrmL, rngL, Nat.reduceAdd]) | refine Run.cT rfl ?_ | refine Run.cF rfl ?_ | refine Run.rt ?_ | refine Run.nd ?_)
  refine Run.look theEnv rfl rfl (by decide) rfl (fun _ _ q => by cases q) (s.val id) (fun u hu _ => by have := R1.look id u hu; go_simp) ?_
  try simp only [Act.put, Act.eval, nrmL, Nat.reduceAdd]
  have hend : ∀ (T : Array Value) (i : Nat) (hT : T[4]? = some (.int .i64 (s.len id))) (k : List Item), Run Try.prog Post Z n h 0 (G { (base 18).at ⟨T, [dcall 25 #[.pointer (some ⟨s.S, 1, none⟩)]]⟩ k with mode := .returning } (c :: cs)) w1 := by
    intro T i hT k
    refine Run.undefer rfl Try.func25 (by kernel_rfl) rfl ?_
    simp only [Try.ntmps25]
    try simp only [Act.put, Act.eval, nrmL, Nat.reduceAdd, Nat.reduceSub]
    refine unlock_runD (a := ⟨s.S, 1, none⟩) (R1.cell 1) (R1.sys.frozen 1) (R1.npl 1 (by decide)) (R1.nsh 1 (.inr (by decide))) (R1.nC hok1) rfl ?_
    obtain ⟨R2, k2⟩ := R1.lkTo 0
    refine Run.leave1 rfl rfl Try.func18 (by rfl) ?_
    rw [Array.getD_eq_getD_getElem?, hT]
    exact H _ R2 (k1.trans k2)
  rcases he : s.ent id with _ | x
  · rw [show s.val id = .pointer none by simp [Sy.val, he]]
    have hl : s.len id = 0 := by simp [Sy.len, he]
    rw [hl] at hend
    repeat (first | refine Run.auto rfl ?_ | ((first | (apply Run.lq rfl rfl rfl rfl; (focus (intro w K hK; go_simp; exact hK))) | (refine Run.ln rfl rfl rfl rfl rfl (by kernel_rfl) ?_) | (refine Run.not rfl rfl ?_)); try simp only [Act.put, Act.eval, nrmL, Nat.reduceAdd]) | (refine Run.rg ?_; simp only [nrmL, rngL, Nat.reduceAdd]) | refine Run.cT rfl ?_ | refine Run.cF rfl ?_ | refine Run.rt ?_ | refine Run.nd ?_)
    exact hend _ 0 rfl _
  · rw [show s.val id = ptr x.b by simp [Sy.val, he]]
    have hl : s.len id = x.items.length := by simp [Sy.len, he]
    have hx := (Sy.ent_some he).1
    rw [hl] at hend
    unfold ptr
    repeat (first | refine Run.auto rfl ?_ | ((first | (apply Run.lq rfl rfl rfl rfl; (focus (intro w K hK; go_simp; exact hK))) | (refine Run.ln rfl rfl rfl rfl rfl (by kernel_rfl) ?_) | (refine Run.not rfl rfl ?_)); try simp only [Act.put, Act.eval, nrmL, Nat.reduceAdd]) | (refine Run.rg ?_; simp only [nrmL, rngL, Nat.reduceAdd]) | refine Run.cT rfl ?_ | refine Run.cF rfl ?_ | refine Run.rt ?_ | refine Run.nd ?_)
    refine Run.ld (a := ⟨x.b, 0, none⟩) (v := .slice x.A x.items.length x.c) rfl rfl (by decide) (R1.cellE hx 0) (R1.nshE hx 0) (fun w₁ hld => ⟨by go_simp, by simp [go_sem, hld]⟩) ?_
    try simp only [Act.put, Act.eval, nrmL, Nat.reduceAdd]
    repeat (first | refine Run.auto rfl ?_ | ((first | (apply Run.lq rfl rfl rfl rfl; (focus (intro w K hK; go_simp; exact hK))) | (refine Run.ln rfl rfl rfl rfl rfl (by kernel_rfl) ?_) | (refine Run.not rfl rfl ?_)); try simp only [Act.put, Act.eval, nrmL, Nat.reduceAdd]) | (refine Run.rg ?_; simp only [nrmL, rngL, Nat.reduceAdd]) | refine Run.cT rfl ?_ | refine Run.cF rfl ?_ | refine Run.rt ?_ | refine Run.nd ?_)
    exact hend _ 0 rfl _
end
end Go.Proofs.Ytfpkachoneaaeaa
namespace Go.Proofs.Ytfpkachoneaaeaa
open Go Go.Conc Go.RowKit
def Sy.setE (s : Sy) (e' : Ent) (own' : Nat → Nat × Nat) : Sy := { s with ents := s.ents.map fun x => if x.gi = e'.gi then e' else x, own := own' }
theorem run_tail {P : Program} {u : World} {x : Act} {o : Oper} {t e : TypeId} {X : Operand} {A : Option Addr} {m c sz : Nat} (hop : o.op = .slice t X (some (.const (.int .i64 1))) none none) (hx : x.eval X = .slice A (m + 1) c) (ht : P.underlying t = some (.slice e))
    (hs : (P.info? e).map (·.size) = some sz) : (execOp x.eval o).run P u = .ok (.value (.slice (if c = 1 then A else A.map (·.add sz)) m (c - 1))) u := by
  obtain ⟨i, hi, rfl⟩ := Option.map_eq_some_iff.1 hs
  have h1 : (1 : Int) ≤ ((m + 1 : Nat) : Int) := by omega
  have h2 : x.eval (.const (.int .i64 1)) = .int .i64 1 := rfl
  have h3 := run_sliceBound (P := P) u .i64 1 (m + 1) BoundsCode.sliceB (by decide) h1
  unfold execOp
  simp [hop, hx, h2, Instr.sliceAt, Instr.slice, run_underlying ht, Instr.sliceBounds, h3, sizeOf, typeInfo, hi, Result.andThen]
section
variable {Z : Scene} {n : Nat} {hd : Option (Nat × Chair)} {w w' : World} {s : Sy} {lk lk' : Int} {e e' : Ent} {F : Nat → Prop} {own' : Nat → Nat × Nat}
theorem Sy.setE_mem {y : Ent} (hy : y ∈ (s.setE e' own').ents) : y = e' ∨ (y ∈ s.ents ∧ y.gi ≠ e'.gi) := by
  obtain ⟨x, hx, rfl⟩ := List.mem_map.1 hy
  by_cases q : x.gi = e'.gi
  · simp [q]
  · simp [q, hx]
theorem Sy.setE_has (he : e ∈ s.ents) (hc : e'.toCore1 = e.toCore1) : e' ∈ (s.setE e' own').ents :=
  List.mem_map.2 ⟨e, he, by simp [hc]⟩
theorem Sy.setE_core (hn : (s.ents.map (·.gi)).Nodup) (he : e ∈ s.ents) (hc : e'.toCore1 = e.toCore1) : (s.setE e' own').ents.map (·.toCore1) = s.ents.map (·.toCore1) := by
  unfold Sy.setE
  rw [List.map_map]
  refine List.map_congr_left fun x hx => ?_
  by_cases q : x.gi = e'.gi
  · have : x = e := nodup_gi hn hx he (by rw [q, hc])
    subst this
    simp [hc]
  · simp [q]
theorem map_core {α : Type} (g : Core1 → α) (l : List Ent) : l.map (fun x => g x.toCore1) = (l.map (·.toCore1)).map g := by simp
theorem Sy.setE_map {α : Type} (g : Core1 → α) (hn : (s.ents.map (·.gi)).Nodup) (he : e ∈ s.ents) (hc : e'.toCore1 = e.toCore1) : (s.setE e' own').ents.map (fun x => g x.toCore1) = s.ents.map (fun x => g x.toCore1) := by
  rw [map_core, map_core, Sy.setE_core hn he hc]
theorem find_core (p : Core1 → Bool) (l : List Ent) : (l.find? fun x => p x.toCore1).map (·.toCore1) = (l.map (·.toCore1)).find? p := by
  rw [List.find?_map]; rfl
theorem Sy.seats_core (s : Sy) (i : Nat) : s.seats i = ((s.ents.map (·.toCore1)).find? fun c => c.gi == i).map (wChair s.S s.qc) := by
  rw [← find_core, Option.map_map]; rfl
theorem Sy.setE_seats (hn : (s.ents.map (·.gi)).Nodup) (he : e ∈ s.ents) (hc : e'.toCore1 = e.toCore1) : (s.setE e' own').seats = s.seats := by
  funext i
  rw [Sy.seats_core, Sy.seats_core, Sy.setE_core hn he hc]
  rfl
theorem Sy.setE_len : (s.setE e' own').ents.length = s.ents.length := by simp [Sy.setE]
theorem Rep.turnE (h : Rep Z n hd w s lk) (he : e ∈ s.ents) (hc : e'.toCore1 = e.toCore1) (hk : Kept F w w') (hF : ∀ k, k < w.heap.size → F k → (s.own k).1 = e.gi) (ho : ∀ k, k < w.heap.size → own' k = s.own k) (hv : ∀ k, 4 ≤ (own' k).2 → ¬ Z.Hd k ∧ ¬ Z.C k)
    (hE : EntOk w' own' e') (hfr : ∀ k, w'.heap.size ≤ k → own' k = (0, 0)) : Rep Z n hd w' (s.setE e' own') lk := by
  have hpos := (h.ents e he).pos
  let F' : Nat → Prop := fun k => F k ∧ k < w.heap.size
  have hk' : Kept F' w w' := hk.mono fun k hlt hf => ⟨hf, hlt⟩
  have key : ∀ k t, s.own k = (0, t) → ¬ F' k := fun k t hok hf => by
    have := hF k hf.2 hf.1
    rw [hok] at this
    simp at this
    omega
  have hlt0 : ∀ k t, s.own k = t → k < w.heap.size → own' k = t := fun k t h1 h2 => by rw [ho k h2]; exact h1
  have hwS := h.sys.lt
  have hwM := h.map.lt
  refine ⟨?_, ?_, fun y hy => ?_, ?_, fun y hy => ?_, hlt0 _ _ h.oS hwS, ?_, hlt0 _ _ h.om hwM, fun hs => ⟨(h.opn hs).1.keep hk' (key _ _ h.oq), (h.opn hs).2⟩, h.hS, fun y hy => ?_, hv, fun y hy => ?_, fun hs => ?_, ?_, fun a q => ?_, fun j d q => ?_, h.pos, hfr⟩
  · have := h.sys.keep hk' (key _ _ h.oS)
    have hcells : (s.setE e' own').cells lk = s.cells lk := by
      simp only [Sy.cells, Sy.setE_len]
      rfl
    rw [hcells]
    exact this
  · rw [show (s.setE e' own').ents.map (fun e => (e.id, e.b)) = s.ents.map (fun e => (e.id, e.b)) from Sy.setE_map (fun c => (c.id, c.b)) h.gis he hc]
    exact h.map.keep hk' (key _ _ h.om)
  · rcases Sy.setE_mem hy with rfl | ⟨h1, h2⟩
    · exact hE
    · exact ((h.ents y h1).reown ho).keep hk' fun k hf q => h2 (by rw [← q, ho k hf.2, hF k hf.2 hf.1, hc])
  · rw [show (s.setE e' own').ents.map (·.gi) = s.ents.map (·.gi) from Sy.setE_map (fun c => c.gi) h.gis he hc]
    exact h.gis
  · rcases Sy.setE_mem hy with rfl | ⟨h1, h2⟩
    · rw [hc]; exact h.gin e he
    · exact h.gin y h1
  · have hns : s.stopped = false := by
      cases q : s.stopped with
      | false => rfl
      | true => rw [h.stop q] at he; cases he
    exact hlt0 _ _ h.oq (h.opn hns).1.lt
  · rcases Sy.setE_mem hy with rfl | ⟨h1, h2⟩
    · rw [hc]; exact h.hE e he
    · exact h.hE y h1
  · rcases Sy.setE_mem hy with rfl | ⟨h1, h2⟩
    · rw [hc]; exact h.cE e he
    · exact h.cE y h1
  · have : s.ents = [] := h.stop hs
    rw [this] at he
    cases he
  · rw [h.inb]
    have hse := Sy.setE_seats (own' := own') h.gis he hc
    cases hd with
    | none => exact hse.symm
    | some p => simp only [Sy.inb, hse]
  · obtain ⟨h1, h2⟩ := h.shun a q
    refine ⟨fun y hy => ?_, h2⟩
    rcases Sy.setE_mem hy with rfl | ⟨h3, h4⟩
    · rw [hc]; exact h1 e he
    · exact h1 y h3
  · obtain ⟨x, hx, h1, h2⟩ := h.hdk j d q
    by_cases hg : x.gi = e'.gi
    · have : x = e := nodup_gi h.gis hx he (by rw [hg, hc])
      subst this
      exact ⟨e', Sy.setE_has hx hc, by rw [hc]; exact h1, ⟨by rw [hc]; exact h2.val, by rw [hc]; exact h2.has⟩⟩
    · exact ⟨x, List.mem_map.2 ⟨x, hx, by simp [hg]⟩, h1, h2⟩
variable {Post : Value → World → Prop} {h : Nat} {c : Frame} {cs : List Frame}
/-- The first item is taken out. -/
def Ent.pop (e : Ent) : Ent := { e with A := if e.c = 1 then e.A else e.A.map (·.add 1), c := e.c - 1, items := e.items.tail }
theorem Rep.pop (R : Rep Z n hd w s lk) (he : e ∈ s.ents) {i : It} {rest : List It} (hi : e.items = i :: rest) :
    Rep Z n hd (w.setCell ⟨e.b, 0, none⟩ (.slice e.pop.A rest.length e.pop.c)) (s.setE e.pop s.own) lk ∧ Kept (· = e.b) w (w.setCell ⟨e.b, 0, none⟩ (.slice e.pop.A rest.length e.pop.c)) := by
  have hk := kept_set w ⟨e.b, 0, none⟩ (.slice e.pop.A rest.length e.pop.c)
  have hE := R.ents e he
  have hno : ∀ k t, s.own k = (e.gi, t) → t ≠ 1 → ¬ k = e.b := fun k t ho ht q => by
    rw [q, hE.ob] at ho
    exact ht (Prod.mk.inj ho).2.symm
  have hit : e.pop.items = rest := by simp [Ent.pop, hi]
  refine ⟨R.turnE he rfl hk (fun k _ hf => by rw [hf, hE.ob]) (fun _ _ => rfl) R.vis ⟨?_, ?_, fun x hx => ?_, ?_, hE.wk.keep hk (hno _ _ hE.ow (by decide)), hE.dn.keep hk (hno _ _ hE.od (by decide)), hE.ob, hE.ow, hE.od, hE.pos⟩ (fun k hk2 => R.fresh k (Nat.le_trans hk.size hk2)), hk⟩
  · have := hE.blk.set_ 0 (.slice e.pop.A rest.length e.pop.c)
    show Blk _ e.b _ #[.slice e.pop.A e.pop.items.length e.pop.c, .chan (some e.wk), .chan (some e.dn)]
    rw [hit]
    simpa [Ent.cells] using this
  · have := hE.row.tail (by rw [hi]; simp)
    rw [hi] at this
    simp only [List.length_cons, Nat.add_sub_cancel, List.map_cons, List.drop_succ_cons, List.drop_zero] at this
    rw [hit]
    exact this.keep hk fun k _ ho q => hno k _ ho (by decide) q
  · rw [hit] at hx
    exact (hE.its x (by rw [hi]; exact .tail _ hx)).keep hk fun k _ ho q => hno k _ ho (by omega) q
  · rw [hit]
    have := hE.tks
    rw [hi] at this
    exact (List.nodup_cons.1 this).2
set_option maxRecDepth 50000 in
set_option maxHeartbeats 4000000 in
theorem first_none (R : Rep Z n hd w s 0) (id : Int) (h0 : s.len id = 0) (H : ∀ w', Rep Z n hd w' s 0 → Kept (· = s.S) w w' → Run Try.prog Post Z n h 0 (G (c.finish (.tuple #[.pointer none, .slice none 0 0])) cs) w') :
    Run Try.prog Post Z n h 0 (G ((base 32).at { tmps := #[.pointer (some ⟨s.S, 0, none⟩), .int .i64 id] ++ Array.replicate (Try.f32.ntmps - 2) undef, defers := [] } [.code (Try.f32.body.getD .skip)]) (c :: cs)) w := by
  refine Run.okG fun hok => ?_
  simp only [Try.ntmps32]
  try simp only [Act.put, Act.eval, nrmL, Nat.reduceAdd, Nat.reduceSub]
  simp only [Try.f32, Option.getD_some]
  repeat (first | refine Run.auto rfl ?_ | ((first | (apply Run.lq rfl rfl rfl rfl; (focus (intro w K hK; go_simp; exact hK))) | (refine Run.ln rfl rfl rfl rfl rfl (by kernel_rfl) ?_) | (refine Run.not rfl rfl ?_)); try simp only [Act.put, Act.eval, nrmL, Nat.reduceAdd]) | (refine Run.rg ?_; simp only [nrmL, rngL, Nat.reduceAdd]) | refine Run.cT rfl ?_ | refine Run.cF rfl ?_ | refine Run.rt ?_ | refine Run.nd ?_)
  refine Run.enter rfl rfl (by decide) rfl Try.func24 (by kernel_rfl) rfl ?_
  simp only [Act.eval, nrmL, Nat.reduceAdd]
  refine lock_run (a := ⟨s.S, 1, none⟩) (R.cell 1) (R.sys.frozen 1) (R.npl 1 (by decide)) (R.nC hok) ?_
  obtain ⟨R1, k1⟩ := R.lkTo 1
  have hok1 := hok.setCell ⟨s.S, 1, none⟩ (.int .i32 1)
  generalize w.setCell ⟨s.S, 1, none⟩ (.int .i32 1) = w1 at R1 k1 hok1
  rw [Frame.finish_at]
  try simp only [Act.put, Act.eval, nrmL, Nat.reduceAdd]
  repeat (first | refine Run.auto rfl ?_ | ((first | (apply Run.lq rfl rfl rfl rfl; (focus (intro w K hK; go_simp; exact hK))) | (refine Run.ln rfl rfl rfl rfl rfl (by kernel_rfl) ?_) | (refine Run.not rfl rfl ?_)); try simp only [Act.put, Act.eval, nrmL, Nat.reduceAdd]) | (refine Run.rg ?_; simp only [nrmL, rngL, Nat.reduceAdd]) | refine Run.cT rfl ?_ | refine Run.cF rfl ?_ | refine Run.rt ?_ | refine Run.nd ?_)
  refine Run.defer rfl rfl (by decide) rfl ?_
  try simp only [Act.put, Act.eval, nrmL, Nat.reduceAdd]
  repeat (first | refine Run.auto rfl ?_ | ((first | (apply Run.lq rfl rfl rfl rfl; (focus (intro w K hK; go_simp; exact hK))) | (refine Run.ln rfl rfl rfl rfl rfl (by kernel_rfl) ?_) | (refine Run.not rfl rfl ?_)); try simp only [Act.put, Act.eval, nrmL, Nat.reduceAdd]) | (refine Run.rg ?_; simp only [nrmL, rngL, Nat.reduceAdd]) | refine Run.cT rfl ?_ | refine Run.cF rfl ?_ | refine Run.rt ?_ | refine Run.nd ?_)
  refine Run.ld (a := ⟨s.S, 3, none⟩) (v := .map (some s.mp)) rfl rfl (by decide) (R1.cell 3) (R1.nsh 3 (.inr (by decide))) (fun w₁ hld => ⟨by go_simp, by simp [go_sem, hld]⟩) ?_
  try simp only [Act.put, Act.eval, nrmL, Nat.reduceAdd]
  repeat (first | refine Run.auto rfl ?_ | ((first | (apply Run.lq rfl rfl rfl rfl; (focus (intro w K hK; go_simp; exact hK))) | (refine Run.ln rfl rfl rfl rfl rfl (by kernel_rfl) ?_) | (refine Run.not rfl rfl ?_)); try simp only [Act.put, Act.eval, nrmL, Nat.reduceAdd]) | (refine Run.rg ?_; simp only [nrmL, rngL, Nat.reduceAdd]) | refine Run.cT rfl ?_ | refine Run.cF rfl ?_ | refine Run.rt ?_ | refine Run.nd ?_)
  refine Run.look theEnv rfl rfl (by decide) rfl (fun _ _ q => by cases q) (s.val id) (fun u hu _ => by have := R1.look id u hu; go_simp) ?_
  try simp only [Act.put, Act.eval, nrmL, Nat.reduceAdd]
  have hend : ∀ (T : Array Value) (_ : T[4]? = some (.pointer none)) (_ : T[5]? = some (.slice none 0 0)) (k : List Item), Run Try.prog Post Z n h 0 (G { (base 32).at ⟨T, [dcall 25 #[.pointer (some ⟨s.S, 1, none⟩)]]⟩ k with mode := .returning } (c :: cs)) w1 := by
    intro T hT hT' k
    refine Run.undefer rfl Try.func25 (by kernel_rfl) rfl ?_
    simp only [Try.ntmps25]
    try simp only [Act.put, Act.eval, nrmL, Nat.reduceAdd, Nat.reduceSub]
    refine unlock_runD (a := ⟨s.S, 1, none⟩) (R1.cell 1) (R1.sys.frozen 1) (R1.npl 1 (by decide)) (R1.nsh 1 (.inr (by decide))) (R1.nC hok1) rfl ?_
    obtain ⟨R2, k2⟩ := R1.lkTo 0
    refine Run.leave2 rfl rfl Try.func32 (by rfl) ?_
    rw [Array.getD_eq_getD_getElem?, Array.getD_eq_getD_getElem?, hT, hT']
    exact H _ R2 (k1.trans k2)
  rcases he : s.ent id with _ | x
  · rw [show s.val id = .pointer none by simp [Sy.val, he]]
    repeat (first | refine Run.auto rfl ?_ | ((first | (apply Run.lq rfl rfl rfl rfl; (focus (intro w K hK; go_simp; exact hK))) | (refine Run.ln rfl rfl rfl rfl rfl (by kernel_rfl) ?_) | (refine Run.not rfl rfl ?_)); try simp only [Act.put, Act.eval, nrmL, Nat.reduceAdd]) | (refine Run.rg ?_; simp only [nrmL, rngL, Nat.reduceAdd]) | refine Run.cT rfl ?_ | refine Run.cF rfl ?_ | refine Run.rt ?_ | refine Run.nd ?_)
    exact hend _ rfl rfl _
  · rw [show s.val id = ptr x.b by simp [Sy.val, he]]
    have hx := (Sy.ent_some he).1
    have hl : x.items.length = 0 := by simpa [Sy.len, he] using h0
    unfold ptr
    repeat (first | refine Run.auto rfl ?_ | ((first | (apply Run.lq rfl rfl rfl rfl; (focus (intro w K hK; go_simp; exact hK))) | (refine Run.ln rfl rfl rfl rfl rfl (by kernel_rfl) ?_) | (refine Run.not rfl rfl ?_)); try simp only [Act.put, Act.eval, nrmL, Nat.reduceAdd]) | (refine Run.rg ?_; simp only [nrmL, rngL, Nat.reduceAdd]) | refine Run.cT rfl ?_ | refine Run.cF rfl ?_ | refine Run.rt ?_ | refine Run.nd ?_)
    refine Run.ld (a := ⟨x.b, 0, none⟩) (v := .slice x.A 0 x.c) rfl rfl (by decide) ((by rw [R1.cellE hx 0]; simp [Ent.cells, hl])) (R1.nshE hx 0) (fun w₁ hld => ⟨by go_simp, by simp [go_sem, hld]⟩) ?_
    try simp only [Act.put, Act.eval, nrmL, Nat.reduceAdd]
    repeat (first | refine Run.auto rfl ?_ | ((first | (apply Run.lq rfl rfl rfl rfl; (focus (intro w K hK; go_simp; exact hK))) | (refine Run.ln rfl rfl rfl rfl rfl (by kernel_rfl) ?_) | (refine Run.not rfl rfl ?_)); try simp only [Act.put, Act.eval, nrmL, Nat.reduceAdd]) | (refine Run.rg ?_; simp only [nrmL, rngL, Nat.reduceAdd]) | refine Run.cT rfl ?_ | refine Run.cF rfl ?_ | refine Run.rt ?_ | refine Run.nd ?_)
    exact hend _ rfl rfl _
end
end Go.Proofs.Ytfpkachoneaaeaa
namespace Go.Proofs.Ytfpkachoneaaeaa
open Go Go.Conc Go.RowKit
section
variable {P : Program} {Post : Value → World → Prop} {Z : Scene} {n h k : Nat} {w : World} {b : Frame} {x : Act} {kk : List Item} {cs : List Frame} {ops : Array Oper} {i : Nat} {rest : List Nat} {o : Oper} {t : TypeId} {X Y : Operand} {a : Addr} {v : Value}
theorem store_one (hop : o.op = .store t X Y) (hx : x.eval X = .pointer (some a)) (hy : x.eval Y = v) (h1 : v.oneCell' = true) (hcs : v.cells = #[v]) (hsz : (P.info? t).map (·.size) = some 1) (hsp : a.spot = none) (hc : (w.cell? a).isSome = true) (hz : w.frozen? a = false) :
    (execOp x.eval o).run P w = .ok .skip (w.setCell a v) ∧ (execOp x.eval o).events P w #[] = #[⟨.cell a, true, false⟩] := by
  obtain ⟨i, hi, hs⟩ := Option.map_eq_some_iff.1 hsz
  obtain ⟨u, hu⟩ := Option.isSome_iff_exists.1 hc
  have e1 := run_store P w a v .plain h1
  have e2 := events_store P w #[] a v .plain h1
  have ea : a.add 0 = a := by obtain ⟨b, o, s⟩ := a; simp at hsp; subst hsp; simp [Addr.add_lit]
  rw [hu] at e2
  simp [hz] at e2
  simp only [stored, hu, hz] at e1
  unfold execOp
  simp [hop, hx, hy, Instr.storeAt, Instr.sureAddr, storeVar, sizeOf, typeInfo, hi, hs, hcs, storeCells, Result.andThen, ea, e1, e2]
theorem Run.stO (a : Addr) (v : Value) (ho : ops[i]? = some o) (hw : Region.wanted o (yielded ops x.tmps) = true) (hk : b.kind ≠ .early) (hop : o.op = .store t X Y) (hx : x.eval X = .pointer (some a)) (hy : x.eval Y = v) (h1 : v.oneCell' = true) (hcs : v.cells = #[v])
    (hsz : (P.info? t).map (·.size) = some 1) (hsp : a.spot = none) (hc : (w.cell? a).isSome = true) (hz : w.frozen? a = false) (hs : ¬ Z.Sh (.cell a)) (hp : ¬ Z.Place a) (hC : ¬ Z.C a.block)
    (H : Run P Post Z n h k (G (b.at (x.put o.dst undef) (.inRegion ops rest :: kk)) cs) (w.setCell a v)) : Run P Post Z n h k (G (b.at x (.inRegion ops (i :: rest) :: kk)) cs) w :=
  Run.st ho hw hk hc hz hs hp hC (fun _ h2 h3 => store_one hop hx hy h1 hcs hsz hsp h2 h3) H
end
end Go.Proofs.Ytfpkachoneaaeaa
namespace Go.Proofs.Ytfpkachoneaaeaa
open Go Go.Conc Go.RowKit
section
variable {Z : Scene} {n : Nat} {hd : Option (Nat × Chair)} {w : World} {s : Sy} {e : Ent} {Post : Value → World → Prop} {h : Nat} {c : Frame} {cs : List Frame}
set_option maxRecDepth 50000 in
set_option maxHeartbeats 4000000 in
theorem first_some (R : Rep Z n hd w s 0) (id : Int) (he : s.ent id = some e) {i : It} {rest : List It} (hi : e.items = i :: rest)
    (H : ∀ w', Rep Z n hd w' (s.setE e.pop s.own) 0 → Kept (fun k => k = s.S ∨ k = e.b) w w' → Run Try.prog Post Z n h 0 (G (c.finish (.tuple #[ptr e.b, i.val])) cs) w') :
    Run Try.prog Post Z n h 0 (G ((base 32).at { tmps := #[.pointer (some ⟨s.S, 0, none⟩), .int .i64 id] ++ Array.replicate (Try.f32.ntmps - 2) undef, defers := [] } [.code (Try.f32.body.getD .skip)]) (c :: cs)) w := by
  refine Run.okG fun hok => ?_
  have hx := (Sy.ent_some he).1
  simp only [Try.ntmps32]
  try simp only [Act.put, Act.eval, nrmL, Nat.reduceAdd, Nat.reduceSub]
  simp only [Try.f32, Option.getD_some]
  repeat (first | refine Run.auto rfl ?_ | ((first | (apply Run.lq rfl rfl rfl rfl; (focus (intro w K hK; go_simp; exact hK))) | (refine Run.ln rfl rfl rfl rfl rfl (by kernel_rfl) ?_) | (refine Run.not rfl rfl ?_)); try simp only [Act.put, Act.eval, nrmL, Nat.reduceAdd]) | (refine Run.rg ?_; simp only [nrmL, rngL, Nat.reduceAdd]) | refine Run.cT rfl ?_ | refine Run.cF rfl ?_ | refine Run.rt ?_ | refine Run.nd ?_)
  refine Run.enter rfl rfl (by decide) rfl Try.func24 (by kernel_rfl) rfl ?_
  simp only [Act.eval, nrmL, Nat.reduceAdd]
  refine lock_run (a := ⟨s.S, 1, none⟩) (R.cell 1) (R.sys.frozen 1) (R.npl 1 (by decide)) (R.nC hok) ?_
  obtain ⟨R1, k1⟩ := R.lkTo 1
  have hok1 := hok.setCell ⟨s.S, 1, none⟩ (.int .i32 1)
  generalize w.setCell ⟨s.S, 1, none⟩ (.int .i32 1) = w1 at R1 k1 hok1
  rw [Frame.finish_at]
  try simp only [Act.put, Act.eval, nrmL, Nat.reduceAdd]
  repeat (first | refine Run.auto rfl ?_ | ((first | (apply Run.lq rfl rfl rfl rfl; (focus (intro w K hK; go_simp; exact hK))) | (refine Run.ln rfl rfl rfl rfl rfl (by kernel_rfl) ?_) | (refine Run.not rfl rfl ?_)); try simp only [Act.put, Act.eval, nrmL, Nat.reduceAdd]) | (refine Run.rg ?_; simp only [nrmL, rngL, Nat.reduceAdd]) | refine Run.cT rfl ?_ | refine Run.cF rfl ?_ | refine Run.rt ?_ | refine Run.nd ?_)
  refine Run.defer rfl rfl (by decide) rfl ?_
  try simp only [Act.put, Act.eval, nrmL, Nat.reduceAdd]
  repeat (first | refine Run.auto rfl ?_ | ((first | (apply Run.lq rfl rfl rfl rfl; (focus (intro w K hK; go_simp; exact hK))) | (refine Run.ln rfl rfl rfl rfl rfl (by kernel_rfl) ?_) | (refine Run.not rfl rfl ?_)); try simp only [Act.put, Act.eval, nrmL, Nat.reduceAdd]) | (refine Run.rg ?_; simp only [nrmL, rngL, Nat.reduceAdd]) | refine Run.cT rfl ?_ | refine Run.cF rfl ?_ | refine Run.rt ?_ | refine Run.nd ?_)
  refine Run.ld (a := ⟨s.S, 3, none⟩) (v := .map (some s.mp)) rfl rfl (by decide) (R1.cell 3) (R1.nsh 3 (.inr (by decide))) (fun w₁ hld => ⟨by go_simp, by simp [go_sem, hld]⟩) ?_
  try simp only [Act.put, Act.eval, nrmL, Nat.reduceAdd]
  repeat (first | refine Run.auto rfl ?_ | ((first | (apply Run.lq rfl rfl rfl rfl; (focus (intro w K hK; go_simp; exact hK))) | (refine Run.ln rfl rfl rfl rfl rfl (by kernel_rfl) ?_) | (refine Run.not rfl rfl ?_)); try simp only [Act.put, Act.eval, nrmL, Nat.reduceAdd]) | (refine Run.rg ?_; simp only [nrmL, rngL, Nat.reduceAdd]) | refine Run.cT rfl ?_ | refine Run.cF rfl ?_ | refine Run.rt ?_ | refine Run.nd ?_)
  refine Run.look theEnv rfl rfl (by decide) rfl (fun _ _ q => by cases q) (s.val id) (fun u hu _ => by have := R1.look id u hu; go_simp) ?_
  try simp only [Act.put, Act.eval, nrmL, Nat.reduceAdd]
  rw [show s.val id = ptr e.b by simp [Sy.val, he]]
  unfold ptr
  have hE := R1.ents e hx
  obtain ⟨g, o, cur, hA, hF, hb, hnc, hcm, ho, hd⟩ : ∃ g o cur, e.A = some ⟨g, o, none⟩ ∧ s.own g = (e.gi, 4) ∧ Blk w1 g 27 cur ∧ e.items.length ≤ e.c ∧ e.c ≤ maxLen ∧ o + e.c * 1 ≤ cur.size ∧ (cur.toList.drop o).take (e.items.length * 1) = e.items.map It.val := by
    rcases hE.row.2 with ⟨q, _⟩ | q
    · rw [hi] at q; simp at q
    · exact q
  have hcell : w1.cell? ⟨g, o, none⟩ = some i.val := by
    rw [hb.cell, ← Array.getElem?_toList]
    have : ((cur.toList.drop o).take (e.items.length * 1))[0]? = some i.val := by rw [hd, hi]; rfl
    rw [List.getElem?_take, List.getElem?_drop] at this
    split at this
    · simpa using this
    · cases this
  have hl : e.items.length = rest.length + 1 := by rw [hi]; rfl
  have hlr : ((rest.length + 1 : Nat) : Int) = (rest.length : Int) + 1 := by simp
  have h00 : (((rest.length + 1 : Nat) : Int) == 0) = false := by simp; omega
  have hfree := Scene.free (Z := Z) (a := ⟨g, o, none⟩) (R1.vis g (by rw [hF]; exact Nat.le_refl 4)).1
  repeat (first | refine Run.auto rfl ?_ | ((first | (apply Run.lq rfl rfl rfl rfl; (focus (intro w K hK; go_simp; exact hK))) | (refine Run.ln rfl rfl rfl rfl rfl (by kernel_rfl) ?_) | (refine Run.not rfl rfl ?_)); try simp only [Act.put, Act.eval, nrmL, Nat.reduceAdd]) | (refine Run.rg ?_; simp only [nrmL, rngL, Nat.reduceAdd]) | refine Run.cT rfl ?_ | refine Run.cF rfl ?_ | refine Run.rt ?_ | refine Run.nd ?_)
  refine Run.ld (a := ⟨e.b, 0, none⟩) (v := .slice (some ⟨g, o, none⟩) (rest.length + 1) e.c) rfl rfl (by decide) ((by rw [R1.cellE hx 0, ← hl, ← hA]; rfl)) (R1.nshE hx 0) (fun w₁ hld => ⟨by go_simp, by simp [go_sem, hld]⟩) ?_
  try simp only [Act.put, Act.eval, nrmL, Nat.reduceAdd]
  repeat (first | refine Run.auto rfl ?_ | ((first | (apply Run.lq rfl rfl rfl rfl; (focus (intro w K hK; go_simp; exact hK))) | (refine Run.ln rfl rfl rfl rfl rfl (by kernel_rfl) ?_) | (refine Run.not rfl rfl ?_)); try simp only [Act.put, Act.eval, nrmL, Nat.reduceAdd]) | (refine Run.rg ?_; simp only [nrmL, rngL, Nat.reduceAdd]) | refine Run.cT rfl ?_ | refine Run.cF rfl ?_ | refine Run.rt ?_ | refine Run.nd ?_)
  refine Run.ld (a := ⟨e.b, 0, none⟩) (v := .slice (some ⟨g, o, none⟩) (rest.length + 1) e.c) rfl rfl (by decide) ((by rw [R1.cellE hx 0, ← hl, ← hA]; rfl)) (R1.nshE hx 0) (fun w₁ hld => ⟨by go_simp, by simp [go_sem, hld]⟩) ?_
  try simp only [Act.put, Act.eval, nrmL, Nat.reduceAdd]
  repeat (first | refine Run.auto rfl ?_ | ((first | (apply Run.lq rfl rfl rfl rfl; (focus (intro w K hK; go_simp; exact hK))) | (refine Run.ln rfl rfl rfl rfl rfl (by kernel_rfl) ?_) | (refine Run.not rfl rfl ?_)); try simp only [Act.put, Act.eval, nrmL, Nat.reduceAdd]) | (refine Run.rg ?_; simp only [nrmL, rngL, Nat.reduceAdd]) | refine Run.cT rfl ?_ | refine Run.cF rfl ?_ | refine Run.rt ?_ | refine Run.nd ?_)
  refine Run.ld (a := ⟨g, o, none⟩) (v := i.val) rfl rfl (by decide) (hcell) (hfree.2) (fun w₁ hld => ⟨by go_simp, by simp [go_sem, hld]⟩) ?_
  try simp only [Act.put, Act.eval, nrmL, Nat.reduceAdd]
  repeat (first | refine Run.auto rfl ?_ | ((first | (apply Run.lq rfl rfl rfl rfl; (focus (intro w K hK; go_simp; exact hK))) | (refine Run.ln rfl rfl rfl rfl rfl (by kernel_rfl) ?_) | (refine Run.not rfl rfl ?_)); try simp only [Act.put, Act.eval, nrmL, Nat.reduceAdd]) | (refine Run.rg ?_; simp only [nrmL, rngL, Nat.reduceAdd]) | refine Run.cT rfl ?_ | refine Run.cF rfl ?_ | refine Run.rt ?_ | refine Run.nd ?_)
  refine Run.ld (a := ⟨e.b, 0, none⟩) (v := .slice (some ⟨g, o, none⟩) (rest.length + 1) e.c) rfl rfl (by decide) ((by rw [R1.cellE hx 0, ← hl, ← hA]; rfl)) (R1.nshE hx 0) (fun w₁ hld => ⟨by go_simp, by simp [go_sem, hld]⟩) ?_
  try simp only [Act.put, Act.eval, nrmL, Nat.reduceAdd]
  repeat (first | refine Run.auto rfl ?_ | ((first | (apply Run.lq rfl rfl rfl rfl; (focus (intro w K hK; go_simp; exact hK))) | (refine Run.ln rfl rfl rfl rfl rfl (by kernel_rfl) ?_) | (refine Run.not rfl rfl ?_)); try simp only [Act.put, Act.eval, nrmL, Nat.reduceAdd]) | (refine Run.rg ?_; simp only [nrmL, rngL, Nat.reduceAdd]) | refine Run.cT rfl ?_ | refine Run.cF rfl ?_ | refine Run.rt ?_ | refine Run.nd ?_)
  refine Run.look theEnv rfl rfl (by decide) rfl (fun _ _ q => by cases q) (.slice e.pop.A rest.length e.pop.c) (fun u _ _ => by
    refine (run_tail (sz := 1) (A := some ⟨g, o, none⟩) (m := rest.length) (c := e.c) rfl rfl Try.underlying72 (by kernel_rfl)).trans ?_
    rw [← hA]
    rfl) ?_
  try simp only [Act.put, Act.eval, nrmL, Nat.reduceAdd]
  repeat (first | refine Run.auto rfl ?_ | ((first | (apply Run.lq rfl rfl rfl rfl; (focus (intro w K hK; go_simp; exact hK))) | (refine Run.ln rfl rfl rfl rfl rfl (by kernel_rfl) ?_) | (refine Run.not rfl rfl ?_)); try simp only [Act.put, Act.eval, nrmL, Nat.reduceAdd]) | (refine Run.rg ?_; simp only [nrmL, rngL, Nat.reduceAdd]) | refine Run.cT rfl ?_ | refine Run.cF rfl ?_ | refine Run.rt ?_ | refine Run.nd ?_)
  obtain ⟨R2, k2⟩ := R1.pop hx hi
  have hcl0 : w1.cell? ⟨e.b, 0, none⟩ = some (.slice e.A e.items.length e.c) := R1.cellE hx 0
  refine Run.stO (⟨e.b, 0, none⟩) (.slice e.pop.A rest.length e.pop.c) rfl rfl (by decide) rfl rfl rfl rfl rfl (by kernel_rfl) rfl ((by rw [hcl0]; rfl)) ((R1.ents e hx).blk.frozen 0) (R1.nshE hx 0) (R1.nplE hx) (R1.nCE hok1 hx) ?_
  try simp only [Act.put, Act.eval, nrmL, Nat.reduceAdd]
  generalize w1.setCell ⟨e.b, 0, none⟩ (.slice e.pop.A rest.length e.pop.c) = w2 at R2 k2
  repeat (first | refine Run.auto rfl ?_ | ((first | (apply Run.lq rfl rfl rfl rfl; (focus (intro w K hK; go_simp; exact hK))) | (refine Run.ln rfl rfl rfl rfl rfl (by kernel_rfl) ?_) | (refine Run.not rfl rfl ?_)); try simp only [Act.put, Act.eval, nrmL, Nat.reduceAdd]) | (refine Run.rg ?_; simp only [nrmL, rngL, Nat.reduceAdd]) | refine Run.cT rfl ?_ | refine Run.cF rfl ?_ | refine Run.rt ?_ | refine Run.nd ?_)
  refine Run.okG fun hok2 => ?_
  refine Run.undefer rfl Try.func25 (by kernel_rfl) rfl ?_
  simp only [Try.ntmps25]
  try simp only [Act.put, Act.eval, nrmL, Nat.reduceAdd, Nat.reduceSub]
  refine unlock_runD (a := ⟨s.S, 1, none⟩) (R2.cell 1) (R2.sys.frozen 1) (R2.npl 1 (by decide)) (R2.nsh 1 (.inr (by decide))) (R2.nC hok2) rfl ?_
  obtain ⟨R3, k3⟩ := R2.lkTo 0
  refine Run.leave2 rfl rfl Try.func32 (by rfl) ?_
  exact H _ R3 (((k1.mono fun _ _ q => .inl q).trans (k2.mono fun _ _ q => .inr q)).trans (k3.mono fun _ _ q => .inl q))
end
end Go.Proofs.Ytfpkachoneaaeaa
namespace Go.Proofs.Ytfpkachoneaaeaa
open Go Go.Conc Go.RowKit
open Go.ConcN (upd upd_ne upd_same)
def ownDrop (own : Nat → Nat × Nat) (t : Nat × Nat) (k : Nat) : Nat × Nat := if own k = t then (0, 0) else own k
theorem ownDrop_ne {own : Nat → Nat × Nat} {t u : Nat × Nat} {k : Nat} (h : own k = u) (hne : u ≠ t) : ownDrop own t k = u := by
  unfold ownDrop
  rw [h, if_neg hne]
section
variable {Z Z' : Scene} {n : Nat} {hd hd' : Option (Nat × Chair)} {w w' : World} {s : Sy} {lk : Int} {e : Ent}
theorem Rep.running (h : Rep Z n hd w s lk) (he : e ∈ s.ents) : s.stopped = false := by
  cases q : s.stopped with
  | false => rfl
  | true => rw [h.stop q] at he; cases he
/-- An item's blocks are let go. -/
theorem Rep.release (h : Rep Z n hd w s lk) {g t : Nat} (ht : ∀ e ∈ s.ents, e.gi = g → ∀ i ∈ e.items, i.t ≠ t) : Rep Z n hd w { s with own := ownDrop s.own (g, 5 + t) } lk := by
  have hn : ∀ k u v, s.own k = (u, v) → v < 5 → ownDrop s.own (g, 5 + t) k = (u, v) := fun k u v ho hv => ownDrop_ne ho (fun q => by cases q; omega)
  refine ⟨h.sys, h.map, fun e he => ?_, h.gis, h.gin, hn _ _ _ h.oS (by omega), hn _ _ _ h.oq (by omega), hn _ _ _ h.om (by omega), h.opn, h.hS, h.hE, fun k hk => h.vis k ?_, h.cE, h.stop, h.inb, h.shun, h.hdk, h.pos, fun k hk => by show ownDrop _ _ k = _; unfold ownDrop; rw [h.fresh k hk]; split <;> rfl⟩
  · have hE := h.ents e he
    refine ⟨hE.blk, hE.row.mono fun k _ ho => hn _ _ _ ho (by omega), fun i hi => (hE.its i hi).mono fun k _ ho => ownDrop_ne ho fun q => ?_, hE.tks, hE.wk, hE.dn, hn _ _ _ hE.ob (by omega), hn _ _ _ hE.ow (by omega), hn _ _ _ hE.od (by omega), hE.pos⟩
    obtain ⟨h1, h2⟩ := Prod.mk.inj q
    exact ht e he h1 i hi (by omega)
  · have hk' : 4 ≤ (ownDrop s.own (g, 5 + t) k).2 := hk
    unfold ownDrop at hk'
    split at hk'
    · simp at hk'
    · exact hk'
theorem Sy.setE_self (h : Rep Z n hd w s lk) (he : e ∈ s.ents) : s.setE e s.own = s := by
  have : s.ents.map (fun x => if x.gi = e.gi then e else x) = s.ents := by
    conv => rhs; rw [← List.map_id s.ents]
    refine List.map_congr_left fun x hx => ?_
    by_cases q : x.gi = e.gi
    · rw [if_pos q, nodup_gi h.gis hx he q]; rfl
    · rw [if_neg q]; rfl
  unfold Sy.setE
  rw [this]
theorem kept_chan (w : World) (c m : Nat) : Kept (· = c) w (w.setChan c 0 #[] false m m false) :=
  ⟨rfl, rfl, rfl, by simp [World.setChan], fun k _ hk => by simp only [World.setChan, Array.getElem?_setIfInBounds]; rw [if_neg (Ne.symm hk)]⟩
theorem Rep.passed (h : Rep Z n hd w s lk) (he : e ∈ s.ents) {c : Nat} (hc : c = e.wk ∨ c = e.dn) (m : Nat) : Rep Z n hd (w.setChan c 0 #[] false m m false) s lk := by
  have hk := kept_chan w c m
  have hE := h.ents e he
  have hoc : s.own c = (e.gi, 2) ∨ s.own c = (e.gi, 3) := hc.imp (fun q => by rw [q]; exact hE.ow) (fun q => by rw [q]; exact hE.od)
  have hlt : c < w.heap.size := hc.elim (fun q => by rw [q]; exact hE.wk.lt) (fun q => by rw [q]; exact hE.dn.lt)
  have hne : ∀ k t, s.own k = (e.gi, t) → t ≠ 2 → t ≠ 3 → ¬ k = c := fun k t ho h2 h3 q => by
    rw [q] at ho
    rcases hoc with x | x <;> rw [x] at ho <;> cases ho <;> omega
  have hself : Opn (w.setChan c 0 #[] false m m false) c := ⟨m, by simp [World.setChan, hlt]⟩
  have hopn : ∀ d, Opn w d → Opn (w.setChan c 0 #[] false m m false) d := fun d hd => by
    by_cases q : d = c
    · rw [q]; exact hself
    · exact hd.keep hk q
  have := h.turnE he rfl hk (fun k _ hf => by rw [hf]; rcases hoc with x | x <;> rw [x]) (fun _ _ => rfl) h.vis (e' := e)
    ⟨hE.blk.keep hk (hne _ _ hE.ob (by omega) (by omega)), hE.row.keep hk fun k _ ho q => hne k _ ho (by omega) (by omega) q, fun i hi => (hE.its i hi).keep hk fun k _ ho q => hne k _ ho (by omega) (by omega) q, hE.tks, hopn _ hE.wk, hopn _ hE.dn, hE.ob, hE.ow, hE.od, hE.pos⟩ (fun k hk2 => h.fresh k (Nat.le_trans hk.size hk2))
  rwa [Sy.setE_self h he] at this
/-- Others sit. -/
theorem Rep.seat (h : Rep Z n hd w s lk) (h1 : Z'.Hd = Z.Hd) (h2 : Z'.C = Z.C) (h3 : Z'.Sh = Z.Sh) (hi : Z'.Inb = s.inb hd') (hk : ∀ j d, hd' = some (j, d) → ∃ e ∈ s.ents, e.gi = j ∧ DCh e d) : Rep Z' n hd' w s lk :=
  ⟨h.sys, h.map, h.ents, h.gis, h.gin, h.oS, h.oq, h.om, fun q => ⟨(h.opn q).1, by rw [h2]; exact (h.opn q).2⟩, by rw [h1]; exact h.hS, fun e he => by rw [h1]; exact h.hE e he, fun k q => by rw [h1, h2]; exact h.vis k q, fun e he => by rw [h2]; exact h.cE e he, h.stop, hi, fun a q => h.shun a (by rw [← h3]; exact q), hk, h.pos, h.fresh⟩
/-- The worker's chair, by what the System holds. -/
theorem Rep.chairK (h : Rep Z n hd w s lk) (he : e ∈ s.ents) : (s.wch e).K w := fun a v hv => by
  rcases wVal_of hv with ⟨rfl, rfl⟩ | ⟨rfl, rfl⟩
  · exact h.cell 4
  · exact h.cellE he 1
theorem Rep.chairSh (h : Rep Z n hd w s lk) (he : e ∈ s.ents) : ∀ l, (s.wch e).St l → ¬ Z.Sh l := by
  rintro l ⟨a, v, rfl, hv⟩
  rcases wVal_of hv with ⟨rfl, rfl⟩ | ⟨rfl, rfl⟩
  · exact h.nsh 4 (.inr (by decide))
  · exact h.nshE he 1
theorem Rep.chairHd (h : Rep Z n hd w s lk) (he : e ∈ s.ents) : ∀ a v, (s.wch e).val a = some v → Z.Hd a.block := by
  intro a v hv
  rcases wVal_of hv with ⟨rfl, rfl⟩ | ⟨rfl, rfl⟩
  · exact h.hS
  · exact h.hE e he
theorem Rep.chairC (h : Rep Z n hd w s lk) (he : e ∈ s.ents) : ∀ c, (s.wch e).seat.has c → Z.C c := by
  intro c hc
  rcases wSeat_has hc with rfl | rfl
  · exact (h.cE e he).1
  · exact (h.opn (h.running he)).2
theorem Rep.chairO (h : Rep Z n hd w s lk) (he : e ∈ s.ents) : ∀ c, (s.wch e).seat.has c → ∃ cap k, w.heap[c]? = some (.chan cap #[] false k k false) := by
  intro c hc
  rcases wSeat_has hc with rfl | rfl
  · obtain ⟨k, q⟩ := (h.ents e he).wk
    exact ⟨0, k, q⟩
  · obtain ⟨k, q⟩ := (h.opn (h.running he)).1
    exact ⟨0, k, q⟩
theorem Rep.wk_qc (h : Rep Z n hd w s lk) (he : e ∈ s.ents) : e.wk ≠ s.qc := fun q => by
  have h1 := (h.ents e he).ow
  rw [q, h.oq] at h1
  have := (h.ents e he).pos
  have := (Prod.mk.inj h1).1
  omega
theorem Rep.chairWf (h : Rep Z n hd w s lk) (he : e ∈ s.ents) : (s.wch e).seat.Wf := wSeat_wf (h.wk_qc he)
theorem Rep.only (h : Rep Z n hd w s lk) {x y : Ent} (hx : x ∈ s.ents) (hy : y ∈ s.ents) (hh : (s.wch y).seat.has x.wk) : y = x := by
  rcases wSeat_has hh with q | q
  · have h1 := (h.ents x hx).ow
    have q' : x.wk = y.wk := q
    rw [q', (h.ents y hy).ow] at h1
    exact nodup_gi h.gis hy hx (Prod.mk.inj h1).1
  · exact absurd q (h.wk_qc hx)
theorem Rep.notdn (h : Rep Z n hd w s lk) {x y : Ent} (hx : x ∈ s.ents) (hy : y ∈ s.ents) : ¬ (s.wch y).seat.has x.dn := fun hh => by
  rcases wSeat_has hh with q | q
  · have h1 := (h.ents x hx).od
    have q' : x.dn = y.wk := q
    rw [q', (h.ents y hy).ow] at h1
    exact absurd (Prod.mk.inj h1).2 (by decide)
  · have h1 := (h.ents x hx).od
    have q' : x.dn = s.qc := q
    rw [q', h.oq] at h1
    exact absurd (Prod.mk.inj h1).2 (by decide)
end
/-! ## Goroutine 0's seat -/
def dVal (c : Core1) (a : Addr) : Option Value := if a = ⟨c.b, 2, none⟩ then some (.chan (some c.dn)) else none
noncomputable def dSeat (Post : Value → World → Prop) (c : Core1) (fr : Frame) (cs : List Frame) : Seat :=
  Seat.one c.dn (.int .i64 0) false fun g => ∀ Z n w v, Run Try.prog Post Z n 0 0 (G (fr.finish (.bool true)) cs) w → Run Try.prog Post Z n 0 0 (Go.Conc.served g v) w
noncomputable def dChair (Post : Value → World → Prop) (c : Core1) (fr : Frame) (cs : List Frame) : Chair := ⟨dSeat Post c fr cs, dVal c, c.b + 1⟩
theorem dVal_of {c : Core1} {a : Addr} {v : Value} (h : dVal c a = some v) : a = ⟨c.b, 2, none⟩ ∧ v = .chan (some c.dn) := by
  unfold dVal at h
  split at h
  · exact ⟨by assumption, (Option.some.inj h).symm⟩
  · cases h
theorem dCh (Post : Value → World → Prop) (e : Ent) (fr : Frame) (cs : List Frame) : DCh e (dChair Post e.toCore1 fr cs) := ⟨fun _ _ h => dVal_of h, fun _ h => Seat.one_has.1 h⟩
end Go.Proofs.Ytfpkachoneaaeaa
namespace Go.Proofs.Ytfpkachoneaaeaa
open Go Go.Conc Go.RowKit
open Go.ConcN (upd upd_ne upd_same)
theorem snd_ne {a b c d : Nat} (h : (a, b) = (c, d)) (hn : b ≠ d) : False := hn (congrArg Prod.snd h)
theorem Run.giveW {P : Program} {Post : Value → World → Prop} {Z : Scene} {n h : Nat} {a a₂ : Goroutine} {w : World} {j c kk m : Nat} {chj ch : Chair} {v z z' : Value} (hjh : j ≠ h) (hjn : j < n) (hj : Z.Inb j = some chj) (hk : chj.seat.cases[kk]? = some (rcase c z))
    (honly : ∀ x chx, x ≠ j → Z.Inb x = some chx → ¬ chx.seat.has c) (hrun : a.status = .running) (hsend : ∀ w : World, stepG P (h == 0) a w = .comm a₂ #[scase c v z'] true .send w #[])
    (hc : w.heap[c]? = some (.chan 0 #[] false m m false)) (hwf : ch.seat.Wf) (hch : ∀ c' : Nat, ch.seat.has c' → ∃ cap k, w.heap[c']? = some (.chan cap #[] false k k false)) (hK : ch.K w) (hap : ∀ l, ch.St l → ¬ Z.Sh l)
    (hway : Way P (h == 0) ch (Go.Conc.served a₂ undef)) (hp : ∀ a v, ch.val a = some v → Z.Hd a.block) (hcc : ∀ c, ch.seat.has c → Z.C c)
    (H : ∀ g₂, chj.seat.home g₂ → Run P Post ((Z.sit h ch hp hcc).rise j) n j 0 (Go.Conc.served g₂ (commResult chj.seat.cases chj.seat.shape kk v true)) (w.setChan c 0 #[] false (m + 1) (m + 1) false)) : Run P Post Z n h 0 a w := by
  obtain ⟨nd, hs⟩ := hway.sits
  exact Run.give hjh hjn hj hk honly hrun hsend hc hwf hch hK hap hs hp hcc H
section
variable {Z : Scene} {n : Nat} {w : World} {s : Sy} {e : Ent} {Post : Value → World → Prop} {c : Frame} {cs : List Frame}
set_option maxRecDepth 50000 in
set_option maxHeartbeats 4000000 in
theorem run_none {h : Nat} {hd : Option (Nat × Chair)} (R : Rep Z n hd w s 0) (id : Int) (h0 : s.len id = 0) (H : ∀ w', Rep Z n hd w' s 0 → Kept (· = s.S) w w' → Run Try.prog Post Z n h 0 (G (c.finish (.bool false)) cs) w') :
    Run Try.prog Post Z n h 0 (G ((base 14).at { tmps := #[.pointer (some ⟨s.S, 0, none⟩), .int .i64 id] ++ Array.replicate (Try.f14.ntmps - 2) undef, defers := [] } [.code (Try.f14.body.getD .skip)]) (c :: cs)) w := by
  simp only [Try.ntmps14]
  try simp only [Act.put, Act.eval, nrmL, Nat.reduceAdd, Nat.reduceSub]
  simp only [Try.f14, Option.getD_some]
  repeat (first | refine Run.auto rfl ?_ | ((first | (apply Run.lq rfl rfl rfl rfl; (focus (intro w K hK; go_simp; exact hK))) | (refine Run.ln rfl rfl rfl rfl rfl (by kernel_rfl) ?_) | (refine Run.not rfl rfl ?_)); try simp only [Act.put, Act.eval, nrmL, Nat.reduceAdd]) | (refine Run.rg ?_; simp only [nrmL, rngL, Nat.reduceAdd]) | refine Run.cT rfl ?_ | refine Run.cF rfl ?_ | refine Run.rt ?_ | refine Run.nd ?_)
  refine Run.enter rfl rfl (by decide) rfl Try.func32 (by kernel_rfl) rfl ?_
  simp only [Act.eval, nrmL, Nat.reduceAdd]
  refine first_none R id h0 fun w' R' k' => ?_
  rw [Frame.finish_at]
  try simp only [Act.put, Act.eval, nrmL, Nat.reduceAdd]
  repeat (first | refine Run.auto rfl ?_ | ((first | (apply Run.lq rfl rfl rfl rfl; (focus (intro w K hK; go_simp; exact hK))) | (refine Run.ln rfl rfl rfl rfl rfl (by kernel_rfl) ?_) | (refine Run.not rfl rfl ?_)); try simp only [Act.put, Act.eval, nrmL, Nat.reduceAdd]) | (refine Run.rg ?_; simp only [nrmL, rngL, Nat.reduceAdd]) | refine Run.cT rfl ?_ | refine Run.cF rfl ?_ | refine Run.rt ?_ | refine Run.nd ?_)
  refine Run.leave1 rfl rfl Try.func14 (by rfl) ?_
  try rw [Frame.finish_at]
  try simp only [Act.put, Act.eval, nrmL, Nat.reduceAdd]
  exact H _ R' k'
/-- What is left behind the pop. -/
def Sy.popped (s : Sy) (e : Ent) (i : It) : Sy := { s.setE e.pop s.own with own := ownDrop s.own (e.gi, 5 + i.t) }
theorem Rep.popped {hd : Option (Nat × Chair)} (R : Rep Z n hd w (s.setE e.pop s.own) 0) (hn : (s.ents.map (·.gi)).Nodup) (he : e ∈ s.ents) {i : It} {rest : List It} (hi : e.items = i :: rest) (ht : (e.items.map (·.t)).Nodup) : Rep Z n hd w (s.popped e i) 0 := by
  refine R.release fun y hy hg x hx q => ?_
  rcases Sy.setE_mem hy with rfl | ⟨_, h2⟩
  · rw [hi] at ht
    have hx' : x ∈ rest := by simpa [Ent.pop, hi] using hx
    exact (List.nodup_cons.1 ht).1 (List.mem_map.2 ⟨x, hx', q⟩)
  · exact h2 hg
set_option maxRecDepth 50000 in
set_option maxHeartbeats 4000000 in
theorem run_some (R : Rep Z n none w s 0) (id : Int) (he : s.ent id = some e) {i : It} {rest : List It} (hi : e.items = i :: rest)
    {cf : FuncId} {fn : Func} {body : Code} {caps : Array Value} (hdo : s.fdo = .func (.func cf) #[] caps) (hf : Try.prog.funcs[cf]? = some fn) (hname : (fn.name == "runtime.NumGoroutine") = false) (hb : fn.body = some body)
    (Q : Scene → Nat → Sy → World → Prop)
    (HC : ∀ (Z1 : Scene) (w1 : World) (d : Chair) (c0 : Frame), Z1.Hd = Z.Hd → Z1.C = Z.C → Z1.Sh = Z.Sh → Rep Z1 n (some (e.gi, d)) w1 (s.popped e i) 0 → Kept (fun k => s.own k ≠ (0, 0)) w w1 → SegV w1 (fun k => s.own k = (e.gi, 5 + i.t)) 5 1 i.A i.bs.length i.c (bvs i.bs) →
      (∀ Z2 n2 s2 w2, Rep Z2 n2 (some (e.gi, d)) w2 s2 0 → s2.S = s.S → s2.qc = s.qc → (∃ e2 ∈ s2.ents, e2.toCore1 = e.toCore1) → Q Z2 n2 s2 w2 → Run Try.prog Post Z2 n2 e.gi 0 (G (c0.finish (.tuple #[])) [botW]) w2) →
      Run Try.prog Post Z1 n e.gi 0 (G ((base cf).at { tmps := (#[.int .i64 e.id, i.val] ++ caps) ++ Array.replicate (fn.ntmps - (#[.int .i64 e.id, i.val] ++ caps).size) undef, defers := [] } [.code body]) [c0, botW]) w1)
    (H : ∀ Z2 n2 s2 w2 Z3 w3, Q Z2 n2 s2 w2 → Z3.Hd = Z2.Hd → Z3.C = Z2.C → Z3.Sh = Z2.Sh → Rep Z3 n2 none w3 s2 0 → Kept (fun k => s2.own k ≠ (0, 0)) w2 w3 → Run Try.prog Post Z3 n2 0 0 (G (c.finish (.bool true)) cs) w3) :
    Run Try.prog Post Z n 0 0 (G ((base 14).at { tmps := #[.pointer (some ⟨s.S, 0, none⟩), .int .i64 id] ++ Array.replicate (Try.f14.ntmps - 2) undef, defers := [] } [.code (Try.f14.body.getD .skip)]) (c :: cs)) w := by
  have hx := (Sy.ent_some he).1
  have hE := R.ents e hx
  simp only [Try.ntmps14]
  try simp only [Act.put, Act.eval, nrmL, Nat.reduceAdd, Nat.reduceSub]
  simp only [Try.f14, Option.getD_some]
  repeat (first | refine Run.auto rfl ?_ | ((first | (apply Run.lq rfl rfl rfl rfl; (focus (intro w K hK; go_simp; exact hK))) | (refine Run.ln rfl rfl rfl rfl rfl (by kernel_rfl) ?_) | (refine Run.not rfl rfl ?_)); try simp only [Act.put, Act.eval, nrmL, Nat.reduceAdd]) | (refine Run.rg ?_; simp only [nrmL, rngL, Nat.reduceAdd]) | refine Run.cT rfl ?_ | refine Run.cF rfl ?_ | refine Run.rt ?_ | refine Run.nd ?_)
  refine Run.enter rfl rfl (by decide) rfl Try.func32 (by kernel_rfl) rfl ?_
  simp only [Act.eval, nrmL, Nat.reduceAdd]
  refine first_some R id he hi fun w1 R1 k1 => ?_
  replace R1 := R1.popped R.gis hx hi hE.tks
  have hx1 : e.pop ∈ (s.popped e i).ents := Sy.setE_has (own' := s.own) hx rfl
  have k1' : Kept (fun k => s.own k ≠ (0, 0)) w w1 := k1.mono fun k _ hk q => by
    rcases hk with rfl | rfl
    · rw [R.oS] at q; exact snd_ne q (by decide)
    · rw [hE.ob] at q; exact snd_ne q (by decide)
  have hs1 : SegV w1 (fun k => s.own k = (e.gi, 5 + i.t)) 5 1 i.A i.bs.length i.c (bvs i.bs) := (hE.its i (by rw [hi]; exact .head _)).keep k1 fun k _ ho hk => by
    rcases hk with rfl | rfl
    · rw [R.oS] at ho; exact snd_ne ho (by omega)
    · rw [hE.ob] at ho; exact snd_ne ho (by omega)
  rw [Frame.finish_at]
  unfold ptr
  try simp only [Act.put, Act.eval, nrmL, Nat.reduceAdd]
  repeat (first | refine Run.auto rfl ?_ | ((first | (apply Run.lq rfl rfl rfl rfl; (focus (intro w K hK; go_simp; exact hK))) | (refine Run.ln rfl rfl rfl rfl rfl (by kernel_rfl) ?_) | (refine Run.not rfl rfl ?_)); try simp only [Act.put, Act.eval, nrmL, Nat.reduceAdd]) | (refine Run.rg ?_; simp only [nrmL, rngL, Nat.reduceAdd]) | refine Run.cT rfl ?_ | refine Run.cF rfl ?_ | refine Run.rt ?_ | refine Run.nd ?_)
  refine Run.ld (a := ⟨e.b, 1, none⟩) (v := .chan (some e.wk)) rfl rfl (by decide) (R1.cellE hx1 1) (R1.nshE hx1 1) (fun w₁ hld => ⟨by go_simp, by simp [go_sem, hld]⟩) ?_
  try simp only [Act.put, Act.eval, nrmL, Nat.reduceAdd]
  repeat (first | refine Run.auto rfl ?_ | ((first | (apply Run.lq rfl rfl rfl rfl; (focus (intro w K hK; go_simp; exact hK))) | (refine Run.ln rfl rfl rfl rfl rfl (by kernel_rfl) ?_) | (refine Run.not rfl rfl ?_)); try simp only [Act.put, Act.eval, nrmL, Nat.reduceAdd]) | (refine Run.rg ?_; simp only [nrmL, rngL, Nat.reduceAdd]) | refine Run.cT rfl ?_ | refine Run.cF rfl ?_ | refine Run.rt ?_ | refine Run.nd ?_)
  obtain ⟨m, hm⟩ := (R1.ents e.pop hx1).wk
  replace hm : w1.heap[e.wk]? = some (.chan 0 #[] false m m false) := hm
  have hin : Z.Inb e.gi = some (s.wch e) := by rw [R.inb]; exact Sy.seats_mem R.gis hx
  have hgi : e.gi ≠ 0 := by have := hE.pos; omega
  have hD := dCh Post e c cs
  have hp0 : ∀ a v, (dChair Post e.toCore1 c cs).val a = some v → Z.Hd a.block := by
    intro a v hv
    obtain ⟨rfl, rfl⟩ := hD.val a v hv
    exact R1.hE e.pop hx1
  have hc0 : ∀ c', (dChair Post e.toCore1 c cs).seat.has c' → Z.C c' := by
    intro c' hc'
    rw [hD.has c' hc']
    exact (R1.cE e.pop hx1).2
  refine Run.giveW (j := e.gi) (c := e.wk) (kk := 0) (m := m) (chj := s.wch e) (ch := dChair Post e.toCore1 c cs) (v := i.val) (z := .slice none 0 0) (z' := .tuple #[]) hgi (R.gin e hx) hin rfl ?_ rfl (send_step rfl rfl (by decide) (fun w => by simp [execOp, scase, Act.eval]) (fun w => by simp [go_sem, execOp, Act.eval]) true)
    hm (Seat.one_wf _ _ _ _) ?_ ?_ ?_ ?_ hp0 hc0 ?_
  · intro x chx hxe hI hh
    rw [R.inb] at hI
    obtain ⟨y, hy, hyg, rfl⟩ := Sy.seats_of hI
    have := R.only hx hy hh
    subst this
    exact hxe hyg.symm
  · intro c' hc'
    rw [hD.has c' hc']
    obtain ⟨k, q⟩ := (R1.ents e.pop hx1).dn
    exact ⟨0, k, q⟩
  · intro a v hv
    obtain ⟨rfl, rfl⟩ := hD.val a v hv
    exact R1.cellE hx1 2
  · rintro l ⟨a, v, rfl, hv⟩
    obtain ⟨rfl, rfl⟩ := hD.val a v hv
    exact R1.nshE hx1 2
  · rw [show ∀ (fr : Frame) (cs : List Frame) (v : Value), Go.Conc.served (G fr cs) v = G (fr.finish v) cs from fun _ _ _ => rfl, Frame.finish_at]
    try simp only [Act.put, Act.eval, nrmL, Nat.reduceAdd]
    repeat (first | refine Way.auto rfl ?_ | ((first | (apply Way.qo rfl rfl rfl (by decide) (fun _ => by simp [go_sem, *]); (focus (intro w K hK; go_simp; exact hK))) | refine Way.not rfl rfl ?_); try simp only [Act.put, Act.eval, nrmL, Nat.reduceAdd]) | (refine Way.rg ?_; simp only [nrmL, rngL, Nat.reduceAdd]) | refine Way.cT rfl ?_ | refine Way.cF rfl ?_ | refine Way.rt ?_ | refine Way.nd ?_)
    refine Way.ld (a := ⟨e.b, 2, none⟩) (v := .chan (some e.dn)) rfl rfl (by decide) ((show dVal e.toCore1 ⟨e.b, 2, none⟩ = _ by simp [dVal])) (Nat.lt_succ_self e.b) (fun w₁ hld => ⟨by go_simp, by simp [go_sem, hld]⟩) ?_
    try simp only [Act.put, Act.eval, nrmL, Nat.reduceAdd]
    repeat (first | refine Way.auto rfl ?_ | ((first | (apply Way.qo rfl rfl rfl (by decide) (fun _ => by simp [go_sem, *]); (focus (intro w K hK; go_simp; exact hK))) | refine Way.not rfl rfl ?_); try simp only [Act.put, Act.eval, nrmL, Nat.reduceAdd]) | (refine Way.rg ?_; simp only [nrmL, rngL, Nat.reduceAdd]) | refine Way.cT rfl ?_ | refine Way.cF rfl ?_ | refine Way.rt ?_ | refine Way.nd ?_)
    refine Way.here (atIn_of (s := dSeat Post e.toCore1 c cs) rfl rfl (by decide) (fun w => by simp [go_sem, execOp, rcase, Act.eval, dSeat, Seat.one]) (fun w => by simp [go_sem, execOp, Act.eval]) ?_)
    intro Z' n' w' v H'
    rw [show ∀ (fr : Frame) (cs : List Frame) (v : Value), Go.Conc.served (G fr cs) v = G (fr.finish v) cs from fun _ _ _ => rfl, Frame.finish_at]
    try simp only [Act.put, Act.eval, nrmL, Nat.reduceAdd]
    repeat (first | refine Run.auto rfl ?_ | ((first | (apply Run.lq rfl rfl rfl rfl; (focus (intro w K hK; go_simp; exact hK))) | (refine Run.ln rfl rfl rfl rfl rfl (by kernel_rfl) ?_) | (refine Run.not rfl rfl ?_)); try simp only [Act.put, Act.eval, nrmL, Nat.reduceAdd]) | (refine Run.rg ?_; simp only [nrmL, rngL, Nat.reduceAdd]) | refine Run.cT rfl ?_ | refine Run.cF rfl ?_ | refine Run.rt ?_ | refine Run.nd ?_)
    refine Run.leave1 rfl rfl Try.func14 (by rfl) ?_
    try rw [Frame.finish_at]
    try simp only [Act.put, Act.eval, nrmL, Nat.reduceAdd]
    exact H'
  · rintro g₂ ⟨T, hT, rfl⟩
    have hinb : upd (upd Z.Inb 0 (some (dChair Post e.toCore1 c cs))) e.gi none = (s.popped e i).inb (some (e.gi, dChair Post e.toCore1 c cs)) := by
      have hse : (s.setE e.pop s.own).seats = s.seats := Sy.setE_seats (own' := s.own) R.gis hx rfl
      rw [R.inb]
      show upd (upd s.seats 0 _) e.gi none = upd (upd (s.setE e.pop s.own).seats 0 _) e.gi none
      rw [hse]
    have R2 : Rep ((Z.sit 0 (dChair Post e.toCore1 c cs) hp0 hc0).rise e.gi) n (some (e.gi, dChair Post e.toCore1 c cs)) (w1.setChan e.wk 0 #[] false (m + 1) (m + 1) false) (s.popped e i) 0 :=
      (R1.passed hx1 (.inl rfl) (m + 1)).seat rfl rfl rfl hinb (fun j d q => by
        obtain ⟨rfl, rfl⟩ := Prod.mk.inj (Option.some.inj q)
        exact ⟨e.pop, hx1, rfl, hD.val, hD.has⟩)
    have k2 := kept_chan w1 e.wk (m + 1)
    refine w_serve (caps := caps) hT hf hname hb ((R2.cell 0).trans (congrArg some hdo)) (R2.nsh 0 (.inr (by decide))) fun c0 hback => ?_
    refine HC _ _ _ c0 rfl rfl rfl R2 (k1'.trans (k2.mono fun k _ hk q => by rw [hk, hE.ow] at q; exact snd_ne q (by decide))) (hs1.keep k2 fun k _ ho hk => by rw [hk, hE.ow] at ho; exact snd_ne ho (by omega)) ?_
    intro Z2 n2 s2 w2 R3 hS hq he2 hQ
    obtain ⟨e2, he2, hc2⟩ := he2
    have hwch : s2.wch e2 = wChair s.S s.qc e.toCore1 := by unfold Sy.wch; rw [hS, hq, hc2]
    have hb2 : e2.b = e.b := by rw [hc2]
    have hd2 : e2.dn = e.dn := by rw [hc2]
    have hg2 : e2.gi = e.gi := by rw [hc2]
    refine hback Post Z2 n2 e.gi w2 (by rw [← hb2, ← hd2]; exact R3.cellE he2 2) (by rw [← hb2]; exact R3.nshE he2 2) fun a a₂ z' hr hs hw => ?_
    obtain ⟨m2, hm2⟩ := (R3.ents e2 he2).dn
    rw [hd2] at hm2
    have hz0 : Z2.Inb 0 = some (dChair Post e.toCore1 c cs) := by
      rw [R3.inb]
      show upd (upd s2.seats 0 _) e.gi none 0 = _
      rw [upd_ne _ _ (Ne.symm hgi), upd_same]
    have heg : (e.gi == 0) = false := beq_false_of_ne hgi
    refine Run.giveW (j := 0) (c := e.dn) (kk := 0) (m := m2) (chj := dChair Post e.toCore1 c cs) (ch := s2.wch e2) (v := .int .i64 e.id) (z := .int .i64 0) (z' := z') (Ne.symm hgi) R3.pos hz0 rfl ?_ hr (hs _) hm2 (R3.chairWf he2) (R3.chairO he2) (R3.chairK he2) (R3.chairSh he2) ?_ (R3.chairHd he2) (R3.chairC he2) ?_
    · intro x chx hxe hI hh
      rw [R3.inb] at hI
      replace hI : upd (upd s2.seats 0 (some (dChair Post e.toCore1 c cs))) e.gi none x = some chx := hI
      by_cases q : x = e.gi
      · rw [q, upd_same] at hI; cases hI
      · rw [upd_ne _ _ q, upd_ne _ _ hxe] at hI
        obtain ⟨y, hy, hyg, rfl⟩ := Sy.seats_of hI
        exact R3.notdn he2 hy (by rw [hd2]; exact hh)
    · rw [heg, hwch]; exact hw
    · intro g₂ hg₂
      refine hg₂ _ _ _ _ ?_
      refine H Z2 n2 s2 w2 _ _ hQ rfl rfl rfl ((R3.passed he2 (.inr hd2.symm) (m2 + 1)).seat rfl rfl rfl ?_ (fun j d q => by cases q)) ((kept_chan w2 e.dn (m2 + 1)).mono fun k _ hk q => by rw [hk, ← hd2, (R3.ents e2 he2).od] at q; exact snd_ne q (by decide))
      funext x
      show upd (upd Z2.Inb e.gi (some (s2.wch e2))) 0 none x = s2.seats x
      rw [R3.inb]
      show upd (upd (upd (upd s2.seats 0 _) e.gi none) e.gi (some (s2.wch e2))) 0 none x = s2.seats x
      by_cases q0 : x = 0
      · subst q0
        rw [upd_same, Sy.seats_none fun y hy q => by have := (R3.ents y hy).pos; omega]
      · rw [upd_ne _ _ q0]
        by_cases q1 : x = e.gi
        · subst q1
          rw [upd_same, ← hg2, Sy.seats_mem R3.gis he2]
        · rw [upd_ne _ _ q1, upd_ne _ _ q1, upd_ne _ _ q0]
end
end Go.Proofs.Ytfpkachoneaaeaa
