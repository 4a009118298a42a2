/-
  A new actor: what is added to the System's picture.
-/
import Derived.Test.YtfpkachoneaaeaaBbPo
import Derived.Test.YtfpkachoneaaeaaBbAdd
import Derived.Test.YtfpkachoneaaeaaBbLiftU
set_option linter.unusedSimpArgs false
set_option linter.unusedVariables false
namespace Go.Proofs.Ytfpkachoneaaeaa
open Go Go.Conc Go.RowKit
open Go.ConcN (upd upd_ne upd_same)
theorem upd_comm {α : Type} {f : Nat → α} {i j : Nat} {x y : α} (h : i ≠ j) : upd (upd f i x) j y = upd (upd f j y) i x := by
  funext k
  unfold upd
  by_cases h1 : k = i <;> by_cases h2 : k = j <;> simp [h1, h2]
  · exact absurd (h1.symm.trans h2) h
  · subst h1; simp [h]
  · subst h2; simp [Ne.symm h]
def Sy.add (s : Sy) (e : Ent) (own' : Nat → Nat × Nat) : Sy := { s with ents := s.ents ++ [e], own := own' }
section
variable {Z Z' : Scene} {n : Nat} {hd : Option (Nat × Chair)} {w w' : World} {s : Sy} {e : Ent} {lk : Int} {F : Nat → Prop} {own' : Nat → Nat × Nat}
theorem Sy.add_seats (h : ∀ x ∈ s.ents, x.gi ≠ e.gi) : (s.add e own').seats = upd s.seats e.gi (some (s.wch e)) := by
  funext i
  by_cases q : i = e.gi
  · subst q
    rw [upd_same]
    unfold Sy.seats Sy.add
    rw [List.find?_append, List.find?_eq_none.2 (fun x hx => by simpa using h x hx)]
    simp
    rfl
  · rw [upd_ne _ _ q]
    unfold Sy.seats Sy.add
    rw [List.find?_append]
    have : List.find? (fun x => x.gi == i) [e] = none := by simp [Ne.symm q]
    rw [this, Option.or_none]
    rfl
theorem Sy.add_inb (hn : e.gi = n) (h : ∀ x ∈ s.ents, x.gi ≠ e.gi) (hp : 0 < n) (hj : ∀ j d, hd = some (j, d) → j ≠ n) : (s.add e own').inb hd = upd (s.inb hd) n (some (s.wch e)) := by
  cases hd with
  | none => show (s.add e own').seats = _; rw [Sy.add_seats h, hn]; rfl
  | some p =>
    obtain ⟨j, d⟩ := p
    show upd (upd (s.add e own').seats 0 (some d)) j none = upd (upd (upd s.seats 0 (some d)) j none) n (some (s.wch e))
    rw [Sy.add_seats h, hn, upd_comm (i := n) (j := 0) (by omega), upd_comm (i := n) (j := j) (Ne.symm (hj j d rfl))]
theorem Rep.addE (h : Rep Z n hd w s lk) (hs : s.stopped = false) (hk : Kept F w w') (hF : ∀ k, k < w.heap.size → F k → k = s.S ∨ k = s.mp) (hsys : Blk w' s.S 58 ((s.add e own').cells lk)) (hmap : IMap w' s.mp ((s.ents ++ [e]).map fun e => (e.id, e.b)))
    (hE : EntOk w' own' e) (hg : e.gi = n) (ho : ∀ k, k < w.heap.size → own' k = s.own k) (hfr : ∀ k, w'.heap.size ≤ k → own' k = (0, 0)) (hHd : ∀ k, Z.Hd k → Z'.Hd k) (hC : ∀ k, Z.C k → Z'.C k) (hb : Z'.Hd e.b) (hwk : Z'.C e.wk) (hdn : Z'.C e.dn) (hSh : Z'.Sh = Z.Sh)
    (hvis : ∀ k, 4 ≤ (own' k).2 → ¬ Z'.Hd k ∧ ¬ Z'.C k) (hinb : Z'.Inb = upd Z.Inb n (some (s.wch e))) (hsh : ∀ a, Z.Sh (.cell a) → a.block ≠ e.b) : Rep Z' (n + 1) hd w' (s.add e own') lk := by
  have hne : ∀ x ∈ s.ents, x.gi ≠ e.gi := fun x hx q => by have := h.gin x hx; omega
  have hSl := h.sys.lt
  have hMl := h.map.lt
  have hQl := (h.opn hs).1.lt
  have keyS : ∀ k t, s.own k = (t, 2) ∨ s.own k = (t, 3) → k < w.heap.size → ¬ F k := fun k t ho hlt hf => by
    rcases hF k hlt hf with rfl | rfl
    · rw [h.oS] at ho; rcases ho with q | q <;> exact snd_ne q (by decide)
    · rw [h.om] at ho; rcases ho with q | q <;> exact snd_ne q (by decide)
  refine ⟨hsys, hmap, fun y hy => ?_, ?_, fun y hy => ?_, (ho _ hSl).trans h.oS, (ho _ hQl).trans h.oq, (ho _ hMl).trans h.om, fun _ => ⟨(h.opn hs).1.keep (hk.mono (S' := fun k => F k ∧ k < w.heap.size) fun k h1 h2 => ⟨h2, h1⟩) fun q => keyS _ _ (.inl h.oq) q.2 q.1, hC _ (h.opn hs).2⟩, hHd _ h.hS, fun y hy => ?_, hvis, fun y hy => ?_, fun q => ?_, ?_, fun a q => ?_, fun j d q => ?_, by omega, hfr⟩
  · rcases List.mem_append.1 hy with hy | hy
    · refine ((h.ents y hy).reown ho).keep (hk.mono (S' := fun k => F k ∧ k < w.heap.size) fun k h1 h2 => ⟨h2, h1⟩) fun k hf q => ?_
      have := (h.ents y hy).pos
      rw [ho k hf.2] at q
      rcases hF k hf.2 hf.1 with rfl | rfl
      · rw [h.oS] at q; simp at q; omega
      · rw [h.om] at q; simp at q; omega
    · simp only [List.mem_cons, List.not_mem_nil, or_false] at hy
      subst hy
      exact hE
  · show ((s.ents ++ [e]).map (·.gi)).Nodup
    rw [List.map_append, List.nodup_append]
    refine ⟨h.gis, by simp, fun a ha b hb => ?_⟩
    simp at hb
    subst hb
    obtain ⟨x, hx, rfl⟩ := List.mem_map.1 ha
    exact hne x hx
  · rcases List.mem_append.1 hy with hy | hy
    · exact Nat.lt_succ_of_lt (h.gin y hy)
    · simp only [List.mem_cons, List.not_mem_nil, or_false] at hy
      subst hy
      omega
  · rcases List.mem_append.1 hy with hy | hy
    · exact hHd _ (h.hE y hy)
    · simp only [List.mem_cons, List.not_mem_nil, or_false] at hy
      subst hy
      exact hb
  · rcases List.mem_append.1 hy with hy | hy
    · exact ⟨hC _ (h.cE y hy).1, hC _ (h.cE y hy).2⟩
    · simp only [List.mem_cons, List.not_mem_nil, or_false] at hy
      subst hy
      exact ⟨hwk, hdn⟩
  · have : s.stopped = true := q
    rw [hs] at this
    cases this
  · rw [hinb, h.inb, Sy.add_inb hg hne h.pos fun j d q => ?_]
    obtain ⟨x, hx, h1, _⟩ := h.hdk j d q
    have := h.gin x hx
    omega
  · rw [hSh] at q
    obtain ⟨h1, h2⟩ := h.shun a q
    refine ⟨fun y hy => ?_, h2⟩
    rcases List.mem_append.1 hy with hy | hy
    · exact h1 y hy
    · simp only [List.mem_cons, List.not_mem_nil, or_false] at hy
      subst hy
      exact hsh a q
  · obtain ⟨x, hx, h1, h2⟩ := h.hdk j d q
    exact ⟨x, List.mem_append_left _ hx, h1, h2⟩
/-- What the document sees. -/
def Sy.abs (s : Sy) : List (Int × List (List UInt8)) := s.ents.map fun e => (e.id, e.items.map It.bs)
theorem Rep.ids (h : Rep Z n hd w s lk) {x y : Ent} (hx : x ∈ s.ents) (hy : y ∈ s.ents) (hi : x.id = y.id) : x = y := by
  have hnd := h.map.nodup
  exact h.inj hx hy (nodup_assoc (i := x.id) hnd (List.mem_map.2 ⟨x, hx, rfl⟩) (by rw [hi]; exact List.mem_map.2 ⟨y, hy, rfl⟩))
theorem Rep.abs_setE {e' : Ent} (h : Rep Z n hd w s lk) (he : e ∈ s.ents) (hc : e'.toCore1 = e.toCore1) : (s.setE e' own').abs = s.abs.map fun p => if p.1 = e.id then (p.1, e'.items.map It.bs) else p := by
  unfold Sy.abs Sy.setE
  rw [List.map_map, List.map_map]
  refine List.map_congr_left fun x hx => ?_
  simp only [Function.comp]
  by_cases q : x.gi = e'.gi
  · have : x = e := nodup_gi h.gis hx he (by rw [q, hc])
    subst this
    rw [if_pos q, if_pos rfl, hc]
  · have hne : x.id ≠ e.id := fun r => q (by rw [h.ids hx he r, hc])
    rw [if_neg q, if_neg hne]
structure Ext (Z : Scene) (n : Nat) (w : World) (s : Sy) (Z' : Scene) (n' : Nat) (w' : World) (s' : Sy) : Prop where
  S : s'.S = s.S
  qc : s'.qc = s.qc
  fdo : s'.fdo = s.fdo
  stopped : s'.stopped = s.stopped
  own : ∀ k, k < w.heap.size → s.own k = (0, 0) → s'.own k = (0, 0)
  kept : Kept (fun k => s.own k ≠ (0, 0)) w w'
  Hd : ∀ k, k < w.heap.size → (Z'.Hd k ↔ Z.Hd k)
  C : ∀ k, k < w.heap.size → (Z'.C k ↔ Z.C k)
  Sh : Z'.Sh = Z.Sh
  n1 : n ≤ n'
  n2 : n' ≤ n + 1
  cores : ∀ e ∈ s.ents, ∃ e' ∈ s'.ents, e'.toCore1 = e.toCore1
theorem Ext.same (hk : Kept (fun k => s.own k ≠ (0, 0)) w w') : Ext Z n w s Z n w' s :=
  ⟨rfl, rfl, rfl, rfl, fun _ _ h => h, hk, fun _ _ => Iff.rfl, fun _ _ => Iff.rfl, rfl, Nat.le_refl _, Nat.le_succ _, fun e he => ⟨e, he, rfl⟩⟩
theorem Ext.setE {e' : Ent} (hn : (s.ents.map (·.gi)).Nodup) (he : e ∈ s.ents) (hc : e'.toCore1 = e.toCore1) (hk : Kept (fun k => s.own k ≠ (0, 0)) w w') (ho : ∀ k, k < w.heap.size → own' k = s.own k) : Ext Z n w s Z n w' (s.setE e' own') :=
  ⟨rfl, rfl, rfl, rfl, fun k h1 h2 => (ho k h1).trans h2, hk, fun _ _ => Iff.rfl, fun _ _ => Iff.rfl, rfl, Nat.le_refl _, Nat.le_succ _, fun x hx => by
    by_cases q : x.gi = e'.gi
    · have : x = e := nodup_gi hn hx he (by rw [q, hc])
      exact ⟨e', Sy.setE_has he hc, by rw [this, hc]⟩
    · exact ⟨x, List.mem_map.2 ⟨x, hx, by simp [q]⟩, rfl⟩⟩
/-- What the document says of Post. -/
def putA (l : List (Int × List (List UInt8))) (id : Int) (bs : List UInt8) : List (Int × List (List UInt8)) × Bool :=
  match l.find? fun p => p.1 == id with
  | some p => if p.2.length < 64 then (l.map fun q => if q.1 = id then (q.1, p.2 ++ [bs]) else q, true) else (l, false)
  | none => (l ++ [(id, [bs])], true)
theorem Sy.abs_find (s : Sy) (id : Int) : s.abs.find? (fun p => p.1 == id) = (s.ent id).map fun e => (e.id, e.items.map It.bs) := by
  unfold Sy.abs Sy.ent
  rw [List.find?_map]
  rfl
end
end Go.Proofs.Ytfpkachoneaaeaa
namespace Go.Proofs.Ytfpkachoneaaeaa
open Go Go.Conc Go.RowKit
open Go.ConcN (upd upd_ne upd_same)
noncomputable def pNew : Code := match Try.f13.body.getD .skip with
  | .seq _ (.seq _ (.seq _ (.seq _ (.seq _ (.seq (.seq _ (.cond _ t _)) _))))) => t
  | _ => .skip
noncomputable def pNew2 : Code := match pNew with
  | .seq _ t => t
  | _ => .skip
section
variable {Z : Scene} {n : Nat} {hd : Option (Nat × Chair)} {w wA : World} {s : Sy} {Post : Value → World → Prop} {h : Nat} {c : Frame} {cs : List Frame}
theorem go_step {P : Program} {b : Frame} {x : Act} {kk : List Item} {cs : List Frame} {ops : Array Oper} {i : Nat} {rest : List Nat} {o : Oper} {f : FuncId} {args : Array Operand} {ats : Array TypeId} (ho : ops[i]? = some o) (hw : Region.wanted o (yielded ops x.tmps) = true) (hk : b.kind ≠ .early)
    (hop : o.op = .go { callee := .value (.func f), args, argTypes := ats }) (vals : Array Value) (hv : args.map x.eval = vals) (m : Bool) (w : World) :
    stepG P m (G (b.at x (.inRegion ops (i :: rest) :: kk)) cs) w = .spawn (G (b.at (x.put o.dst undef) (.inRegion ops rest :: kk)) cs) (born P (dcall f vals)) w #[] := by
  subst hv
  have hr : (execOp x.eval o).run P w = .ok (.spawn (dcall f (args.map x.eval))) w := by
    unfold execOp
    simp [hop, resolve, Deferred.ofValue, Act.eval, dcall]
  have he : (execOp x.eval o).events P w #[] = #[] := by
    unfold execOp
    simp [hop, resolve, Deferred.ofValue, Act.eval]
  rw [stepG_spawn ho hw hk hr rfl, listed_none he]
theorem cell_cells {w : World} {a : Addr} {v : Value} (h : w.cell? a = some v) : ∃ cs t fr, w.heap[a.block]? = some (.cells cs t fr) := by
  unfold World.cell? at h
  cases e : w.heap[a.block]? with
  | none => rw [e] at h; cases h
  | some o =>
    rw [e] at h
    cases o <;> first | exact ⟨_, _, _, rfl⟩ | cases h
theorem Rd.cells {w : World} {F : Nat → Prop} {A : Option Addr} {xs : List Value} (h : Rd w F A xs) : Rd w (fun k => F k ∧ k < w.heap.size ∧ ∃ cs t fr, w.heap[k]? = some (.cells cs t fr)) A xs := by
  rcases h with h | ⟨g, o, hA, hF, hc⟩
  · exact .inl h
  · cases xs with
    | nil => exact .inl rfl
    | cons x xs =>
      have := hc 0 x rfl
      obtain ⟨cs, t, fr, q⟩ := cell_cells this
      exact .inr ⟨g, o, hA, ⟨hF, (Array.getElem?_eq_some_iff.1 q).1, cs, t, fr, q⟩, hc⟩
/-- The scene with one actor more. -/
def Scene.more (Z : Scene) (b x y : Nat) (h1 : ∀ c, Z.C c → c ≠ b) (h2 : ¬ Z.Hd x) (h3 : ¬ Z.Hd y) (h4 : x ≠ b) (h5 : y ≠ b) : Scene where
  Sh := Z.Sh
  Inb := Z.Inb
  Hd := fun k => Z.Hd k ∨ k = b
  C := fun k => Z.C k ∨ k = x ∨ k = y
  place := fun i ch a v hi hv => .inl (Z.place i ch a v hi hv)
  chan := fun i ch c hi hc => .inl (Z.chan i ch c hi hc)
  shun := fun l hl => by obtain ⟨a, e, q⟩ := Z.shun l hl; exact ⟨a, e, .inl q⟩
  apart := fun c hc hh => by
    rcases hc with hc | rfl | rfl <;> rcases hh with hh | hh
    · exact Z.apart c hc hh
    · exact h1 c hc hh
    · exact h2 hh
    · exact h4 hh
    · exact h3 hh
    · exact h5 hh
set_option maxRecDepth 50000 in
set_option maxHeartbeats 8000000 in
theorem post_new2 {id : Int} {IA : Option Addr} {ic : Nat} {bs : List UInt8} {GF : Nat → Prop} {v3 v4 v5 v6 v8 v9 v10 v11 v12 v13 v14 v15 v16 v17 v18 v19 v20 v21 v22 v23 v24 v25 v26 v27 v28 v29 v30 v31 v32 v33 v34 v35 v36 v37 v38 v39 v40 v41 v42 v43 v44 v45 v46 v47 v48 v49 v50 v51 v52 v53 v54 v55 v56 v57 v58 v59 v60 : Value} {b x y : Nat} (R : Rep Z n hd w s 1) (hok : WOk Try.prog Z w) (hst : s.stopped = false) (hmiss : ∀ e ∈ s.ents, e.id ≠ id) (hv : s.ents.length < 2000000000)
    (hk : Kept noneS w wA) (hb : Blk wA b 75 #[.slice none 0 0, .chan (some x), .chan (some y)]) (hbn : w.heap.size ≤ b) (hx : wA.heap[x]? = some (.chan 0 #[] false 0 0 false)) (hxn : w.heap.size ≤ x) (hy : wA.heap[y]? = some (.chan 0 #[] false 0 0 false)) (hyn : w.heap.size ≤ y) (hxy : x ≠ y)
    (hr : RB w GF IA bs) (hG : ∀ k, k < w.heap.size → GF k → ¬ Z.Hd k) (hbl : bs.length ≤ 140737488355328)
    (H : ∀ Z' s' w', Rep Z' (n + 1) hd w' s' 0 → s'.abs = s.abs ++ [(id, [bs])] → Ext Z n w s Z' (n + 1) w' s' → Run Try.prog Post Z' (n + 1) h 0 (G (c.finish (.bool true)) cs) w') :
    Run Try.prog Post Z n h 0 (G ((base 13).at ⟨#[.pointer (some ⟨s.S, 0, none⟩), .int .i64 id, .slice IA bs.length ic, v3, v4, v5, v6, .pointer (some ⟨b, 0, none⟩), v8, v9, v10, v11, v12, v13, v14, v15, v16, v17, v18, v19, v20, v21, v22, v23, v24, v25, v26, v27, v28, v29, v30, v31, v32, v33, v34, v35, v36, v37, v38, v39, v40, v41, v42, v43, v44, v45, v46, v47, v48, v49, v50, v51, v52, v53, v54, v55, v56, v57, v58, v59, v60], [dcall 25 #[.pointer (some ⟨s.S, 1, none⟩)]]⟩ [.code pNew2, .code pTail]) (c :: cs)) wA := by
  have RA : Rep Z n hd wA s 1 := R.keep hk fun _ q => q.elim
  unfold pNew2 pNew
  simp only [Try.f13, Option.getD_some]
  repeat (first | refine Run.auto rfl ?_ | ((first | (apply Run.lq rfl rfl rfl rfl; (focus (intro w K hK; go_simp; exact hK))) | (refine Run.ln rfl rfl rfl rfl rfl (by kernel_rfl) ?_) | (refine Run.not rfl rfl ?_)); try simp only [Act.put, Act.eval, nrmL, Nat.reduceAdd]) | (refine Run.rg ?_; simp only [nrmL, rngL, Nat.reduceAdd]) | refine Run.cT rfl ?_ | refine Run.cF rfl ?_ | refine Run.rt ?_ | refine Run.nd ?_)
  refine Run.ld (a := ⟨s.S, 3, none⟩) (v := .map (some s.mp)) rfl rfl (by decide) (RA.cell 3) (RA.nsh 3 (.inr (by decide))) (fun w₁ hld => ⟨by go_simp, by simp [go_sem, hld]⟩) ?_
  try simp only [Act.put, Act.eval, nrmL, Nat.reduceAdd]
  repeat (first | refine Run.auto rfl ?_ | ((first | (apply Run.lq rfl rfl rfl rfl; (focus (intro w K hK; go_simp; exact hK))) | (refine Run.ln rfl rfl rfl rfl rfl (by kernel_rfl) ?_) | (refine Run.not rfl rfl ?_)); try simp only [Act.put, Act.eval, nrmL, Nat.reduceAdd]) | (refine Run.rg ?_; simp only [nrmL, rngL, Nat.reduceAdd]) | refine Run.cT rfl ?_ | refine Run.cF rfl ?_ | refine Run.rt ?_ | refine Run.nd ?_)
  have hmp : Z.Hd s.mp → False := (R.vis _ (by rw [R.om]; decide)).1
  refine Run.layU (S := (· = s.mp)) theEnv rfl rfl (by decide) rfl (fun _ _ q => by cases q) (fun c hc q => (R.vis _ (by rw [R.om]; decide)).2 (q ▸ hc)) fun u hu _ => ?_
  have hmu := RA.map.keep hu fun q => hmp q
  obtain ⟨v', hrun, hm', hkm, hsz⟩ := hmu.put Try.underlying41 Try.underlying3 (i := id) (fun p hp q => by
    obtain ⟨e, he, rfl⟩ := List.mem_map.1 hp
    exact hmiss e he q) b
  unfold ptr at hrun
  refine ⟨v', by go_simp, hkm, fun w2 k2 kv _ => ?_⟩
  have hm2 := hm'.keep kv fun q => hmp q
  try simp only [Act.put, Act.eval, nrmL, Nat.reduceAdd]
  have hneS : ¬ s.S = s.mp := fun q => by have := R.oS; rw [q, R.om] at this; exact snd_ne this (by decide)
  have hblt : b < wA.heap.size := hb.lt
  have hmlt := R.map.lt
  have hbm : ¬ b = s.mp := fun q => by omega
  have hS2 : Blk w2 s.S 58 (s.cells 1) := RA.sys.keep k2 hneS
  have hb2 := hb.keep k2 hbm
  have hx2 : w2.heap[x]? = some (.chan 0 #[] false 0 0 false) := by
    rw [k2.block x (Array.getElem?_eq_some_iff.1 hx).1 (fun q => by omega)]; exact hx
  have hy2 : w2.heap[y]? = some (.chan 0 #[] false 0 0 false) := by
    rw [k2.block y (Array.getElem?_eq_some_iff.1 hy).1 (fun q => by omega)]; exact hy
  repeat (first | refine Run.auto rfl ?_ | ((first | (apply Run.lq rfl rfl rfl rfl; (focus (intro w K hK; go_simp; exact hK))) | (refine Run.ln rfl rfl rfl rfl rfl (by kernel_rfl) ?_) | (refine Run.not rfl rfl ?_)); try simp only [Act.put, Act.eval, nrmL, Nat.reduceAdd]) | (refine Run.rg ?_; simp only [nrmL, rngL, Nat.reduceAdd]) | refine Run.cT rfl ?_ | refine Run.cF rfl ?_ | refine Run.rt ?_ | refine Run.nd ?_)
  refine Run.enter rfl rfl (by decide) rfl Try.func29 (by kernel_rfl) rfl ?_
  simp only [Act.eval, nrmL, Nat.reduceAdd]
  refine addPos_run (S := s.S) s.ents.length (by omega) (hS2.cell 5) (hS2.frozen 5) (by rw [show wsm s.S = ⟨s.S, 6, none⟩ from rfl, hS2.cell 6]; rfl) (R.npl 5 (by decide)) (R.nC hok) ?_
  have k3 := kept_set w2 (wst s.S) (.int .u64 (((s.ents.length + 1 : Nat) : Int) * K32))
  have hS3 := hS2.set_ 5 (.int .u64 (((s.ents.length + 1 : Nat) : Int) * K32))
  have hSl := R.sys.lt
  have hb3 := hb2.keep k3 (fun q => by have : b = s.S := q; omega)
  have hm3 := hm2.keep k3 (fun q => hneS q.symm)
  have hx3 : (w2.setCell (wst s.S) (.int .u64 (((s.ents.length + 1 : Nat) : Int) * K32))).heap[x]? = some (.chan 0 #[] false 0 0 false) := by
    rw [k3.block x (Array.getElem?_eq_some_iff.1 hx2).1 (fun q => by have : x = s.S := q; omega)]; exact hx2
  have hy3 : (w2.setCell (wst s.S) (.int .u64 (((s.ents.length + 1 : Nat) : Int) * K32))).heap[y]? = some (.chan 0 #[] false 0 0 false) := by
    rw [k3.block y (Array.getElem?_eq_some_iff.1 hy2).1 (fun q => by have : y = s.S := q; omega)]; exact hy2
  replace hS3 : Blk (w2.setCell (wst s.S) (.int .u64 (((s.ents.length + 1 : Nat) : Int) * K32))) s.S 58 _ := hS3
  have k03 : Kept (fun k => k = s.S ∨ k = s.mp) w (w2.setCell (wst s.S) (.int .u64 (((s.ents.length + 1 : Nat) : Int) * K32))) := ((hk.mono fun _ _ q => q.elim).trans (k2.mono fun _ _ q => .inr q)).trans (k3.mono fun _ _ q => .inl q)
  generalize w2.setCell (wst s.S) (.int .u64 (((s.ents.length + 1 : Nat) : Int) * K32)) = w3 at *
  rw [Frame.finish_at]
  try simp only [Act.put, Act.eval, nrmL, Nat.reduceAdd]
  repeat (first | refine Run.auto rfl ?_ | ((first | (apply Run.lq rfl rfl rfl rfl; (focus (intro w K hK; go_simp; exact hK))) | (refine Run.ln rfl rfl rfl rfl rfl (by kernel_rfl) ?_) | (refine Run.not rfl rfl ?_)); try simp only [Act.put, Act.eval, nrmL, Nat.reduceAdd]) | (refine Run.rg ?_; simp only [nrmL, rngL, Nat.reduceAdd]) | refine Run.cT rfl ?_ | refine Run.cF rfl ?_ | refine Run.rt ?_ | refine Run.nd ?_)
  have hxb : x ≠ b := fun q => by rw [q] at hx; have := hb; unfold Blk at this; rw [this] at hx; cases hx
  have hyb : y ≠ b := fun q => by rw [q] at hy; have := hb; unfold Blk at this; rw [this] at hy; cases hy
  have n1 : ∀ c, Z.C c → c ≠ b := fun c hc q => by have := hok.chanlt hc; omega
  have n2 : ¬ Z.Hd x := hok.fresh hxn
  have n3 : ¬ Z.Hd y := hok.fresh hyn
  refine Run.scene (Z' := Z.more b x y n1 n2 n3 hxb hyb) rfl rfl (fun hz => ⟨fun k o hk => hz.obj k o fun q => hk (.inl q), fun k hk => ?_, fun k hk => ?_⟩) ?_
  · rcases hk with hk | rfl
    · exact hz.hid k hk
    · exact ⟨_, rfl, hb3⟩
  · rcases hk with hk | rfl | rfl
    · exact hz.chan k hk
    · exact ⟨_, rfl, hx3⟩
    · exact ⟨_, rfl, hy3⟩
  let co : Core1 := ⟨id, n, b, x, y⟩
  let e0 : Ent := { co with A := none, c := 0, items := [] }
  let own2 : Nat → Nat × Nat := fun k => if k < w.heap.size then s.own k else if k = b then (n, 1) else if k = x then (n, 2) else if k = y then (n, 3) else (0, 0)
  have hb3l := hb3.lt
  have hx3l := (Array.getElem?_eq_some_iff.1 hx3).1
  have hy3l := (Array.getElem?_eq_some_iff.1 hy3).1
  have hq := (R.opn hst)
  have hql := hq.1.lt
  obtain ⟨mq, hq3⟩ : ∃ k, w3.heap[s.qc]? = some (.chan 0 #[] false k k false) := hq.1.keep k03 fun q => by
    rcases q with q | q
    · have := R.oq; rw [q, R.oS] at this; exact snd_ne this (by decide)
    · have := R.oq; rw [q, R.om] at this; exact snd_ne this (by decide)
  have hnS : ∀ a, Z.Sh (.cell a) → a.block ≠ b := fun a q hab => by
    obtain ⟨a', e1, e2⟩ := Z.shun _ q
    cases e1
    rw [hab] at e2
    exact hok.fresh hbn e2
  have hp : ∀ a v, (wChair s.S s.qc co).val a = some v → (Z.more b x y n1 n2 n3 hxb hyb).Hd a.block := fun a v hv => by
    rcases wVal_of hv with ⟨rfl, _⟩ | ⟨rfl, _⟩
    · exact .inl R.hS
    · exact .inr rfl
  have hcc : ∀ c, (wChair s.S s.qc co).seat.has c → (Z.more b x y n1 n2 n3 hxb hyb).C c := fun c hc => by
    rcases wSeat_has hc with rfl | rfl
    · exact .inr (.inl rfl)
    · exact .inl hq.2
  have hInn : Z.Inb n = none := by
    rw [R.inb]
    have h0 : s.seats n = none := Sy.seats_none fun e he q => by have := R.gin e he; omega
    have hpos := R.pos
    cases hhd : hd with
    | none => exact h0
    | some p =>
      obtain ⟨j, d⟩ := p
      obtain ⟨e, he, h1, _⟩ := R.hdk j d hhd
      have := R.gin e he
      show upd (upd s.seats 0 (some d)) j none n = none
      rw [upd_ne _ _ (by omega), upd_ne _ _ (by omega), h0]
  obtain ⟨nc, hsits⟩ := (w_birth s.S s.qc co).sits
  refine Run.hire (nc := nc) (ch := wChair s.S s.qc co) rfl (go_step rfl rfl (by decide) rfl #[.pointer (some ⟨s.S, 0, none⟩), .int .i64 id, .pointer (some ⟨b, 0, none⟩)] (by simp [Act.eval]) _) ?_ hInn (wSeat_wf (fun q => by have : x = s.qc := q; omega)) ?_ ?_ hsits hp hcc ?_
  · rintro l ⟨a, v, rfl, hv⟩
    rcases wVal_of hv with ⟨rfl, _⟩ | ⟨rfl, _⟩
    · exact R.nsh 4 (.inr (by decide))
    · exact fun q => hnS _ q rfl
  · intro c' hc'
    rcases wSeat_has hc' with rfl | rfl
    · exact ⟨0, 0, hx3⟩
    · exact ⟨0, mq, hq3⟩
  · intro a v hv
    rcases wVal_of hv with ⟨rfl, rfl⟩ | ⟨rfl, rfl⟩
    · rw [hS3.cell]; rfl
    · rw [hb3.cell]; rfl
  have R3 : Rep ((Z.more b x y n1 n2 n3 hxb hyb).sit n (wChair s.S s.qc co) hp hcc) (n + 1) hd w3 (s.add e0 own2) 1 := by
    refine R.addE (e := e0) hst k03 (fun k _ hf => hf) ?_ ?_ ⟨hb3, ⟨rfl, .inl ⟨rfl, rfl⟩⟩, (fun i hi => by cases hi), List.nodup_nil, ⟨0, hx3⟩, ⟨0, hy3⟩, ?_, ?_, ?_, R.pos⟩ rfl (fun k hk => ?_) (fun k hk => ?_) (fun k hk => .inl hk) (fun k hk => .inl hk) (.inr rfl) (.inr (.inl rfl)) (.inr (.inr rfl)) rfl (fun k hk => ?_) rfl hnS
    · have : (s.add e0 own2).cells 1 = (s.cells 1).setIfInBounds 5 (.int .u64 (((s.ents.length + 1 : Nat) : Int) * K32)) := by
        unfold Sy.cells Sy.add
        simp
      rw [this]
      exact hS3
    · rw [List.map_append]
      exact hm3
    · show own2 b = (n, 1)
      simp [own2, Nat.not_lt.2 hbn]
    · show own2 x = (n, 2)
      simp [own2, Nat.not_lt.2 hxn, hxb]
    · show own2 y = (n, 3)
      simp [own2, Nat.not_lt.2 hyn, hyb, Ne.symm hxy]
    · simp only [own2]
      rw [if_pos hk]
    · simp only [own2]
      have := k03.size
      rw [if_neg (by omega), if_neg (by omega), if_neg (by omega), if_neg (by omega)]
    · have key : k < w.heap.size ∧ 4 ≤ (s.own k).2 := by
        simp only [own2] at hk
        split at hk
        · exact ⟨by assumption, hk⟩
        · exfalso
          split at hk
          · simp at hk
          · split at hk
            · simp at hk
            · split at hk <;> simp at hk
      have h1 := R.vis k key.2
      refine ⟨fun q => ?_, fun q => ?_⟩
      · rcases q with q | q
        · exact h1.1 q
        · omega
      · rcases q with q | q | q
        · exact h1.2 q
        · omega
        · omega
  try simp only [Act.put, Act.eval, nrmL, Nat.reduceAdd]
  refine Run.auto rfl ?_
  have hr3 : RB w3 (fun k => GF k ∧ k < w.heap.size ∧ ∃ cs t fr, w.heap[k]? = some (.cells cs t fr)) IA bs := (Rd.cells hr).keep k03 fun k hk hf hq => by
    rcases hq with rfl | rfl
    · exact hG _ hk hf.1 R.hS
    · obtain ⟨es, cl, hmm, _⟩ := R.map
      obtain ⟨_, _, cs, t, fr, q⟩ := hf
      rw [hmm] at q
      cases q
  have he0 : e0 ∈ (s.add e0 own2).ents := List.mem_append_right _ (List.mem_singleton.2 rfl)
  refine post_tail (s := s.add e0 own2) (e := e0) (id := id) (GF := fun k => GF k ∧ k < w.heap.size ∧ ∃ cs t fr, w.heap[k]? = some (.cells cs t fr)) R3 he0 hr3 (fun k _ hf q => ?_) hbl (fun q => ?_) fun _ w' t A1 c1 A2 c2 own' R4 ho4 k4 => ?_
  · rcases q with q | q
    · exact hG k hf.2.1 hf.1 q
    · have := hf.2.1; omega
  · exact absurd q (by show ¬ (64 ≤ 0); omega)
  · refine H _ _ _ R4 ?_ ⟨rfl, rfl, rfl, rfl, fun k h1 h2 => ?_, (k03.mono fun k _ hk q => ?_).trans2 k4 fun k h1 h2 => ?_, fun k hk => ?_, fun k hk => ?_, rfl, Nat.le_succ _, Nat.le_refl _, fun e he => ?_⟩
    · rw [R3.abs_setE (e' := e0.push A2 c2 ⟨t, A1, c1, bs⟩) he0 rfl]
      unfold Sy.abs Sy.add
      rw [List.map_append, List.map_append]
      congr 1
      · rw [List.map_map]
        refine List.map_congr_left fun e he => ?_
        exact if_neg (hmiss e he)
      · simp [e0, co, Ent.push]
    · rw [show ((s.add e0 own2).setE (e0.push A2 c2 ⟨t, A1, c1, bs⟩) own').own k = own' k from rfl, ho4 k (Nat.lt_of_lt_of_le h1 k03.size)]
      show own2 k = (0, 0)
      simp only [own2]
      rw [if_pos h1]
      exact h2
    · rcases hk with rfl | rfl
      · rw [R.oS] at q; exact snd_ne q (by decide)
      · rw [R.om] at q; exact snd_ne q (by decide)
    · intro q
      refine h2 ?_
      show own2 k = (0, 0)
      simp only [own2]
      rw [if_pos h1]
      exact q
    · exact ⟨fun q => q.elim (fun q => q) fun q => by omega, fun q => .inl q⟩
    · exact ⟨fun q => q.elim (fun q => q) fun q => by omega, fun q => .inl q⟩
    · by_cases hg : e.gi = e0.gi
      · have := R.gin e he
        have : e0.gi = n := rfl
        omega
      · exact ⟨e, List.mem_map.2 ⟨e, List.mem_append_left _ he, if_neg hg⟩, rfl⟩
end
end Go.Proofs.Ytfpkachoneaaeaa
namespace Go.Proofs.Ytfpkachoneaaeaa
open Go Go.Conc Go.RowKit
section
variable {Z : Scene} {n : Nat} {hd : Option (Nat × Chair)} {w : World} {s : Sy} {Post : Value → World → Prop} {h : Nat} {c : Frame} {cs : List Frame}
theorem Ext.ahead {w1 : World} {Z' : Scene} {n' : Nat} {w' : World} {s' : Sy} (hk : Kept (fun k => s.own k ≠ (0, 0)) w w1) (h : Ext Z n w1 s Z' n' w' s') : Ext Z n w s Z' n' w' s' :=
  ⟨h.S, h.qc, h.fdo, h.stopped, fun k hl => h.own k (Nat.lt_of_lt_of_le hl hk.size), hk.trans h.kept, fun k hl => h.Hd k (Nat.lt_of_lt_of_le hl hk.size), fun k hl => h.C k (Nat.lt_of_lt_of_le hl hk.size), h.Sh, h.n1, h.n2, h.cores⟩
theorem mk_chan {P : Program} {t e : TypeId} {dir : ChanDir} (ht : P.underlying t = some (.chan dir e)) (hi : (P.info? e).isSome = true) (u : World) : (Instr.makeChan t (.int .i64 0)).run P u = .ok (.chan (some u.heap.size)) (u.alloc (.chan 0 #[] false 0 0 false)) := by
  obtain ⟨i, hi⟩ := Option.isSome_iff_exists.1 hi
  exact run_makeChan ht hi .i64 0 (by omega) (by omega)
theorem mk_work (u : World) : (Instr.makeChan 73 (.int .i64 0)).run Try.prog u = .ok (.chan (some u.heap.size)) (u.alloc (.chan 0 #[] false 0 0 false)) := mk_chan Try.underlying73 (by kernel_rfl) u
theorem mk_done (u : World) : (Instr.makeChan 42 (.int .i64 0)).run Try.prog u = .ok (.chan (some u.heap.size)) (u.alloc (.chan 0 #[] false 0 0 false)) := mk_chan Try.underlying42 (by kernel_rfl) u
def postA (s : Sy) (id : Int) (bs : List UInt8) : List (Int × List (List UInt8)) × Bool := if s.stopped = true then (s.abs, false) else putA s.abs id bs
set_option maxRecDepth 50000 in
set_option maxHeartbeats 2000000 in
theorem post_fresh {id : Int} {IA : Option Addr} {ic : Nat} {bs : List UInt8} {GF : Nat → Prop} {v3 v4 v5 v6 v7 v8 v9 v10 v11 v12 v13 v14 v15 v16 v17 v18 v19 v20 v21 v22 v23 v24 v25 v26 v27 v28 v29 v30 v31 v32 v33 v34 v35 v36 v37 v38 v39 v40 v41 v42 v43 v44 v45 v46 v47 v48 v49 v50 v51 v52 v53 v54 v55 v56 v57 v58 v59 v60 : Value} (R : Rep Z n hd w s 1) (hst : s.stopped = false) (hmiss : ∀ e ∈ s.ents, e.id ≠ id) (hv : s.ents.length < 2000000000)
    (hr : RB w GF IA bs) (hG : ∀ k, k < w.heap.size → GF k → ¬ Z.Hd k) (hbl : bs.length ≤ 140737488355328)
    (H : ∀ Z' s' w', Rep Z' (n + 1) hd w' s' 0 → s'.abs = s.abs ++ [(id, [bs])] → Ext Z n w s Z' (n + 1) w' s' → Run Try.prog Post Z' (n + 1) h 0 (G (c.finish (.bool true)) cs) w') :
    Run Try.prog Post Z n h 0 (G ((base 13).at ⟨#[.pointer (some ⟨s.S, 0, none⟩), .int .i64 id, .slice IA bs.length ic, v3, v4, v5, v6, v7, v8, v9, v10, v11, v12, v13, v14, v15, v16, v17, v18, v19, v20, v21, v22, v23, v24, v25, v26, v27, v28, v29, v30, v31, v32, v33, v34, v35, v36, v37, v38, v39, v40, v41, v42, v43, v44, v45, v46, v47, v48, v49, v50, v51, v52, v53, v54, v55, v56, v57, v58, v59, v60], [dcall 25 #[.pointer (some ⟨s.S, 1, none⟩)]]⟩ [.code pNew, .code pTail]) (c :: cs)) w := by
  refine Run.okG fun hok => ?_
  have f0 : ¬ Z.Hd w.heap.size := hok.fresh (Nat.le_refl _)
  have f1 : ¬ Z.Hd (w.heap.size + 1) := hok.fresh (by omega)
  have f2 : ¬ Z.Hd (w.heap.size + 1 + 1) := hok.fresh (by omega)
  unfold pNew
  simp only [Try.f13, Option.getD_some]
  refine Run.auto rfl ?_
  refine Run.drawE [[0, 1, 2, 3, 4], [1, 0, 2, 3, 4]] (by kernel_rfl) (by kernel_rfl) fun l hl => ?_
  have key : ∀ (x y : Nat), (x = w.heap.size ∧ y = w.heap.size + 1 ∨ y = w.heap.size ∧ x = w.heap.size + 1) → ∀ v27 v28 v29 v30, Run Try.prog Post Z n h 0 (G ((base 13).at ⟨#[.pointer (some ⟨s.S, 0, none⟩), .int .i64 id, .slice IA bs.length ic, v3, v4, v5, v6, .pointer (some ⟨w.heap.size + 1 + 1, 0, none⟩), v8, v9, v10, v11, v12, v13, v14, v15, v16, v17, v18, v19, v20, v21, v22, v23, v24, v25, v26, v27, v28, v29, v30, v31, v32, v33, v34, v35, v36, v37, v38, v39, v40, v41, v42, v43, v44, v45, v46, v47, v48, v49, v50, v51, v52, v53, v54, v55, v56, v57, v58, v59, v60], [dcall 25 #[.pointer (some ⟨s.S, 1, none⟩)]]⟩ [.code pNew2, .code pTail]) (c :: cs))
      (((w.alloc (.chan 0 #[] false 0 0 false)).alloc (.chan 0 #[] false 0 0 false)).alloc (.cells #[.slice none 0 0, .chan (some x), .chan (some y)] 75)) := by
    intro x y hxy v27 v28 v29 v30
    have e1 : (w.alloc (.chan 0 #[] false 0 0 false)).heap.size = w.heap.size + 1 := by simp
    have e2 : ((w.alloc (.chan 0 #[] false 0 0 false)).alloc (.chan 0 #[] false 0 0 false)).heap.size = w.heap.size + 1 + 1 := by simp
    have g0 : (((w.alloc (.chan 0 #[] false 0 0 false)).alloc (.chan 0 #[] false 0 0 false)).alloc (.cells #[.slice none 0 0, .chan (some x), .chan (some y)] 75)).heap[w.heap.size]? = some (.chan 0 #[] false 0 0 false) := by
      rw [Below.heap_alloc _ _ _ (by omega), Below.heap_alloc _ _ _ (by omega), heap_alloc_new]
    have g1 : (((w.alloc (.chan 0 #[] false 0 0 false)).alloc (.chan 0 #[] false 0 0 false)).alloc (.cells #[.slice none 0 0, .chan (some x), .chan (some y)] 75)).heap[w.heap.size + 1]? = some (.chan 0 #[] false 0 0 false) := by
      rw [Below.heap_alloc _ _ _ (by omega), ← e1, heap_alloc_new]
    have hkk : Kept noneS w (((w.alloc (.chan 0 #[] false 0 0 false)).alloc (.chan 0 #[] false 0 0 false)).alloc (.cells #[.slice none 0 0, .chan (some x), .chan (some y)] 75)) := (((Kept.refl _ _).alloc _).alloc _).alloc _
    have hb : Blk (((w.alloc (.chan 0 #[] false 0 0 false)).alloc (.chan 0 #[] false 0 0 false)).alloc (.cells #[.slice none 0 0, .chan (some x), .chan (some y)] 75)) (w.heap.size + 1 + 1) 75 #[.slice none 0 0, .chan (some x), .chan (some y)] := by
      have := heap_alloc_new ((w.alloc (.chan 0 #[] false 0 0 false)).alloc (.chan 0 #[] false 0 0 false)) (.cells #[.slice none 0 0, .chan (some x), .chan (some y)] 75)
      rw [e2] at this
      exact this
    have hr' : RB (((w.alloc (.chan 0 #[] false 0 0 false)).alloc (.chan 0 #[] false 0 0 false)).alloc (.cells #[.slice none 0 0, .chan (some x), .chan (some y)] 75)) GF IA bs := Rd.alloc (Rd.alloc (Rd.alloc hr _) _) _
    generalize ((w.alloc (.chan 0 #[] false 0 0 false)).alloc (.chan 0 #[] false 0 0 false)).alloc (.cells #[.slice none 0 0, .chan (some x), .chan (some y)] 75) = wA at *
    refine post_new2 R hok hst hmiss hv hkk hb (by omega) (x := x) (y := y) ?_ (by omega) ?_ (by omega) (by omega) hr hG hbl H
    · rcases hxy with ⟨rfl, rfl⟩ | ⟨rfl, rfl⟩
      · exact g0
      · exact g1
    · rcases hxy with ⟨rfl, rfl⟩ | ⟨rfl, rfl⟩
      · exact g1
      · exact g0
  simp only [List.mem_cons, List.not_mem_nil, or_false] at hl
  rcases hl with rfl | rfl
  · refine Run.made theEnv rfl rfl (by decide) rfl (fun _ _ q => by cases q) (.chan (some w.heap.size)) (.chan 0 #[] false 0 0 false) (fun u _ hus => by have e1 := mk_work u; have e2 := mk_done u; rw [hus] at e1 e2; go_simp) f0 ?_
    try simp only [Act.put, Act.eval, nrmL, Nat.reduceAdd]
    refine Run.made theEnv rfl rfl (by decide) rfl (fun _ _ q => by cases q) (.chan (some (w.heap.size + 1))) (.chan 0 #[] false 0 0 false) (fun u _ hus => by have e1 := mk_work u; have e2 := mk_done u; simp at hus; rw [hus] at e1 e2; go_simp) (by simpa using f1) ?_
    try simp only [Act.put, Act.eval, nrmL, Nat.reduceAdd]
    (apply Run.lq rfl rfl rfl rfl; (focus (intro w K hK; go_simp; exact hK)); try simp only [Act.put, Act.eval, nrmL, Nat.reduceAdd])
    refine Run.made theEnv rfl rfl (by decide) rfl (fun _ _ q => by cases q) (.pointer (some ⟨w.heap.size + 1 + 1, 0, none⟩)) (.cells #[.slice none 0 0, .chan (some w.heap.size), .chan (some (w.heap.size + 1))] 75) (fun u _ hus => by simp at hus; go_simp) (by simpa using f2) ?_
    try simp only [Act.put, Act.eval, nrmL, Nat.reduceAdd]
    (apply Run.lq rfl rfl rfl rfl; (focus (intro w K hK; go_simp; exact hK)); try simp only [Act.put, Act.eval, nrmL, Nat.reduceAdd])
    refine Run.auto rfl ?_
    exact key _ _ (.inl ⟨rfl, rfl⟩) _ _ _ _
  · refine Run.made theEnv rfl rfl (by decide) rfl (fun _ _ q => by cases q) (.chan (some w.heap.size)) (.chan 0 #[] false 0 0 false) (fun u _ hus => by have e1 := mk_work u; have e2 := mk_done u; rw [hus] at e1 e2; go_simp) f0 ?_
    try simp only [Act.put, Act.eval, nrmL, Nat.reduceAdd]
    refine Run.made theEnv rfl rfl (by decide) rfl (fun _ _ q => by cases q) (.chan (some (w.heap.size + 1))) (.chan 0 #[] false 0 0 false) (fun u _ hus => by have e1 := mk_work u; have e2 := mk_done u; simp at hus; rw [hus] at e1 e2; go_simp) (by simpa using f1) ?_
    try simp only [Act.put, Act.eval, nrmL, Nat.reduceAdd]
    (apply Run.lq rfl rfl rfl rfl; (focus (intro w K hK; go_simp; exact hK)); try simp only [Act.put, Act.eval, nrmL, Nat.reduceAdd])
    refine Run.made theEnv rfl rfl (by decide) rfl (fun _ _ q => by cases q) (.pointer (some ⟨w.heap.size + 1 + 1, 0, none⟩)) (.cells #[.slice none 0 0, .chan (some (w.heap.size + 1)), .chan (some w.heap.size)] 75) (fun u _ hus => by simp at hus; go_simp) (by simpa using f2) ?_
    try simp only [Act.put, Act.eval, nrmL, Nat.reduceAdd]
    (apply Run.lq rfl rfl rfl rfl; (focus (intro w K hK; go_simp; exact hK)); try simp only [Act.put, Act.eval, nrmL, Nat.reduceAdd])
    refine Run.auto rfl ?_
    exact key _ _ (.inr ⟨rfl, rfl⟩) _ _ _ _
end
end Go.Proofs.Ytfpkachoneaaeaa
namespace Go.Proofs.Ytfpkachoneaaeaa
open Go Go.Conc Go.RowKit
/-- The scene with one System more. -/
def Scene.sys (Z : Scene) (b x : Nat) (h1 : ∀ c, Z.C c → c ≠ b) (h2 : ¬ Z.Hd x) (h4 : x ≠ b) : Scene where
  Sh := Z.Sh
  Inb := Z.Inb
  Hd := fun k => Z.Hd k ∨ k = b
  C := fun k => Z.C k ∨ k = x
  place := fun i ch a v hi hv => .inl (Z.place i ch a v hi hv)
  chan := fun i ch c hi hc => .inl (Z.chan i ch c hi hc)
  shun := fun l hl => by obtain ⟨a, e, q⟩ := Z.shun l hl; exact ⟨a, e, .inl q⟩
  apart := fun c hc hh => by
    rcases hc with hc | rfl <;> rcases hh with hh | hh
    · exact Z.apart c hc hh
    · exact h1 c hc hh
    · exact h2 hh
    · exact h4 hh
def newOwn (N : Nat) (k : Nat) : Nat × Nat := if k = N + 1 + 1 then (0, 1) else if k = N + 1 then (0, 2) else if k = N then (0, 4) else (0, 0)
def newSy (N : Nat) (fdo : Value) : Sy := ⟨N + 1 + 1, N, N + 1, fdo, false, [], newOwn N⟩
theorem newOwn_old {N k : Nat} (h : k < N) : newOwn N k = (0, 0) := by
  unfold newOwn
  rw [if_neg (by omega), if_neg (by omega), if_neg (by omega)]
theorem newOwn_far {N k : Nat} (h : N + 1 + 1 + 1 ≤ k) : newOwn N k = (0, 0) := by
  unfold newOwn
  rw [if_neg (by omega), if_neg (by omega), if_neg (by omega)]
theorem mk_quit (u : World) : (Instr.makeChan 42 (.int .i64 0)).run Try.prog u = .ok (.chan (some u.heap.size)) (u.alloc (.chan 0 #[] false 0 0 false)) := mk_chan Try.underlying42 (by kernel_rfl) u
section
variable {Z : Scene} {n : Nat} {w : World} {Post : Value → World → Prop} {h : Nat} {c : Frame} {cs : List Frame}
theorem newSy_cells (N : Nat) (f : Value) : (newSy N f).cells 0 = #[f, .int .i32 0, .int .u32 0, .map (some N), .chan (some (N + 1)), .int .u64 0, .int .u32 0, .bool false] := by
  simp [newSy, Sy.cells]
set_option maxRecDepth 50000 in
set_option maxHeartbeats 2000000 in
theorem new_run {ft : Fn} {fr caps : Array Value} (hI : ∀ i, Z.Inb i = none) (hn : 0 < n)
    (H : ∀ Z' w', Rep Z' n none w' (newSy w.heap.size (.func ft fr caps)) 0 → Kept noneS w w' → w'.heap.size = w.heap.size + 1 + 1 + 1 → Z'.Sh = Z.Sh → (∀ k, k < w.heap.size → (Z'.Hd k ↔ Z.Hd k) ∧ (Z'.C k ↔ Z.C k)) → Run Try.prog Post Z' n h 0 (G (c.finish (.pointer (some ⟨w.heap.size + 1 + 1, 0, none⟩))) cs) w') :
    Run Try.prog Post Z n h 0 (G ((base 7).at { tmps := #[(.func ft fr caps)] ++ Array.replicate (Try.f7.ntmps - 1) undef, defers := [] } [.code (Try.f7.body.getD .skip)]) (c :: cs)) w := by
  refine Run.okG fun hok => ?_
  have f0 : ¬ Z.Hd w.heap.size := hok.fresh (Nat.le_refl _)
  have f1 : ¬ Z.Hd (w.heap.size + 1) := hok.fresh (by omega)
  have f2 : ¬ Z.Hd (w.heap.size + 1 + 1) := hok.fresh (by omega)
  have hcl : ∀ c, Z.C c → c < w.heap.size := fun c hc => hok.chanlt hc
  simp only [Try.ntmps7]
  try simp only [Act.put, Act.eval, nrmL, Nat.reduceAdd, Nat.reduceSub]
  simp only [Try.f7, Option.getD_some]
  repeat (first | refine Run.auto rfl ?_ | ((first | (apply Run.lq rfl rfl rfl rfl; (focus (intro w K hK; go_simp; exact hK))) | (refine Run.ln rfl rfl rfl rfl rfl (by kernel_rfl) ?_) | (refine Run.not rfl rfl ?_)); try simp only [Act.put, Act.eval, nrmL, Nat.reduceAdd]) | (refine Run.rg ?_; simp only [nrmL, rngL, Nat.reduceAdd]) | refine Run.cT rfl ?_ | refine Run.cF rfl ?_ | refine Run.rt ?_ | refine Run.nd ?_)
  refine Run.made theEnv rfl rfl (by decide) rfl (fun _ _ q => by cases q) (.map (some w.heap.size)) (.map #[] 0) (fun u _ hus => by have e0 : (Instr.makeMap 41 none).run Try.prog u = .ok (.map (some w.heap.size)) (u.alloc (.map #[] 0)) := (by rw [← hus]; rfl); go_simp) f0 ?_
  try simp only [Act.put, Act.eval, nrmL, Nat.reduceAdd]
  refine Run.made theEnv rfl rfl (by decide) rfl (fun _ _ q => by cases q) (.chan (some (w.heap.size + 1))) (.chan 0 #[] false 0 0 false) (fun u _ hus => by have e2 := mk_quit u; simp at hus; rw [hus] at e2; go_simp) (by simpa using f1) ?_
  try simp only [Act.put, Act.eval, nrmL, Nat.reduceAdd]
  (apply Run.lq rfl rfl rfl rfl; (focus (intro w K hK; go_simp; exact hK)); try simp only [Act.put, Act.eval, nrmL, Nat.reduceAdd])
  refine Run.made theEnv rfl rfl (by decide) rfl (fun _ _ q => by cases q) (.pointer (some ⟨w.heap.size + 1 + 1, 0, none⟩)) (.cells ((newSy w.heap.size (.func ft fr caps)).cells 0) 58) (fun u _ hus => by simp at hus; rw [newSy_cells]; go_simp) (by simpa using f2) ?_
  try simp only [Act.put, Act.eval, nrmL, Nat.reduceAdd]
  repeat (first | refine Run.auto rfl ?_ | ((first | (apply Run.lq rfl rfl rfl rfl; (focus (intro w K hK; go_simp; exact hK))) | (refine Run.ln rfl rfl rfl rfl rfl (by kernel_rfl) ?_) | (refine Run.not rfl rfl ?_)); try simp only [Act.put, Act.eval, nrmL, Nat.reduceAdd]) | (refine Run.rg ?_; simp only [nrmL, rngL, Nat.reduceAdd]) | refine Run.cT rfl ?_ | refine Run.cF rfl ?_ | refine Run.rt ?_ | refine Run.nd ?_)
  refine Run.leave1 rfl rfl Try.func7 (by rfl) ?_
  try rw [Frame.finish_at]
  try simp only [Act.put, Act.eval, nrmL, Nat.reduceAdd]
  have e1 : (w.alloc (.map #[] 0)).heap.size = w.heap.size + 1 := by simp
  have e2 : ((w.alloc (.map #[] 0)).alloc (.chan 0 #[] false 0 0 false)).heap.size = w.heap.size + 1 + 1 := by simp
  have hk : Kept noneS w (((w.alloc (.map #[] 0)).alloc (.chan 0 #[] false 0 0 false)).alloc (.cells ((newSy w.heap.size (.func ft fr caps)).cells 0) 58)) := (((Kept.refl _ _).alloc _).alloc _).alloc _
  have hM : IMap (((w.alloc (.map #[] 0)).alloc (.chan 0 #[] false 0 0 false)).alloc (.cells ((newSy w.heap.size (.func ft fr caps)).cells 0) 58)) w.heap.size [] := (IMap.made w).keep (((Kept.refl (fun _ => False) (w.alloc (.map #[] 0))).alloc (.chan 0 #[] false 0 0 false)).alloc (.cells ((newSy w.heap.size (.func ft fr caps)).cells 0) 58)) fun q => q
  have hQ : Opn (((w.alloc (.map #[] 0)).alloc (.chan 0 #[] false 0 0 false)).alloc (.cells ((newSy w.heap.size (.func ft fr caps)).cells 0) 58)) (w.heap.size + 1) := ⟨0, by
    rw [Below.heap_alloc _ _ _ (by omega), ← e1, heap_alloc_new]⟩
  have hB : Blk (((w.alloc (.map #[] 0)).alloc (.chan 0 #[] false 0 0 false)).alloc (.cells ((newSy w.heap.size (.func ft fr caps)).cells 0) 58)) (w.heap.size + 1 + 1) 58 ((newSy w.heap.size (.func ft fr caps)).cells 0) := by
    have := heap_alloc_new ((w.alloc (.map #[] 0)).alloc (.chan 0 #[] false 0 0 false)) (.cells ((newSy w.heap.size (.func ft fr caps)).cells 0) 58)
    rw [e2] at this
    exact this
  have hsz : (((w.alloc (.map #[] 0)).alloc (.chan 0 #[] false 0 0 false)).alloc (.cells ((newSy w.heap.size (.func ft fr caps)).cells 0) 58)).heap.size = w.heap.size + 1 + 1 + 1 := by simp
  generalize ((w.alloc (.map #[] 0)).alloc (.chan 0 #[] false 0 0 false)).alloc (.cells ((newSy w.heap.size (.func ft fr caps)).cells 0) 58) = w' at *
  refine Run.scene (Z' := Z.sys (w.heap.size + 1 + 1) (w.heap.size + 1) (fun c hc => by have := hcl c hc; omega) f1 (by omega)) rfl rfl (fun ho => ⟨fun b o hb => ho.obj b o fun q => hb (.inl q), fun b hb => ?_, fun c hc => ?_⟩) ?_
  · rcases hb with hb | rfl
    · exact ho.hid b hb
    · exact ⟨_, rfl, hB⟩
  · rcases hc with hc | rfl
    · exact ho.chan c hc
    · obtain ⟨k, q⟩ := hQ
      exact ⟨_, rfl, q⟩
  · refine H _ w' ⟨hB, hM, fun e he => (by cases he), List.nodup_nil, fun e he => (by cases he), ?_, ?_, ?_, fun _ => ⟨hQ, .inr rfl⟩, .inr rfl, fun e he => (by cases he), fun k hk4 => ?_, fun e he => (by cases he), fun _ => rfl, ?_, fun a ha => ⟨fun e he => (by cases he), fun hb => ?_⟩, fun j d q => (by cases q), hn, fun k hkk => newOwn_far (by omega)⟩ hk hsz rfl fun k hkl => ⟨⟨fun q => ?_, .inl⟩, ⟨fun q => ?_, .inl⟩⟩
    · show newOwn w.heap.size (w.heap.size + 1 + 1) = (0, 1)
      unfold newOwn
      rw [if_pos rfl]
    · show newOwn w.heap.size (w.heap.size + 1) = (0, 2)
      unfold newOwn
      rw [if_neg (by omega), if_pos rfl]
    · show newOwn w.heap.size w.heap.size = (0, 4)
      unfold newOwn
      rw [if_neg (by omega), if_neg (by omega), if_pos rfl]
    · replace hk4 : 4 ≤ (newOwn w.heap.size k).2 := hk4
      unfold newOwn at hk4
      have hkw : k = w.heap.size := by
        split at hk4
        · simp at hk4
        · split at hk4
          · simp at hk4
          · split at hk4
            · assumption
            · simp at hk4
      subst hkw
      exact ⟨fun q => by rcases q with q | q; exact f0 q; omega, fun q => by rcases q with q | q; have := hcl _ q; omega; omega⟩
    · funext i
      exact hI i
    · obtain ⟨a', ha', hh⟩ := Z.shun _ ha
      cases ha'
      rw [show a.block = w.heap.size + 1 + 1 from hb] at hh
      exact absurd hh f2
    · rcases q with q | q
      · exact q
      · omega
    · rcases q with q | q
      · exact q
      · omega
end
end Go.Proofs.Ytfpkachoneaaeaa
namespace Go.Proofs.Ytfpkachoneaaeaa
open Go Go.Conc Go.RowKit
section
variable {Z : Scene} {n : Nat} {hd : Option (Nat × Chair)} {w : World} {s : Sy} {Post : Value → World → Prop} {h : Nat} {c : Frame} {cs : List Frame}
set_option maxRecDepth 50000 in
set_option maxHeartbeats 2000000 in
theorem post_run (R : Rep Z n hd w s 0) (id : Int) {IA : Option Addr} {ic : Nat} {bs : List UInt8} {GF : Nat → Prop} (hr : RB w GF IA bs) (hG : ∀ k, k < w.heap.size → GF k → ¬ Z.Hd k) (hbl : bs.length ≤ 140737488355328) (hv : s.ents.length < 2000000000)
    (H : ∀ Z' n' s' w' ok, Rep Z' n' hd w' s' 0 → (s'.abs, ok) = postA s id bs → Ext Z n w s Z' n' w' s' → Run Try.prog Post Z' n' h 0 (G (c.finish (.bool ok)) cs) w') :
    Run Try.prog Post Z n h 0 (G ((base 13).at { tmps := #[.pointer (some ⟨s.S, 0, none⟩), .int .i64 id, .slice IA bs.length ic] ++ Array.replicate (Try.f13.ntmps - 3) undef, defers := [] } [.code (Try.f13.body.getD .skip)]) (c :: cs)) w := by
  refine Run.okG fun hok => ?_
  have hpT : ∃ X, pTail = X := ⟨_, rfl⟩
  simp only [Try.ntmps13]
  try simp only [Act.put, Act.eval, nrmL, Nat.reduceAdd, Nat.reduceSub]
  simp only [Try.f13, Option.getD_some]
  repeat (first | refine Run.auto rfl ?_ | ((first | (apply Run.lq rfl rfl rfl rfl; (focus (intro w K hK; go_simp; exact hK))) | (refine Run.ln rfl rfl rfl rfl rfl (by kernel_rfl) ?_) | (refine Run.not rfl rfl ?_)); try simp only [Act.put, Act.eval, nrmL, Nat.reduceAdd]) | (refine Run.rg ?_; simp only [nrmL, rngL, Nat.reduceAdd]) | refine Run.cT rfl ?_ | refine Run.cF rfl ?_ | refine Run.rt ?_ | refine Run.nd ?_)
  refine Run.enter rfl rfl (by decide) rfl Try.func24 (by kernel_rfl) rfl ?_
  simp only [Act.eval, nrmL, Nat.reduceAdd]
  refine lock_run (a := ⟨s.S, 1, none⟩) (R.cell 1) (R.sys.frozen 1) (R.npl 1 (by decide)) (R.nC hok) ?_
  obtain ⟨R1, k1⟩ := R.lkTo 1
  have hok1 := hok.setCell ⟨s.S, 1, none⟩ (.int .i32 1)
  generalize w.setCell ⟨s.S, 1, none⟩ (.int .i32 1) = w1 at R1 k1 hok1
  rw [Frame.finish_at]
  try simp only [Act.put, Act.eval, nrmL, Nat.reduceAdd]
  have hSn : ∀ k, k = s.S → s.own k ≠ (0, 0) := fun k hk q => by rw [hk, R.oS] at q; exact snd_ne q (by decide)
  have k1' : Kept (fun k => s.own k ≠ (0, 0)) w w1 := k1.mono fun k _ hk => hSn k hk
  have hr1 : RB w1 (fun k => GF k ∧ k < w.heap.size) IA bs := (Rd.mono hr fun k hk hf => ⟨hf, hk⟩).keep k1 fun k hk hf q => hG k hk hf.1 (q ▸ R.hS)
  have hG1 : ∀ k, k < w1.heap.size → (GF k ∧ k < w.heap.size) → ¬ Z.Hd k := fun k _ hf => hG k hf.2 hf.1
  repeat (first | refine Run.auto rfl ?_ | ((first | (apply Run.lq rfl rfl rfl rfl; (focus (intro w K hK; go_simp; exact hK))) | (refine Run.ln rfl rfl rfl rfl rfl (by kernel_rfl) ?_) | (refine Run.not rfl rfl ?_)); try simp only [Act.put, Act.eval, nrmL, Nat.reduceAdd]) | (refine Run.rg ?_; simp only [nrmL, rngL, Nat.reduceAdd]) | refine Run.cT rfl ?_ | refine Run.cF rfl ?_ | refine Run.rt ?_ | refine Run.nd ?_)
  refine Run.defer rfl rfl (by decide) rfl ?_
  try simp only [Act.put, Act.eval, nrmL, Nat.reduceAdd]
  repeat (first | refine Run.auto rfl ?_ | ((first | (apply Run.lq rfl rfl rfl rfl; (focus (intro w K hK; go_simp; exact hK))) | (refine Run.ln rfl rfl rfl rfl rfl (by kernel_rfl) ?_) | (refine Run.not rfl rfl ?_)); try simp only [Act.put, Act.eval, nrmL, Nat.reduceAdd]) | (refine Run.rg ?_; simp only [nrmL, rngL, Nat.reduceAdd]) | refine Run.cT rfl ?_ | refine Run.cF rfl ?_ | refine Run.rt ?_ | refine Run.nd ?_)
  refine Run.ld (a := ⟨s.S, 7, none⟩) (v := .bool s.stopped) rfl rfl (by decide) (R1.cell 7) (R1.nsh 7 (.inr (by decide))) (fun w₁ hld => ⟨by go_simp, by simp [go_sem, hld]⟩) ?_
  try simp only [Act.put, Act.eval, nrmL, Nat.reduceAdd]
  cases hst : s.stopped with
  | true =>
    repeat (first | refine Run.auto rfl ?_ | ((first | (apply Run.lq rfl rfl rfl rfl; (focus (intro w K hK; go_simp; exact hK))) | (refine Run.ln rfl rfl rfl rfl rfl (by kernel_rfl) ?_) | (refine Run.not rfl rfl ?_)); try simp only [Act.put, Act.eval, nrmL, Nat.reduceAdd]) | (refine Run.rg ?_; simp only [nrmL, rngL, Nat.reduceAdd]) | refine Run.cT rfl ?_ | refine Run.cF rfl ?_ | refine Run.rt ?_ | refine Run.nd ?_)
    refine Run.undefer rfl Try.func25 (by kernel_rfl) rfl ?_
    simp only [Try.ntmps25]
    try simp only [Act.put, Act.eval, nrmL, Nat.reduceAdd, Nat.reduceSub]
    refine unlock_runD (a := ⟨s.S, 1, none⟩) (R1.cell 1) (R1.sys.frozen 1) (R1.npl 1 (by decide)) (R1.nsh 1 (.inr (by decide))) (R1.nC hok1) rfl ?_
    obtain ⟨R2, k2⟩ := R1.lkTo 0
    refine Run.leave1 rfl rfl Try.func13 (by rfl) ?_
    exact H _ _ _ _ false R2 (by simp [postA, hst]) (Ext.same (k1'.trans (k2.mono fun k _ hk => hSn k hk)))
  | false =>
    repeat (first | refine Run.auto rfl ?_ | ((first | (apply Run.lq rfl rfl rfl rfl; (focus (intro w K hK; go_simp; exact hK))) | (refine Run.ln rfl rfl rfl rfl rfl (by kernel_rfl) ?_) | (refine Run.not rfl rfl ?_)); try simp only [Act.put, Act.eval, nrmL, Nat.reduceAdd]) | (refine Run.rg ?_; simp only [nrmL, rngL, Nat.reduceAdd]) | refine Run.cT rfl ?_ | refine Run.cF rfl ?_ | refine Run.rt ?_ | refine Run.nd ?_)
    refine Run.ld (a := ⟨s.S, 3, none⟩) (v := .map (some s.mp)) rfl rfl (by decide) (R1.cell 3) (R1.nsh 3 (.inr (by decide))) (fun w₁ hld => ⟨by go_simp, by simp [go_sem, hld]⟩) ?_
    try simp only [Act.put, Act.eval, nrmL, Nat.reduceAdd]
    repeat (first | refine Run.auto rfl ?_ | ((first | (apply Run.lq rfl rfl rfl rfl; (focus (intro w K hK; go_simp; exact hK))) | (refine Run.ln rfl rfl rfl rfl rfl (by kernel_rfl) ?_) | (refine Run.not rfl rfl ?_)); try simp only [Act.put, Act.eval, nrmL, Nat.reduceAdd]) | (refine Run.rg ?_; simp only [nrmL, rngL, Nat.reduceAdd]) | refine Run.cT rfl ?_ | refine Run.cF rfl ?_ | refine Run.rt ?_ | refine Run.nd ?_)
    refine Run.look theEnv rfl rfl (by decide) rfl (fun _ _ q => by cases q) (s.val id) (fun u hu _ => by have := R1.look id u hu; go_simp) ?_
    try simp only [Act.put, Act.eval, nrmL, Nat.reduceAdd]
    rcases he : s.ent id with _ | e
    · rw [show s.val id = .pointer none by simp [Sy.val, he]]
      have hmiss := Sy.ent_none he
      (apply Run.lq rfl rfl rfl rfl; (focus (intro w K hK; go_simp; exact hK)); try simp only [Act.put, Act.eval, nrmL, Nat.reduceAdd])
      refine Run.auto rfl ?_
      refine Run.auto rfl ?_
      refine Run.auto rfl ?_
      (refine Run.rg ?_; simp only [nrmL, rngL, Nat.reduceAdd])
      (apply Run.lq rfl rfl rfl rfl; (focus (intro w K hK; go_simp; exact hK)); try simp only [Act.put, Act.eval, nrmL, Nat.reduceAdd])
      (apply Run.lq rfl rfl rfl rfl; (focus (intro w K hK; go_simp; exact hK)); try simp only [Act.put, Act.eval, nrmL, Nat.reduceAdd])
      refine Run.auto rfl ?_
      refine Run.cT rfl ?_
      refine post_fresh R1 hst hmiss hv hr1 hG1 hbl fun Z' s' w' R2 ha hx => ?_
      refine H _ _ _ _ true R2 ?_ (hx.ahead k1')
      simp [postA, hst, putA, Sy.abs_find, he, ha]
    · rw [show s.val id = ptr e.b by simp [Sy.val, he]]
      obtain ⟨hx, hid⟩ := Sy.ent_some he
      unfold ptr
      (apply Run.lq rfl rfl rfl rfl; (focus (intro w K hK; go_simp; exact hK)); try simp only [Act.put, Act.eval, nrmL, Nat.reduceAdd])
      refine Run.auto rfl ?_
      refine Run.auto rfl ?_
      refine Run.auto rfl ?_
      (refine Run.rg ?_; simp only [nrmL, rngL, Nat.reduceAdd])
      (apply Run.lq rfl rfl rfl rfl; (focus (intro w K hK; go_simp; exact hK)); try simp only [Act.put, Act.eval, nrmL, Nat.reduceAdd])
      (apply Run.lq rfl rfl rfl rfl; (focus (intro w K hK; go_simp; exact hK)); try simp only [Act.put, Act.eval, nrmL, Nat.reduceAdd])
      refine Run.auto rfl ?_
      refine Run.cF rfl ?_
      refine Run.auto rfl ?_
      refine post_tail R1 hx hr1 hG1 hbl (fun hl w' R2 k2 => ?_) fun hl w' t A1 c1 A2 c2 own' R2 ho k2 => ?_
      · refine H _ _ _ _ false R2 ?_ (Ext.same (k1'.trans (k2.mono fun k _ hk => hSn k hk)))
        simp only [postA, hst, putA, Sy.abs_find, he, Option.map_some, List.length_map]
        rw [if_neg (by simp), if_neg (by omega)]
      · refine H _ _ _ _ true R2 ?_ ((Ext.setE (e' := e.push A2 c2 ⟨t, A1, c1, bs⟩) R.gis hx rfl k2 ho).ahead k1')
        rw [R.abs_setE (e' := e.push A2 c2 ⟨t, A1, c1, bs⟩) hx rfl]
        simp only [postA, hst, putA, Sy.abs_find, he, Option.map_some, List.length_map]
        rw [if_neg (by simp), if_pos hl, hid]
        congr 1
        refine List.map_congr_left fun p _ => ?_
        by_cases q : p.1 = id
        · rw [if_pos q, if_pos q, q]
          simp [Ent.push, hid]
        · rw [if_neg q, if_neg q]
end
end Go.Proofs.Ytfpkachoneaaeaa
