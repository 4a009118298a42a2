/-
  What the lone walk shows, in company: an operation, a call.
-/
import Derived.Test.YtfpkachoneaaeaaBbRun
import Derived.Test.YtfpkachoneaaeaaBase
set_option linter.unusedSimpArgs false
set_option linter.unusedVariables false
namespace Go.Proofs.Ytfpkachoneaaeaa
open Go Go.Conc
open Classical in
/-- The world with the hidden blocks empty. -/
noncomputable def Scene.hide (Z : Scene) (w : World) : World := { w with heap := w.heap.mapIdx fun b o => if Z.Hd b then hideObj b o else o }
section
variable {P : Program} {Z : Scene} {w v v' : World} {b : Nat}
theorem hide_see (h : ¬ Z.Hd b) : (Z.hide w).heap[b]? = w.heap[b]? := by
  simp only [Scene.hide, Array.getElem?_mapIdx, if_neg h]
  cases w.heap[b]? <;> rfl
theorem hide_size : (Z.hide w).heap.size = w.heap.size := by simp [Scene.hide]
theorem hide_kept : Kept Z.Hd w (Z.hide w) := ⟨rfl, rfl, rfl, by rw [hide_size]; exact Nat.le_refl _, fun k _ hk => hide_see hk⟩
theorem hide_hid (hb : Z.Hd b) {o : Obj} (q : w.heap[b]? = some o) : (Z.hide w).heap[b]? = some (hideObj b o) := by
  simp only [Scene.hide, Array.getElem?_mapIdx, if_pos hb, q]
  rfl
theorem hide_near (h : WOk P Z w) : Near Z.Hd (Z.hide w) w := by
  refine ⟨rfl, rfl, hide_size, fun b hb => hide_see hb, fun b hb => ?_⟩
  obtain ⟨o, ho, q⟩ := h.hid b hb
  exact .inl ⟨o, ho, hide_hid hb q, q⟩
theorem hide_heap (h : WOk P Z w) : HeapOk (okP P) Z.Hd (Z.hide w) := by
  refine ⟨fun b o ho => ?_, fun b hb => ?_⟩
  · by_cases hb : Z.Hd b
    · obtain ⟨x, _, q⟩ := h.hid b hb
      rw [hide_hid hb q] at ho
      obtain rfl := Option.some.inj ho
      cases x <;> first | exact .inl trivial | exact .inr ⟨hb, rfl⟩
    · rw [hide_see hb] at ho
      exact .inl (h.obj b o hb ho)
  · obtain ⟨x, hx, q⟩ := h.hid b hb
    refine ⟨_, hide_hid hb q, (hideObj_chan b x).trans hx, fun c t f r => ?_⟩
    obtain ⟨_, _, _, h1, h2⟩ := hideObj_cells r
    exact ⟨h1, h2⟩
theorem hide_twin (h : WOk P Z w) (hb : Z.Hd b) : Twin b (Z.hide w).heap[b]? w.heap[b]? (Z.hide w).heap[b]? w.heap[b]? := .inl ⟨rfl, rfl, (hide_near h).hid b hb⟩
theorem hide_same (h : WOk P Z w) (hb : Z.Hd b) {ov ow : Option Obj} (ht : Twin b (Z.hide w).heap[b]? w.heap[b]? ov ow) (hs : ov = (Z.hide w).heap[b]?) : ow = w.heap[b]? := by
  obtain ⟨x, _, q⟩ := h.hid b hb
  have e := hide_hid hb q
  rw [e, q] at ht
  rw [e] at hs
  rw [q]
  exact ht.same hs
theorem twin_wok {P : Program} {b : Nat} {mv m ov ow : Option Obj} (ht : Twin b mv m ov ow) (hm : ∃ o : Obj, o.isChan = false ∧ m = some o) : ∃ o : Obj, o.isChan = false ∧ ow = some o := by
  rcases ht.still with h | ⟨_, o, h1, h2⟩
  · rw [h]; exact hm
  · refine ⟨o, ?_, h2⟩
    cases o <;> first | rfl | exact h1.elim
/-- Kept, but for the tape. -/
structure KeptH (S : Nat → Prop) (w w' : World) : Prop where
  os : w'.os = w.os
  output : w'.output = w.output
  size : w.heap.size ≤ w'.heap.size
  block : ∀ k, k < w.heap.size → ¬ S k → w'.heap[k]? = w.heap[k]?
end
section
variable {P : Program} {Post : Value → World → Prop} {Z : Scene} {n h k : Nat} {w : World} {b : Frame} {x : Act} {kk : List Item} {cs : List Frame} {ops : Array Oper} {i : Nat} {rest : List Nat} {o : Oper} {okf : FuncId → Prop} {S : Nat → Prop}
/-- ████ AN OPERATION. ████ -/
theorem Run.lift (E : Env P (okP P) okf) (ho : ops[i]? = some o) (hw : Region.wanted o (yielded ops x.tmps) = true) (hk : b.kind ≠ .early) (hok : okOp P o = true) (hab : ∀ v f, o.about P v x.eval = some f → okf f) (hS : ∀ c, Z.C c → ¬ S c)
    (H : WOk P Z w → ∀ d, ∃ y v', (execOp x.eval o).run P (Z.hide (w.at d)) = .ok (.value y) v' ∧ Kept S (Z.hide (w.at d)) v' ∧ (∀ w', Kept S w w' → (∀ b, ¬ Z.Hd b → w'.heap[b]? = v'.heap[b]?) → w'.heap.size = v'.heap.size → (∀ b, Z.Hd b → Still w.heap[b]? w'.heap[b]?) → Run P Post Z n h k (G (b.at (x.put o.dst y) (.inRegion ops rest :: kk)) cs) w')) :
    Run P Post Z n h k (G (b.at x (.inRegion ops (i :: rest) :: kk)) cs) w := by
  intro d gs T q sl hn ha hok' C hd
  have hwk : WOk P Z w := ⟨hok'.obj, hok'.hid, hok'.chan⟩
  have main : Run P Post Z n h k (G (b.at x (.inRegion ops (i :: rest) :: kk)) cs) w := by
    refine Run.op ho hw hk fun d K' hK => ?_
    obtain ⟨y, v', hr, hkp, hnext⟩ := H hwk d
    have hwd : WOk P Z (w.at d) := hwk.at d
    have hl := (hide_near hwd).like v'.drawn (w.at d).tape (fun j q => rfl)
    have hl' : Like Z.Hd ⟨v'.drawn, w.tape, d, d, fun b => w.heap[b]?, fun b => (Z.hide w).heap[b]?⟩ (Z.hide (w.at d)) (w.at d) := hl
    obtain ⟨okm, hm1, hm2, hm3⟩ := E.hm
    have hs := tm_sim _ (Tm.execOp (ok := okP P) okm hm1 hm2 x.eval (fun _ => rfl) o hok (Z.hide (w.at d)) (fun f q => hm3 f (hab _ f q))) (Z.hide (w.at d)) (w.at d) hl' (hide_heap hwd) #[]
    have e1 := Sem.runT_fst P (execOp x.eval o) (Z.hide (w.at d)) #[]
    have e2 := Sem.runT_fst P (execOp x.eval o) (w.at d) #[]
    rw [hr] at e1
    generalize hX : (execOp x.eval o).runT P (Z.hide (w.at d)) #[] = X at hs e1
    generalize hY : (execOp x.eval o).runT P (w.at d) #[] = Y at hs e2
    obtain ⟨r, es⟩ := X
    simp only at e1
    subst e1
    obtain ⟨_, haf, hx⟩ := hs
    obtain ⟨w', eY, hlk⟩ := hx (Nat.le_refl _)
    subst eY
    simp only at e2
    rw [← e2]
    have hsz : w'.heap.size = v'.heap.size := hlk.size.symm
    have hsee : ∀ b, ¬ Z.Hd b → w'.heap[b]? = v'.heap[b]? := fun b hb => (hlk.obj b hb).symm
    have hhid : ∀ b, Z.Hd b → Twin b (Z.hide w).heap[b]? w.heap[b]? v'.heap[b]? w'.heap[b]? := fun b hb => hlk.hid b hb
    have hsize : w.heap.size ≤ w'.heap.size := by
      have := haf.size
      rw [hide_size] at this
      rw [hsz]; exact this
    have hev : ∀ e ∈ (execOp x.eval o).events P (w.at d) #[], EvQ Z e := by
      intro e he
      have : (execOp x.eval o).events P (w.at d) #[] = es := by
        show ((execOp x.eval o).runT P (w.at d) #[]).2 = es
        rw [hY]
      rw [this] at he
      obtain ⟨dd, hdd, hev⟩ := haf.evs
      have he' : e ∈ dd := by simpa [hdd] using he
      have hok2 := hev e he'
      exact ⟨evX_ok hok2, fun q => hok2.mark _ q, fun q => hok2.mark _ q⟩
    have hch : ∀ c, Z.C c → w'.heap[c]? = w.heap[c]? := fun c hc => by
      obtain ⟨oc, _, hq⟩ := hwk.chan c hc
      have hlt := (Array.getElem?_eq_some_iff.1 hq).1
      rw [hsee c (Z.apart c hc), hkp.block c (by rw [hide_size]; exact hlt) (hS c hc), hide_see (Z.apart c hc)]
      rfl
    have hkw : Kept S w w' := by
      refine ⟨by rw [← hlk.os, hkp.os]; rfl, ?_, by rw [← hlk.output, hkp.output]; rfl, hsize, fun c hlt hc => ?_⟩
      · exact hlk.other.1
      · by_cases hb : Z.Hd c
        · exact hide_same hwk hb (hhid c hb) (hkp.block c (by rw [hide_size]; exact hlt) hc)
        · rw [hsee c hb, hkp.block c (by rw [hide_size]; exact hlt) hc, hide_see hb]
          rfl
    refine hK _ _ hev (fun a hp => ?_) (fun c hc => hch c hc) (fun q => ⟨fun b o hb ho => ?_, fun b hb => ?_, fun c hc => ?_⟩) (hnext w' hkw hsee hsz fun b hb => (hhid b hb).still)
    · obtain ⟨i', ch, u, e, hv⟩ := hp
      exact (hhid a.block (Z.place i' ch a u e hv)).still.cell
    · rw [hsee b hb] at ho
      exact (haf.heap.obj b o ho).resolve_right fun q => hb q.1
    · exact twin_wok (P := P) (hhid b hb) (hwk.hid b hb)
    · rw [hch c hc]; exact hwk.chan c hc
  exact main d gs T q sl hn ha hok' C hd
end
end Go.Proofs.Ytfpkachoneaaeaa
namespace Go.Proofs.Ytfpkachoneaaeaa
open Go Go.Conc
/-- The function's results lie in slots. -/
def TmpRes (P : Program) (fn : Func) : Prop := ∀ tmps v w w', (results fn tmps).run P w = .ok v w' → ∀ w₁, (results fn tmps).run P w₁ = .ok v w₁ ∧ (results fn tmps).events P w₁ #[] = #[]
theorem tmpRes0 {P : Program} {fn : Func} (h : fn.results = #[]) : TmpRes P fn := fun tmps v w w' e w₁ => by
  rw [results_none h] at e
  cases e
  exact ⟨results_none h _ P w₁, events_results_none h _ _⟩
theorem tmpRes1 {P : Program} {fn : Func} {t : Tmp} (h : fn.results = #[.tmp t]) : TmpRes P fn := fun tmps v w w' e w₁ => by
  rw [results_tmp h] at e
  cases e
  exact ⟨results_tmp h _ P w₁, events_results_tmp h _ _⟩
theorem tmpRes2 {P : Program} {fn : Func} {t u : Tmp} (h : fn.results = #[.tmp t, .tmp u]) : TmpRes P fn := fun tmps v w w' e w₁ => by
  rw [results_tmp2 h] at e
  cases e
  exact ⟨results_tmp2 h _ P w₁, events_results_tmp2 h _ _⟩
theorem stepG_leave_fr {P : Program} {main : Bool} {fr c : Frame} {cs : List Frame} {w : World} {y : Value} {fn : Func} (hm : fr.mode = .returning) (hd : fr.defers = []) (hk : fr.kind = .normal) (hf : P.funcs[fr.fn]? = some fn)
    (hr : (results fn fr.tmps).run P w = .ok y w) (he : (results fn fr.tmps).events P w #[] = #[]) :
    stepG P main { frame := fr, callers := c :: cs, status := .running, dying := none } w = .go (G (c.finish y) cs) w #[] := by
  simp [G, stepG, unwind, doReturn, hm, hd, hk, hf, hr, he, seen, GStep.after]
section
variable {P : Program} {Post : Value → World → Prop} {Z : Scene} {n h k : Nat} {w : World} {b : Frame} {x : Act} {kk : List Item} {cs : List Frame} {ops : Array Oper} {i : Nat} {rest : List Nat} {o : Oper} {okf : FuncId → Prop} {S : Nat → Prop}
/-- ████ A CALL. ████ -/
theorem Run.callV (E : Env P (okP P) okf) {F : Fence} {nn : Nat} (hF : ∀ f, F.fn f → okf f) (hal : F.alive = true) (hroom : F.room (0 + 1 + nn)) {f : FuncId} {fn : Func} {c : Code} {vals : Array Value} {c0 : Frame}
    (hf : P.funcs[f]? = some fn) (hb : fn.body = some c) (hres : TmpRes P fn) (hS : ∀ c, Z.C c → ¬ S c) (Q : Value → World → Prop) (hQ : ∀ y v τ, Q y (tp v τ) → Q y v)
    (hcon : WOk P Z w → ∀ τ, CallsIn F nn P f vals (tp (Z.hide w) τ) fun e v' => ∃ y, e = .returned y ∧ Kept S (tp (Z.hide w) τ) v' ∧ Q y v')
    (H : ∀ y v' w', Q y v' → Kept S w w' → (∀ b, ¬ Z.Hd b → w'.heap[b]? = v'.heap[b]?) → w'.heap.size = v'.heap.size → (∀ b, Z.Hd b → Still w.heap[b]? w'.heap[b]?) → Run P Post Z n h k (G (c0.finish y) cs) w') :
    Run P Post Z n h k (G ((base f).at { tmps := vals ++ Array.replicate (fn.ntmps - vals.size) undef, defers := [] } [.code c]) (c0 :: cs)) w := by
  intro d gs T q sl hn ha hok' C hd
  have hwk : WOk P Z w := ⟨hok'.obj, hok'.hid, hok'.chan⟩
  have main : Run P Post Z n h k (G ((base f).at { tmps := vals ++ Array.replicate (fn.ntmps - vals.size) undef, defers := [] } [.code c]) (c0 :: cs)) w := by
    let Stop : Goroutine → World → Prop := fun g v' => ∃ y fr, g = { frame := fr, callers := [], status := .running, dying := none } ∧ KeptH S (Z.hide w) v' ∧ Q y v' ∧ fr.fn = f ∧ fr.mode = .returning ∧ fr.defers = [] ∧ fr.kind = .normal ∧ (results fn fr.tmps).run P v' = .ok y v'
    have hSt : ∀ g v τ, Stop g (tp v τ) → Stop g v := by
      rintro g v τ ⟨y, fr, e, hk, hq, h1, h2, h3, h4, h5⟩
      exact ⟨y, fr, e, ⟨hk.os, hk.output, hk.size, hk.block⟩, hQ y v τ hq, h1, h2, h3, h4, (hres _ _ _ _ h5 v).1⟩
    have hchS : ∀ g v, Stop g v → ∀ c, Z.C c → ∃ o : Obj, o.isChan = true ∧ v.heap[c]? = some o := by
      rintro g v ⟨y, fr, e, hk, _⟩ c hc
      obtain ⟨oc, ho, hq⟩ := hwk.chan c hc
      have hlt := (Array.getElem?_eq_some_iff.1 hq).1
      exact ⟨oc, ho, by rw [hk.block c (by rw [hide_size]; exact hlt) (hS c hc), hide_see (Z.apart c hc)]; exact hq⟩
    have hfr : Frame.enter P f vals .normal = (base f).at { tmps := vals ++ Array.replicate (fn.ntmps - vals.size) undef, defers := [] } [.code c] := enter_at vals hf hb
    have hg : GorOk P (okP P) { frame := Frame.enter P f vals .normal, callers := [], status := .running, dying := none } :=
      ⟨rfl, rfl, rfl, FrameOk.enter f vals .normal rfl (by intro q; cases q), fun c hc => by cases hc⟩
    have hbar : Bar P (okP P) okf Z.Hd Stop { frame := Frame.enter P f vals .normal, callers := [], status := .running, dying := none } (Z.hide w) := by
      refine bar E hF hal hSt ⟨hg, hide_heap hwk, fun τ _ => ?_⟩
      obtain ⟨e, v', fr, ⟨y, rfl, hkp, hq⟩, hc, hfn, hl⟩ := (hcon hwk τ).2 [] hroom
      obtain ⟨h2, h3, h4, fn', hf', h5⟩ := hl
      rw [hfn, hf] at hf'
      obtain rfl := Option.some.inj hf'
      exact ⟨fr, [], v', hc, y, fr, rfl, ⟨hkp.os, hkp.output, hkp.size, hkp.block⟩, hq, hfn, h2, h3, h4, h5⟩
    refine Run.gx (D := GD Z.Hd Z.C) (fun w w' es g => g.hd Z.place Z.chan Z.shun) (Stop := fun k' g' w' => k' = k ∧ ∃ g v, Stop g v ∧ Near Z.Hd v w' ∧ HeapOk (okP P) Z.Hd v ∧ (∀ b, Z.Hd b → Twin b (Z.hide w).heap[b]? w.heap[b]? v.heap[b]? w'.heap[b]?) ∧ (∀ b, Z.C b → w'.heap[b]? = w.heap[b]?) ∧ w'.tape = w.tape ∧ g' = { g with callers := g.callers ++ c0 :: cs }) ?_ ?_ ?_
    · rintro k' g' w' ⟨_, g, v, _, hn, hh, h0, h0C, _, _⟩
      refine ⟨fun b o hb ho => ?_, fun b hb => ?_, fun c hc => ?_⟩
      · rw [← hn.obj b hb] at ho
        exact (hh.obj b o ho).resolve_right fun q => hb q.1
      · exact twin_wok (P := P) (h0 b hb) (hwk.hid b hb)
      · rw [h0C c hc]; exact hwk.chan c hc
    · intro _
      have := Bar.goes (C := Z.C) (V0 := fun b => (Z.hide w).heap[b]?) (H0 := fun b => w.heap[b]?) (τ0 := w.tape) (cs := c0 :: cs) (m := h == 0) (k := k) E hchS Z.apart hbar w (hide_near hwk) (hide_heap hwk) (fun c hc => by
        obtain ⟨oc, _, hq⟩ := hwk.chan c hc
        rw [hide_size]
        exact (Array.getElem?_eq_some_iff.1 hq).1) (fun b hb => hide_twin hwk hb) (fun _ _ => rfl) rfl
      rw [← hfr]
      exact this
    · rintro k' g' w' ⟨rfl, g, v, ⟨y, fr, rfl, hk, hq, h1, h2, h3, h4, h5⟩, hn, hh, h0, h0C, hta, rfl⟩
      refine Run.ctl (a' := G (c0.finish y) cs) (fun w₁ => ?_) rfl ?_
      · have := hres _ _ _ _ h5 w₁
        exact stepG_leave_fr h2 h3 h4 (by rw [h1]; exact hf) this.1 this.2
      · have hsee : ∀ b, ¬ Z.Hd b → w'.heap[b]? = v.heap[b]? := fun b hb => (hn.obj b hb).symm
        have hsz : w'.heap.size = v.heap.size := hn.size.symm
        refine H y v w' hq ⟨by rw [← hn.os, hk.os]; rfl, hta, by rw [← hn.output, hk.output]; rfl, ?_, fun c hlt hc => ?_⟩ hsee hsz (fun b hb => (h0 b hb).still)
        · have := hk.size
          rw [hide_size] at this
          rw [hsz]; exact this
        · by_cases hb : Z.Hd c
          · exact hide_same hwk hb (h0 c hb) (hk.block c (by rw [hide_size]; exact hlt) hc)
          · rw [hsee c hb, hk.block c (by rw [hide_size]; exact hlt) hc, hide_see hb]
  exact main d gs T q sl hn ha hok' C hd
end
end Go.Proofs.Ytfpkachoneaaeaa
