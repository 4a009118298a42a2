/-
  An operation of the lone walk that yields nothing, in company.
-/
import Derived.Test.YtfpkachoneaaeaaBbEnv
set_option linter.unusedSimpArgs false
set_option linter.unusedVariables false
namespace Go.Proofs.Ytfpkachoneaaeaa
open Go Go.Conc
section
variable {P : Program} {Post : Value → World → Prop} {Z : Scene} {n h k : Nat} {w : World} {b : Frame} {x : Act} {kk : List Item} {cs : List Frame} {ops : Array Oper} {i : Nat} {rest : List Nat} {o : Oper} {okf : FuncId → Prop} {S : Nat → Prop}
/-- ████ AN OPERATION THAT YIELDS NOTHING. ████ -/
theorem Run.liftU (E : Env P (okP P) okf) (ho : ops[i]? = some o) (hw : Region.wanted o (yielded ops x.tmps) = true) (hk : b.kind ≠ .early) (hok : okOp P o = true) (hab : ∀ v f, o.about P v x.eval = some f → okf f) (hS : ∀ c, Z.C c → ¬ S c)
    (H : WOk P Z w → ∀ d, ∃ v', (execOp x.eval o).run P (Z.hide (w.at d)) = .ok .skip v' ∧ Kept S (Z.hide (w.at d)) v' ∧ (∀ w', Kept S w w' → (∀ b, ¬ Z.Hd b → w'.heap[b]? = v'.heap[b]?) → w'.heap.size = v'.heap.size → (∀ b, Z.Hd b → Still w.heap[b]? w'.heap[b]?) → Run P Post Z n h k (G (b.at (x.put o.dst undef) (.inRegion ops rest :: kk)) cs) w')) :
    Run P Post Z n h k (G (b.at x (.inRegion ops (i :: rest) :: kk)) cs) w := by
  intro d gs T q sl hn ha hok' C hd
  have hwk : WOk P Z w := ⟨hok'.obj, hok'.hid, hok'.chan⟩
  have main : Run P Post Z n h k (G (b.at x (.inRegion ops (i :: rest) :: kk)) cs) w := by
    refine Run.op ho hw hk fun d K' hK => ?_
    obtain ⟨v', hr, hkp, hnext⟩ := H hwk d
    have hwd : WOk P Z (w.at d) := hwk.at d
    have hl := (hide_near hwd).like v'.drawn (w.at d).tape (fun j q => rfl)
    have hl' : Like Z.Hd ⟨v'.drawn, w.tape, d, d, fun b => w.heap[b]?, fun b => (Z.hide w).heap[b]?⟩ (Z.hide (w.at d)) (w.at d) := hl
    obtain ⟨okm, hm1, hm2, hm3⟩ := E.hm
    have hs := tm_sim _ (Tm.execOp (ok := okP P) okm hm1 hm2 x.eval (fun _ => rfl) o hok (Z.hide (w.at d)) (fun f q => hm3 f (hab _ f q))) (Z.hide (w.at d)) (w.at d) hl' (hide_heap hwd) #[]
    have e1 := Sem.runT_fst P (execOp x.eval o) (Z.hide (w.at d)) #[]
    have e2 := Sem.runT_fst P (execOp x.eval o) (w.at d) #[]
    rw [hr] at e1
    generalize hX : (execOp x.eval o).runT P (Z.hide (w.at d)) #[] = X at hs e1
    generalize hY : (execOp x.eval o).runT P (w.at d) #[] = Y at hs e2
    obtain ⟨r, es⟩ := X
    simp only at e1
    subst e1
    obtain ⟨_, haf, hx⟩ := hs
    obtain ⟨w', eY, hlk⟩ := hx (Nat.le_refl _)
    subst eY
    simp only at e2
    rw [← e2]
    have hsz : w'.heap.size = v'.heap.size := hlk.size.symm
    have hsee : ∀ b, ¬ Z.Hd b → w'.heap[b]? = v'.heap[b]? := fun b hb => (hlk.obj b hb).symm
    have hhid : ∀ b, Z.Hd b → Twin b (Z.hide w).heap[b]? w.heap[b]? v'.heap[b]? w'.heap[b]? := fun b hb => hlk.hid b hb
    have hsize : w.heap.size ≤ w'.heap.size := by
      have := haf.size
      rw [hide_size] at this
      rw [hsz]; exact this
    have hev : ∀ e ∈ (execOp x.eval o).events P (w.at d) #[], EvQ Z e := by
      intro e he
      have : (execOp x.eval o).events P (w.at d) #[] = es := by
        show ((execOp x.eval o).runT P (w.at d) #[]).2 = es
        rw [hY]
      rw [this] at he
      obtain ⟨dd, hdd, hev⟩ := haf.evs
      have he' : e ∈ dd := by simpa [hdd] using he
      have hok2 := hev e he'
      exact ⟨evX_ok hok2, fun q => hok2.mark _ q, fun q => hok2.mark _ q⟩
    have hch : ∀ c, Z.C c → w'.heap[c]? = w.heap[c]? := fun c hc => by
      obtain ⟨oc, _, hq⟩ := hwk.chan c hc
      have hlt := (Array.getElem?_eq_some_iff.1 hq).1
      rw [hsee c (Z.apart c hc), hkp.block c (by rw [hide_size]; exact hlt) (hS c hc), hide_see (Z.apart c hc)]
      rfl
    have hkw : Kept S w w' := by
      refine ⟨by rw [← hlk.os, hkp.os]; rfl, ?_, by rw [← hlk.output, hkp.output]; rfl, hsize, fun c hlt hc => ?_⟩
      · exact hlk.other.1
      · by_cases hb : Z.Hd c
        · exact hide_same hwk hb (hhid c hb) (hkp.block c (by rw [hide_size]; exact hlt) hc)
        · rw [hsee c hb, hkp.block c (by rw [hide_size]; exact hlt) hc, hide_see hb]
          rfl
    refine hK _ _ hev (fun a hp => ?_) (fun c hc => hch c hc) (fun q => ⟨fun b o hb ho => ?_, fun b hb => ?_, fun c hc => ?_⟩) (hnext w' hkw hsee hsz fun b hb => (hhid b hb).still)
    · obtain ⟨i', ch, u, e, hv⟩ := hp
      exact (hhid a.block (Z.place i' ch a u e hv)).still.cell
    · rw [hsee b hb] at ho
      exact (haf.heap.obj b o ho).resolve_right fun q => hb q.1
    · exact twin_wok (P := P) (hhid b hb) (hwk.hid b hb)
    · rw [hch c hc]; exact hwk.chan c hc
  exact main d gs T q sl hn ha hok' C hd
/-- .. in fewer words. -/
theorem Run.layU (E : Env P (okP P) okf) (ho : ops[i]? = some o) (hw : Region.wanted o (yielded ops x.tmps) = true) (hk : b.kind ≠ .early) (hok : okOp P o = true) (hab : ∀ v f, o.about P v x.eval = some f → okf f) (hS : ∀ c, Z.C c → ¬ S c)
    (H : ∀ u, Kept Z.Hd w u → u.heap.size = w.heap.size → ∃ v', (execOp x.eval o).run P u = .ok .skip v' ∧ Kept S u v' ∧ (∀ w', Kept S w w' → Kept Z.Hd v' w' → w'.heap.size = v'.heap.size → Run P Post Z n h k (G (b.at (x.put o.dst undef) (.inRegion ops rest :: kk)) cs) w')) :
    Run P Post Z n h k (G (b.at x (.inRegion ops (i :: rest) :: kk)) cs) w := by
  refine Run.liftU E ho hw hk hok hab hS fun hwk d => ?_
  have hku : Kept Z.Hd w (Z.hide (w.at d)) := ⟨rfl, rfl, rfl, by rw [hide_size]; exact Nat.le_refl _, fun k _ hk => hide_see hk⟩
  obtain ⟨v', h1, h2, h3⟩ := H (Z.hide (w.at d)) hku (by rw [hide_size]; rfl)
  refine ⟨v', h1, h2, fun w' a1 a2 a3 _ => h3 w' a1 ⟨?_, ?_, ?_, by rw [a3]; exact Nat.le_refl _, fun k _ hk => a2 k hk⟩ a3⟩
  · rw [a1.os, h2.os]; rfl
  · rw [a1.tape, h2.tape]; rfl
  · rw [a1.output, h2.output]; rfl
end
end Go.Proofs.Ytfpkachoneaaeaa
