/-
  From a contract 'the law returns true and turns nothing that was there' to the row and its card, for any law of this program.
-/
import Derived.Test.YtfpkachoneaaeaaBase
import Derived.Test.YtfpkachoneaaeaaRows
import Derived.ProofKit
import Derived.OpenShut
import Derived.ShutString
import Derived.ChangeOld
import Derived.Deep.DeepHandedRow
import Derived.Lib.LaidTab
import Derived.SizedLaws
namespace Go.Proofs.Ytfpkachoneaaeaa
open Go.ChangeShapes Go.WideShapes Go.ChangeAt Go.RowKit

theorem ownK : ownKnob Try.prog.godebug = none := by kernel_rfl
theorem laidOut : laidOutB Try.prog = true := by kernel_rfl

/-- Every type of the list can be read and is a row of the table. -/
noncomputable def readables (ts : List TypeId) : Bool := ts.all fun t => Try.prog.readableRec t && decide (t < Try.prog.types.size)

theorem trodAll_below {H : Type} {enc : TypeId × Value → H} {W W' : World} (hb : Below W.heap.size W W') (ts : List TypeId) : ∀ {vs : List Value} {ds : List (DataW H)} {ps : List MemPlace},
    readables ts = true → DataW.TrodAll enc Try.prog W 0 (fun _ => true) true ts vs ds ps → DataW.TrodAll enc Try.prog W' 0 (fun b => decide (b < W.heap.size)) true ts vs ds ps := by
  induction ts with
  | nil =>
    intro vs ds ps _ h
    obtain ⟨rfl, rfl, rfl⟩ := trodAll_nil h
    exact trodAll_mk0
  | cons t ts ih =>
    intro vs ds ps hr h
    obtain ⟨v0, vs0, d0, ds0, p0, q0, rfl, rfl, rfl, h0, r0⟩ := trodAll_cons h
    unfold readables at hr
    rw [List.all_cons, Bool.and_eq_true, Bool.and_eq_true, decide_eq_true_eq] at hr
    have lt0 : ∀ x ∈ p0, x.block < W.heap.size := by
      obtain ⟨m, hm⟩ := h0
      exact DataW.trod_lt m _ _ _ hm
    exact trodAll_cons_mk (Below.trod laidOut hr.1.1 hr.1.2 h0 hb lt0) (ih hr.2 r0)

set_option maxRecDepth 100000 in
theorem lift {H : Type} {enc : TypeId × Value → H} {os : Os} (started : os.Started) (F : Stop.Interp) (f : FuncId) (fn : Func) (s : OpenSpec) (laid : List (String × DataW Unit))
    (hfn : Try.prog.funcs[f]? = some fn) (hni : Try.prog.inits.idxOf? f = none) (hres : fn.resultTypes = #[4]) (hpar : readables fn.params.toList = true) (hvars : (s.at F).vars = [] ∧ s.vars = [])
    (hspec : ∀ ds : List (DataW H), ds.length = fn.params.size → ((s.at F).fn H ds).results = [.lit (.bool true)] ∧ ((s.at F).fn H ds).args = ds ∧ ((s.at F).fn H ds).vars = [])
    (witness : ∃ (w : World) (tape : Tape) (i : Input), w.os = os ∧ (w.forCall tape i).Shaped Try.checked.prog ∧ i.vars = [] ∧ Input.okWide Try.checked.prog (w.forCall tape i) .any w.heap.size f i ∧
      s.preRow enc Try.checked.prog fn [] false laid (w.forCall tape i).memory i.args ∧ ({} : Assume).holds Try.checked.prog (lone (Frame.enter Try.checked.prog f i.args .normal) [] (w.forCall tape i)))
    (walk : ∀ (W : World) (base : Nat) (args : Array Value) (ds : List (DataW H)) (ps : List MemPlace),
      (∀ (j : Nat) t v, fn.params[j]? = some t → args[j]? = some v → Value.okWide Try.prog W .any base t v) →
      DataW.TrodAll enc Try.prog W 0 (fun _ => true) true fn.params.toList args.toList ds ps →
      (∀ k, s.cond = some k → k H ds = true) →
      (∀ n ∈ DataW.weightsEach Try.prog fn.params.toList ds, n ≤ reachBytes) →
      laidMetH Try.prog laid W →
      Calls Try.prog f args W fun e W' => e = .returned (.bool true) ∧ Below W.heap.size W W') :
    ReturnsInHanded {} Try.checked os f .any (s.preRow enc Try.prog fn [] false laid) ((s.at F).post enc Try.prog fn false true false false) := by
  refine returnsInHanded_of_row (C := Try.checked) (s := s) ownK started hni hfn witness ?_
  intro W base args ds gs before hval hW _ hcond hsz hL _ _
  have hW' := hW
  obtain ⟨p, q, hA, hV, rfl, hfz, hnd⟩ := hW
  rw [hvars.2] at hV
  obtain ⟨rfl, rfl⟩ := trodVars_none hV
  have hlen : ds.length = fn.params.size := by
    have : ∀ {ts : List TypeId} {vs : List Value} {ds : List (DataW H)} {ps : List MemPlace}, DataW.TrodAll enc Try.prog W 0 (fun _ => true) true ts vs ds ps → ds.length = ts.length := by
      intro ts
      induction ts with
      | nil =>
        intro vs ds ps h
        obtain ⟨_, rfl, _⟩ := trodAll_nil h
        rfl
      | cons t ts ih =>
        intro vs ds ps h
        obtain ⟨v0, vs0, d0, ds0, p0, q0, _, rfl, rfl, h0, r0⟩ := trodAll_cons h
        simp [ih r0]
    have := this hA
    simpa using this
  obtain ⟨e1, e2, e3⟩ := hspec ds hlen
  have hvt : s.bare.plain.varTypes Try.prog = [] := by
    have : s.bare.plain.vars = [] := hvars.2
    unfold DataSpec.varTypes
    rw [this]
    rfl
  refine (walk W base args ds p hval hA (fun k hk => by have := hcond k hk; rwa [List.append_nil] at this) (fun n hn => by
    have h1 := List.all_eq_true.1 hsz n (by
      show n ∈ DataW.weightsEach Try.prog (fn.params.toList ++ s.bare.plain.varTypes Try.prog) (ds ++ [])
      rw [hvt, List.append_nil, List.append_nil]
      exact hn)
    simpa using h1) hL).mono fun e W' ⟨he, bel⟩ => ?_
  subst he
  refine ⟨_, rfl, ds, [], _, [], p, [], hW', ?_, ?_, ?_, bel.frame _, fun h => by cases h⟩
  · rw [List.append_nil, e1, hres]
    exact trodAll_mk1 (shut_bool Try.underlying4 _)
  · rw [List.append_nil, e2]
    exact trodAll_below bel _ hpar hA
  · rw [List.append_nil, e3, hvars.1]
    rfl

theorem weights_head {H : Type} {P : Program} {t : TypeId} {ts : List TypeId} {d : DataW H} {ds : List (DataW H)} {B : Nat} (h : ∀ n ∈ DataW.weightsEach P (t :: ts) (d :: ds), n ≤ B) : (∀ n ∈ d.weights P t, n ≤ B) ∧ ∀ n ∈ DataW.weightsEach P ts ds, n ≤ B := by
  have e : DataW.weightsEach P (t :: ts) (d :: ds) = d.weights P t ++ DataW.weightsEach P ts ds := by rw [DataW.weightsEach]
  rw [e] at h
  exact ⟨fun n hn => h n (List.mem_append_left _ hn), fun n hn => h n (List.mem_append_right _ hn)⟩

theorem wf_u8 {n : Int} (h : (Lit.int .u8 n).wf = true) : 0 ≤ n ∧ n < 256 := by
  simp [Lit.wf, IntKind.min, IntKind.max, IntKind.bits, IntKind.signed] at h
  omega
theorem wf_i64 {n : Int} (h : (Lit.int .i64 n).wf = true) : -9223372036854775808 ≤ n ∧ n ≤ 9223372036854775807 := by
  simp [Lit.wf, IntKind.min, IntKind.max, IntKind.bits, IntKind.signed] at h
  omega

theorem bulk_one {H : Type} (d : DataW H) : 1 ≤ Rows.uptoBulk d := by
  cases d with
  | lit l => cases l <;> simp [Rows.uptoBulk]
  | nil => simp [Rows.uptoBulk]
  | ptr d => simp [Rows.uptoBulk]
  | slice elems spare => simp [Rows.uptoBulk]
  | agg parts => simp [Rows.uptoBulk]
  | iface t d => simp [Rows.uptoBulk]
  | map entries => simp [Rows.uptoBulk]
  | held h => simp [Rows.uptoBulk]
theorem bulk_len {H : Type} (l : List (DataW H)) : l.length ≤ Rows.uptoBulkAll l := by
  induction l with
  | nil => simp [Rows.uptoBulkAll]
  | cons x r ih => have := bulk_one x; simp only [Rows.uptoBulkAll, List.length_cons]; omega
theorem bulk_mem {H : Type} {d : DataW H} {l : List (DataW H)} (h : d ∈ l) : Rows.uptoBulk d ≤ Rows.uptoBulkAll l := by
  induction l with
  | nil => cases h
  | cons x r ih =>
    simp only [Rows.uptoBulkAll]
    rcases List.mem_cons.1 h with e | e
    · subst e; omega
    · have := ih e; omega
theorem bulk_bound {H : Type} {l : List (DataW H)} (h : ∀ k, some Rows.uptoSmall = some k → k H l = true) : Rows.uptoBulkAll l ≤ 1048576 := of_decide_eq_true (h _ rfl)

set_option maxRecDepth 100000 in
/-- An argument that is a slice of octets. -/
theorem open_bytes {H : Type} {enc : TypeId × Value → H} {W : World} {base : Nat} {v : Value} {d : DataW H} {p : List MemPlace} {t e : TypeId} (ht : Try.prog.underlying t = some (.slice e)) (he : Try.prog.underlying e = some (.int .u8)) (hce : Try.prog.cellsOf e = 1)
    (hbe : Try.prog.bytesOf e = 1) (hval : Value.okWide Try.prog W .any base t v) (h0 : DataW.Trod enc Try.prog W 0 (fun _ => true) true t v d p) (hsz : ∀ n ∈ d.weights Try.prog t, n ≤ reachBytes) :
    ∃ A c bs, v = .slice A bs.length c ∧ RB W (· < W.heap.size) A bs ∧ bs.length ≤ c ∧ c ≤ 140737488351232 ∧ (A = none → bs = [] ∧ c = 0) ∧ bs.length < Rows.uptoBulk d := by
  obtain ⟨a0, len, cap, rfl⟩ := okWide_slice ht hval
  obtain ⟨fuel, hf⟩ := h0
  rcases open_ints ht he hce hf with ⟨hcs, _⟩ | ⟨x, l, c, zs, hcs, _, hl, hm, hz, hx, hcell, hwz⟩
  · simp [Value.cells] at hcs
    obtain ⟨rfl, rfl, rfl⟩ := hcs
    exact ⟨none, 0, [], rfl, RB.nil _ _ _, Nat.le_refl _, by decide, fun _ => ⟨rfl, rfl⟩, bulk_one d⟩
  · simp [Value.cells] at hcs
    obtain ⟨rfl, rfl, rfl⟩ := hcs
    have hzl : zs.length = cap := by simpa using hz
    have hd : d = .slice (lits .u8 (zs.take len)) (lits .u8 (zs.drop len)) := by
      have := congrArg Prod.fst hx
      exact this
    have hw : cap ≤ reachBytes := by
      have h1 := hsz ((len + (cap - len)) * 1) (by
        rw [hd, DataW.weights, ht]
        simp only [lits, List.length_map, List.length_take, List.length_drop, hbe, hzl]
        rw [Nat.min_eq_left hl]
        exact List.mem_cons_self)
      omega
    refine ⟨some x, cap, (zs.take len).map lo8, ?_, ?_, ?_, ?_, (fun h => by cases h), ?_⟩
    · simp [hzl, hl]
    · obtain ⟨g, o, sp⟩ := x
      by_cases h0 : len = 0
      · subst h0
        exact .inl (by simp [bvs])
      · have hc0 := hcell 0 (by omega)
        have hs : sp = none := by
          cases sp with
          | none => rfl
          | some k =>
            simp only [Addr.add, if_true, World.cell?, Option.isSome_some] at hc0
            split at hc0 <;> simp at hc0
        subst hs
        refine .inr ⟨g, o, rfl, ?_, fun j u hu => ?_⟩
        · have := lt_of_cell hc0
          simpa [Addr.add] using this
        · have hj : j < len := by
            have := (List.getElem?_eq_some_iff.1 hu).1
            simp [bvs, hzl] at this
            omega
          have h1 := hcell j (by omega)
          have h2 : zs[j]? = some (zs.getD j 0) := by simp [List.getD, List.getElem?_eq_getElem (show j < zs.length by omega)]
          have h3 := wf_u8 (hwz (zs.getD j 0) (List.mem_of_getElem? h2))
          have h4 : (bvs ((zs.take len).map lo8))[j]? = some (.int .u8 (zs.getD j 0)) := by
            have e5 := lo8_val (zs.getD j 0)
            rw [Int.emod_eq_of_lt h3.1 h3.2] at e5
            simp only [bvs, List.getElem?_map, List.getElem?_take, hj, if_true, h2, Option.map_some, e5]
          rw [h4] at hu
          injection hu with hu
          subst hu
          rw [← h1]
          unfold Addr.add
          by_cases hj0 : j = 0 <;> simp [hj0]
    · simp [hzl, hl]
    · exact hw
    · rw [hd]
      simp only [Rows.uptoBulk]
      have h1 := bulk_len (lits (H := H) .u8 (zs.take len))
      simp only [lits, List.length_map, List.length_take] at h1 ⊢
      omega

/-- A world for the witness of a row that lists no variable. -/
noncomputable def plainWorld (os : Os) : World := World.holding Try.prog os ⟨#[], #[], []⟩

end Go.Proofs.Ytfpkachoneaaeaa
