/-
  A region that draws its order: what holds of the world till its last operation.
-/
import Derived.Deep.RegionHeld
namespace Go

section
variable {P : Program} {ops : Array Oper} {Q : Exit → Act → World → Prop} {md : Region.Mode} {S : World → Prop} {z : Nat}

/-- Whatever order is picked: S holds behind every operation but z. -/
def wpTill (P : Program) (md : Region.Mode) (ops : Array Oper) (Q : Exit → Act → World → Prop) (S : World → Prop) (z : Nat) : Nat → Array Bool → Act → World → Prop
  | 0, listed, a, w => Region.ready md ops listed = [] ∧ Q .normal a w
  | fuel + 1, listed, a, w =>
    (Region.ready md ops listed = [] → Q .normal a w) ∧
    ∀ i ∈ Region.ready md ops listed, wpOp P ops Q i (fun a' w' => (i ≠ z → S w') ∧ wpTill P md ops Q S z fuel (listed.setIfInBounds i true) a' w') a w

theorem wpAny_of_till : ∀ (fuel : Nat) (listed : Array Bool) (a : Act) (w : World), wpTill P md ops Q S z fuel listed a w → wpAny P md ops Q fuel listed a w
  | 0, _, _, _, h => h
  | fuel + 1, _, _, _, h => ⟨h.1, fun i hi => wpOp_mono (fun a' w' h' => wpAny_of_till fuel _ a' w' h'.2) (h.2 i hi)⟩

/-- Does y wait for x? -/
def waitsFor (md : Region.Mode) (ops : Array Oper) (x y : Nat) : Bool :=
  match ops[y]? with
  | some o => o.after.any fun e => Region.binds md e && e.on == x
  | none => false
/-- Each of the chain waits for the one ahead of it, and has not come up. -/
def chainOk (md : Region.Mode) (ops : Array Oper) (listed : Array Bool) : Nat → List Nat → Bool
  | _, [] => true
  | i, m :: l => waitsFor md ops i m && (!listed.getD m true && chainOk md ops listed m l)

theorem waits_not_ready {x y : Nat} {listed : Array Bool} (h : waitsFor md ops x y = true) (hx : listed.getD x true = false) : ¬ y ∈ Region.ready md ops listed := by
  intro hy
  obtain ⟨_, o, ho, hall⟩ := mem_ready.1 hy
  unfold waitsFor at h
  rw [ho] at h
  obtain ⟨e, he, h2⟩ := Array.any_eq_true'.1 h
  rw [Bool.and_eq_true, beq_iff_eq] at h2
  have h3 := hall e he h2.1
  rw [h2.2] at h3
  rcases Nat.lt_or_ge x listed.size with h' | h'
  · simp [h'] at hx h3
    rw [hx] at h3
    cases h3
  · simp [Array.getElem?_eq_none h'] at h3
theorem chain_none {listed : Array Bool} : ∀ (l : List Nat) (i : Nat), listed.getD i true = false → chainOk md ops listed i l = true → ∀ m ∈ l, ¬ m ∈ Region.ready md ops listed
  | [], _, _, _, _, hm => by cases hm
  | m :: l, i, hi, h, k, hk => by
    rw [chainOk, Bool.and_eq_true, Bool.and_eq_true, Bool.not_eq_true'] at h
    rcases List.mem_cons.1 hk with e | e
    · rw [e]
      exact waits_not_ready h.1 hi
    · exact chain_none l m h.2.1 h.2.2 k e
theorem chain_keep {listed : Array Bool} {j : Nat} : ∀ (l : List Nat) (i : Nat), (∀ m ∈ l, m ≠ j) → chainOk md ops listed i l = true → chainOk md ops (listed.setIfInBounds j true) i l = true
  | [], _, _, _ => rfl
  | m :: l, i, hj, h => by
    rw [chainOk, Bool.and_eq_true, Bool.and_eq_true] at h ⊢
    refine ⟨h.1, ?_, chain_keep l m (fun x hx => hj x (List.mem_cons_of_mem _ hx)) h.2.2⟩
    rw [getD_set_ne true (fun e => hj m List.mem_cons_self e.symm)]
    exact h.2.1

theorem wpTill_first {i : Nat} {oi : Oper} {v : Value} {l : List Nat} (hi : ops[i]? = some oi) (hsel : ∀ (j : Nat) (o : Oper) cs b, ops[j]? = some o → o.op ≠ .select cs b)
    (hQ : ∀ c a w, Q (.panic c) (a.put oi.dst v) w → Q (.panic c) a w) (hzl : z ∈ l) :
    ∀ (fuel : Nat) (listed : Array Bool) (a : Act) (w : World),
      (∀ j oj, ops[j]? = some oj → j ≠ i → listed.getD j true = false → (∀ e ∈ oj.after, Region.binds md e = true → e.on ≠ i) → oi.apart ops oj = true) →
      i ∈ Region.ready md ops listed → chainOk md ops listed i l = true → YieldsIf P ops S oi v a → S w →
      wpTill P md ops Q S z fuel (listed.setIfInBounds i true) (a.put oi.dst v) w → wpTill P md ops Q S z (fuel + 1) listed a w := by
  intro fuel
  induction fuel with
  | zero =>
    intro listed a w _ hr _ hy hS H
    refine ⟨fun h => (by rw [h] at hr; cases hr), fun j hj => ?_⟩
    by_cases hji : j = i
    · subst hji
      exact hy.wpOp hi hS ⟨fun _ => hS, H⟩
    · have := ready_mono hj hji
      rw [H.1] at this
      cases this
  | succ fuel ih =>
    intro listed a w hfree hr hc hy hS H
    have hiun := (mem_ready.1 hr).1
    refine ⟨fun h => (by rw [h] at hr; cases hr), fun j hj => ?_⟩
    by_cases hji : j = i
    · subst hji
      exact hy.wpOp hi hS ⟨fun _ => hS, H⟩
    · have h1 := H.2 j (ready_mono hj hji)
      obtain ⟨hjun, oj, hoj, hall⟩ := mem_ready.1 hj
      have hnot : ∀ e ∈ oj.after, Region.binds md e = true → e.on ≠ i := fun e he hb heq => by
        have h1 := hall e he hb
        rw [heq] at h1
        rcases Nat.lt_or_ge i listed.size with h' | h'
        · simp [h'] at hiun h1
          rw [hiun] at h1
          cases h1
        · simp [Array.getElem?_eq_none h'] at h1
      have hlj : ∀ m ∈ l, m ≠ j := fun m hm e => chain_none l i hiun hc m hm (by rw [e]; exact hj)
      have h2 := wpOp_putIf hoj (hfree j oj hoj hji hjun hnot) (fun cs b => hsel i oi cs b hi) (fun cs b => hsel j oj cs b hoj) hQ hy h1
      have hfree' : ∀ k ok, ops[k]? = some ok → k ≠ i → (listed.setIfInBounds j true).getD k true = false →
          (∀ e ∈ ok.after, Region.binds md e = true → e.on ≠ i) → oi.apart ops ok = true := fun k ok hk hki hun hno => by
        refine hfree k ok hk hki ?_ hno
        by_cases hjk : j = k
        · subst hjk
          exact hjun
        · rw [getD_set_ne true hjk] at hun
          exact hun
      refine wpOp_mono (fun a' w' h3 => ⟨h3.2.1, ih (listed.setIfInBounds j true) a' w' hfree' (ready_mono hr (Ne.symm hji)) (chain_keep l i hlj hc) h3.1 (h3.2.1 (fun e => hlj z hzl e.symm)) ?_⟩) h2
      rw [Array.setIfInBounds_comm _ _ hji]
      exact h3.2.2

/-- Number i comes first: it yields v in every world that meets S; z waits for it along the chain l. -/
theorem wpTill_take {i : Nat} (l : List Nat) {oi : Oper} {v : Value} {fuel : Nat} {listed : Array Bool} {a : Act} {w : World} (hi' : ops.toList[i]? = some oi)
    (hs : Region.noSelect ops = true) (hf : Region.free md ops listed i = true) (hr : (Region.ready md ops listed).contains i = true) (hc : (l.contains z && chainOk md ops listed i l) = true)
    (hQ : ∀ c a w, Q (.panic c) (a.put oi.dst v) w → Q (.panic c) a w) (hy : YieldsIf P ops S oi v a) (hS : S w)
    (h : wpTill P md ops Q S z fuel (listed.setIfInBounds i true) (a.put oi.dst v) w) : wpTill P md ops Q S z (fuel + 1) listed a w := by
  rw [Bool.and_eq_true] at hc
  have hi : ops[i]? = some oi := by rw [← Array.getElem?_toList]; exact hi'
  exact wpTill_first hi (Region.noSelect_spec hs) hQ (by simpa using hc.1) fuel listed a w (Region.free_spec hi hf) (by simpa using hr) hc.2 hy hS h

/-- One alone may come up. -/
theorem wpTill_one {i : Nat} {o : Oper} {fuel : Nat} {listed : Array Bool} {a : Act} {w : World} (hr : Region.ready md ops listed = [i]) (ho' : ops.toList[i]? = some o)
    (h : ∀ K' : Act → World → Prop, Shut (∀ a w, (i ≠ z → S w) → wpTill P md ops Q S z fuel (listed.setIfInBounds i true) a w → K' a w) → if Region.wanted o (yielded ops a.tmps) = true then Oper.wp P o a w K' Q else K' (a.put o.dst undef) w) :
    wpTill P md ops Q S z (fuel + 1) listed a w := by
  have ho : ops[i]? = some o := by rw [← Array.getElem?_toList]; exact ho'
  refine ⟨fun h0 => (by rw [hr] at h0; cases h0), fun j hj => ?_⟩
  rw [hr] at hj
  obtain rfl : j = i := List.mem_singleton.1 hj
  exact wpOp_step ho (fun K' hK => h K' (fun a w h1 h2 => hK a w ⟨h1, h2⟩))

theorem wpTill_done {listed : Array Bool} {a : Act} {w : World} (hr : Region.ready md ops listed = []) (h : Q .normal a w) : ∀ fuel, wpTill P md ops Q S z fuel listed a w
  | 0 => ⟨hr, h⟩
  | _ + 1 => ⟨fun _ => h, by rw [hr]; simp⟩

theorem wp_region_till {id : Nat} {a : Act} {w : World} (S : World → Prop) (z : Nat) (hm : P.follows .mixedOrders = true)
    (h : wpTill P .any ops Q S z ops.size (Array.replicate ops.size false) a w.drew) : (Code.region id ops true).wp P Q a w :=
  wp_region_any hm (wpAny_of_till _ _ _ _ h)
end

end Go
