/-
  A region that draws its order, in company: one obligation for each operation.
-/
import Derived.Test.YtfpkachoneaaeaaBbEnv
import Derived.Orders
set_option linter.unusedSimpArgs false
set_option linter.unusedVariables false
namespace Go.Proofs.Ytfpkachoneaaeaa
open Go Go.Conc
open Go.ConcN (sumTo upd sumTo_upd upd_ne upd_same le_sumTo)
/-- What stands ahead of an operation, in whatever order. -/
def needs (ops : Array Oper) (i : Nat) : List Nat := match ops[i]? with
  | some o => (o.after.toList.filter fun e => Region.binds .any e).map (·.on)
  | none => []
def acycB (ops : Array Oper) : Bool := (List.range ops.size).all fun i => match ops[i]? with
  | some o => o.after.all fun e => decide (e.on < i)
  | none => true
def plus (L : Nat → Bool) (i : Nat) : Nat → Bool := fun j => j == i || L j
def mu (ops : Array Oper) (L : Nat → Bool) : Nat := sumTo ops.size fun j => if L j then 0 else 1
theorem mu_plus {ops : Array Oper} {L : Nat → Bool} {i : Nat} (hi : i < ops.size) (hL : L i = false) : mu ops (plus L i) + 1 = mu ops L := by
  have h := sumTo_upd (fun j => if L j then 0 else 1) 0 id hi
  have e : upd (fun j => if L j then 0 else 1) i 0 = fun j => if plus L i j then 0 else 1 := by
    funext j
    by_cases q : j = i
    · subst q; rw [upd_same]; simp [plus]
    · rw [upd_ne _ _ q]; simp [plus, q]
  simp only [id, hL] at h
  rw [e] at h
  simpa [mu] using h
theorem mu_zero {ops : Array Oper} {L : Nat → Bool} (h : mu ops L = 0) (i : Nat) (hi : i < ops.size) : L i = true := by
  have := le_sumTo (f := fun j => if L j then 0 else 1) hi
  have h0 : sumTo ops.size (fun j => if L j then 0 else 1) = 0 := h
  rw [h0] at this
  cases q : L i with
  | true => rfl
  | false => simp [q] at this
section
variable {P : Program} {Post : Value → World → Prop} {Z : Scene} {n h k : Nat} {w : World} {b : Frame} {a : Act} {kk : List Item} {cs : List Frame} {ops : Array Oper}
theorem Run.order (J : (Nat → Bool) → Act → Scene → Nat → World → Prop) (hac : acycB ops = true)
    (hstep : ∀ (L : Nat → Bool) (i : Nat) (o : Oper) (a : Act) (Z : Scene) (n : Nat) (w : World) (rest : List Nat), ops[i]? = some o → L i = false → (∀ j ∈ needs ops i, L j = true) → (∀ j, j < ops.size → L j = true → ∀ m ∈ needs ops j, L m = true) → J L a Z n w →
      (∀ a' Z' n' w', J (plus L i) a' Z' n' w' → Run P Post Z' n' h k (G (b.at a' (.inRegion ops rest :: kk)) cs) w') → Run P Post Z n h k (G (b.at a (.inRegion ops (i :: rest) :: kk)) cs) w)
    (hend : ∀ (L : Nat → Bool) (a : Act) (Z : Scene) (n : Nat) (w : World), (∀ i, i < ops.size → L i = true) → J L a Z n w → Run P Post Z n h k (G (b.at a (.inRegion ops [] :: kk)) cs) w) (md : Region.Mode) :
    ∀ (fuel t : Nat) (listed : Array Bool) (L : Nat → Bool) (a : Act) (Z : Scene) (n : Nat) (w : World), listed.size = ops.size → (∀ i, i < ops.size → listed.getD i true = L i) → mu ops L ≤ fuel → (∀ j, j < ops.size → L j = true → ∀ m ∈ needs ops j, L m = true) → J L a Z n w →
      Run P Post Z n h k (G (b.at a (.inRegion ops (Region.linearise.go md ops fuel t listed []) :: kk)) cs) w := by
  intro fuel
  induction fuel with
  | zero =>
    intro t listed L a Z n w hsz hl hmu hcl hJ
    exact hend L a Z n w (mu_zero (by omega)) hJ
  | succ fuel ih =>
    intro t listed L a Z n w hsz hl hmu hcl hJ
    by_cases hall : ∀ i, i < ops.size → L i = true
    · have : Region.linearise.go md ops (fuel + 1) t listed [] = [] := by
        unfold Region.linearise.go
        have : ((List.range ops.size).filter fun i => !listed.getD i true && ((ops[i]?).map (·.after.all fun e => !Region.binds md e || listed.getD e.on false)).getD false) = [] := by
          rw [List.filter_eq_nil_iff]
          intro i hi
          have hi' := List.mem_range.1 hi
          rw [hl i hi', hall i hi']
          simp
        simp only [this]
        rfl
      rw [this]
      exact hend L a Z n w hall hJ
    · -- the least that isn't listed may come up
      have hex : ∃ i, i < ops.size ∧ L i = false := by
        refine Classical.byContradiction fun hno => hall fun i hi => ?_
        cases q : L i with
        | true => rfl
        | false => exact absurd ⟨i, hi, q⟩ hno
      have hmin : ∀ m i, i ≤ m → i < ops.size → L i = false → ∃ i, i < ops.size ∧ L i = false ∧ ∀ j, j < i → L j = true := by
        intro m
        induction m with
        | zero => intro i hi h1 h2; exact ⟨i, h1, h2, fun j hj => by omega⟩
        | succ m ihm =>
          intro i hi h1 h2
          by_cases q : ∃ j, j < i ∧ L j = false
          · obtain ⟨j, hj1, hj2⟩ := q
            exact ihm j (by omega) (by omega) hj2
          · refine ⟨i, h1, h2, fun j hj => ?_⟩
            cases r : L j with
            | true => rfl
            | false => exact absurd ⟨j, hj, r⟩ q
      obtain ⟨i0, hi0, hL0⟩ := hex
      obtain ⟨i1, hi1, hL1, hlow⟩ := hmin i0 i0 (Nat.le_refl _) hi0 hL0
      let rs := (List.range ops.size).filter fun i => !listed.getD i true && ((ops[i]?).map (·.after.all fun e => !Region.binds md e || listed.getD e.on false)).getD false
      have hmem : i1 ∈ rs := by
        refine List.mem_filter.2 ⟨List.mem_range.2 hi1, ?_⟩
        have hac' := List.all_eq_true.1 hac i1 (List.mem_range.2 hi1)
        have hoi := Array.getElem?_eq_getElem hi1
        rw [hoi] at hac' ⊢
        rw [hl i1 hi1, hL1]
        simp only [Bool.not_false, Bool.true_and, Option.map_some, Option.getD_some]
        rw [Array.all_eq_true_iff_forall_mem] at hac' ⊢
        intro e he
        have hlt : e.on < i1 := by simpa using hac' e he
        have hlis : listed.getD e.on false = true := by
          have h1 := hl e.on (by omega)
          rw [hlow e.on hlt] at h1
          rw [Array.getD_eq_getD_getElem?, Array.getElem?_eq_getElem (by omega)] at h1 ⊢
          simpa using h1
        rw [hlis]
        simp
      have hpos : 0 < rs.length := List.length_pos_of_mem hmem
      have hlt : t % rs.length < rs.length := Nat.mod_lt _ hpos
      have hget : rs[t % rs.length]? = some rs[t % rs.length] := List.getElem?_eq_getElem hlt
      generalize hi : rs[t % rs.length] = i at hget
      have hmi : i ∈ rs := hi ▸ List.getElem_mem hlt
      obtain ⟨hr1, hr2⟩ := List.mem_filter.1 hmi
      have hilt := List.mem_range.1 hr1
      have hoi := Array.getElem?_eq_getElem hilt
      rw [hoi] at hr2
      simp only [Bool.and_eq_true, Bool.not_eq_true', Option.map_some, Option.getD_some] at hr2
      have hLi : L i = false := by rw [← hl i hilt]; exact hr2.1
      have hgo : Region.linearise.go md ops (fuel + 1) t listed [] = i :: Region.linearise.go md ops fuel (t / rs.length) (listed.setIfInBounds i true) [] := by
        rw [Region.linearise.go]
        show (match rs[t % rs.length]? with | some i => Region.linearise.go md ops fuel (t / rs.length) (listed.setIfInBounds i true) [i] | none => _) = _
        rw [hget]
        show Region.linearise.go md ops fuel (t / rs.length) (listed.setIfInBounds i true) [i] = _
        rw [linearise_go_acc]
        rfl
      rw [hgo]
      have hneed : ∀ j ∈ needs ops i, L j = true := by
        intro j hj
        unfold needs at hj
        rw [hoi] at hj
        obtain ⟨e, he, rfl⟩ := List.mem_map.1 hj
        obtain ⟨he1, he2⟩ := List.mem_filter.1 he
        have h2 := Array.all_eq_true_iff_forall_mem.1 hr2.2 e (by simpa using he1)
        have hb : Region.binds md e = true := by
          unfold Region.binds at he2 ⊢
          cases hg : e.ground <;> rw [hg] at he2 <;> first | rfl | exact absurd he2 (by decide) | (exact absurd he2 (fun q => Bool.noConfusion q))
        rw [hb] at h2
        simp only [Bool.not_true, Bool.false_or] at h2
        by_cases hs : e.on < ops.size
        · rw [← hl e.on hs]
          rw [Array.getD_eq_getD_getElem?, Array.getElem?_eq_getElem (by omega)] at h2 ⊢
          simpa using h2
        · rw [Array.getD_eq_getD_getElem?, Array.getElem?_eq_none (by omega)] at h2
          cases h2
      have hmu' := mu_plus hilt hLi
      refine hstep L i _ a Z n w _ hoi hLi hneed hcl hJ fun a' Z' n' w' hJ' => ih _ _ (plus L i) a' Z' n' w' (by simpa using hsz) (fun j hj => ?_) (by omega) (fun j hj hpj m hm => ?_) hJ'
      · rw [Array.getD_eq_getD_getElem?, Array.getElem?_setIfInBounds]
        by_cases q : i = j
        · subst q
          rw [if_pos rfl, if_pos (by omega)]
          simp [plus]
        · rw [if_neg q, ← Array.getD_eq_getD_getElem?, hl j hj]
          simp [plus, Ne.symm q]
      · simp only [plus, Bool.or_eq_true, beq_iff_eq] at hpj ⊢
        rcases hpj with rfl | hpj
        · exact .inr (hneed m hm)
        · exact .inr (hcl j hj hpj m hm)
/-- ████ A REGION THAT DRAWS ITS ORDER. ████ -/
theorem Run.drawn {id : Nat} (J : (Nat → Bool) → Act → Scene → Nat → World → Prop) (hac : acycB ops = true) (h0 : J (fun _ => false) a Z n w)
    (hstep : ∀ (L : Nat → Bool) (i : Nat) (o : Oper) (a : Act) (Z : Scene) (n : Nat) (w : World) (rest : List Nat), ops[i]? = some o → L i = false → (∀ j ∈ needs ops i, L j = true) → (∀ j, j < ops.size → L j = true → ∀ m ∈ needs ops j, L m = true) → J L a Z n w →
      (∀ a' Z' n' w', J (plus L i) a' Z' n' w' → Run P Post Z' n' h k (G (b.at a' (.inRegion ops rest :: kk)) cs) w') → Run P Post Z n h k (G (b.at a (.inRegion ops (i :: rest) :: kk)) cs) w)
    (hend : ∀ (L : Nat → Bool) (a : Act) (Z : Scene) (n : Nat) (w : World), (∀ i, i < ops.size → L i = true) → J L a Z n w → Run P Post Z n h k (G (b.at a kk) cs) w) :
    Run P Post Z n h k (G (b.at a (.code (.region id ops true) :: kk)) cs) w := by
  refine Run.step rfl fun d => ⟨G (b.at a (.inRegion ops (Region.schedule (P.follows .mixedOrders) ops ((w.at d).tape (w.at d).drawn (.order b.fn id))) :: kk)) cs, { (w.at d) with drawn := d + 1 }, #[], by simp [G, stepG, stepG.exec, Frame.at, choose, Sem.run, Question.forced, Question.cut]; rfl, ⟨fun q => ⟨q.obj, q.hid, q.chan⟩, by simp, fun _ _ => rfl, fun _ _ => rfl⟩, ?_⟩
  have key : ∀ md t, Run P Post Z n h k (G (b.at a (.inRegion ops (Region.linearise md ops t) :: kk)) cs) w := fun md t => by
    unfold Region.linearise
    refine Run.order J hac hstep (fun L a Z n w hL hJ => Run.auto rfl (hend L a Z n w hL hJ)) md ops.size t _ (fun _ => false) a Z n w (by simp) (fun i hi => ?_) ?_ (fun j _ hj => by cases hj) h0
    · simp [hi]
    · unfold mu
      have : ∀ m, sumTo m (fun _ => if (false : Bool) then 0 else 1) ≤ m := by
        intro m
        induction m with
        | zero => simp [sumTo]
        | succ m ih => simp only [sumTo]; simp at ih ⊢; omega
      exact this ops.size
  have : ∀ t, Run P Post Z n h k (G (b.at a (.inRegion ops (Region.schedule (P.follows .mixedOrders) ops t) :: kk)) cs) w := fun t => by
    unfold Region.schedule
    split
    · exact key _ _
    · exact key _ _
  exact (this _).at _
/-! ## The slots -/
def owner (ops : Array Oper) (k : Nat) : Option Nat := ops.findIdx? fun o => o.dst == some k
def clearB (ops : Array Oper) (gh lat : List Nat) (i : Nat) : Bool := match ops[i]? with
  | some o => (o.looksAt ops).all fun k => !gh.contains k && (lat.contains k || match owner ops k with | none => true | some j => (needs ops i).contains j)
  | none => false
/-- What has been done lies in its slot. gh: slots of which nothing is said; lat: slots that hold the same all along. -/
structure Ag (ops : Array Oper) (gh lat : List Nat) (e : Act) (L : Nat → Bool) (a : Act) : Prop where
  d : a.defers = e.defers
  size : a.tmps.size = e.tmps.size
  get : ∀ k, gh.contains k = false → (lat.contains k = true ∨ ∀ j, owner ops k = some j → L j = true) → a.tmps[k]? = e.tmps[k]?
variable {gh lat : List Nat} {e : Act} {L : Nat → Bool} {i : Nat} {o : Oper}
theorem Ag.slot (hA : Ag ops gh lat e L a) (ho : ops[i]? = some o) (hc : clearB ops gh lat i = true) (hn : ∀ j ∈ needs ops i, L j = true) (k : Nat) (hk : k ∈ o.looksAt ops) : a.tmps[k]? = e.tmps[k]? := by
  unfold clearB at hc
  rw [ho] at hc
  have h1 := List.all_eq_true.1 hc k hk
  simp only [Bool.and_eq_true, Bool.not_eq_true', Bool.or_eq_true] at h1
  refine hA.get k h1.1 (h1.2.imp id fun q j hj => ?_)
  rw [hj] at q
  exact hn j (by simpa using q)
theorem Ag.same (hA : Ag ops gh lat e L a) (ho : ops[i]? = some o) (hc : clearB ops gh lat i = true) (hn : ∀ j ∈ needs ops i, L j = true) (hs : ∀ cs b, o.op ≠ .select cs b) :
    execOp a.eval o = execOp e.eval o ∧ Region.wanted o (yielded ops a.tmps) = Region.wanted o (yielded ops e.tmps) := by
  have key := hA.slot ho hc hn
  refine ⟨execOp_congr o hs fun x hx => ?_, ?_⟩
  · cases x with
    | tmp t =>
      have := key t (List.mem_append_left _ (List.mem_filterMap.2 ⟨.tmp t, by simpa using hx, rfl⟩))
      simp only [Act.eval, Array.getD_eq_getD_getElem?, this]
    | _ => rfl
  · unfold Region.wanted
    cases hg : o.guard with
    | none => rfl
    | some gw =>
      obtain ⟨g, want⟩ := gw
      have : yielded ops a.tmps g = yielded ops e.tmps g := by
        unfold yielded
        cases ht : (ops[g]?).bind (·.dst) with
        | none => rfl
        | some t =>
          have := key t (List.mem_append_right _ (by rw [hg]; simp [ht]))
          simp only [Option.bind_some, this]
      simp only [this]
def distB (ops : Array Oper) : Bool := (List.range ops.size).all fun i => match ops[i]? with
  | some o => match o.dst with | some k => owner ops k == some i | none => true
  | none => true
theorem owner_dst {k j : Nat} (h : owner ops k = some j) : ∃ o, ops[j]? = some o ∧ o.dst = some k := by
  unfold owner at h
  obtain ⟨hj, h1, _⟩ := Array.findIdx?_eq_some_iff_getElem.1 h
  exact ⟨_, Array.getElem?_eq_getElem hj, by simpa using h1⟩
theorem Ag.put (hA : Ag ops gh lat e L a) (hd : distB ops = true) (ho : ops[i]? = some o) {v : Value} (hv : ∀ k, o.dst = some k → gh.contains k = false → e.tmps[k]? = some v) : Ag ops gh lat e (plus L i) (a.put o.dst v) := by
  have hlt := (Array.getElem?_eq_some_iff.1 ho).1
  have hown : ∀ k, o.dst = some k → owner ops k = some i := fun k hk => by
    have := List.all_eq_true.1 hd i (List.mem_range.2 hlt)
    rw [ho] at this
    simp only [hk] at this
    simpa using this
  cases hdst : o.dst with
  | none =>
    refine ⟨hA.d, hA.size, fun k hg hk => hA.get k hg (hk.imp id fun q j hj => ?_)⟩
    have h1 := q j hj
    simp only [plus, Bool.or_eq_true, beq_iff_eq] at h1
    rcases h1 with rfl | h1
    · obtain ⟨o', ho', hd'⟩ := owner_dst hj
      rw [ho] at ho'
      obtain rfl := Option.some.inj ho'
      rw [hdst] at hd'
      cases hd'
    · exact h1
  | some t =>
    refine ⟨hA.d, by simpa [Act.put] using hA.size, fun k hg hk => ?_⟩
    show (a.tmps.setIfInBounds t v)[k]? = _
    rw [Array.getElem?_setIfInBounds]
    by_cases q : t = k
    · subst q
      have h1 := hv t hdst hg
      rw [if_pos rfl, if_pos (by rw [hA.size]; exact (Array.getElem?_eq_some_iff.1 h1).1), h1]
    · rw [if_neg q]
      refine hA.get k hg (hk.imp id fun r j hj => ?_)
      have h1 := r j hj
      simp only [plus, Bool.or_eq_true, beq_iff_eq] at h1
      rcases h1 with rfl | h1
      · obtain ⟨o', ho', hd'⟩ := owner_dst hj
        rw [ho] at ho'
        obtain rfl := Option.some.inj ho'
        rw [hdst] at hd'
        exact absurd (Option.some.inj hd') q
      · exact h1
/-- Where nothing is left unsaid, all is said in the end. -/
theorem Ag.all (hA : Ag ops [] lat e L a) (hL : ∀ i, i < ops.size → L i = true) : a = e := by
  obtain ⟨t, d⟩ := a
  obtain ⟨t', d'⟩ := e
  have h1 : d = d' := hA.d
  have h2 : t = t' := Array.ext_getElem? fun k => hA.get k rfl (.inr fun j hj => by
    obtain ⟨o, ho, _⟩ := owner_dst hj
    exact hL j (Array.getElem?_eq_some_iff.1 ho).1)
  rw [h1, h2]
variable {rest : List Nat} {okf : FuncId → Prop}
/-- An operation that reads. -/
theorem Ag.quiet (E : Env P (okP P) okf) (hA : Ag ops gh lat e L a) (hd : distB ops = true) (ho : ops[i]? = some o) (hc : clearB ops gh lat i = true) (hn : ∀ j ∈ needs ops i, L j = true) (hs : ∀ cs b, o.op ≠ .select cs b) (hw : Region.wanted o (yielded ops e.tmps) = true)
    (hk : b.kind ≠ .early) (hok : okOp P o = true) (hab : ∀ v ρ f, o.about P v ρ = some f → okf f) (v : Value) (hrun : ∀ u, Kept Z.Hd w u → u.heap.size = w.heap.size → (execOp e.eval o).run P u = .ok (.value v) u) (hv : ∀ k, o.dst = some k → gh.contains k = false → e.tmps[k]? = some v)
    (H : ∀ a', Ag ops gh lat e (plus L i) a' → (∀ k, o.dst ≠ some k → a'.tmps[k]? = a.tmps[k]?) → Run P Post Z n h k (G (b.at a' (.inRegion ops rest :: kk)) cs) w) : Run P Post Z n h k (G (b.at a (.inRegion ops (i :: rest) :: kk)) cs) w := by
  obtain ⟨h1, h2⟩ := hA.same ho hc hn hs
  refine Run.look E ho (by rw [h2]; exact hw) hk hok (fun v f => hab v _ f) v (fun u hu hus => by rw [h1]; exact hrun u hu hus) (H _ (hA.put hd ho hv) fun k hk => ?_)
  unfold Act.put
  cases hdst : o.dst with
  | none => rfl
  | some t => exact Array.getElem?_setIfInBounds_ne fun q => hk (by rw [hdst, q])
theorem Ag.not (hA : Ag ops gh lat e L a) (hd : distB ops = true) (ho : ops[i]? = some o) (hc : clearB ops gh lat i = true) (hn : ∀ j ∈ needs ops i, L j = true) (hs : ∀ cs b, o.op ≠ .select cs b) (hw : Region.wanted o (yielded ops e.tmps) = false)
    (hv : ∀ k, o.dst = some k → gh.contains k = false → e.tmps[k]? = some undef)
    (H : ∀ a', Ag ops gh lat e (plus L i) a' → (∀ k, o.dst ≠ some k → a'.tmps[k]? = a.tmps[k]?) → Run P Post Z n h k (G (b.at a' (.inRegion ops rest :: kk)) cs) w) : Run P Post Z n h k (G (b.at a (.inRegion ops (i :: rest) :: kk)) cs) w := by
  obtain ⟨h1, h2⟩ := hA.same ho hc hn hs
  refine Run.not ho (by rw [h2]; exact hw) (H _ (hA.put hd ho hv) fun k hk => ?_)
  unfold Act.put
  cases hdst : o.dst with
  | none => rfl
  | some t => exact Array.getElem?_setIfInBounds_ne fun q => hk (by rw [hdst, q])
/-- A load of a place that is hidden. -/
theorem Ag.ld {ad : Addr} (hA : Ag ops gh lat e L a) (hd : distB ops = true) (ho : ops[i]? = some o) (hc : clearB ops gh lat i = true) (hn : ∀ j ∈ needs ops i, L j = true) (hs : ∀ cs b, o.op ≠ .select cs b) (hw : Region.wanted o (yielded ops e.tmps) = true)
    (hk : b.kind ≠ .early) (v : Value) (hcell : w.cell? ad = some v) (hsh : ¬ Z.Sh (.cell ad)) (hr : ∀ w₁ : World, w₁.cell? ad = some v → (execOp e.eval o).run P w₁ = .ok (.value v) w₁ ∧ (execOp e.eval o).events P w₁ #[] = #[⟨.cell ad, false, false⟩])
    (hv : ∀ k, o.dst = some k → gh.contains k = false → e.tmps[k]? = some v)
    (H : ∀ a', Ag ops gh lat e (plus L i) a' → (∀ k, o.dst ≠ some k → a'.tmps[k]? = a.tmps[k]?) → Run P Post Z n h k (G (b.at a' (.inRegion ops rest :: kk)) cs) w) : Run P Post Z n h k (G (b.at a (.inRegion ops (i :: rest) :: kk)) cs) w := by
  obtain ⟨h1, h2⟩ := hA.same ho hc hn hs
  refine Run.ld ho (by rw [h2]; exact hw) hk hcell hsh (fun w₁ hl => by rw [h1]; exact hr w₁ hl) (H _ (hA.put hd ho hv) fun k hk => ?_)
  unfold Act.put
  cases hdst : o.dst with
  | none => rfl
  | some t => exact Array.getElem?_setIfInBounds_ne fun q => hk (by rw [hdst, q])
end
end Go.Proofs.Ytfpkachoneaaeaa
namespace Go.Proofs.Ytfpkachoneaaeaa
open Go Go.Conc
def orders (md : Region.Mode) (ops : Array Oper) : Nat → Array Bool → List (List Nat)
  | 0, _ => [[]]
  | f + 1, listed => match Region.ready md ops listed with
    | [] => [[]]
    | rs => rs.flatMap fun i => (orders md ops f (listed.setIfInBounds i true)).map (i :: ·)
theorem go_orders (md : Region.Mode) (ops : Array Oper) : ∀ (f t : Nat) (listed : Array Bool), Region.linearise.go md ops f t listed [] ∈ orders md ops f listed
  | 0, _, _ => by simp [orders, Region.linearise.go]
  | f + 1, t, listed => by
    rw [Region.linearise.go, orders]
    show (match (Region.ready md ops listed)[t % (Region.ready md ops listed).length]? with | some i => Region.linearise.go md ops f (t / (Region.ready md ops listed).length) (listed.setIfInBounds i true) [i] | none => _) ∈ _
    generalize Region.ready md ops listed = rs
    cases rs with
    | nil => simp
    | cons r rs =>
      have hlt : t % (r :: rs).length < (r :: rs).length := Nat.mod_lt _ (by simp)
      rw [List.getElem?_eq_getElem hlt]
      show Region.linearise.go md ops f (t / (r :: rs).length) (listed.setIfInBounds _ true) [_] ∈ _
      rw [linearise_go_acc]
      refine List.mem_flatMap.2 ⟨(r :: rs)[t % (r :: rs).length], List.getElem_mem hlt, List.mem_map.2 ⟨_, go_orders md ops f _ _, rfl⟩⟩
theorem Run.drawE {P : Program} {Post : Value → World → Prop} {Z : Scene} {n h k : Nat} {w : World} {b : Frame} {a : Act} {kk : List Item} {cs : List Frame} {ops : Array Oper} {id : Nat} (ls : List (List Nat))
    (hm : (P.follows .mixedOrders || !Region.departs ops) = true) (hls : orders .any ops ops.size (Array.replicate ops.size false) = ls) (H : ∀ l ∈ ls, Run P Post Z n h k (G (b.at a (.inRegion ops l :: kk)) cs) w) :
    Run P Post Z n h k (G (b.at a (.code (.region id ops true) :: kk)) cs) w := by
  refine Run.step rfl fun d => ⟨G (b.at a (.inRegion ops (Region.schedule (P.follows .mixedOrders) ops ((w.at d).tape (w.at d).drawn (.order b.fn id))) :: kk)) cs, { (w.at d) with drawn := d + 1 }, #[], by simp [G, stepG, stepG.exec, Frame.at, choose, Sem.run, Question.forced, Question.cut]; rfl, ⟨fun q => ⟨q.obj, q.hid, q.chan⟩, by simp, fun _ _ => rfl, fun _ _ => rfl⟩, ?_⟩
  have : ∀ t, Run P Post Z n h k (G (b.at a (.inRegion ops (Region.schedule (P.follows .mixedOrders) ops t) :: kk)) cs) w := fun t => by
    unfold Region.schedule
    rw [if_pos hm]
    exact H _ (by rw [← hls]; exact go_orders _ _ _ _ _)
  exact (this _).at _
end Go.Proofs.Ytfpkachoneaaeaa
namespace Go.Proofs.Ytfpkachoneaaeaa
open Go Go.Conc
/-- What an operation of such a region does, where all slots hold what they hold in the end. -/
def ReadsAt (P : Program) (okf : FuncId → Prop) (Z : Scene) (w : World) (ops : Array Oper) (e : Act) (o : Oper) : Prop :=
  (∀ cs b, o.op ≠ .select cs b) ∧
  ((Region.wanted o (yielded ops e.tmps) = true ∧ okOp P o = true ∧ (∀ v ρ f, o.about P v ρ = some f → okf f) ∧ ∃ v, (∀ u, Kept Z.Hd w u → u.heap.size = w.heap.size → (execOp e.eval o).run P u = .ok (.value v) u) ∧ ∀ k, o.dst = some k → e.tmps[k]? = some v) ∨
   (Region.wanted o (yielded ops e.tmps) = false ∧ ∀ k, o.dst = some k → e.tmps[k]? = some undef))
section
variable {P : Program} {Post : Value → World → Prop} {Z : Scene} {n h k : Nat} {w : World} {b : Frame} {a : Act} {kk : List Item} {cs : List Frame} {ops : Array Oper} {id : Nat} {okf : FuncId → Prop}
theorem Run.reads (E : Env P (okP P) okf) (e : Act) (lat : List Nat) (hk : b.kind ≠ .early) (hac : acycB ops = true) (hd : distB ops = true) (hcl : ((List.range ops.size).all fun i => clearB ops [] lat i) = true) (h0 : Ag ops [] lat e (fun _ => false) a)
    (hop : ∀ (i : Nat) o, ops[i]? = some o → ReadsAt P okf Z w ops e o) (H : Run P Post Z n h k (G (b.at e kk) cs) w) : Run P Post Z n h k (G (b.at a (.code (.region id ops true) :: kk)) cs) w := by
  refine Run.drawn (fun L a' Z' n' w' => Z' = Z ∧ n' = n ∧ w' = w ∧ Ag ops [] lat e L a') hac ⟨rfl, rfl, rfl, h0⟩ ?_ ?_
  · rintro L i o a' Z' n' w' rest ho hL hn _ ⟨rfl, rfl, rfl, hA⟩ cont
    have hi : i < ops.size := (Array.getElem?_eq_some_iff.1 ho).1
    have hc : clearB ops [] lat i = true := List.all_eq_true.1 hcl i (List.mem_range.2 hi)
    obtain ⟨hs, ⟨hw, hok, hab, v, hr, hv⟩ | ⟨hw, hv⟩⟩ := hop i o ho
    · exact Ag.quiet E hA hd ho hc hn hs hw hk hok hab v hr (fun k hk _ => hv k hk) fun a'' hA' _ => cont _ _ _ _ ⟨rfl, rfl, rfl, hA'⟩
    · exact Ag.not hA hd ho hc hn hs hw (fun k hk _ => hv k hk) fun a'' hA' _ => cont _ _ _ _ ⟨rfl, rfl, rfl, hA'⟩
  · rintro L a' Z' n' w' hL ⟨rfl, rfl, rfl, hA⟩
    rw [hA.all hL]
    exact H
theorem agree_mid {a e : Array Value} {m M N : Nat} (h : a.extract 0 m = e.extract 0 m) (h2 : a.extract M N = e.extract M N) (hs : a.size = N) (hs' : e.size = N) (k : Nat) (hk : k < m ∨ M ≤ k) : a[k]? = e[k]? := by
  rcases hk with hk | hk
  · by_cases hN : k < N
    · have h1 : (a.extract 0 m)[k]? = a[k]? := by rw [Array.getElem?_extract]; simp; omega
      have h2 : (e.extract 0 m)[k]? = e[k]? := by rw [Array.getElem?_extract]; simp; omega
      rw [← h1, ← h2, h]
    · rw [Array.getElem?_eq_none (by omega), Array.getElem?_eq_none (by omega)]
  · by_cases hN : k < N
    · have h1 : (a.extract M N)[k - M]? = a[k]? := by rw [Array.getElem?_extract, if_pos (by omega), show M + (k - M) = k by omega]
      have h3 : (e.extract M N)[k - M]? = e[k]? := by rw [Array.getElem?_extract, if_pos (by omega), show M + (k - M) = k by omega]
      rw [← h1, ← h3, h2]
    · rw [Array.getElem?_eq_none (by omega), Array.getElem?_eq_none (by omega)]
theorem Ag.start {ops : Array Oper} {lat : List Nat} {e a : Act} (m M N : Nat) (h1 : a.tmps.extract 0 m = e.tmps.extract 0 m) (h2 : a.tmps.extract M N = e.tmps.extract M N) (h3 : a.tmps.size = N) (h4 : e.tmps.size = N) (h5 : a.defers = e.defers)
    (hown : ((List.range (M - m)).all fun d => (owner ops (m + d)).isSome && !lat.contains (m + d)) = true) : Ag ops [] lat e (fun _ => false) a := by
  refine ⟨h5, h3.trans h4.symm, fun k _ hk => ?_⟩
  by_cases q : k < m ∨ M ≤ k
  · exact agree_mid h1 h2 h3 h4 k q
  · exfalso
    have := List.all_eq_true.1 hown (k - m) (List.mem_range.2 (by omega))
    rw [show m + (k - m) = k by omega, Bool.and_eq_true] at this
    obtain ⟨j, hj⟩ := Option.isSome_iff_exists.1 this.1
    rcases hk with r | r
    · rw [r] at this
      cases this.2
    · cases r j hj
end
end Go.Proofs.Ytfpkachoneaaeaa
namespace Go.Proofs.Ytfpkachoneaaeaa
open Go Go.Conc
def anc (ops : Array Oper) : Nat → Nat → List Nat
  | 0, _ => []
  | f + 1, i => needs ops i ++ (needs ops i).flatMap (anc ops f)
theorem needs_lt {ops : Array Oper} {i m : Nat} (h : m ∈ needs ops i) : i < ops.size := by
  unfold needs at h
  by_cases q : i < ops.size
  · exact q
  · rw [Array.getElem?_eq_none (by omega)] at h; cases h
theorem anc_done {ops : Array Oper} {L : Nat → Bool} (hcl : ∀ j, j < ops.size → L j = true → ∀ m ∈ needs ops j, L m = true) : ∀ (f i : Nat), (∀ m ∈ needs ops i, L m = true) → ∀ m ∈ anc ops f i, L m = true
  | 0, _, _, _, hm => by cases hm
  | f + 1, i, h, m, hm => by
    rcases List.mem_append.1 hm with q | q
    · exact h m q
    · obtain ⟨j, hj, hm'⟩ := List.mem_flatMap.1 q
      refine anc_done hcl f j (fun x hx => hcl j (needs_lt hx) (h j hj) x hx) m hm'
theorem extract_get (a : Array Value) {m M k : Nat} (h1 : m ≤ k) (h2 : k < M) : (a.extract m M)[k - m]? = a[k]? := by
  rw [Array.getElem?_extract]
  by_cases q : k < a.size
  · have : k - m < min M a.size - m := by rw [Nat.min_def]; split <;> omega
    rw [if_pos this, show m + (k - m) = k by omega]
  · have : ¬ k - m < min M a.size - m := by rw [Nat.min_def]; split <;> omega
    rw [if_neg this, Array.getElem?_eq_none (by omega)]
/-- Two states of the slots that differ in what comes behind only. -/
theorem Ag.behind {ops : Array Oper} {lat : List Nat} {e a : Act} {L : Nat → Bool} (m M N : Nat) (h1 : a.tmps.extract 0 m = e.tmps.extract 0 m) (h2 : a.tmps.extract M N = e.tmps.extract M N) (h3 : a.tmps.size = N) (h4 : e.tmps.size = N) (h5 : a.defers = e.defers)
    (hlat : ((List.range (M - m)).all fun d => !lat.contains (m + d)) = true) (hL : ∀ d, d < M - m → ∃ j, owner ops (m + d) = some j ∧ L j = false) : Ag ops [] lat e L a := by
  refine ⟨h5, h3.trans h4.symm, fun k _ hk => ?_⟩
  by_cases q : k < m ∨ M ≤ k
  · exact agree_mid h1 h2 h3 h4 k q
  · exfalso
    have h6 := List.all_eq_true.1 hlat (k - m) (List.mem_range.2 (by omega))
    obtain ⟨j, hj, hL'⟩ := hL (k - m) (by omega)
    rw [show m + (k - m) = k by omega] at h6 hj
    rcases hk with r | r
    · rw [r] at h6
      cases h6
    · rw [r j hj] at hL'
      cases hL'
section
variable {P : Program} {Post : Value → World → Prop} {Z : Scene} {n h k : Nat} {w : World} {b : Frame} {a : Act} {kk : List Item} {cs : List Frame} {ops : Array Oper} {id : Nat} {okf : FuncId → Prop}
/-- c: the operation that does more; e0: the slots where it comes up; e: the slots in the end; [m, M): the slots of what comes behind. -/
theorem Run.readsCall (E : Env P (okP P) okf) (e0 e : Act) (lat : List Nat) (c : Nat) (oc : Oper) (v : Value) (Q : Scene → Nat → World → Prop) (m M : Nat) (hoc : ops[c]? = some oc) (hk : b.kind ≠ .early) (hac : acycB ops = true) (hd : distB ops = true) (hcl : ((List.range ops.size).all fun i => i == c || clearB ops [] lat i) = true)
    (hba : ((List.range ops.size).all fun i => i == c || if i < c then (anc ops ops.size c).contains i else (anc ops ops.size i).contains c) = true)
    (h0 : Ag ops [] lat e0 (fun _ => false) a)
    (hmM : ((List.range (M - m)).all fun d => !lat.contains (m + d) && match owner ops (m + d) with | some j => decide (c < j) | none => false) = true)
    (hMm : ((List.range ops.size).all fun i => match ops[i]? with | some o => (match o.dst with | some t => decide (i ≤ c) || (decide (m ≤ t) && decide (t < M)) | none => true) | none => true) = true)
    (h1 : a.tmps.extract m M = e0.tmps.extract m M) (ht : ∀ t, oc.dst = some t → a.tmps[t]? = e0.tmps[t]?)
    (g1 : (e0.put oc.dst v).tmps.extract 0 m = e.tmps.extract 0 m) (g2 : (e0.put oc.dst v).tmps.extract M e.tmps.size = e.tmps.extract M e.tmps.size) (g3 : e0.tmps.size = e.tmps.size) (g5 : e0.defers = e.defers)
    (hbef : ∀ (i : Nat) o, ops[i]? = some o → i < c → ReadsAt P okf Z w ops e0 o)
    (haft : ∀ (i : Nat) o, ops[i]? = some o → c < i → ∀ Z' n' w', Q Z' n' w' → ReadsAt P okf Z' w' ops e o)
    (hcall : ∀ rest, (∀ Z' n' w', Q Z' n' w' → Run P Post Z' n' h k (G (b.at (e0.put oc.dst v) (.inRegion ops rest :: kk)) cs) w') → Run P Post Z n h k (G (b.at e0 (.inRegion ops (c :: rest) :: kk)) cs) w)
    (H : ∀ Z' n' w', Q Z' n' w' → Run P Post Z' n' h k (G (b.at e kk) cs) w') : Run P Post Z n h k (G (b.at a (.code (.region id ops true) :: kk)) cs) w := by
  have hcs : c < ops.size := (Array.getElem?_eq_some_iff.1 hoc).1
  have hlow : ∀ i, i < c → (anc ops ops.size c).contains i = true := fun i hi => by
    have := List.all_eq_true.1 hba i (List.mem_range.2 (by omega))
    simpa [hi, Nat.ne_of_lt hi] using this
  have hhigh : ∀ i, i < ops.size → c < i → (anc ops ops.size i).contains c = true := fun i hi hc => by
    have := List.all_eq_true.1 hba i (List.mem_range.2 hi)
    simpa [Nat.lt_asymm hc, Nat.ne_of_gt hc] using this
  refine Run.drawn (fun L a' Z' n' w' => (L c = false ∧ Z' = Z ∧ n' = n ∧ w' = w ∧ Ag ops [] lat e0 L a' ∧ ∀ k j, owner ops k = some j → c ≤ j → a'.tmps[k]? = e0.tmps[k]?) ∨ (L c = true ∧ Q Z' n' w' ∧ Ag ops [] lat e L a')) hac (.inl ⟨rfl, rfl, rfl, rfl, h0, fun k j hj hb => ?_⟩) ?_ ?_
  · obtain ⟨o, ho, hdst⟩ := owner_dst hj
    have hjs := (Array.getElem?_eq_some_iff.1 ho).1
    have := List.all_eq_true.1 hMm j (List.mem_range.2 hjs)
    simp only [ho, hdst, Bool.or_eq_true, Bool.and_eq_true, decide_eq_true_eq] at this
    rcases this with q | ⟨q1, q2⟩
    · obtain rfl : j = c := by omega
      rw [hoc] at ho
      obtain rfl := Option.some.inj ho
      exact ht k hdst
    · have e1 := extract_get a.tmps q1 q2
      have e2 := extract_get e0.tmps q1 q2
      rw [← e1, ← e2, h1]
  · intro L i o a' Z' n' w' rest ho hL hn hclo hJ cont
    have hi : i < ops.size := (Array.getElem?_eq_some_iff.1 ho).1
    rcases hJ with ⟨hLc, rfl, rfl, rfl, hA, hun⟩ | ⟨hLc, hQ, hA⟩
    · by_cases hic : i = c
      · subst hic
        rw [hoc] at ho
        obtain rfl := Option.some.inj ho
        -- all before is done: the slots are e0
        have hbd : ∀ j, j < i → L j = true := fun j hj => anc_done hclo ops.size i hn j (by simpa using hlow j hj)
        have ha : a' = e0 := by
          obtain ⟨t, d⟩ := a'
          obtain ⟨t', d'⟩ := e0
          have q1 : d = d' := hA.d
          have q2 : t = t' := Array.ext_getElem? fun k => by
            cases hk : owner ops k with
            | none => exact hA.get k rfl (.inr fun j hj => by rw [hk] at hj; cases hj)
            | some j =>
              by_cases hb : j < i
              · exact hA.get k rfl (.inr fun j' hj' => by rw [hk] at hj'; obtain rfl := Option.some.inj hj'; exact hbd j hb)
              · exact hun k j hk (by omega)
          rw [q1, q2]
        subst ha
        refine hcall rest fun Z2 n2 w2 hQ => cont _ _ _ _ (.inr ⟨by simp [plus], hQ, ?_⟩)
        refine Ag.behind m M e.tmps.size g1 g2 (by unfold Act.put; cases oc.dst <;> simpa using g3) rfl (by unfold Act.put; cases oc.dst <;> exact g5) ?_ ?_
        · refine List.all_eq_true.2 fun d hd' => ?_
          have := List.all_eq_true.1 hmM d hd'
          rw [Bool.and_eq_true] at this
          exact this.1
        · intro d hd'
          have := List.all_eq_true.1 hmM d (List.mem_range.2 hd')
          rw [Bool.and_eq_true] at this
          have h2 := this.2
          cases hj : owner ops (m + d) with
          | none => rw [hj] at h2; cases h2
          | some j =>
            rw [hj] at h2
            have h2 : i < j := by simpa using h2
            refine ⟨j, rfl, ?_⟩
            obtain ⟨oj, hoj, _⟩ := owner_dst hj
            have hjs := (Array.getElem?_eq_some_iff.1 hoj).1
            unfold plus
            rw [Bool.or_eq_false_iff]
            refine ⟨by simp; omega, ?_⟩
            cases r : L j with
            | false => rfl
            | true =>
              have := anc_done hclo ops.size j (hclo j hjs r) i (by simpa using hhigh j hjs h2)
              rw [hLc] at this
              cases this
      · rcases Nat.lt_or_gt_of_ne hic with q | q
        · have hc : clearB ops [] lat i = true := by
            have := List.all_eq_true.1 hcl i (List.mem_range.2 hi)
            simpa [hic] using this
          have hgo : ∀ a'', Ag ops [] lat e0 (plus L i) a'' → (∀ k, o.dst ≠ some k → a''.tmps[k]? = a'.tmps[k]?) → Run P Post Z' n' h k (G (b.at a'' (.inRegion ops rest :: kk)) cs) w' := fun a'' hA' hu => cont _ _ _ _ (.inl ⟨by unfold plus; rw [hLc, Bool.or_false]; simpa using Ne.symm hic, rfl, rfl, rfl, hA', fun k j hk hb => by
            rw [hu k fun hdk => ?_, hun k j hk hb]
            have := List.all_eq_true.1 hd i (List.mem_range.2 hi)
            rw [ho] at this
            simp only [hdk, hk] at this
            have hji : j = i := by simpa using this
            omega⟩)
          obtain ⟨hs, ⟨hw, hok, hab, v', hr, hv⟩ | ⟨hw, hv⟩⟩ := hbef i o ho q
          · exact Ag.quiet E hA hd ho hc hn hs hw hk hok hab v' hr (fun k hk _ => hv k hk) hgo
          · exact Ag.not hA hd ho hc hn hs hw (fun k hk _ => hv k hk) hgo
        · exfalso
          have := anc_done hclo ops.size i hn c (by simpa using hhigh i hi q)
          rw [hLc] at this
          cases this
    · have hic : i ≠ c := fun q => by rw [q, hLc] at hL; cases hL
      rcases Nat.lt_or_gt_of_ne hic with q | q
      · exfalso
        have := anc_done hclo ops.size c (hclo c hcs hLc) i (by simpa using hlow i q)
        rw [hL] at this
        cases this
      · have hc : clearB ops [] lat i = true := by
          have := List.all_eq_true.1 hcl i (List.mem_range.2 hi)
          simpa [hic] using this
        have hgo : ∀ a'', Ag ops [] lat e (plus L i) a'' → (∀ k, o.dst ≠ some k → a''.tmps[k]? = a'.tmps[k]?) → Run P Post Z' n' h k (G (b.at a'' (.inRegion ops rest :: kk)) cs) w' := fun a'' hA' _ => cont _ _ _ _ (.inr ⟨by simp [plus, hLc], hQ, hA'⟩)
        obtain ⟨hs, ⟨hw, hok, hab, v', hr, hv⟩ | ⟨hw, hv⟩⟩ := haft i o ho q Z' n' w' hQ
        · exact Ag.quiet E hA hd ho hc hn hs hw hk hok hab v' hr (fun k hk _ => hv k hk) hgo
        · exact Ag.not hA hd ho hc hn hs hw (fun k hk _ => hv k hk) hgo
  · intro L a' Z' n' w' hL hJ
    rcases hJ with ⟨hLc, _⟩ | ⟨_, hQ, hA⟩
    · rw [hL c hcs] at hLc
      cases hLc
    · rw [hA.all hL]
      exact H Z' n' w' hQ
end
end Go.Proofs.Ytfpkachoneaaeaa
namespace Go.Proofs.Ytfpkachoneaaeaa
open Go Go.Conc
def dstB (ops : Array Oper) (lat : List Nat) (N : Nat) : Bool := (List.range ops.size).all fun i => match ops[i]? with
  | some o => (match o.dst with | some t => decide (t < N) && !lat.contains t | none => true)
  | none => true
/-- A call: what lies in the slots then is told by x', which J holds of. -/
def CallsAt {σ : Type} (P : Program) (Post : Value → World → Prop) (h k : Nat) (ops : Array Oper) (e : σ → Act) (x : σ) (o : Oper) (J : σ → Scene → Nat → World → Prop) (Z : Scene) (n : Nat) (w : World) : Prop :=
  ∃ f fn c args ats, o.op = .call { callee := .value (.func f), args := args, argTypes := ats } ∧ P.funcs[f]? = some fn ∧ (fn.name == "runtime.NumGoroutine") = false ∧ fn.body = some c ∧ Region.wanted o (yielded ops (e x).tmps) = true ∧
    ∀ (c0 : Frame) (cs : List Frame), (∀ x' Z' n' w' v, J x' Z' n' w' → (e x).put o.dst v = e x' → Run P Post Z' n' h k (G (c0.finish v) cs) w') →
      Run P Post Z n h k (G ((base f).at { tmps := args.map (e x).eval ++ Array.replicate (fn.ntmps - (args.map (e x).eval).size) undef, defers := [] } [.code c]) (c0 :: cs)) w
section
variable {P : Program} {Post : Value → World → Prop} {Z : Scene} {n h k : Nat} {w : World} {b : Frame} {a : Act} {kk : List Item} {cs : List Frame} {ops : Array Oper} {id : Nat} {okf : FuncId → Prop}
theorem Run.many (E : Env P (okP P) okf) {σ : Type} (e : σ → Act) (lat : List Nat) (N : Nat) (I : (Nat → Bool) → σ → Scene → Nat → World → Prop) (hk : b.kind ≠ .early) (hac : acycB ops = true) (hd : distB ops = true) (hN : ∀ x, (e x).tmps.size = N) (hdst : dstB ops lat N = true)
    (hcl : ((List.range ops.size).all fun i => clearB ops [] lat i) = true) (x0 : σ) (h0 : Ag ops [] lat (e x0) (fun _ => false) a) (hI : I (fun _ => false) x0 Z n w)
    (hop : ∀ (L : Nat → Bool) (i : Nat) (o : Oper) (x : σ) (Z : Scene) (n : Nat) (w : World), ops[i]? = some o → L i = false → (∀ j ∈ needs ops i, L j = true) → (∀ j, j < ops.size → L j = true → ∀ m ∈ needs ops j, L m = true) → I L x Z n w →
      (ReadsAt P okf Z w ops (e x) o ∧ I (plus L i) x Z n w) ∨ CallsAt P Post h k ops e x o (I (plus L i)) Z n w)
    (hend : ∀ L x Z n w, (∀ i, i < ops.size → L i = true) → I L x Z n w → Run P Post Z n h k (G (b.at (e x) kk) cs) w) :
    Run P Post Z n h k (G (b.at a (.code (.region id ops true) :: kk)) cs) w := by
  refine Run.drawn (fun L a' Z' n' w' => ∃ x, I L x Z' n' w' ∧ Ag ops [] lat (e x) L a') hac ⟨x0, hI, h0⟩ ?_ ?_
  · rintro L i o a' Z' n' w' rest ho hL hn hclo ⟨x, hI, hA⟩ cont
    have hi : i < ops.size := (Array.getElem?_eq_some_iff.1 ho).1
    have hc : clearB ops [] lat i = true := List.all_eq_true.1 hcl i (List.mem_range.2 hi)
    rcases hop L i o x Z' n' w' ho hL hn hclo hI with ⟨⟨hs, ⟨hw, hok, hab, v, hr, hv⟩ | ⟨hw, hv⟩⟩, hI'⟩ | ⟨f, fn, c, args, ats, ho1, ho2, ho3, ho4, hw, hgo⟩
    · exact Ag.quiet E hA hd ho hc hn hs hw hk hok hab v hr (fun k hk _ => hv k hk) fun a'' hA' _ => cont _ _ _ _ ⟨x, hI', hA'⟩
    · exact Ag.not hA hd ho hc hn hs hw (fun k hk _ => hv k hk) fun a'' hA' _ => cont _ _ _ _ ⟨x, hI', hA'⟩
    · have hsel : ∀ cs b, o.op ≠ .select cs b := fun cs b q => by rw [ho1] at q; cases q
      obtain ⟨_, hw2⟩ := hA.same ho hc hn hsel
      have hargs : args.map a'.eval = args.map (e x).eval := by
        refine Array.map_congr_left fun y hy => ?_
        cases y with
        | tmp t =>
          have := hA.slot ho hc hn t (List.mem_append_left _ (List.mem_filterMap.2 ⟨.tmp t, by rw [ho1]; simp [Op.operands, Call.operands, hy], rfl⟩))
          simp only [Act.eval, Array.getD_eq_getD_getElem?, this]
        | _ => rfl
      refine Run.enter ho (by rw [hw2]; exact hw) hk ho1 ho2 ho3 ho4 ?_
      rw [hargs]
      refine hgo _ _ fun x' Z2 n2 w2 v hJ he => ?_
      have hfin : (b.at a' (.inRegion ops (i :: rest) :: kk)).finish v = b.at (a'.put o.dst v) (.inRegion ops rest :: kk) := by rw [Frame.finish_at, ho]; rfl
      rw [hfin]
      refine cont _ _ _ _ ⟨x', hJ, ?_⟩
      have hA' : Ag ops [] lat (e x') L a' := by
        refine ⟨?_, ?_, fun k hg hk => ?_⟩
        · rw [← he, hA.d]; unfold Act.put; cases o.dst <;> rfl
        · rw [hA.size, hN, hN]
        · rw [hA.get k hg hk, ← he]
          unfold Act.put
          cases hdo : o.dst with
          | none => rfl
          | some t =>
            refine (Array.getElem?_setIfInBounds_ne fun q => ?_).symm
            subst q
            have h1 := List.all_eq_true.1 hdst i (List.mem_range.2 hi)
            simp only [ho, hdo, Bool.and_eq_true, Bool.not_eq_true'] at h1
            rcases hk with r | r
            · rw [r] at h1
              cases h1.2
            · have h2 := List.all_eq_true.1 hd i (List.mem_range.2 hi)
              rw [ho] at h2
              simp only [hdo] at h2
              have h3 := r i (by simpa using h2)
              rw [hL] at h3
              cases h3
      refine hA'.put hd ho fun t ht _ => ?_
      have h1 := List.all_eq_true.1 hdst i (List.mem_range.2 hi)
      simp only [ho, ht, Bool.and_eq_true, decide_eq_true_eq] at h1
      rw [← he, ht]
      show ((e x).tmps.setIfInBounds t v)[t]? = some v
      rw [Array.getElem?_setIfInBounds_self_of_lt (by rw [hN]; exact h1.1)]
  · rintro L a' Z' n' w' hL ⟨x, hI, hA⟩
    rw [hA.all hL]
    exact hend L x Z' n' w' hL hI
end
end Go.Proofs.Ytfpkachoneaaeaa
