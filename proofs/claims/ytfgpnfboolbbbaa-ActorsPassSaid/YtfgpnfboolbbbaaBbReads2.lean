/-
  A region that draws its order and only reads, beside one operation that does more: before it, and behind it.
-/
import Derived.Test.YtfgpnfboolbbbaaBbDraw
namespace Go.Proofs.Ytfgpnfboolbbbaa
open Go Go.Conc
def anc (ops : Array Oper) : Nat → Nat → List Nat
  | 0, _ => []
  | f + 1, i => needs ops i ++ (needs ops i).flatMap (anc ops f)
theorem needs_lt {ops : Array Oper} {i m : Nat} (h : m ∈ needs ops i) : i < ops.size := by
  unfold needs at h
  by_cases q : i < ops.size
  · exact q
  · rw [Array.getElem?_eq_none (by omega)] at h; cases h
theorem anc_done {ops : Array Oper} {L : Nat → Bool} (hcl : ∀ j, j < ops.size → L j = true → ∀ m ∈ needs ops j, L m = true) : ∀ (f i : Nat), (∀ m ∈ needs ops i, L m = true) → ∀ m ∈ anc ops f i, L m = true
  | 0, _, _, _, hm => by cases hm
  | f + 1, i, h, m, hm => by
    rcases List.mem_append.1 hm with q | q
    · exact h m q
    · obtain ⟨j, hj, hm'⟩ := List.mem_flatMap.1 q
      refine anc_done hcl f j (fun x hx => hcl j (needs_lt hx) (h j hj) x hx) m hm'
theorem extract_get (a : Array Value) {m M k : Nat} (h1 : m ≤ k) (h2 : k < M) : (a.extract m M)[k - m]? = a[k]? := by
  rw [Array.getElem?_extract]
  by_cases q : k < a.size
  · have : k - m < min M a.size - m := by rw [Nat.min_def]; split <;> omega
    rw [if_pos this, show m + (k - m) = k by omega]
  · have : ¬ k - m < min M a.size - m := by rw [Nat.min_def]; split <;> omega
    rw [if_neg this, Array.getElem?_eq_none (by omega)]
/-- Two states of the slots that differ in what comes behind only. -/
theorem Ag.behind {ops : Array Oper} {lat : List Nat} {e a : Act} {L : Nat → Bool} (m M N : Nat) (h1 : a.tmps.extract 0 m = e.tmps.extract 0 m) (h2 : a.tmps.extract M N = e.tmps.extract M N) (h3 : a.tmps.size = N) (h4 : e.tmps.size = N) (h5 : a.defers = e.defers)
    (hlat : ((List.range (M - m)).all fun d => !lat.contains (m + d)) = true) (hL : ∀ d, d < M - m → ∃ j, owner ops (m + d) = some j ∧ L j = false) : Ag ops [] lat e L a := by
  refine ⟨h5, h3.trans h4.symm, fun k _ hk => ?_⟩
  by_cases q : k < m ∨ M ≤ k
  · exact agree_mid h1 h2 h3 h4 k q
  · exfalso
    have h6 := List.all_eq_true.1 hlat (k - m) (List.mem_range.2 (by omega))
    obtain ⟨j, hj, hL'⟩ := hL (k - m) (by omega)
    rw [show m + (k - m) = k by omega] at h6 hj
    rcases hk with r | r
    · rw [r] at h6
      cases h6
    · rw [r j hj] at hL'
      cases hL'
section
variable {P : Program} {Post : Value → World → Prop} {Z : Scene} {n h k : Nat} {w : World} {b : Frame} {a : Act} {kk : List Item} {cs : List Frame} {ops : Array Oper} {id : Nat} {okf : FuncId → Prop}
/-- c: the operation that does more; e0: the slots where it comes up; e: the slots in the end; [m, M): the slots of what comes behind. -/
theorem Run.readsCall (E : Env P (okP P) okf) (e0 e : Act) (lat : List Nat) (c : Nat) (oc : Oper) (v : Value) (Q : Scene → Nat → World → Prop) (m M : Nat) (hoc : ops[c]? = some oc) (hk : b.kind ≠ .early) (hac : acycB ops = true) (hd : distB ops = true) (hcl : ((List.range ops.size).all fun i => i == c || clearB ops [] lat i) = true)
    (hba : ((List.range ops.size).all fun i => i == c || if i < c then (anc ops ops.size c).contains i else (anc ops ops.size i).contains c) = true)
    (h0 : Ag ops [] lat e0 (fun _ => false) a)
    (hmM : ((List.range (M - m)).all fun d => !lat.contains (m + d) && match owner ops (m + d) with | some j => decide (c < j) | none => false) = true)
    (hMm : ((List.range ops.size).all fun i => match ops[i]? with | some o => (match o.dst with | some t => decide (i ≤ c) || (decide (m ≤ t) && decide (t < M)) | none => true) | none => true) = true)
    (h1 : a.tmps.extract m M = e0.tmps.extract m M) (ht : ∀ t, oc.dst = some t → a.tmps[t]? = e0.tmps[t]?)
    (g1 : (e0.put oc.dst v).tmps.extract 0 m = e.tmps.extract 0 m) (g2 : (e0.put oc.dst v).tmps.extract M e.tmps.size = e.tmps.extract M e.tmps.size) (g3 : e0.tmps.size = e.tmps.size) (g5 : e0.defers = e.defers)
    (hbef : ∀ (i : Nat) o, ops[i]? = some o → i < c → ReadsAt P okf Z w ops e0 o)
    (haft : ∀ (i : Nat) o, ops[i]? = some o → c < i → ∀ Z' n' w', Q Z' n' w' → ReadsAt P okf Z' w' ops e o)
    (hcall : ∀ rest, (∀ Z' n' w', Q Z' n' w' → Run P Post Z' n' h k (G (b.at (e0.put oc.dst v) (.inRegion ops rest :: kk)) cs) w') → Run P Post Z n h k (G (b.at e0 (.inRegion ops (c :: rest) :: kk)) cs) w)
    (H : ∀ Z' n' w', Q Z' n' w' → Run P Post Z' n' h k (G (b.at e kk) cs) w') : Run P Post Z n h k (G (b.at a (.code (.region id ops true) :: kk)) cs) w := by
  have hcs : c < ops.size := (Array.getElem?_eq_some_iff.1 hoc).1
  have hlow : ∀ i, i < c → (anc ops ops.size c).contains i = true := fun i hi => by
    have := List.all_eq_true.1 hba i (List.mem_range.2 (by omega))
    simpa [hi, Nat.ne_of_lt hi] using this
  have hhigh : ∀ i, i < ops.size → c < i → (anc ops ops.size i).contains c = true := fun i hi hc => by
    have := List.all_eq_true.1 hba i (List.mem_range.2 hi)
    simpa [Nat.lt_asymm hc, Nat.ne_of_gt hc] using this
  refine Run.drawn (fun L a' Z' n' w' => (L c = false ∧ Z' = Z ∧ n' = n ∧ w' = w ∧ Ag ops [] lat e0 L a' ∧ ∀ k j, owner ops k = some j → c ≤ j → a'.tmps[k]? = e0.tmps[k]?) ∨ (L c = true ∧ Q Z' n' w' ∧ Ag ops [] lat e L a')) hac (.inl ⟨rfl, rfl, rfl, rfl, h0, fun k j hj hb => ?_⟩) ?_ ?_
  · obtain ⟨o, ho, hdst⟩ := owner_dst hj
    have hjs := (Array.getElem?_eq_some_iff.1 ho).1
    have := List.all_eq_true.1 hMm j (List.mem_range.2 hjs)
    simp only [ho, hdst, Bool.or_eq_true, Bool.and_eq_true, decide_eq_true_eq] at this
    rcases this with q | ⟨q1, q2⟩
    · obtain rfl : j = c := by omega
      rw [hoc] at ho
      obtain rfl := Option.some.inj ho
      exact ht k hdst
    · have e1 := extract_get a.tmps q1 q2
      have e2 := extract_get e0.tmps q1 q2
      rw [← e1, ← e2, h1]
  · intro L i o a' Z' n' w' rest ho hL hn hclo hJ cont
    have hi : i < ops.size := (Array.getElem?_eq_some_iff.1 ho).1
    rcases hJ with ⟨hLc, rfl, rfl, rfl, hA, hun⟩ | ⟨hLc, hQ, hA⟩
    · by_cases hic : i = c
      · subst hic
        rw [hoc] at ho
        obtain rfl := Option.some.inj ho
        -- all before is done: the slots are e0
        have hbd : ∀ j, j < i → L j = true := fun j hj => anc_done hclo ops.size i hn j (by simpa using hlow j hj)
        have ha : a' = e0 := by
          obtain ⟨t, d⟩ := a'
          obtain ⟨t', d'⟩ := e0
          have q1 : d = d' := hA.d
          have q2 : t = t' := Array.ext_getElem? fun k => by
            cases hk : owner ops k with
            | none => exact hA.get k rfl (.inr fun j hj => by rw [hk] at hj; cases hj)
            | some j =>
              by_cases hb : j < i
              · exact hA.get k rfl (.inr fun j' hj' => by rw [hk] at hj'; obtain rfl := Option.some.inj hj'; exact hbd j hb)
              · exact hun k j hk (by omega)
          rw [q1, q2]
        subst ha
        refine hcall rest fun Z2 n2 w2 hQ => cont _ _ _ _ (.inr ⟨by simp [plus], hQ, ?_⟩)
        refine Ag.behind m M e.tmps.size g1 g2 (by unfold Act.put; cases oc.dst <;> simpa using g3) rfl (by unfold Act.put; cases oc.dst <;> exact g5) ?_ ?_
        · refine List.all_eq_true.2 fun d hd' => ?_
          have := List.all_eq_true.1 hmM d hd'
          rw [Bool.and_eq_true] at this
          exact this.1
        · intro d hd'
          have := List.all_eq_true.1 hmM d (List.mem_range.2 hd')
          rw [Bool.and_eq_true] at this
          have h2 := this.2
          cases hj : owner ops (m + d) with
          | none => rw [hj] at h2; cases h2
          | some j =>
            rw [hj] at h2
            have h2 : i < j := by simpa using h2
            refine ⟨j, rfl, ?_⟩
            obtain ⟨oj, hoj, _⟩ := owner_dst hj
            have hjs := (Array.getElem?_eq_some_iff.1 hoj).1
            unfold plus
            rw [Bool.or_eq_false_iff]
            refine ⟨by simp; omega, ?_⟩
            cases r : L j with
            | false => rfl
            | true =>
              have := anc_done hclo ops.size j (hclo j hjs r) i (by simpa using hhigh j hjs h2)
              rw [hLc] at this
              cases this
      · rcases Nat.lt_or_gt_of_ne hic with q | q
        · have hc : clearB ops [] lat i = true := by
            have := List.all_eq_true.1 hcl i (List.mem_range.2 hi)
            simpa [hic] using this
          have hgo : ∀ a'', Ag ops [] lat e0 (plus L i) a'' → (∀ k, o.dst ≠ some k → a''.tmps[k]? = a'.tmps[k]?) → Run P Post Z' n' h k (G (b.at a'' (.inRegion ops rest :: kk)) cs) w' := fun a'' hA' hu => cont _ _ _ _ (.inl ⟨by unfold plus; rw [hLc, Bool.or_false]; simpa using Ne.symm hic, rfl, rfl, rfl, hA', fun k j hk hb => by
            rw [hu k fun hdk => ?_, hun k j hk hb]
            have := List.all_eq_true.1 hd i (List.mem_range.2 hi)
            rw [ho] at this
            simp only [hdk, hk] at this
            have hji : j = i := by simpa using this
            omega⟩)
          obtain ⟨hs, ⟨hw, hok, hab, v', hr, hv⟩ | ⟨hw, hv⟩⟩ := hbef i o ho q
          · exact Ag.quiet E hA hd ho hc hn hs hw hk hok hab v' hr (fun k hk _ => hv k hk) hgo
          · exact Ag.not hA hd ho hc hn hs hw (fun k hk _ => hv k hk) hgo
        · exfalso
          have := anc_done hclo ops.size i hn c (by simpa using hhigh i hi q)
          rw [hLc] at this
          cases this
    · have hic : i ≠ c := fun q => by rw [q, hLc] at hL; cases hL
      rcases Nat.lt_or_gt_of_ne hic with q | q
      · exfalso
        have := anc_done hclo ops.size c (hclo c hcs hLc) i (by simpa using hlow i q)
        rw [hL] at this
        cases this
      · have hc : clearB ops [] lat i = true := by
          have := List.all_eq_true.1 hcl i (List.mem_range.2 hi)
          simpa [hic] using this
        have hgo : ∀ a'', Ag ops [] lat e (plus L i) a'' → (∀ k, o.dst ≠ some k → a''.tmps[k]? = a'.tmps[k]?) → Run P Post Z' n' h k (G (b.at a'' (.inRegion ops rest :: kk)) cs) w' := fun a'' hA' _ => cont _ _ _ _ (.inr ⟨by simp [plus, hLc], hQ, hA'⟩)
        obtain ⟨hs, ⟨hw, hok, hab, v', hr, hv⟩ | ⟨hw, hv⟩⟩ := haft i o ho q Z' n' w' hQ
        · exact Ag.quiet E hA hd ho hc hn hs hw hk hok hab v' hr (fun k hk _ => hv k hk) hgo
        · exact Ag.not hA hd ho hc hn hs hw (fun k hk _ => hv k hk) hgo
  · intro L a' Z' n' w' hL hJ
    rcases hJ with ⟨hLc, _⟩ | ⟨_, hQ, hA⟩
    · rw [hL c hcs] at hLc
      cases hLc
    · rw [hA.all hL]
      exact H Z' n' w' hQ
end
end Go.Proofs.Ytfgpnfboolbbbaa
