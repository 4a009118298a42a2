/-
  A field that is a slice of octets, in an element that is read.
-/
import Derived.Test.YtfpkachoneaaeaaLiftElems
namespace Go.Proofs.Ytfpkachoneaaeaa
open Go.ChangeShapes Go.WideShapes Go.ChangeAt Go.RowKit Go.Deep

set_option maxRecDepth 100000 in
theorem open_bytes_cell {H : Type} {enc : TypeId × Value → H} {W : World} {v : Value} {d : DataW H} {p : List MemPlace} {t e : TypeId} {n : Nat} (ht : Try.prog.underlying t = some (.slice e)) (he : Try.prog.underlying e = some (.int .u8)) (hce : Try.prog.cellsOf e = 1)
    (hf : DataW.trod enc Try.prog W 0 (fun _ => true) true n t [v] = some (d, p)) :
    ∃ A c bs, v = .slice A bs.length c ∧ RB W (· < W.heap.size) A bs ∧ bs.length ≤ c ∧ c ≤ maxLen ∧ (A = none → bs = [] ∧ c = 0) ∧ bs.length < Rows.uptoBulk d := by
  rcases open_ints ht he hce hf with ⟨hcs, _⟩ | ⟨x, len, cap, zs, hcs, _, hl, hm, hz, hx, hcell, hwz⟩
  · simp at hcs
    exact ⟨none, 0, [], hcs, RB.nil _ _ _, Nat.le_refl _, by decide, fun _ => ⟨rfl, rfl⟩, bulk_one d⟩
  · simp at hcs
    subst hcs
    have hzl : zs.length = cap := by simpa using hz
    have hd : d = .slice (lits .u8 (zs.take len)) (lits .u8 (zs.drop len)) := congrArg Prod.fst hx
    refine ⟨some x, cap, (zs.take len).map lo8, ?_, ?_, ?_, hm, (fun h => by cases h), ?_⟩
    · simp [hzl, hl]
    · obtain ⟨g, o, sp⟩ := x
      by_cases h0 : len = 0
      · subst h0
        exact .inl (by simp [bvs])
      · have hc0 := hcell 0 (by omega)
        have hs : sp = none := by
          cases sp with
          | none => rfl
          | some k =>
            simp only [Addr.add, if_true, World.cell?, Option.isSome_some] at hc0
            split at hc0 <;> simp at hc0
        subst hs
        refine .inr ⟨g, o, rfl, ?_, fun j u hu => ?_⟩
        · have := lt_of_cell hc0
          simpa [Addr.add] using this
        · have hj : j < len := by
            have := (List.getElem?_eq_some_iff.1 hu).1
            simp [bvs, hzl] at this
            omega
          have h1 := hcell j (by omega)
          have h2 : zs[j]? = some (zs.getD j 0) := by simp [List.getD, List.getElem?_eq_getElem (show j < zs.length by omega)]
          have h3 := wf_u8 (hwz (zs.getD j 0) (List.mem_of_getElem? h2))
          have h4 : (bvs ((zs.take len).map lo8))[j]? = some (.int .u8 (zs.getD j 0)) := by
            have e5 := lo8_val (zs.getD j 0)
            rw [Int.emod_eq_of_lt h3.1 h3.2] at e5
            simp only [bvs, List.getElem?_map, List.getElem?_take, hj, if_true, h2, Option.map_some, e5]
          rw [h4] at hu
          injection hu with hu
          subst hu
          rw [← h1]
          unfold Addr.add
          by_cases hj0 : j = 0 <;> simp [hj0]
    · simp [hzl, hl]
    · rw [hd]
      simp only [Rows.uptoBulk]
      have h1 := bulk_len (lits (H := H) .u8 (zs.take len))
      simp only [lits, List.length_map, List.length_take] at h1 ⊢
      omega

end Go.Proofs.Ytfpkachoneaaeaa
