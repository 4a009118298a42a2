/-
  A list of files (api.File) of one's own: the row, and each file's octets.
-/
import Derived.Test.YtnlmkfncdklcdaaDkFls
namespace Go.Proofs.Ytnlmkfncdklcdaa
open Go.RowKit

theorem infoFile : (Try.prog.info? 36).map (fun i => (i.zero, i.size, i.bytes)) = some (some (.agg #[.string ⟨#[]⟩, .slice none 0 0]), 2, 40) := by kernel_rfl

def FlOwn (w : World) (F : Nat → Prop) (f : FlS) (cs : List Value) : Prop := f.name.size ≤ 140737488351232 ∧ f.data.length ≤ 140737488351232 ∧ ∃ v, cs = [.string f.name, v] ∧ OB w F v f.data
/-- The files lie in a row of one's own, each one's octets in a row of its own. -/
def FlsOwn (w : World) (F : Nat → Prop) (v : Value) (fs : List FlS) : Prop := ∃ css : List (List Value), Own w 36 2 F v fs.length css.flatten ∧ css.length = fs.length ∧ ∀ j (h : j < fs.length) (h' : j < css.length), FlOwn w F fs[j] css[j]

theorem one_cells2 (a : ByteArray) (v : Value) (hv : v.oneCell' = true) : ∀ u ∈ ([.string a, v] : List Value), u.oneCell' = true := by
  intro u hu
  simp only [List.mem_cons, List.not_mem_nil, or_false] at hu
  rcases hu with rfl | rfl
  · rfl
  · exact hv

section
variable {w w' : World} {F G S : Nat → Prop} {v : Value} {fs : List FlS}
theorem FlsOwn.nil (w : World) (F : Nat → Prop) : FlsOwn w F (.slice none 0 0) [] := ⟨[], Own.nil _ _ _ _, rfl, fun j h => by cases h⟩
theorem FlsOwn.empty (w : World) (F : Nat → Prop) (hF : F w.heap.size) : FlsOwn (w.alloc (.cells #[] 36)) F (.slice (some ⟨w.heap.size, 0, none⟩) 0 0) [] := ⟨[], Own.empty _ _ _ _ hF, rfl, fun j h => by cases h⟩
theorem FlsOwn.keep (h : FlsOwn w F v fs) (hk : Kept S w w') (hd : ∀ k, k < w.heap.size → F k → S k → False) : FlsOwn w' F v fs := by
  obtain ⟨css, h1, h2, h3⟩ := h
  refine ⟨css, h1.keep hk hd, h2, fun j a b => ?_⟩
  obtain ⟨g1, g2, x, g3, g4⟩ := h3 j a b
  exact ⟨g1, g2, x, g3, Own.keep g4 hk hd⟩
theorem FlsOwn.still (h : FlsOwn w F v fs) (hk : Kept noneS w w') : FlsOwn w' F v fs := h.keep hk (fun _ _ _ q => q)
theorem FlsOwn.mono (h : FlsOwn w F v fs) (hF : ∀ k, k < w.heap.size → F k → G k) : FlsOwn w G v fs := by
  obtain ⟨css, h1, h2, h3⟩ := h
  refine ⟨css, h1.mono hF, h2, fun j a b => ?_⟩
  obtain ⟨g1, g2, x, g3, g4⟩ := h3 j a b
  exact ⟨g1, g2, x, g3, Own.mono g4 hF⟩
theorem FlsOwn.form (h : FlsOwn w F v fs) : ∃ A c, v = .slice A fs.length c ∧ fs.length ≤ c ∧ c ≤ maxLen := by
  obtain ⟨css, h1, _⟩ := h
  obtain ⟨A, c, rfl, h2, h3, _⟩ := Own.form h1
  exact ⟨A, c, rfl, h2, h3⟩
theorem FlsOwn.fls {A : Option Addr} {c : Nat} (h : FlsOwn w F (.slice A fs.length c) fs) : FlsAt w F A fs := by
  obtain ⟨css, h1, h2, h3⟩ := h
  refine ⟨css, Own.rd h1, h2, fun j a b => ?_⟩
  obtain ⟨g1, g2, x, g3, g4⟩ := h3 j a b
  exact ⟨g1, g2, x, g3, OB.sl g4⟩
/-- Octets of one's own stay where a row of another type turns. -/
theorem OB.other {u : Value} {e : TypeId} {size n : Nat} {bs : List UInt8} {xs : List Value} (h : OB w F u bs) (ho : Own w e size G v n xs) (he : e ≠ 5) (hk : Kept (ownS v) w w') : OB w' F u bs := by
  refine Own.keep0 h hk (fun k _ h1 h2 => ?_)
  rcases h.1.2 with ⟨q, _⟩ | ⟨g, cap, cur, q, _, hb, _⟩
  · rw [q] at h1
    simp [ownS, Value.ownBlock] at h1
  · rw [q] at h1
    have hg : g = k := by simpa [ownS, Value.ownBlock] using h1
    subst hg
    exact Own.ne_blk ho (g := g) (t := 5) hb he h2

/-- A file is appended. -/
theorem FlsOwn.append (h : FlsOwn w F v fs) (nm : ByteArray) (d : List UInt8) (fv : Value) (ho : OB w F fv d) (hn : nm.size ≤ 140737488351232) (hd : d.length ≤ 140737488351232) (hF : ∀ k, w.heap.size ≤ k → F k) (hl : (fs.length + 1) * 40 ≤ 140737488355328) :
    ∃ A' c' w', (appSem #[24, 24] 24 #[v, .slice (some ⟨w.heap.size, 0, none⟩) 1 1]).run Try.prog (w.alloc (.cells #[.string nm, fv] 36)) = .ok (.slice A' (fs.length + 1) c') w' ∧
      FlsOwn w' F (.slice A' (fs.length + 1) c') (fs ++ [⟨nm, d⟩]) ∧ Kept (ownS v) w w' ∧ ∀ k, ownS (.slice A' (fs.length + 1) c') k → ownS v k ∨ w.heap.size ≤ k := by
  obtain ⟨i0, hi, hz0, hz1, hz2⟩ := info_parts infoFile
  obtain ⟨css, h1, h2, h3⟩ := h
  obtain ⟨Af, cf, rfl, _⟩ := Own.form ho
  obtain ⟨A', c', w', hrun, g2, g3, g4⟩ := run_app1 (P := Try.prog) w 24 24 36 i0 _ 2 40 Try.underlying24 hi hz0 hz1 hz2 rfl (by decide) F v fs.length css.flatten h1 #[.string nm, .slice Af d.length cf] rfl (one_cells2 _ _ rfl) (by unfold maxLen; omega) hl
  have hk : Kept (ownS v) w w' := ((Kept.refl (ownS v) w).alloc _).trans g4
  have hcs : (css ++ [[Value.string nm, Value.slice Af d.length cf]]).flatten = css.flatten ++ [Value.string nm, Value.slice Af d.length cf] := by simp
  refine ⟨A', c', w', hrun, ⟨css ++ [[Value.string nm, Value.slice Af d.length cf]], ?_, by simp [h2], fun j a b => ?_⟩, hk, fun k q => (g2.2 k q).imp id (fun e => by omega)⟩
  · rw [hcs, List.length_append, List.length_singleton]
    refine g2.mono (fun k _ q => ?_)
    rcases q with q | q
    · exact h1.2 k q
    · exact hF k (by omega)
  · by_cases hj : j < fs.length
    · rw [List.getElem_append_left hj, List.getElem_append_left (by omega)]
      obtain ⟨a1, a2, x, a3, a4⟩ := h3 j hj (by omega)
      exact ⟨a1, a2, x, a3, OB.other a4 h1 (by decide) hk⟩
    · have : j = fs.length := by
        rw [List.length_append, List.length_singleton] at a
        omega
      subst this
      rw [List.getElem_append_right (Nat.le_refl _), List.getElem_append_right (by omega)]
      simp only [h2, Nat.sub_self, List.getElem_cons_zero]
      exact ⟨hn, hd, _, rfl, OB.other ho h1 (by decide) hk⟩
end

end Go.Proofs.Ytnlmkfncdklcdaa
