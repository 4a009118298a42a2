/-
  Files in the order of their names, in plain words.
-/
import Derived.Test.YtnlmkfncdklcdaaDkState
namespace Go.Proofs.Ytnlmkfncdklcdaa
open Go.RowKit

theorem lt_irr (a : List UInt8) : ¬ a < a := List.lt_irrefl a
theorem lt_tr {a b c : List UInt8} (h : a < b) (k : b < c) : a < c := List.lt_trans h k
theorem lt_ne {a b : List UInt8} (h : a < b) : a ≠ b := fun e => lt_irr a (e ▸ h)

/-- The names rise. -/
def Asc (l : List FileS) : Prop := l.Pairwise fun a b => a.key < b.key

/-- A file is put into its place. -/
def putF (f : FileS) : List FileS → List FileS
  | [] => [f]
  | g :: l => if g.key = f.key then f :: l else if f.key < g.key then f :: g :: l else g :: putF f l

theorem get_put (f : FileS) (nm : List UInt8) : ∀ l : List FileS, (putF f l).find? (fun x => x.key == nm) = if nm = f.key then some f else l.find? fun x => x.key == nm
  | [] => by
    rw [putF, List.find?_cons]
    by_cases h : nm = f.key
    · subst h
      simp
    · have : (f.key == nm) = false := by simpa using fun q => h q.symm
      rw [this, if_neg h]
  | g :: l => by
    rw [putF]
    by_cases h1 : g.key = f.key
    · rw [if_pos h1, List.find?_cons, List.find?_cons]
      by_cases h : nm = f.key
      · subst h
        simp
      · have e1 : (f.key == nm) = false := by simpa using fun q => h q.symm
        have e2 : (g.key == nm) = false := by rw [h1]; exact e1
        rw [e1, e2, if_neg h]
    · rw [if_neg h1]
      by_cases h2 : f.key < g.key
      · rw [if_pos h2, List.find?_cons]
        by_cases h : nm = f.key
        · subst h
          simp
        · have e1 : (f.key == nm) = false := by simpa using fun q => h q.symm
          rw [e1, if_neg h]
      · rw [if_neg h2, List.find?_cons, get_put f nm l, List.find?_cons]
        by_cases h : nm = f.key
        · subst h
          have e2 : (g.key == f.key) = false := by simpa using h1
          rw [e2, if_pos rfl]
        · rw [if_neg h]
          rcases (g.key == nm) with _ | _ <;> simp [h]
theorem mem_put (f x : FileS) : ∀ l : List FileS, Asc l → x ∈ putF f l → x = f ∨ (x ∈ l ∧ x.key ≠ f.key)
  | [], _, h => by
    rw [putF] at h
    exact .inl (by simpa using h)
  | g :: l, ha, h => by
    rw [putF] at h
    obtain ⟨h3, h4⟩ := List.pairwise_cons.1 ha
    by_cases h1 : g.key = f.key
    · rw [if_pos h1] at h
      rcases List.mem_cons.1 h with h | h
      · exact .inl h
      · exact .inr ⟨List.mem_cons_of_mem _ h, fun e => lt_ne (h3 x h) (by rw [h1, e])⟩
    · rw [if_neg h1] at h
      by_cases h2 : f.key < g.key
      · rw [if_pos h2] at h
        rcases List.mem_cons.1 h with h | h
        · exact .inl h
        · refine .inr ⟨h, fun e => ?_⟩
          rcases List.mem_cons.1 h with h | h
          · exact h1 (by rw [← h]; exact e)
          · exact lt_ne (lt_tr h2 (h3 x h)) e.symm
      · rw [if_neg h2] at h
        rcases List.mem_cons.1 h with h | h
        · exact .inr ⟨by rw [h]; exact List.mem_cons_self, by rw [h]; exact h1⟩
        · rcases mem_put f x l h4 h with h | ⟨h, h'⟩
          · exact .inl h
          · exact .inr ⟨List.mem_cons_of_mem _ h, h'⟩
theorem put_mem (f x : FileS) : ∀ l : List FileS, x ∈ l → x.key ≠ f.key → x ∈ putF f l
  | [], h, _ => by cases h
  | g :: l, h, hne => by
    rw [putF]
    by_cases h1 : g.key = f.key
    · rw [if_pos h1]
      rcases List.mem_cons.1 h with h | h
      · exact (hne (by rw [h]; exact h1)).elim
      · exact List.mem_cons_of_mem _ h
    · rw [if_neg h1]
      by_cases h2 : f.key < g.key
      · rw [if_pos h2]
        exact List.mem_cons_of_mem _ h
      · rw [if_neg h2]
        rcases List.mem_cons.1 h with h | h
        · rw [h]; exact List.mem_cons_self
        · exact List.mem_cons_of_mem _ (put_mem f x l h hne)
theorem lt_total {a b : List UInt8} (h1 : ¬ a = b) (h2 : ¬ b < a) : a < b := by
  rcases Std.le_total (a := a) (b := b) with h | h
  · exact Std.lt_of_le_of_ne h h1
  · exact absurd (Std.lt_of_le_of_ne h (fun e => h1 e.symm)) h2
theorem asc_put (f : FileS) : ∀ l : List FileS, Asc l → Asc (putF f l)
  | [], _ => by rw [putF]; exact List.pairwise_cons.2 ⟨(fun _ h => by cases h), List.Pairwise.nil⟩
  | g :: l, ha => by
    obtain ⟨h3, h4⟩ := List.pairwise_cons.1 ha
    rw [putF]
    by_cases h1 : g.key = f.key
    · rw [if_pos h1]
      exact List.pairwise_cons.2 ⟨fun x hx => by rw [← h1]; exact h3 x hx, h4⟩
    · rw [if_neg h1]
      by_cases h2 : f.key < g.key
      · rw [if_pos h2]
        refine List.pairwise_cons.2 ⟨fun x hx => ?_, ha⟩
        rcases List.mem_cons.1 hx with h | h
        · rw [h]; exact h2
        · exact lt_tr h2 (h3 x h)
      · rw [if_neg h2]
        refine List.pairwise_cons.2 ⟨fun x hx => ?_, asc_put f l h4⟩
        rcases mem_put f x l h4 hx with h | ⟨h, _⟩
        · rw [h]; exact lt_total h1 h2
        · exact h3 x h
theorem put_put (f g : FileS) (hk : f.key = g.key) : ∀ l : List FileS, putF f (putF g l) = putF f l
  | [] => by simp [putF, hk]
  | x :: l => by
    by_cases h1 : x.key = g.key
    · simp [putF, h1, hk]
    · by_cases h2 : g.key < x.key
      · simp [putF, h1, h2, hk]
      · simp [putF, h1, h2, hk, put_put f g hk l]
theorem name_inj {a b : ByteArray} (h : a.toList = b.toList) : a = b := by
  rw [ByteArray.toList_eq, ByteArray.toList_eq] at h
  rcases a with ⟨⟨a⟩⟩
  rcases b with ⟨⟨b⟩⟩
  simp at h
  rw [h]

end Go.Proofs.Ytnlmkfncdklcdaa
