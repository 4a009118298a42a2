/-
  What a crash leaves, as a map from names to rows of octets; and a copy into a row.
-/
import Derived.Test.YtnlmkfncdklcdaaDkFls
import Derived.Laws.CopyOwn
import Derived.Maps.Range
namespace Go.Proofs.Ytnlmkfncdklcdaa
open Go.RowKit Go.Maps

def copySem (ats : Array TypeId) (ty : TypeId) (args : Array Value) : Sem Value := Builtin.copy_ ats ty args
theorem copy_as (ats : Array TypeId) (ty : TypeId) (args : Array Value) : Builtin.copy_ ats ty args = copySem ats ty args := rfl

section
variable {w w' : World} {F G S : Nat → Prop}

/-- Octets are copied into a row of one's own. -/
theorem OB.copy {A B : Option Addr} {c off d : Nat} {bs xs : List UInt8} (h : OB w F (.slice A bs.length c) bs) (hx : RB w G B xs) (hl : off + xs.length ≤ bs.length) :
    ∃ w', (copySem #[34, 34] 3 #[.slice (if c = off then A else A.map (·.add off)) (bs.length - off) (c - off), .slice B xs.length d]).run Try.prog w = .ok (.int .i64 (xs.length : Int)) w' ∧
      OB w' F (.slice A bs.length c) (bs.take off ++ xs ++ bs.drop (off + xs.length)) ∧ Kept (ownS (.slice A bs.length c)) w w' := by
  obtain ⟨i0, hi, hz0, hz1, hz2⟩ := info_parts infoU8
  have hs1 : (Try.prog.info? 5).map (·.size) = some 1 := by rw [hi]; simp [hz1]
  by_cases h0 : xs.length = 0
  · have : xs = [] := List.length_eq_zero_iff.1 h0
    subst this
    refine ⟨w, ?_, by simpa using h, Kept.refl _ _⟩
    have := run_copy_none (P := Try.prog) w 34 34 3 5 (if c = off then A else A.map (·.add off)) B (bs.length - off) (c - off) 0 d Try.underlying34 hs1 (Nat.zero_min _)
    exact this
  · rcases hB : B with _ | ad
    · rcases hx with hx | ⟨g, o, e, _⟩
      · exact absurd (by simpa [bvs] using congrArg List.length hx) h0
      · rw [hB] at e
        cases e
    · subst hB
      rcases h.1.2 with ⟨e, hn⟩ | ⟨g, cap, cur, e, _, hgb, h1, h2, h3, h4⟩
      · omega
      · injection e with e1 e2 e3
        subst e1 e3
        have hF := h.2 g rfl
        rw [if_neg (by omega)]
        have hcells : ∀ j u, (bvs xs)[j]? = some u → w.cell? (ad.add j) = some u := fun j u hu => Rd.add hx hu
        have hrun := run_copy_row (P := Try.prog) w 34 34 3 5 g off (bs.length - off) (c - off) ad xs.length d cur 5 (bvs xs) Try.underlying34 hs1 hgb (by
          rw [bvs_length]
          exact (Nat.min_eq_left (by omega)).symm) hcells (by rw [bvs_length]; omega) (bvs_one xs)
        have hlen : (bs.take off ++ xs ++ bs.drop (off + xs.length)).length = bs.length := by simp; omega
        refine ⟨w.setRow g (cur.toList.take off ++ bvs xs ++ cur.toList.drop (off + (bvs xs).length)).toArray, ?_, ?_, ⟨rfl, rfl, rfl, by simp, fun k _ hk => setRow_other w g k _ (fun e => hk (by rw [e]; rfl))⟩⟩
        · have e : Option.map (fun x : Addr => x.add off) (some ⟨g, 0, none⟩) = some ⟨g, off, none⟩ := by simp [Addr.add_lit]
          rw [e]
          unfold copySem
          rw [hrun, bvs_length]
          simp [goInt]
        · show Own _ _ _ _ _ (bs.take off ++ xs ++ bs.drop (off + xs.length)).length _
          rw [hlen]
          refine ⟨⟨by rw [bvs_length, hlen, Nat.mul_one], .inr ⟨g, c, _, rfl, Nat.zero_le _, setRow_heap w g cur _ 5 _ hgb, h1, h2, ?_, ?_⟩⟩, h.2⟩
          · simp [bvs_length]
            omega
          · have hd : cur.toList.take bs.length = bvs bs := by simpa using h4
            obtain ⟨r, hr⟩ : ∃ r, cur.toList = bvs bs ++ r := ⟨cur.toList.drop bs.length, by rw [← hd, List.take_append_drop]⟩
            show List.take (bs.length * 1) (cur.toList.take off ++ bvs xs ++ cur.toList.drop (off + (bvs xs).length)) = _
            have t1 : List.take off (bvs bs ++ r) = List.take off (bvs bs) := List.take_append_of_le_length (by rw [bvs_length]; omega)
            have t2 : List.drop (off + (bvs xs).length) (bvs bs ++ r) = List.drop (off + (bvs xs).length) (bvs bs) ++ r := List.drop_append_of_le_length (by rw [bvs_length, bvs_length]; omega)
            rw [hr, t1, t2, ← List.append_assoc, Nat.mul_one]
            have e : bvs (bs.take off ++ xs ++ bs.drop (off + xs.length)) = List.take off (bvs bs) ++ bvs xs ++ List.drop (off + (bvs xs).length) (bvs bs) := by
              rw [bvs_append, bvs_append, bvs_take, bvs_drop, bvs_length]
            rw [e]
            exact List.take_left' (by rw [← e, bvs_length, hlen])

theorem ranges_keep {b r n cnt : Nat} {D : DataW Value} {left : Lit → Bool} (h : w.ranges Try.prog 9 rHeld b r n D left cnt) (hk : Kept S w w') (hb : ¬ S b) (hr : ¬ S r) : w'.ranges Try.prog 9 rHeld b r n D left cnt := by
  have h1 := h.owns.lt
  have h2 := h.lt
  obtain ⟨es, clock, since, seen, c0, hb', F, hs, hD, hr', rest⟩ := h
  exact ⟨es, clock, since, seen, c0, (hk.block b h1 hb).trans hb', F, hs, hD, (hk.block r h2 hr).trans hr', rest⟩
end

/-- The map of what is left: each name's row lies in a block of its own. -/
structure LeftAt (w : World) (lt : Nat → Option (List UInt8)) (ml n : Nat) (lf : List UInt8 → Option (List UInt8)) (vals : List UInt8 → Value) : Prop where
  own : lt ml = none
  old : ∀ k, lt k ≠ none → k < w.heap.size
  map : VMap w ml n (fun nm => (lf nm).map fun _ => vals nm)
  rows : ∀ nm d, lf nm = some d → OB w (fun k => lt k = some nm) (vals nm) d

section
variable {w w' : World} {lt : Nat → Option (List UInt8)} {ml n : Nat} {lf : List UInt8 → Option (List UInt8)} {vals : List UInt8 → Value} {S : Nat → Prop}
theorem LeftAt.keep (h : LeftAt w lt ml n lf vals) (hk : Kept S w w') (hm : ¬ S ml) (hd : ∀ k, S k → lt k = none) : LeftAt w' lt ml n lf vals :=
  ⟨h.own, fun k q => Nat.lt_of_lt_of_le (h.old k q) hk.size, h.map.keep hk hm, fun nm d hl => (h.rows nm d hl).keep hk (fun k _ q s => by rw [hd k s] at q; cases q)⟩
/-- A name's row is another one: its blocks are of that name, behind the change. -/
theorem LeftAt.set (h : LeftAt w lt ml n lf vals) (nm : ByteArray) {w1 w2 : World} {lt' : Nat → Option (List UInt8)} {v : Value} {d : List UInt8} (hk : Kept (fun k => lt k = some nm.toList) w w1) (hlt : ∀ k, lt k ≠ none → lt' k = lt k) (ho : ∀ k, lt' k ≠ none → k < w1.heap.size) (hml : lt' ml = none)
    (hown : OB w1 (fun k => lt' k = some nm.toList) v d) (k2 : Kept (· = ml) w1 w2) (hv : VMap w2 ml (n + 1) (fun k => if k = nm.toList then some v else (lf k).map fun _ => vals k)) :
    LeftAt w2 lt' ml (n + 1) (fun k => if k = nm.toList then some d else lf k) (fun k => if k = nm.toList then v else vals k) := by
  refine ⟨hml, fun k q => Nat.lt_of_lt_of_le (ho k q) k2.size, ?_, fun k e he => ?_⟩
  · have e : (fun k => (if k = nm.toList then some d else lf k).map fun _ => (if k = nm.toList then v else vals k)) = fun k => if k = nm.toList then some v else (lf k).map fun _ => vals k := by
      funext k
      by_cases q : k = nm.toList
      · simp [q]
      · simp [q]
    rw [e]
    exact hv
  · by_cases q : k = nm.toList
    · simp only [if_pos q, Option.some.injEq] at he ⊢
      subst he q
      exact hown.keep k2 (fun j _ a b => by rw [b, hml] at a; cases a)
    · simp only [if_neg q] at he ⊢
      have h1 := (h.rows k e he).keep hk (fun j _ a b => q (by rw [b] at a; injection a with a; exact a.symm))
      have h2 := h1.mono (G := fun j => lt' j = some k) (fun j _ a => (hlt j (by rw [a]; simp)).trans a)
      exact h2.keep k2 (fun j _ a b => by rw [b, hml] at a; cases a)
end

end Go.Proofs.Ytnlmkfncdklcdaa
