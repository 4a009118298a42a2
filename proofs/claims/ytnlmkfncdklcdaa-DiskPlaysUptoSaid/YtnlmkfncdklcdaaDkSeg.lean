/-
  A segment of an owned row of octets: what is left of a row that is cut in front and lengthened behind.
-/
import Derived.Test.YtnlmkfncdklcdaaByt
import Derived.Test.YtnlmkfncdklcdaaRows
namespace Go.Proofs.Ytnlmkfncdklcdaa
open Go.RowKit

/-- The builtin append, as a word that the walk does not open: a fact of the context says what it does (attribute [local go_sem ↓] append_as). -/
def appSem (ats : Array TypeId) (ty : TypeId) (args : Array Value) : Sem Value := Builtin.append_ ats ty args
theorem append_as (ats : Array TypeId) (ty : TypeId) (args : Array Value) : Builtin.append_ ats ty args = appSem ats ty args := rfl

section
variable {P : Program} (w : World)
theorem run_append_room_at (t ty e : TypeId) (i : TypeInfo) (ht : P.underlying t = some (.slice e)) (hi : P.info? e = some i)
    (g o sLen sCap : Nat) (cur : Array Value) (hg : w.heap[g]? = some (.cells cur e (0, 0)))
    (a : Addr) (m c : Nat) (news : List Value) (hl : news.length = m * i.size) (hnews : ∀ j u, news[j]? = some u → w.cell? (a.add j) = some u) (h1 : ∀ u ∈ news, u.oneCell' = true)
    (hroom : sLen + m ≤ sCap) (hfit : o + sLen * i.size + news.length ≤ cur.size) :
    (Builtin.append_ #[t, t] ty #[.slice (some ⟨g, o, none⟩) sLen sCap, .slice (some a) m c]).run P w =
      .ok (.slice (some ⟨g, o, none⟩) (sLen + m) sCap) (w.setRow g (cur.toList.take (o + sLen * i.size) ++ news ++ cur.toList.drop (o + sLen * i.size + news.length)).toArray) := by
  have hf := run_firstCells_some (P := P) w i.size m a m c news hl hnews
  have hst := run_storeCells_at P g (o + sLen * i.size) e news 0 cur w hg (by simpa using hfit) h1
  simp only [Nat.add_zero] at hst
  simp [Builtin.append_, run_underlying ht, sizeOf, typeInfo, hi, Builtin.lenOf, hroom, hf, Addr.add_lit, hst]
theorem run_append_room_none (t ty e : TypeId) (i : TypeInfo) (ht : P.underlying t = some (.slice e)) (hi : P.info? e = some i) (ad : Addr) (n cap c : Nat) (hnc : n ≤ cap) :
    (Builtin.append_ #[t, t] ty #[.slice (some ad) n cap, .slice none 0 c]).run P w = .ok (.slice (some ad) n cap) w := by
  simp [Builtin.append_, run_underlying ht, sizeOf, typeInfo, hi, Builtin.lenOf, Builtin.firstCells, hnc, storeCells]
end

/-- The slice is a segment of a row of its own; its block is one of F. -/
def Seg (w : World) (F : Nat → Prop) (A : Option Addr) (n c : Nat) (bs : List UInt8) : Prop :=
  n = bs.length ∧ ((A = none ∧ n = 0 ∧ c = 0) ∨ ∃ g o cur, A = some ⟨g, o, none⟩ ∧ F g ∧ Blk w g 5 cur ∧ n ≤ c ∧ c ≤ maxLen ∧ o + c ≤ cur.size ∧ (cur.toList.drop o).take n = bvs bs)
def segS (A : Option Addr) : Nat → Prop := fun k => ∃ o, A = some ⟨k, o, none⟩

section
variable {w w' : World} {F G S : Nat → Prop} {A B : Option Addr} {n c d : Nat} {bs xs : List UInt8}

theorem Seg.nil (w : World) (F : Nat → Prop) : Seg w F none 0 0 [] := ⟨rfl, .inl ⟨rfl, rfl, rfl⟩⟩
theorem Seg.len (h : Seg w F A n c bs) : n = bs.length := h.1
theorem Seg.cap (h : Seg w F A n c bs) : n ≤ c := by
  rcases h.2 with ⟨_, h1, h2⟩ | ⟨g, o, cur, _, _, _, h, _⟩ <;> omega
theorem Seg.rb (h : Seg w F A n c bs) : RB w F A bs := by
  obtain ⟨hn, h⟩ := h
  rcases h with ⟨_, h1, _⟩ | ⟨g, o, cur, rfl, hF, hb, hc, _, ho, hd⟩
  · subst h1
    have : bs = [] := List.length_eq_zero_iff.1 hn.symm
    subst this
    exact RB.nil _ _ _
  · refine .inr ⟨g, o, rfl, hF, fun j u hu => ?_⟩
    rw [hb.cell, ← Array.getElem?_toList]
    rw [← hd, List.getElem?_take] at hu
    split at hu
    · rw [List.getElem?_drop] at hu
      exact hu
    · cases hu
theorem Seg.keep (h : Seg w F A n c bs) (hk : Kept S w w') (hd : ∀ k, k < w.heap.size → F k → S k → False) : Seg w' F A n c bs := by
  refine ⟨h.1, ?_⟩
  rcases h.2 with h | ⟨g, o, cur, hA, hF, hb, h⟩
  · exact .inl h
  · exact .inr ⟨g, o, cur, hA, hF, hb.keep hk (fun q => hd g hb.lt hF q), h⟩
theorem Seg.mono (h : Seg w F A n c bs) (hF : ∀ k, k < w.heap.size → F k → G k) : Seg w G A n c bs := by
  refine ⟨h.1, ?_⟩
  rcases h.2 with h | ⟨g, o, cur, hA, hf, hb, h⟩
  · exact .inl h
  · exact .inr ⟨g, o, cur, hA, hF g hb.lt hf, hb, h⟩
theorem Seg.of_own (h : OB w F (.slice A n c) bs) : Seg w F A n c bs := by
  obtain ⟨hn, _⟩ := OB.rb h
  refine ⟨hn, ?_⟩
  rcases h.1.2 with ⟨e, h0⟩ | ⟨g, cap, cur, e, _, hgb, h1, h2, h3, h4⟩
  · injection e with e1 e2 e3
    exact .inl ⟨e1, e2, e3⟩
  · injection e with e1 e2 e3
    refine .inr ⟨g, 0, cur, e1, h.2 g (by rw [e1]; rfl), hgb, by omega, by omega, by omega, ?_⟩
    rw [List.drop_zero, hn]
    simpa using h4
theorem Seg.cut (h : Seg w F A n c bs) {k : Nat} (hk : k ≤ n) : Seg w F (if c = k then A else A.map (·.add k)) (n - k) (c - k) (bs.drop k) := by
  obtain ⟨hn, h⟩ := h
  refine ⟨by rw [List.length_drop]; omega, ?_⟩
  rcases h with ⟨rfl, h1, h2⟩ | ⟨g, o, cur, rfl, hF, hb, hc, hm, ho, hd⟩
  · exact .inl ⟨by split <;> rfl, by omega, by omega⟩
  · by_cases hck : c = k
    · rw [if_pos hck]
      refine .inr ⟨g, o, cur, rfl, hF, hb, by omega, by omega, by omega, ?_⟩
      have : bs.drop k = [] := List.drop_eq_nil_of_le (by omega)
      rw [this, show n - k = 0 by omega]
      rfl
    · rw [if_neg hck]
      refine .inr ⟨g, o + k, cur, by simp [Addr.add_lit], hF, hb, by omega, by omega, by omega, ?_⟩
      rw [bvs_drop, ← hd, List.drop_take, List.drop_drop]
theorem Seg.segS_lt (h : Seg w F A n c bs) {k : Nat} (hk : segS A k) : F k ∧ k < w.heap.size := by
  obtain ⟨o, rfl⟩ := hk
  rcases h.2 with ⟨e, _⟩ | ⟨g, o', cur, e, hF, hb, _⟩
  · cases e
  · injection e with e
    injection e with e1 e2
    subst e1
    exact ⟨hF, hb.lt⟩

theorem Seg.append (h : Seg w F A n c bs) (hx : RB w G B xs) (hl : bs.length + xs.length ≤ 140737488355328) (hF : F w.heap.size) (d : Nat) :
    ∃ A' c' w', (appSem #[34, 34] 34 #[.slice A n c, .slice B xs.length d]).run Try.prog w = .ok (.slice A' (n + xs.length) c') w' ∧ Seg w' F A' (n + xs.length) c' (bs ++ xs) ∧ Kept (segS A) w w' := by
  obtain ⟨i0, hi, hz0, hz1, hz2⟩ := info_parts infoU8
  obtain ⟨hn, h⟩ := h
  rcases h with ⟨rfl, rfl, rfl⟩ | ⟨g, o, cur, rfl, hFg, hb, hc, hm, ho, hd⟩
  · have : bs = [] := List.length_eq_zero_iff.1 hn.symm
    subst this
    obtain ⟨v', w', hrun, o2, k2⟩ := run_append_Own (P := Try.prog) w 34 34 5 i0 (.int .u8 0) 1 1 Try.underlying34 hi hz0 hz1 hz2 rfl (by decide) F G _ 0 [] (Own.nil _ _ _ _) B xs.length d (bvs xs) (by simp [bvs_length]) hx (bvs_one xs) (by simp [maxLen]; omega) (by omega)
    obtain ⟨A', c', rfl, _⟩ := Own.form o2
    refine ⟨A', c', w', hrun, ?_, k2.mono (fun k _ q => by simp [ownS, Value.ownBlock] at q)⟩
    rw [List.nil_append] at o2 ⊢
    rw [Nat.zero_add] at o2 ⊢
    exact Seg.of_own (o2.mono (fun k _ q => q.elim id (fun q => q ▸ hF)))
  · rcases B with _ | ad
    · have hx0 : xs = [] := by
        rcases hx with h | ⟨g, o, h, _⟩
        · simpa [bvs] using h
        · cases h
      subst hx0
      refine ⟨_, c, w, run_append_room_none w _ _ _ i0 Try.underlying34 hi _ n c d hc, ?_, Kept.refl _ _⟩
      rw [List.append_nil]
      exact ⟨hn, .inr ⟨g, o, cur, rfl, hFg, hb, hc, hm, ho, hd⟩⟩
    · have hcells : ∀ j u, (bvs xs)[j]? = some u → w.cell? (ad.add j) = some u := fun j u hu => Rd.add hx hu
      have hol : (bvs bs).length = n := by rw [bvs_length, hn]
      by_cases hroom : n + xs.length ≤ c
      · have hr := run_append_room_at (P := Try.prog) w 34 34 5 i0 Try.underlying34 hi g o n c cur hb ad xs.length d (bvs xs) (by rw [hz1, bvs_length, Nat.mul_one]) hcells (bvs_one xs) hroom (by rw [hz1, bvs_length]; omega)
        refine ⟨_, c, _, hr, ⟨by rw [List.length_append, hn], .inr ⟨g, o, _, rfl, hFg, setRow_heap w g cur _ 5 _ hb, hroom, hm, ?_, ?_⟩⟩, ⟨rfl, rfl, rfl, by simp, fun k _ hk => setRow_other w g k _ (fun e => hk ⟨o, by rw [e]⟩)⟩⟩
        · rw [hz1, Nat.mul_one]
          simp [bvs_length]
          omega
        · rw [hz1, Nat.mul_one]
          have hlt : o + n ≤ cur.toList.length := by rw [Array.length_toList]; omega
          have h1 : (List.take (o + n) cur.toList ++ bvs xs ++ List.drop (o + n + (bvs xs).length) cur.toList).drop o = bvs bs ++ bvs xs ++ List.drop (o + n + (bvs xs).length) cur.toList := by
            rw [List.append_assoc, List.drop_append_of_le_length (by rw [List.length_take]; omega), List.drop_take, Nat.add_sub_cancel_left, hd, List.append_assoc]
          show List.take (n + xs.length) (List.drop o (List.take (o + n) cur.toList ++ bvs xs ++ List.drop (o + n + (bvs xs).length) cur.toList)) = _
          rw [h1, bvs_append]
          exact List.take_left' (by rw [List.length_append, hol, bvs_length])
      · have hold : ∀ j v, (bvs bs)[j]? = some v → w.cell? ((⟨g, o, none⟩ : Addr).add j) = some v := by
          intro j v hv
          exact Rd.add (F := fun _ => True) (xs := bvs bs) (Seg.rb (F := fun _ => True) ⟨hn, .inr ⟨g, o, cur, rfl, trivial, hb, hc, hm, ho, hd⟩⟩) hv
        have hr := run_append_grow (P := Try.prog) w 34 34 5 i0 (.int .u8 0) Try.underlying34 hi hz0 ⟨g, o, none⟩ n c (bvs bs) (by rw [hz1, hol, Nat.mul_one]) hold ad xs.length d (bvs xs) (by rw [hz1, bvs_length, Nat.mul_one]) hcells (by omega) (by omega) (growslice_fits (by omega) (by rw [hz2]; omega))
        have hge := grownCap_ge w (n + xs.length) c 5
        refine ⟨_, _, _, hr, ⟨by rw [List.length_append, hn], .inr ⟨w.heap.size, 0, _, rfl, hF, heap_alloc_new w.drew _, hge, grownCap_le_maxLen w _ _ _ (by simp [maxLen]; omega), ?_, ?_⟩⟩, ⟨rfl, rfl, rfl, by simp, fun k hk _ => Below.heap_alloc w.drew _ k hk⟩⟩
        · simp only [Array.size_append, List.size_toArray, size_zeroCells, hol, bvs_length, Value.cells]
          simp
          omega
        · rw [List.drop_zero, bvs_append]
          simp only [Array.toList_append]
          exact List.take_left' (by rw [List.length_append, hol, bvs_length])
end

end Go.Proofs.Ytnlmkfncdklcdaa
