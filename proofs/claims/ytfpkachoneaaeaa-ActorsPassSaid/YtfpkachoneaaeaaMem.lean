/-
  append onto a row that is owned, from any slice that reads; octets as a string. Nothing of the program is in it.
-/
import Derived.Test.YtfpkachoneaaeaaBase
namespace Go.Proofs.Ytfpkachoneaaeaa
open Go.RowKit

section
variable {P : Program} (w : World)

theorem run_append_none (t ty e : TypeId) (i : TypeInfo) (size : Nat) (ht : P.underlying t = some (.slice e)) (hi : P.info? e = some i)
    (v : Value) (n : Nat) (xs : List Value) (hown : w.ownsRow 0 e size v n xs) (c : Nat) : (Builtin.append_ #[t, t] ty #[v, .slice none 0 c]).run P w = .ok v w := by
  rcases hown.2 with ⟨rfl, rfl⟩ | ⟨g, cap, cur, rfl, _, _, hnc, _⟩
  · simp [Builtin.append_, run_underlying ht, sizeOf, typeInfo, hi, Builtin.lenOf, Builtin.firstCells]
  · simp [Builtin.append_, run_underlying ht, sizeOf, typeInfo, hi, Builtin.lenOf, Builtin.firstCells, hnc, storeCells]

theorem run_append_Own (t ty e : TypeId) (i : TypeInfo) (z : Value) (size bytes : Nat) (ht : P.underlying t = some (.slice e)) (hi : P.info? e = some i) (hz : i.zero = some z)
    (hsize : i.size = size) (hby : i.bytes = bytes) (hzs : z.cells.size = size) (hsz : 0 < size)
    (F G : Nat → Prop) (v : Value) (n : Nat) (xs : List Value) (hown : Own w e size F v n xs)
    (A : Option Addr) (m c : Nat) (news : List Value) (hm : news.length = m * size) (hr : Rd w G A news) (h1 : ∀ u ∈ news, u.oneCell' = true)
    (h63 : n + m ≤ maxLen) (hbytes : (n + m) * bytes ≤ 140737488355328) :
    ∃ v' w', (Builtin.append_ #[t, t] ty #[v, .slice A m c]).run P w = .ok v' w' ∧ Own w' e size (fun k => F k ∨ k = w.heap.size) v' (n + m) (xs ++ news) ∧ Kept (ownS v) w w' := by
  rcases A with _ | ad
  · have hn : news = [] := by
      rcases hr with h | ⟨g, o, h, _⟩
      · exact h
      · cases h
    subst hn
    have hm0 : m = 0 := by
      rcases Nat.eq_zero_or_pos m with h0 | h0
      · exact h0
      · have := Nat.mul_pos h0 hsz
        simp at hm
        omega
    subst hm0
    refine ⟨v, w, run_append_none w t ty e i size ht hi v n xs hown.1 c, ?_, Kept.refl _ _⟩
    rw [Nat.add_zero, List.append_nil]
    exact hown.mono fun k _ h => .inl h
  · have hcells : ∀ j u, news[j]? = some u → w.cell? (ad.add j) = some u := by
      intro j u hu
      rcases hr with h | ⟨g, o, h, _, hc⟩
      · subst h; simp at hu
      · injection h with h
        subst h
        have := hc j u hu
        unfold Addr.add
        by_cases hj : j = 0
        · subst hj; simpa using this
        · simpa [hj] using this
    obtain ⟨v', w', hrun, h2, h3, _, h5⟩ := run_append_own_at (P := P) w 0 t ty e i z size bytes ht hi hz hsize hby hzs hsz v n xs hown.1 ad m c news hm hcells h1 h63 hbytes (Nat.zero_le _)
    refine ⟨v', w', hrun, ⟨h2, fun k hk => ?_⟩, (Kept.refl _ _).grown h3 fun k hk _ => hk⟩
    rcases h5 with h | h
    · rw [h] at hk; exact .inl (hown.2 k hk)
    · rw [h] at hk; injection hk with hk; exact .inr hk.symm

theorem wp_append_Own {o : Oper} {a : Act} {K : Act → World → Prop} {Q : Exit → Act → World → Prop} (s x : Operand) (t : TypeId)
    (ho : o.op = .call { callee := .builtin .append, args := #[s, x], argTypes := #[t, t] })
    (e : TypeId) (i : TypeInfo) (z : Value) (size bytes : Nat) (ht : P.underlying t = some (.slice e)) (hi : P.info? e = some i) (hz : i.zero = some z)
    (hsize : i.size = size) (hby : i.bytes = bytes) (hzs : z.cells.size = size) (hsz : 0 < size)
    (F G : Nat → Prop) (v : Value) (n : Nat) (xs : List Value) (hs : a.eval s = v) (hown : Own w e size F v n xs)
    (A : Option Addr) (m c : Nat) (news : List Value) (hx : a.eval x = .slice A m c) (hm : news.length = m * size) (hr : Rd w G A news) (h1 : ∀ u ∈ news, u.oneCell' = true)
    (h63 : n + m ≤ maxLen) (hbytes : (n + m) * bytes ≤ 140737488355328)
    (h : ∀ v' w', Own w' e size (fun k => F k ∨ k = w.heap.size) v' (n + m) (xs ++ news) → Kept (ownS v) w w' → K (a.put o.dst v') w') : o.wp P a w K Q := by
  obtain ⟨v', w', hrun, h2, h3⟩ := run_append_Own (P := P) w t o.type e i z size bytes ht hi hz hsize hby hzs hsz F G v n xs hown A m c news hm hr h1 h63 hbytes
  unfold Oper.wp execOp
  simp only [ho, resolve, invoke, builtin, Sem.run_bind, Sem.run_pure, Result.andThen_ok, List.map_toArray, List.map_cons, List.map_nil, hs, hx, hrun]
  exact h v' w' h2 h3

theorem wpList_append_Own {ops : Array Oper} {rest : List Oper} {o : Oper} {a : Act} {Q : Exit → Act → World → Prop} (hgd : o.guard = none) (s x : Operand) (t : TypeId)
    (ho : o.op = .call { callee := .builtin .append, args := #[s, x], argTypes := #[t, t] })
    (e : TypeId) (i : TypeInfo) (z : Value) (size bytes : Nat) (ht : P.underlying t = some (.slice e)) (hi : P.info? e = some i) (hz : i.zero = some z)
    (hsize : i.size = size) (hby : i.bytes = bytes) (hzs : z.cells.size = size) (hsz : 0 < size)
    (F G : Nat → Prop) (v : Value) (n : Nat) (xs : List Value) (hs : a.eval s = v) (hown : Own w e size F v n xs)
    (A : Option Addr) (m c : Nat) (news : List Value) (hx : a.eval x = .slice A m c) (hm : news.length = m * size) (hr : Rd w G A news) (h1 : ∀ u ∈ news, u.oneCell' = true)
    (h63 : n + m ≤ maxLen) (hbytes : (n + m) * bytes ≤ 140737488355328)
    (h : ∀ v' w', Own w' e size (fun k => F k ∨ k = w.heap.size) v' (n + m) (xs ++ news) → Kept (ownS v) w w' → wpList P ops Q rest (a.put o.dst v') w') : wpList P ops Q (o :: rest) a w :=
  wpList_plain hgd fun _ hK => wp_append_Own w s x t ho e i z size bytes ht hi hz hsize hby hzs hsz F G v n xs hs hown A m c news hx hm hr h1 h63 hbytes fun v' w' h2 h3 => hK _ _ (h v' w' h2 h3)

theorem step_append_Own {ops : Array Oper} {o : Oper} {a : Act} {K : Act → World → Prop} {Q : Exit → Act → World → Prop} {E : Prop} (hgd : o.guard = none) (s x : Operand) (t : TypeId)
    (ho : o.op = .call { callee := .builtin .append, args := #[s, x], argTypes := #[t, t] })
    (e : TypeId) (i : TypeInfo) (z : Value) (size bytes : Nat) (ht : P.underlying t = some (.slice e)) (hi : P.info? e = some i) (hz : i.zero = some z)
    (hsize : i.size = size) (hby : i.bytes = bytes) (hzs : z.cells.size = size) (hsz : 0 < size)
    (F G : Nat → Prop) (v : Value) (n : Nat) (xs : List Value) (hs : a.eval s = v) (hown : Own w e size F v n xs)
    (A : Option Addr) (m c : Nat) (news : List Value) (hx : a.eval x = .slice A m c) (hm : news.length = m * size) (hr : Rd w G A news) (h1 : ∀ u ∈ news, u.oneCell' = true)
    (h63 : n + m ≤ maxLen) (hbytes : (n + m) * bytes ≤ 140737488355328)
    (h : ∀ v' w', Own w' e size (fun k => F k ∨ k = w.heap.size) v' (n + m) (xs ++ news) → Kept (ownS v) w w' → K (a.put o.dst v') w') :
    if Region.wanted o (yielded ops a.tmps) = true then Oper.wp P o a w K Q else E := by
  rw [if_pos (by simp [Region.wanted, hgd])]
  exact wp_append_Own w s x t ho e i z size bytes ht hi hz hsize hby hzs hsz F G v n xs hs hown A m c news hx hm hr h1 h63 hbytes h

omit w in
theorem fold_push (bs : List UInt8) : ∀ s : ByteArray, (bs.map fun b => (b.toNat : Int)).foldl (fun r n => r.push (UInt8.ofNat n.toNat)) s = ⟨s.data ++ bs.toArray⟩ := by
  induction bs with
  | nil => intro s; simp
  | cons b r ih =>
    intro s
    rw [List.map_cons, List.foldl_cons, ih]
    simp [ByteArray.push]

theorem Rd.add {w : World} {F : Nat → Prop} {ad : Addr} {xs : List Value} (h : Rd w F (some ad) xs) {j : Nat} {u : Value} (hu : xs[j]? = some u) : w.cell? (ad.add j) = some u := by
  rcases h with h | ⟨g, o, h, _, hc⟩
  · subst h; simp at hu
  · injection h with h
    subst h
    have := hc j u hu
    unfold Addr.add
    by_cases hj : j = 0
    · subst hj; simpa using this
    · simpa [hj] using this

theorem run_slice_from (t e : TypeId) (ht : P.underlying t = some (.slice e)) {z : Value} {by_ : Nat} (hi : (P.info? e).map (fun i => (i.zero, i.size, i.bytes)) = some (some z, 1, by_)) (A : Option Addr) (n c k : Nat) (h1 : k ≤ n) (_h2 : n ≤ c) :
    (Instr.slice t (.slice A n c) (some (.int .i64 (k : Int))) none none).run P w = .ok (.slice (if c = k then A else A.map (·.add k)) (n - k) (c - k)) w := by
  obtain ⟨i, hi', _, hs, _⟩ := info_parts hi
  have h3 : (k : Int) ≤ (n : Int) := by omega
  simp [Instr.slice, run_underlying ht, Instr.sliceBounds, run_sliceBound, sizeOf, typeInfo, hi', hs, h3]

theorem run_isnil (t e : TypeId) (ht : P.underlying t = some (.slice e)) (A : Option Addr) (n c : Nat) : (binOp .eql t (.slice A n c) (.slice none 0 0)).run P w = .ok (.bool A.isNone) w := by
  have h : ∀ d : Nat, (Op.equalIn (d + 1) t (.slice A n c) (.slice none 0 0)).run P w = .ok A.isNone w := fun d => by
    cases A <;> simp [Op.equalIn, run_underlying ht]
  simp only [binOp]
  simp [Op.equal, Op.maxDepth, h 9999]
theorem run_notnil (t e : TypeId) (ht : P.underlying t = some (.slice e)) (A : Option Addr) (n c : Nat) : (binOp .neq t (.slice A n c) (.slice none 0 0)).run P w = .ok (.bool (!A.isNone)) w := by
  have h : ∀ d : Nat, (Op.equalIn (d + 1) t (.slice A n c) (.slice none 0 0)).run P w = .ok A.isNone w := fun d => by
    cases A <;> simp [Op.equalIn, run_underlying ht]
  simp only [binOp]
  simp [Op.equal, Op.maxDepth, h 9999]

/-- Octets of a slice as a string. -/
theorem run_string_of (src dst e : TypeId) (hs : P.underlying src = some (.slice e)) (he : P.underlying e = some (.int .u8)) (hd : P.underlying dst = some .string)
    (F : Nat → Prop) (A : Option Addr) (c : Nat) (bs : List UInt8) (h : RB w F A bs) : (convert src dst (.slice A bs.length c)).run P w = .ok (.string ⟨bs.toArray⟩) w := by
  rw [run_convert_bytes_string w src dst e A bs.length c hs he hd]
  rcases A with _ | ad
  · have hn : bs = [] := by
      rcases h with h | ⟨g, o, h, _⟩
      · have := congrArg List.length h
        rw [bvs_length] at this
        simpa using this
      · cases h
    subst hn
    rfl
  · have hl := run_loadCells_list (P := P) w ad (bvs bs) (fun j u hu => Rd.add h hu)
    rw [bvs_length] at hl
    have hl' : (loadCells ad bs.length).run P w = .ok ((bs.map fun b => (b.toNat : Int)).map (Value.int .u8)).toArray w := by
      rw [hl]
      simp [bvs]
    rw [run_bytesToString w ad bs.length c _ hl', fold_push bs]
    simp
end

end Go.Proofs.Ytfpkachoneaaeaa
