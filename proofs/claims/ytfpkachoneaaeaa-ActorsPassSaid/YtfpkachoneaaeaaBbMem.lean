/-
  Memory of the actors: a segment of a row of values; a map from ints to blocks.
-/
import Derived.Test.YtfpkachoneaaeaaMem
import Derived.MapKept
set_option linter.unusedSimpArgs false
set_option linter.unusedVariables false
namespace Go.Proofs.Ytfpkachoneaaeaa
open Go.RowKit

section
variable {P : Program} (w : World)
theorem run_append_roomV (t ty e : TypeId) (i : TypeInfo) (ht : P.underlying t = some (.slice e)) (hi : P.info? e = some i)
    (g o sLen sCap : Nat) (cur : Array Value) (hg : w.heap[g]? = some (.cells cur e (0, 0)))
    (a : Addr) (m c : Nat) (news : List Value) (hl : news.length = m * i.size) (hnews : ∀ j u, news[j]? = some u → w.cell? (a.add j) = some u) (h1 : ∀ u ∈ news, u.oneCell' = true)
    (hroom : sLen + m ≤ sCap) (hfit : o + sLen * i.size + news.length ≤ cur.size) :
    (Builtin.append_ #[t, t] ty #[.slice (some ⟨g, o, none⟩) sLen sCap, .slice (some a) m c]).run P w =
      .ok (.slice (some ⟨g, o, none⟩) (sLen + m) sCap) (w.setRow g (cur.toList.take (o + sLen * i.size) ++ news ++ cur.toList.drop (o + sLen * i.size + news.length)).toArray) := by
  have hf := run_firstCells_some (P := P) w i.size m a m c news hl hnews
  have hst := run_storeCells_at P g (o + sLen * i.size) e news 0 cur w hg (by simpa using hfit) h1
  simp only [Nat.add_zero] at hst
  simp [Builtin.append_, run_underlying ht, sizeOf, typeInfo, hi, Builtin.lenOf, hroom, hf, Addr.add_lit, hst]
end

/-- The slice is a segment of a row; its block is one of F. -/
def SegV (w : World) (F : Nat → Prop) (e : TypeId) (sz : Nat) (A : Option Addr) (n c : Nat) (xs : List Value) : Prop :=
  xs.length = n * sz ∧ ((n = 0 ∧ c = 0) ∨ ∃ g o cur, A = some ⟨g, o, none⟩ ∧ F g ∧ Blk w g e cur ∧ n ≤ c ∧ c ≤ maxLen ∧ o + c * sz ≤ cur.size ∧ (cur.toList.drop o).take (n * sz) = xs)
section
variable {P : Program} {w w' : World} {F G S : Nat → Prop} {A B : Option Addr} {n c d m sz bytes : Nat} {xs ys : List Value} {t e : TypeId} {z : Value}

theorem SegV.nil (w : World) (F : Nat → Prop) (e : TypeId) (sz : Nat) : SegV w F e sz none 0 0 [] := ⟨by simp, .inl ⟨rfl, rfl⟩⟩
theorem SegV.cap (h : SegV w F e sz A n c xs) : n ≤ c := by
  rcases h.2 with ⟨h1, h2⟩ | ⟨g, o, cur, _, _, _, h, _⟩ <;> omega
theorem SegV.rd (h : SegV w F e sz A n c xs) : Rd w F A xs := by
  obtain ⟨hn, h⟩ := h
  rcases h with ⟨h1, _⟩ | ⟨g, o, cur, rfl, hF, hb, hc, _, ho, hd⟩
  · subst h1
    have : xs = [] := List.length_eq_zero_iff.1 (by simpa using hn)
    subst this
    exact .inl rfl
  · refine .inr ⟨g, o, rfl, hF, fun j u hu => ?_⟩
    rw [hb.cell, ← Array.getElem?_toList]
    rw [← hd, List.getElem?_take] at hu
    split at hu
    · rw [List.getElem?_drop] at hu
      exact hu
    · cases hu
theorem SegV.keep (h : SegV w F e sz A n c xs) (hk : Kept S w w') (hd : ∀ k, k < w.heap.size → F k → S k → False) : SegV w' F e sz A n c xs := by
  refine ⟨h.1, ?_⟩
  rcases h.2 with h | ⟨g, o, cur, hA, hF, hb, h⟩
  · exact .inl h
  · exact .inr ⟨g, o, cur, hA, hF, hb.keep hk (fun q => hd g hb.lt hF q), h⟩
theorem SegV.mono (h : SegV w F e sz A n c xs) (hF : ∀ k, k < w.heap.size → F k → G k) : SegV w G e sz A n c xs := by
  refine ⟨h.1, ?_⟩
  rcases h.2 with h | ⟨g, o, cur, hA, hf, hb, h⟩
  · exact .inl h
  · exact .inr ⟨g, o, cur, hA, hF g hb.lt hf, hb, h⟩
/-- The first element is cut off. -/
theorem SegV.tail (h : SegV w F e sz A n c xs) (hn : 0 < n) : SegV w F e sz (if c = 1 then A else A.map (·.add sz)) (n - 1) (c - 1) (xs.drop sz) := by
  obtain ⟨hl, h⟩ := h
  have hm : (n - 1) * sz = n * sz - sz := by rw [Nat.sub_mul, Nat.one_mul]
  have hge : sz ≤ n * sz := Nat.le_mul_of_pos_left _ hn
  refine ⟨by rw [List.length_drop, hl, hm], ?_⟩
  rcases h with ⟨h1, _⟩ | ⟨g, o, cur, rfl, hF, hb, hc, hmx, ho, hd⟩
  · omega
  · by_cases hck : c = 1
    · rw [if_pos hck]
      have hn1 : n = 1 := by omega
      subst hn1
      refine .inr ⟨g, o, cur, rfl, hF, hb, by omega, by omega, by simp [hck]; rw [hck] at ho; omega, ?_⟩
      have hx : xs.drop sz = [] := List.drop_eq_nil_of_le (by rw [hl, Nat.one_mul]; exact Nat.le_refl _)
      rw [hx]
      simp
    · rw [if_neg hck]
      have hcm : (c - 1) * sz = c * sz - sz := by rw [Nat.sub_mul, Nat.one_mul]
      have hcge : n * sz ≤ c * sz := Nat.mul_le_mul_right _ hc
      refine .inr ⟨g, o + sz, cur, by simp [Addr.add_lit], hF, hb, by omega, by omega, by rw [hcm]; omega, ?_⟩
      rw [hm, ← hd, List.drop_take, List.drop_drop]
theorem SegV.append (ty : TypeId) (ht : P.underlying t = some (.slice e)) (hinfo : (P.info? e).map (fun i => (i.zero, i.size, i.bytes)) = some (some z, sz, bytes)) (hzs : z.cells.size = sz) (hsz : 0 < sz)
    (h : SegV w F e sz A n c xs) (hx : Rd w G B ys) (hy : ys.length = m * sz) (h1 : ∀ u ∈ ys, u.oneCell' = true) (hl : n + m ≤ maxLen) (hby : (n + m) * bytes ≤ 140737488355328) (hF : F w.heap.size) (d : Nat) :
    ∃ A' c' w', (Builtin.append_ #[t, t] ty #[.slice A n c, .slice B m d]).run P w = .ok (.slice A' (n + m) c') w' ∧ SegV w' F e sz A' (n + m) c' (xs ++ ys) ∧ Kept F w w' := by
  obtain ⟨i0, hi, hz0, hz1, hz2⟩ := info_parts hinfo
  obtain ⟨hn, h⟩ := h
  rcases h with ⟨rfl, rfl⟩ | ⟨g, o, cur, rfl, hFg, hb, hc, hm, ho, hd⟩
  · have : xs = [] := List.length_eq_zero_iff.1 (by simpa using hn)
    subst this
    rcases A with _ | ad0
    · obtain ⟨v', w', hrun, o2, k2⟩ := run_append_Own (P := P) w t ty e i0 z sz bytes ht hi hz0 hz1 hz2 hzs hsz F G _ 0 [] (Own.nil _ _ _ _) B m d ys hy hx h1 hl hby
      obtain ⟨A', c', rfl, _⟩ := Own.form o2
      refine ⟨A', c', w', hrun, ⟨by simpa using hy, ?_⟩, k2.mono (fun k _ q => by simp [ownS, Value.ownBlock] at q)⟩
      rw [List.nil_append, Nat.zero_add] at o2 ⊢
      rcases o2.1.2 with ⟨e1, h0⟩ | ⟨g, cap, cur, e1, _, hgb, h2, h3, h4, h5⟩
      · injection e1 with e2 e3 e4
        exact .inl ⟨e3, e4⟩
      · injection e1 with e2 e3 e4
        subst e2 e4
        exact .inr ⟨g, 0, cur, rfl, (o2.2 g rfl).elim id (fun q => q ▸ hF), hgb, h2, h3, by omega, by simpa using h5⟩
    · by_cases hm0 : m = 0
      · subst hm0
        have hy0 : ys = [] := List.length_eq_zero_iff.1 (by simpa using hy)
        subst hy0
        refine ⟨some ad0, 0, w, ?_, ⟨by simp, .inl ⟨rfl, rfl⟩⟩, Kept.refl _ _⟩
        rcases B with _ | ad
        · simp [Builtin.append_, run_underlying ht, sizeOf, typeInfo, hi, Builtin.lenOf, Builtin.firstCells, storeCells]
        · have hf := run_firstCells_some (P := P) w i0.size 0 ad 0 d [] (by simp) (by simp)
          simp [Builtin.append_, run_underlying ht, sizeOf, typeInfo, hi, Builtin.lenOf, hf, storeCells]
      · rcases B with _ | ad
        · exfalso
          rcases hx with h | ⟨g, o, h, _⟩
          · rw [h] at hy
            rcases Nat.mul_eq_zero.1 hy.symm with q | q <;> omega
          · cases h
        · have hcells : ∀ j u, ys[j]? = some u → w.cell? (ad.add j) = some u := fun j u hu => by
            rcases hx with h | ⟨g', o', h, _, h2⟩
            · subst h; simp at hu
            · cases h
              rw [Addr.add_lit]
              exact h2 j u hu
          have hr := run_append_grow (P := P) w t ty e i0 z ht hi hz0 ad0 0 0 [] (by simp) (by simp) ad m d ys (by rw [hz1]; exact hy) hcells (by omega) (by simp [maxLen] at hl; omega) (growslice_fits (by omega) (by rw [hz2]; exact hby))
          have hge := grownCap_ge w (0 + m) 0 e
          refine ⟨_, _, _, hr, ⟨by rw [List.nil_append, hy, Nat.zero_add], .inr ⟨w.heap.size, 0, _, rfl, hF, heap_alloc_new w.drew _, hge, grownCap_le_maxLen w _ _ _ hl, ?_, ?_⟩⟩, ⟨rfl, rfl, rfl, by simp, fun k hk _ => Below.heap_alloc w.drew _ k hk⟩⟩
          · simp only [Array.size_append, List.size_toArray, List.length_nil, size_zeroCells, hzs, hy]
            simp only [Nat.zero_add] at hge ⊢
            have : grownCap w m 0 e * sz = m * sz + (grownCap w m 0 e - m) * sz := by
              rw [← Nat.add_mul]
              congr 1
              omega
            exact Nat.le_of_eq this
          · rw [List.drop_zero, List.nil_append]
            simp only [Array.toList_append, List.nil_append]
            exact List.take_left' (by rw [hy, Nat.zero_add])
  · rcases B with _ | ad
    · have hx0 : ys = [] := by
        rcases hx with h | ⟨g, o, h, _⟩
        · exact h
        · cases h
      subst hx0
      have hm0 : m = 0 := by
        rcases Nat.mul_eq_zero.1 hy.symm with h | h
        · exact h
        · omega
      subst hm0
      refine ⟨some ⟨g, o, none⟩, c, w, ?_, ⟨by simpa using hn, .inr ⟨g, o, cur, rfl, hFg, hb, hc, hm, ho, by simpa using hd⟩⟩, Kept.refl _ _⟩
      simp [Builtin.append_, run_underlying ht, sizeOf, typeInfo, hi, Builtin.lenOf, Builtin.firstCells, hc, storeCells]
    · have hcells : ∀ j u, ys[j]? = some u → w.cell? (ad.add j) = some u := fun j u hu => by
        rcases hx with h | ⟨g', o', h, _, h2⟩
        · subst h; simp at hu
        · cases h
          rw [Addr.add_lit]
          exact h2 j u hu
      by_cases hroom : n + m ≤ c
      · have hnm : (n + m) * sz = n * sz + m * sz := Nat.add_mul _ _ _
        have hle : (n + m) * sz ≤ c * sz := Nat.mul_le_mul_right _ hroom
        have hr := run_append_roomV (P := P) w t ty e i0 ht hi g o n c cur hb ad m d ys (by rw [hz1]; exact hy) hcells h1 hroom (by rw [hz1, hy]; omega)
        refine ⟨_, c, _, hr, ⟨by rw [List.length_append, hn, hy, hnm], .inr ⟨g, o, _, rfl, hFg, setRow_heap w g cur _ e _ hb, hroom, hm, ?_, ?_⟩⟩, ⟨rfl, rfl, rfl, by simp, fun k hk hk' => setRow_other w g k _ (fun e => hk' (by rw [e]; exact hFg))⟩⟩
        · rw [hz1]
          simp [hy]
          omega
        · rw [hz1]
          have hlt : o + n * sz ≤ cur.toList.length := by rw [Array.length_toList]; omega
          have h2 : (List.take (o + n * sz) cur.toList ++ ys ++ List.drop (o + n * sz + ys.length) cur.toList).drop o = xs ++ ys ++ List.drop (o + n * sz + ys.length) cur.toList := by
            rw [List.append_assoc, List.drop_append_of_le_length (by rw [List.length_take]; omega), List.drop_take, Nat.add_sub_cancel_left, hd, List.append_assoc]
          show List.take ((n + m) * sz) (List.drop o (List.take (o + n * sz) cur.toList ++ ys ++ List.drop (o + n * sz + ys.length) cur.toList)) = _
          rw [h2]
          exact List.take_left' (by rw [List.length_append, hn, hy, hnm])
      · have hold : ∀ j v, xs[j]? = some v → w.cell? ((⟨g, o, none⟩ : Addr).add j) = some v := by
          intro j v hv
          rcases SegV.rd (F := fun _ => True) ⟨hn, .inr ⟨g, o, cur, rfl, trivial, hb, hc, hm, ho, hd⟩⟩ with h | ⟨g', o', h, _, h2⟩
          · subst h; simp at hv
          · cases h
            rw [Addr.add_lit]
            exact h2 j v hv
        have hr := run_append_grow (P := P) w t ty e i0 z ht hi hz0 ⟨g, o, none⟩ n c xs (by rw [hz1, hn]) hold ad m d ys (by rw [hz1]; exact hy) hcells (by omega) (by simp [maxLen] at hl; omega) (growslice_fits (by omega) (by rw [hz2]; exact hby))
        have hge := grownCap_ge w (n + m) c e
        have hnm : (n + m) * sz = n * sz + m * sz := Nat.add_mul _ _ _
        refine ⟨_, _, _, hr, ⟨by rw [List.length_append, hn, hy, hnm], .inr ⟨w.heap.size, 0, _, rfl, hF, heap_alloc_new w.drew _, hge, grownCap_le_maxLen w _ _ _ hl, ?_, ?_⟩⟩, ⟨rfl, rfl, rfl, by simp, fun k hk _ => Below.heap_alloc w.drew _ k hk⟩⟩
        · simp only [Array.size_append, List.size_toArray, size_zeroCells, hzs, hn, hy]
          rw [Nat.zero_add, ← hnm, ← Nat.add_mul]
          exact Nat.mul_le_mul_right _ (by omega)
        · rw [List.drop_zero]
          simp only [Array.toList_append]
          exact List.take_left' (by rw [List.length_append, hn, hy, hnm])
end

/-! ## The map -/
def ptr (b : Nat) : Value := .pointer (some ⟨b, 0, none⟩)
def IMap (w : World) (mp : Nat) (l : List (Int × Nat)) : Prop :=
  ∃ es clock, w.heap[mp]? = some (.map es clock) ∧ MapKept.Stamped es clock ∧ es.toList.map (fun e => (e.key, e.val)) = l.map (fun p => (Value.int .i64 p.1, ptr p.2))
section
variable {P : Program} {w w' : World} {S : Nat → Prop} {mp : Nat} {l : List (Int × Nat)} {mt kt et : TypeId}
theorem nodup_assoc : ∀ {l : List (Int × Nat)} (_ : (l.map (·.1)).Nodup) {i : Int} {b c : Nat}, (i, b) ∈ l → (i, c) ∈ l → b = c
  | [], _, _, _, _, h, _ => by cases h
  | p :: l, hn, i, b, c, h1, h2 => by
    rw [List.map_cons, List.nodup_cons] at hn
    rcases List.mem_cons.1 h1 with e1 | e1 <;> rcases List.mem_cons.1 h2 with e2 | e2
    · rw [← e1] at e2; exact (Prod.mk.inj e2).2.symm
    · exact absurd (List.mem_map.2 ⟨_, e2, by rw [← e1]⟩) hn.1
    · exact absurd (List.mem_map.2 ⟨_, e1, by rw [← e2]⟩) hn.1
    · exact nodup_assoc hn.2 e1 e2
theorem IMap.lt (h : IMap w mp l) : mp < w.heap.size := by
  obtain ⟨es, clock, h, _⟩ := h
  exact (Array.getElem?_eq_some_iff.1 h).1
theorem IMap.keep (h : IMap w mp l) (hk : Kept S w w') (hn : ¬ S mp) : IMap w' mp l := by
  have hl := h.lt
  obtain ⟨es, clock, h1, h2⟩ := h
  exact ⟨es, clock, by rw [hk.block mp hl hn]; exact h1, h2⟩
theorem IMap.made (w : World) : IMap (w.alloc (.map #[] 0)) w.heap.size [] := ⟨#[], 0, heap_alloc_new _ _, MapKept.stamped_empty 0, rfl⟩
theorem IMap.nodup (h : IMap w mp l) : (l.map (·.1)).Nodup := by
  obtain ⟨es, clock, _, ⟨_, _, h2⟩, h3⟩ := h
  have e : es.toList.map (·.key) = (l.map (·.1)).map (Value.int .i64) := by
    have := congrArg (List.map Prod.fst) h3
    simpa [Function.comp_def] using this
  rw [e] at h2
  rw [List.Nodup, List.pairwise_map] at h2
  exact h2.imp fun hn e => hn (by rw [e])
theorem IMap.keys (h : IMap w mp l) {es : Array MapEntry} {clock : Nat} (hb : w.heap[mp]? = some (.map es clock)) : ∀ x ∈ es.toList, MapKept.IsKey (.int .i64) x.key := by
  obtain ⟨es', clock', hb', _, h3⟩ := h
  rw [hb] at hb'
  cases hb'
  intro x hx
  have : (x.key, x.val) ∈ es.toList.map (fun e => (e.key, e.val)) := List.mem_map.2 ⟨x, hx, rfl⟩
  rw [h3] at this
  obtain ⟨p, _, e⟩ := List.mem_map.1 this
  rw [← (Prod.mk.inj e).1]
  exact rfl
theorem IMap.look_hit (ht : P.underlying mt = some (.map kt et)) (hk : P.underlying kt = some (.int .i64)) (h : IMap w mp l) {i : Int} {b : Nat} (hm : (i, b) ∈ l) :
    (Instr.lookup mt (.map (some mp)) (.int .i64 i) false).run P w = .ok (ptr b) w := by
  have hnd := h.nodup
  have hh := h
  obtain ⟨es, clock, hb, hs, h3⟩ := hh
  have hks := h.keys hb
  have hkey : MapKept.IsKey (.int .i64) (.int .i64 i) := rfl
  have hfind : ∃ j, Instr.findNow (.int .i64) (.int .i64 i) es.toList 0 = some (some (j, ptr b)) := by
    rcases MapKept.findNow_spec hkey es.toList 0 hks with ⟨_, h2⟩ | ⟨j, e, h1, h2, he⟩
    · exfalso
      have : (Value.int .i64 i, ptr b) ∈ l.map (fun p => (Value.int .i64 p.1, ptr p.2)) := List.mem_map.2 ⟨_, hm, rfl⟩
      rw [← h3] at this
      obtain ⟨x, hx, ex⟩ := List.mem_map.1 this
      simp only [Prod.mk.injEq] at ex
      exact h2 x hx ex.1
    · refine ⟨0 + j, ?_⟩
      rw [h1]
      have : (es.toList.map (fun e => (e.key, e.val)))[j]? = some (e.key, e.val) := by rw [List.getElem?_map, h2]; rfl
      rw [h3, List.getElem?_map] at this
      obtain ⟨p, hp, ep⟩ := Option.map_eq_some_iff.1 this
      simp only [Prod.mk.injEq] at ep
      rw [he] at ep
      have hpi : p.1 = i := by have := ep.1; injection this
      have hpm : p ∈ l := List.mem_of_getElem? hp
      have : p.2 = b := nodup_assoc hnd (by rw [← hpi]; exact hpm) hm
      rw [← ep.2, this]
  obtain ⟨j, hj⟩ := hfind
  simp [Instr.lookup, run_underlying ht, MapKept.run_getObj_map hb, MapKept.run_checkKey hk hkey, MapKept.run_findKey hk hj, Result.andThen]
theorem IMap.find_miss (h : IMap w mp l) {es : Array MapEntry} {clock : Nat} (hb : w.heap[mp]? = some (.map es clock)) {i : Int} (hm : ∀ p ∈ l, p.1 ≠ i) : Instr.findNow (.int .i64) (.int .i64 i) es.toList 0 = some none ∧ ∀ x ∈ es.toList, x.key ≠ .int .i64 i := by
  have hks := h.keys hb
  obtain ⟨es', clock', hb', hs, h3⟩ := h
  rw [hb] at hb'
  cases hb'
  have hkey : MapKept.IsKey (.int .i64) (.int .i64 i) := rfl
  have hno : ∀ x ∈ es.toList, x.key ≠ .int .i64 i := by
    intro x hx e
    have : (x.key, x.val) ∈ es.toList.map (fun e => (e.key, e.val)) := List.mem_map.2 ⟨x, hx, rfl⟩
    rw [h3] at this
    obtain ⟨p, hp, ep⟩ := List.mem_map.1 this
    simp only [Prod.mk.injEq, e, Value.int.injEq, true_and] at ep
    exact hm p hp ep.1
  rcases MapKept.findNow_spec hkey es.toList 0 hks with ⟨h1, _⟩ | ⟨j, e, h1, h2, he⟩
  · exact ⟨h1, hno⟩
  · exact absurd he (hno e (List.mem_of_getElem? h2))
theorem IMap.look_miss (ht : P.underlying mt = some (.map kt et)) (hk : P.underlying kt = some (.int .i64)) (hz : (zeroValue et).run P w = .ok (.pointer none) w) (h : IMap w mp l) {i : Int} (hm : ∀ p ∈ l, p.1 ≠ i) :
    (Instr.lookup mt (.map (some mp)) (.int .i64 i) false).run P w = .ok (.pointer none) w := by
  have hh := h
  obtain ⟨es, clock, hb, hs, h3⟩ := hh
  have hkey : MapKept.IsKey (.int .i64) (.int .i64 i) := rfl
  have hj := (h.find_miss hb hm).1
  simp [Instr.lookup, run_underlying ht, MapKept.run_getObj_map hb, MapKept.run_checkKey hk hkey, MapKept.run_findKey hk hj, Result.andThen, hz]
theorem IMap.put (ht : P.underlying mt = some (.map kt et)) (hk : P.underlying kt = some (.int .i64)) (h : IMap w mp l) {i : Int} (hm : ∀ p ∈ l, p.1 ≠ i) (b : Nat) :
    ∃ w', (Instr.mapUpdate mt (.map (some mp)) (.int .i64 i) (ptr b)).run P w = .ok () w' ∧ IMap w' mp (l ++ [(i, b)]) ∧ Kept (· = mp) w w' ∧ w'.heap.size = w.heap.size := by
  have hh := h
  obtain ⟨es, clock, hb, hs, h3⟩ := hh
  have hkey : MapKept.IsKey (.int .i64) (.int .i64 i) := rfl
  obtain ⟨hj, hno⟩ := h.find_miss hb hm
  refine ⟨{ w with heap := w.heap.setIfInBounds mp (.map (es.push { key := .int .i64 i, val := ptr b, born := clock }) (clock + 1)) }, ?_, ⟨_, _, (MapKept.heap_set hb).1, MapKept.stamped_push hs hno, ?_⟩, ⟨rfl, rfl, rfl, by simp, fun k _ hk => (MapKept.heap_set hb).2 k hk⟩, by simp⟩
  · simp [Instr.mapUpdate, run_underlying ht, MapKept.run_getObj_map hb, MapKept.run_checkKey hk hkey, MapKept.run_findKey hk hj, MapKept.run_setObj_map _ hb, Result.andThen]
  · simp [h3]
end
end Go.Proofs.Ytfpkachoneaaeaa
namespace Go.Proofs.Ytfpkachoneaaeaa
open Go.RowKit
theorem rdFresh (w : World) (xs : List Value) (t : TypeId) (fr : Nat × Nat) : Rd (w.alloc (.cells xs.toArray t fr)) (fun k => k = w.heap.size) (some ⟨w.heap.size, 0, none⟩) xs :=
  .inr ⟨_, 0, rfl, rfl, fun j u hj => by
    have hb := heap_alloc_new w (.cells xs.toArray t fr)
    unfold World.cell?
    dsimp only
    rw [hb, Nat.zero_add]
    simpa using hj⟩
theorem kset (w : World) (a : Addr) (v : Value) : Kept (· = a.block) w (w.setCell a v) := (Kept.refl (· = a.block) _).setCell (fun _ => rfl) v
theorem SegV.set_ {w : World} {F : Nat → Prop} {e : TypeId} {sz n c g o k : Nat} {xs : List Value} (h : SegV w F e sz (some ⟨g, o, none⟩) n c xs) (hk : k < n * sz) (v : Value) : SegV (w.setCell ⟨g, o + k, none⟩ v) F e sz (some ⟨g, o, none⟩) n c (xs.set k v) := by
  refine ⟨by rw [List.length_set]; exact h.1, ?_⟩
  rcases h.2 with ⟨h1, _⟩ | ⟨g', o', cur, hA, hF, hb, hc, hm, ho, hd⟩
  · rw [h1] at hk; omega
  · injection hA with hA
    injection hA with e1 e2
    subst e1 e2
    refine .inr ⟨g, o, _, rfl, hF, hb.set_ (o + k) v, hc, hm, by simpa using ho, ?_⟩
    rw [Array.toList_setIfInBounds, List.drop_set, if_neg (by omega), Nat.add_sub_cancel_left, List.take_set, hd]
theorem SegV.at_ {w : World} {F : Nat → Prop} {A : Option Addr} {e : TypeId} {sz n c : Nat} {xs : List Value} (h : SegV w F e sz A n c xs) (hn : 0 < n) : ∃ g o cur, A = some ⟨g, o, none⟩ ∧ F g ∧ g < w.heap.size ∧ Blk w g e cur ∧ o + n * sz ≤ cur.size ∧ ∀ j u, xs[j]? = some u → w.cell? ⟨g, o + j, none⟩ = some u := by
  have hr := h.rd
  rcases h.2 with ⟨h1, _⟩ | ⟨g, o, cur, rfl, hF, hb, hc, hm, ho, hd⟩
  · omega
  · have hle : n * sz ≤ c * sz := Nat.mul_le_mul_right _ hc
    refine ⟨g, o, cur, rfl, hF, hb.lt, hb, by omega, fun j u hj => ?_⟩
    rcases hr with q | ⟨g', o', e1, _, e3⟩
    · rw [q] at hj; simp at hj
    · injection e1 with e1
      injection e1 with e1 e2
      subst e1 e2
      exact e3 j u hj
end Go.Proofs.Ytfpkachoneaaeaa
