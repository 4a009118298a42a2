/-
  What is wrong first with a table, in plain words.
-/
import Derived.Test.YtdhaojicphhikaaTree
namespace Go.Proofs.Ytdhaojicphhikaa
open Go.RowKit

/-- The first number that is not 0. -/
def firstNZ : List Int → Int
  | [] => 0
  | x :: l => if x = 0 then firstNZ l else x

theorem firstNZ_at : ∀ (l : List Int) (j : Nat) (hj : j < l.length), (∀ k (h : k < j), l[k]'(by omega) = 0) → l[j] ≠ 0 → firstNZ l = l[j]
  | [], _, hj, _, _ => by simp at hj
  | x :: l, j, hj, h0, h1 => by
    rw [firstNZ]
    cases j with
    | zero =>
      have h2 : x ≠ 0 := h1
      rw [if_neg h2]
      rfl
    | succ j =>
      have h2 : x = 0 := h0 0 (by omega)
      rw [if_pos h2]
      exact firstNZ_at l j (by simpa using hj) (fun k h => h0 (k + 1) (by omega)) h1
theorem firstNZ_none : ∀ (l : List Int), (∀ k (h : k < l.length), l[k] = 0) → firstNZ l = 0
  | [], _ => rfl
  | x :: l, h0 => by
    have h2 : x = 0 := h0 0 (by simp)
    rw [firstNZ, if_pos h2]
    exact firstNZ_none l (fun k h => h0 (k + 1) (by simpa using h))

/-- The number is as its kind wants it. -/
def fitB (k n : Int) : Bool :=
  if k = 116 then n == 0 || n == 1
  else if k = 98 then decide (-128 ≤ n) && decide (n ≤ 127)
  else if k = 115 then decide (-32768 ≤ n) && decide (n ≤ 32767)
  else if k = 73 ∨ k = 68 then decide (-2147483648 ≤ n) && decide (n ≤ 2147483647)
  else decide (k = 108 ∨ k = 100 ∨ k = 84)

def numK (k : Int) : Bool := decide (k = 116 ∨ k = 98 ∨ k = 115 ∨ k = 73 ∨ k = 108 ∨ k = 100 ∨ k = 84)

/-- What is wrong with a value, if le is wrong with its list, te with its table. -/
def shapeE (k n : Int) (t : ByteArray) (ll tl : Nat) (le te : Int) : Int :=
  if numK k = true then (if fitB k n = true ∧ t.toList = [] ∧ ll = 0 ∧ tl = 0 then 0 else 32)
  else if k = 68 then (if fitB k n = true ∧ t.toList.length = 1 ∧ ll = 0 ∧ tl = 0 then 0 else 32)
  else if k = 83 ∨ k = 120 then (if n = 0 ∧ ll = 0 ∧ tl = 0 then (if 65535 < t.toList.length then 1 else 0) else 32)
  else if k = 86 then (if n = 0 ∧ t.toList = [] ∧ ll = 0 ∧ tl = 0 then 0 else 32)
  else if k = 65 then (if n = 0 ∧ t.toList = [] ∧ tl = 0 then le else 32)
  else if k = 70 then (if n = 0 ∧ t.toList = [] ∧ ll = 0 then te else 32)
  else 30

/-- A list that is the d-th in one another. -/
def listE (n : Nat) (es : List Int) (d : Int) : Int := if 4 < d then 8 else if 64 < n then 33 else firstNZ es

/-- What is wrong at each field, if es are wrong with the values. -/
def stepsE (seen : List (List UInt8)) : List ByteArray → List Int → List Int
  | nm :: ns, e :: es => (if nm.toList.length < 1 ∨ 128 < nm.toList.length then 31 else if nm.toList ∈ seen then 5 else e) :: stepsE (seen ++ [nm.toList]) ns es
  | _, _ => []
def tabE (names : List ByteArray) (es : List Int) (d : Int) : Int := if 4 < d then 8 else if 64 < names.length then 33 else firstNZ (stepsE [] names es)

theorem stepsE_len : ∀ (seen : List (List UInt8)) (ns : List ByteArray) (es : List Int), ns.length = es.length → (stepsE seen ns es).length = ns.length
  | _, [], _, _ => by simp [stepsE]
  | _, _ :: _, [], h => by simp at h
  | seen, nm :: ns, e :: es, h => by
    rw [stepsE, List.length_cons, stepsE_len _ ns es (by simpa using h), List.length_cons]
theorem stepsE_get : ∀ (seen : List (List UInt8)) (ns : List ByteArray) (es : List Int) (j : Nat) (h1 : j < ns.length) (h2 : j < es.length) (h3 : j < (stepsE seen ns es).length),
    (stepsE seen ns es)[j] = if (ns[j]).toList.length < 1 ∨ 128 < (ns[j]).toList.length then 31 else if (ns[j]).toList ∈ seen ++ (ns.take j).map (·.toList) then 5 else es[j]
  | _, [], _, _, h1, _, _ => by simp at h1
  | _, _ :: _, [], _, _, h2, _ => by simp at h2
  | seen, nm :: ns, e :: es, j, h1, h2, h3 => by
    cases j with
    | zero => simp [stepsE]
    | succ j =>
      have h := stepsE_get (seen ++ [nm.toList]) ns es j (by simpa using h1) (by simpa using h2) (by simpa [stepsE] using h3)
      simpa [stepsE] using h

mutual
def errV : FV → Int → Int
  | .mk k n t l tb, d => shapeE k n t l.length tb.length (listE l.length (errsVs l (d + 1)) (d + 1)) (tabE (tb.map FF.name) (errsFs tb (d + 1)) (d + 1))
def errsVs : List FV → Int → List Int
  | [], _ => []
  | v :: l, d => errV v d :: errsVs l d
def errsFs : List FF → Int → List Int
  | [], _ => []
  | f :: l, d => errF f d :: errsFs l d
def errF : FF → Int → Int
  | .mk _ v, d => errV v d
end
/-- What is wrong with a table that is the d-th in one another. -/
def errT (t : List FF) (d : Int) : Int := tabE (t.map FF.name) (errsFs t d) d
def errL (l : List FV) (d : Int) : Int := listE l.length (errsVs l d) d

theorem errV_eq (v : FV) (d : Int) : errV v d = shapeE v.kind v.num v.text v.list.length v.table.length (errL v.list (d + 1)) (errT v.table (d + 1)) := by
  obtain ⟨k, n, t, l, tb⟩ := v
  rw [errV]
  rfl
theorem errsVs_get : ∀ (l : List FV) (d : Int), (errsVs l d).length = l.length ∧ ∀ j (h : j < l.length) (h' : j < (errsVs l d).length), (errsVs l d)[j] = errV l[j] d
  | [], d => by rw [errsVs]; exact ⟨rfl, fun j h => by simp at h⟩
  | v :: l, d => by
    obtain ⟨i1, i2⟩ := errsVs_get l d
    rw [errsVs]
    refine ⟨by simp [i1], fun j h h' => ?_⟩
    cases j with
    | zero => rfl
    | succ j => exact i2 j (by simpa using h) (by simpa using h')
theorem errsFs_get : ∀ (l : List FF) (d : Int), (errsFs l d).length = l.length ∧ ∀ j (h : j < l.length) (h' : j < (errsFs l d).length), (errsFs l d)[j] = errV (l[j]).val d
  | [], d => by rw [errsFs]; exact ⟨rfl, fun j h => by simp at h⟩
  | ⟨n, v⟩ :: l, d => by
    obtain ⟨i1, i2⟩ := errsFs_get l d
    rw [errsFs, errF]
    refine ⟨by simp [i1], fun j h h' => ?_⟩
    cases j with
    | zero => rfl
    | succ j => exact i2 j (by simpa using h) (by simpa using h')

/-- The name stands in the table ahead of place j. -/
def seenB (t : List FF) (j : Nat) (nm : List UInt8) : Bool := (t.take j).any fun f => f.name.toList == nm

/-- What is wrong at field j. -/
def stepT (t : List FF) (d : Int) (j : Nat) (h : j < t.length) : Int :=
  if (t[j]).name.toList.length < 1 ∨ 128 < (t[j]).name.toList.length then 31 else if seenB t j (t[j]).name.toList = true then 5 else errV (t[j]).val d

theorem errT_deep {t : List FF} {d : Int} (h : 4 < d) : errT t d = 8 := by unfold errT tabE; rw [if_pos h]
theorem errT_many {t : List FF} {d : Int} (h : ¬ 4 < d) (h2 : 64 < t.length) : errT t d = 33 := by unfold errT tabE; rw [if_neg h, if_pos (by simpa using h2)]
theorem errL_deep {t : List FV} {d : Int} (h : 4 < d) : errL t d = 8 := by unfold errL listE; rw [if_pos h]
theorem errL_many {t : List FV} {d : Int} (h : ¬ 4 < d) (h2 : 64 < t.length) : errL t d = 33 := by unfold errL listE; rw [if_neg h, if_pos h2]

theorem stepT_get (t : List FF) (d : Int) (j : Nat) (h : j < t.length) (h' : j < (stepsE [] (t.map FF.name) (errsFs t d)).length) : (stepsE [] (t.map FF.name) (errsFs t d))[j] = stepT t d j h := by
  obtain ⟨i1, i2⟩ := errsFs_get t d
  rw [stepsE_get [] _ _ j (by simpa using h) (by omega), i2 j h (by omega)]
  unfold stepT
  have e : ((t.map FF.name)[j]'(by simpa using h)) = (t[j]).name := by simp
  rw [e]
  have hm : (t[j]).name.toList ∈ [] ++ ((t.map FF.name).take j).map (·.toList) ↔ seenB t j (t[j]).name.toList = true := by
    unfold seenB
    rw [List.nil_append, ← List.map_take, List.map_map, List.mem_map, List.any_eq_true]
    constructor
    · rintro ⟨x, hx, hy⟩
      exact ⟨x, hx, by simpa using hy⟩
    · rintro ⟨x, hx, hy⟩
      exact ⟨x, hx, by simpa using hy⟩
  by_cases hs : seenB t j (t[j]).name.toList = true
  · rw [if_pos (hm.2 hs), if_pos hs]
  · rw [if_neg (fun q => hs (hm.1 q)), if_neg hs]
theorem errT_at {t : List FF} {d : Int} (h : ¬ 4 < d) (h2 : ¬ 64 < t.length) {j : Nat} (hj : j < t.length) (h0 : ∀ k (_ : k < j) (hk : k < t.length), stepT t d k hk = 0) (h1 : stepT t d j hj ≠ 0) : errT t d = stepT t d j hj := by
  have hl : (stepsE [] (t.map FF.name) (errsFs t d)).length = t.length := by rw [stepsE_len _ _ _ (by simp [(errsFs_get t d).1])]; simp
  unfold errT tabE
  rw [if_neg h, if_neg (by simpa using h2), firstNZ_at _ j (by omega) (fun k hk => by rw [stepT_get t d k (by omega)]; exact h0 k hk (by omega)) (by rw [stepT_get t d j hj]; exact h1), stepT_get t d j hj]
theorem errT_none {t : List FF} {d : Int} (h : ¬ 4 < d) (h2 : ¬ 64 < t.length) (h0 : ∀ k (hk : k < t.length), stepT t d k hk = 0) : errT t d = 0 := by
  have hl : (stepsE [] (t.map FF.name) (errsFs t d)).length = t.length := by rw [stepsE_len _ _ _ (by simp [(errsFs_get t d).1])]; simp
  unfold errT tabE
  rw [if_neg h, if_neg (by simpa using h2)]
  exact firstNZ_none _ (fun k hk => by rw [stepT_get t d k (by omega)]; exact h0 k (by omega))
theorem errL_at {t : List FV} {d : Int} (h : ¬ 4 < d) (h2 : ¬ 64 < t.length) {j : Nat} (hj : j < t.length) (h0 : ∀ k (_ : k < j) (hk : k < t.length), errV t[k] d = 0) (h1 : errV t[j] d ≠ 0) : errL t d = errV t[j] d := by
  obtain ⟨i1, i2⟩ := errsVs_get t d
  unfold errL listE
  rw [if_neg h, if_neg h2, firstNZ_at _ j (by omega) (fun k hk => by rw [i2 k (by omega) (by omega)]; exact h0 k hk (by omega)) (by rw [i2 j hj (by omega)]; exact h1), i2 j hj (by omega)]
theorem errL_none {t : List FV} {d : Int} (h : ¬ 4 < d) (h2 : ¬ 64 < t.length) (h0 : ∀ k (hk : k < t.length), errV t[k] d = 0) : errL t d = 0 := by
  obtain ⟨i1, i2⟩ := errsVs_get t d
  unfold errL listE
  rw [if_neg h, if_neg h2]
  exact firstNZ_none _ (fun k hk => by rw [i2 k (by omega) (by omega)]; exact h0 k (by omega))

end Go.Proofs.Ytdhaojicphhikaa
