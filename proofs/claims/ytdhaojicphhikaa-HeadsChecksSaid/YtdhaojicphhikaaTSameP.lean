/-
  When two trees are one, in plain words.
-/
import Derived.Test.YtdhaojicphhikaaTree
namespace Go.Proofs.Ytdhaojicphhikaa
open Go.RowKit

mutual
def sameV : FV → FV → Bool
  | .mk k n t l tb, .mk k' n' t' l' tb' => (k == k') && ((n == n') && ((t.toList == t'.toList) && (sameVs l l' && sameFs tb tb')))
def sameVs : List FV → List FV → Bool
  | [], [] => true
  | [], _ :: _ => false
  | _ :: _, [] => false
  | v :: l, v' :: l' => sameV v v' && sameVs l l'
def sameFs : List FF → List FF → Bool
  | [], [] => true
  | [], _ :: _ => false
  | _ :: _, [] => false
  | f :: l, f' :: l' => sameF f f' && sameFs l l'
def sameF : FF → FF → Bool
  | .mk n v, .mk n' v' => (n.toList == n'.toList) && sameV v v'
end

theorem sameV_eq (v v' : FV) : sameV v v' = ((v.kind == v'.kind) && ((v.num == v'.num) && ((v.text.toList == v'.text.toList) && (sameVs v.list v'.list && sameFs v.table v'.table)))) := by
  obtain ⟨k, n, t, l, tb⟩ := v
  obtain ⟨k', n', t', l', tb'⟩ := v'
  rw [sameV]
  rfl
theorem sameF_eq (f f' : FF) : sameF f f' = ((f.name.toList == f'.name.toList) && sameV f.val f'.val) := by
  obtain ⟨n, v⟩ := f
  obtain ⟨n', v'⟩ := f'
  rw [sameF]
  rfl

theorem sameVs_len : ∀ (l l' : List FV), l.length ≠ l'.length → sameVs l l' = false
  | [], [], h => absurd rfl h
  | [], _ :: _, _ => by rw [sameVs]
  | _ :: _, [], _ => by rw [sameVs]
  | v :: l, v' :: l', h => by rw [sameVs, sameVs_len l l' (by simpa using h), Bool.and_false]
theorem sameVs_false : ∀ (l l' : List FV) (j : Nat) (h : j < l.length) (h' : j < l'.length), sameV l[j] l'[j] = false → sameVs l l' = false
  | [], _, _, h, _, _ => by simp at h
  | _ :: _, [], _, _, h', _ => by simp at h'
  | v :: l, v' :: l', j, h, h', e => by
    rw [sameVs]
    cases j with
    | zero =>
      have e' : sameV v v' = false := e
      rw [e', Bool.false_and]
    | succ j => rw [sameVs_false l l' j (by simpa using h) (by simpa using h') e, Bool.and_false]
theorem sameVs_true : ∀ (l l' : List FV), l.length = l'.length → (∀ j (h : j < l.length) (h' : j < l'.length), sameV l[j] l'[j] = true) → sameVs l l' = true
  | [], [], _, _ => by rw [sameVs]
  | [], _ :: _, h, _ => by simp at h
  | _ :: _, [], h, _ => by simp at h
  | v :: l, v' :: l', h, e => by
    have e0 : sameV v v' = true := e 0 (by simp) (by simp)
    rw [sameVs, e0, sameVs_true l l' (by simpa using h) (fun j a b => e (j + 1) (by simpa using a) (by simpa using b))]
    rfl
theorem sameFs_len : ∀ (l l' : List FF), l.length ≠ l'.length → sameFs l l' = false
  | [], [], h => absurd rfl h
  | [], _ :: _, _ => by rw [sameFs]
  | _ :: _, [], _ => by rw [sameFs]
  | v :: l, v' :: l', h => by rw [sameFs, sameFs_len l l' (by simpa using h), Bool.and_false]
theorem sameFs_false : ∀ (l l' : List FF) (j : Nat) (h : j < l.length) (h' : j < l'.length), sameF l[j] l'[j] = false → sameFs l l' = false
  | [], _, _, h, _, _ => by simp at h
  | _ :: _, [], _, _, h', _ => by simp at h'
  | v :: l, v' :: l', j, h, h', e => by
    rw [sameFs]
    cases j with
    | zero =>
      have e' : sameF v v' = false := e
      rw [e', Bool.false_and]
    | succ j => rw [sameFs_false l l' j (by simpa using h) (by simpa using h') e, Bool.and_false]
theorem sameFs_true : ∀ (l l' : List FF), l.length = l'.length → (∀ j (h : j < l.length) (h' : j < l'.length), sameF l[j] l'[j] = true) → sameFs l l' = true
  | [], [], _, _ => by rw [sameFs]
  | [], _ :: _, h, _ => by simp at h
  | _ :: _, [], h, _ => by simp at h
  | v :: l, v' :: l', h, e => by
    have e0 : sameF v v' = true := e 0 (by simp) (by simp)
    rw [sameFs, e0, sameFs_true l l' (by simpa using h) (fun j a b => e (j + 1) (by simpa using a) (by simpa using b))]
    rfl

mutual
theorem sameV_refl : ∀ v : FV, sameV v v = true
  | .mk k n t l tb => by rw [sameV, sameVs_refl l, sameFs_refl tb]; simp
theorem sameVs_refl : ∀ l : List FV, sameVs l l = true
  | [] => by rw [sameVs]
  | v :: l => by rw [sameVs, sameV_refl v, sameVs_refl l]; rfl
theorem sameFs_refl : ∀ l : List FF, sameFs l l = true
  | [] => by rw [sameFs]
  | f :: l => by rw [sameFs, sameF_refl f, sameFs_refl l]; rfl
theorem sameF_refl : ∀ f : FF, sameF f f = true
  | .mk n v => by rw [sameF, sameV_refl v]; simp
end

theorem szFs_mem : ∀ (t : List FF), ∀ f ∈ t, f.val.sz + 1 ≤ szFs t
  | [], f, h => by cases h
  | x :: t, f, h => by
    rw [szFs]
    rcases List.mem_cons.1 h with rfl | h
    · obtain ⟨n, v⟩ := f
      rw [FF.sz]
      show v.sz + 1 ≤ _
      omega
    · have := szFs_mem t f h
      omega
theorem szVs_mem : ∀ (l : List FV), ∀ v ∈ l, v.sz ≤ szVs l
  | [], f, h => by cases h
  | x :: t, f, h => by
    rw [szVs]
    rcases List.mem_cons.1 h with rfl | h
    · omega
    · have := szVs_mem t f h
      omega
theorem FV.sz_eq (v : FV) : v.sz = 1 + szVs v.list + szFs v.table := by
  obtain ⟨k, n, t, l, tb⟩ := v
  rw [FV.sz]
  rfl

end Go.Proofs.Ytdhaojicphhikaa
