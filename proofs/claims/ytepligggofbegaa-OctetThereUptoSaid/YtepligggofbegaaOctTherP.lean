/-
  What was written is read again: in plain words. Nothing of the program is in it.
-/
import Derived.Test.YtepligggofbegaaOctWrite
import Derived.Test.YtepligggofbegaaOctR2
namespace Go.Proofs.Ytepligggofbegaa
open Go.RowKit

theorem bit_split (x y k : Nat) (v : Bool) (hy : y < 2 ^ k) (h : x % 2 ^ (k + 1) = y + (if v then 2 ^ k else 0)) : x % 2 ^ k = y ∧ (x / 2 ^ k % 2 == 1) = v := by
  have hp : 0 < 2 ^ k := Nat.pow_pos (by decide)
  have hm : x % 2 ^ (k + 1) = x % 2 ^ k + 2 ^ k * (x / 2 ^ k % 2) := by rw [Nat.pow_succ, Nat.mod_mul]
  have hz : x % 2 ^ k < 2 ^ k := Nat.mod_lt _ hp
  have h2m : x / 2 ^ k % 2 < 2 := Nat.mod_lt _ (by decide)
  rw [hm] at h
  rcases (by omega : x / 2 ^ k % 2 = 0 ∨ x / 2 ^ k % 2 = 1) with q | q <;> rw [q] at h ⊢ <;> cases v
  · simp at h ⊢; omega
  · simp at h ⊢; omega
  · simp at h ⊢; omega
  · simp at h ⊢; omega

/-- The octets b may be what a Writer holds in the end that holds s now. -/
def Ext (s : WS) (b : List UInt8) : Prop :=
  if s.row % 8 = 0 then s.bs <+: b
  else s.bs ≠ [] ∧ s.bs.dropLast <+: b ∧ ∃ x : UInt8, b[s.bs.length - 1]? = some x ∧ x.toNat % 2 ^ (s.row % 8) = (s.bs.getLastD 0).toNat

theorem Ext.self (s : WS) (h : s.ok) : Ext s s.bs := by
  unfold Ext
  split
  · exact List.prefix_refl _
  · next h0 =>
    obtain ⟨h1, h2⟩ := h h0
    refine ⟨h1, ⟨[s.bs.getLast h1], List.dropLast_concat_getLast h1⟩, s.bs.getLastD 0, ?_, Nat.mod_eq_of_lt h2⟩
    rw [← last_get s.bs h1]
    exact List.getElem?_eq_getElem _

/-- What comes behind whole octets. -/
theorem Ext.of_prefix (s : WS) (b : List UInt8) (hok : s.ok) (h : s.bs <+: b) : Ext s b := by
  unfold Ext
  split
  · exact h
  · next h0 =>
    obtain ⟨h1, h2⟩ := hok h0
    obtain ⟨r, rfl⟩ := h
    refine ⟨h1, List.IsPrefix.trans ⟨[s.bs.getLast h1], List.dropLast_concat_getLast h1⟩ (List.prefix_append _ _), s.bs.getLastD 0, ?_, Nat.mod_eq_of_lt h2⟩
    have := List.length_pos_iff.2 h1
    rw [List.getElem?_append_left (by omega), ← last_get s.bs h1]
    exact List.getElem?_eq_getElem _

theorem Ext.raw {s : WS} {l b : List UInt8} (h : Ext (s.raw l) b) : (s.bs ++ l) <+: b := by
  unfold Ext at h
  rw [if_pos (by rfl)] at h
  exact h
theorem Ext.back_raw {s : WS} {l b : List UInt8} (hok : s.ok) (h : Ext (s.raw l) b) : Ext s b := Ext.of_prefix s b hok ((List.prefix_append _ _).trans h.raw)

theorem Ext.bit_new {s : WS} {v : Bool} {b : List UInt8} (h0 : s.row % 8 = 0) (h : Ext (s.bit v) b) : s.bs <+: b ∧ ∃ x : UInt8, b[s.bs.length]? = some x ∧ (x.toNat % 2 == 1) = v := by
  have e : s.bit v = ⟨s.bs ++ [b01 v], s.row + 1⟩ := by unfold WS.bit; rw [if_pos h0]
  rw [e] at h
  unfold Ext at h
  have e1 : (s.row + 1) % 8 = 1 := by omega
  rw [if_neg (by show (s.row + 1) % 8 ≠ 0; omega)] at h
  obtain ⟨_, h2, x, h3, h4⟩ := h
  simp only [List.dropLast_concat] at h2
  refine ⟨h2, x, by simpa using h3, ?_⟩
  have h5 : x.toNat % 2 ^ ((s.row + 1) % 8) = ((s.bs ++ [b01 v]).getLastD 0).toNat := h4
  rw [e1] at h5
  simp only [List.getLastD_concat] at h5
  cases v
  · have : (b01 false).toNat = 0 := rfl
    rw [Bool.eq_iff_iff]
    simp
    omega
  · have : (b01 true).toNat = 1 := rfl
    rw [Bool.eq_iff_iff]
    simp
    omega

theorem Ext.bit_in {s : WS} {v : Bool} {b : List UInt8} (hok : s.ok) (h0 : s.row % 8 ≠ 0) (h : Ext (s.bit v) b) : Ext s b ∧ ∃ x : UInt8, b[s.bs.length - 1]? = some x ∧ (x.toNat / 2 ^ (s.row % 8) % 2 == 1) = v := by
  obtain ⟨h1, h2⟩ := hok h0
  have e : s.bit v = ⟨s.bs.dropLast ++ [setBit (s.bs.getLastD 0) (s.row % 8) v], s.row + 1⟩ := by unfold WS.bit; rw [if_neg h0]
  have hl : (s.bs.dropLast ++ [setBit (s.bs.getLastD 0) (s.row % 8) v]).length = s.bs.length := by
    have := List.length_pos_iff.2 h1
    simp
    omega
  have hv := setBit_val (s.bs.getLastD 0) (s.row % 8) v (by omega) h2
  have key : ∃ x : UInt8, s.bs.dropLast <+: b ∧ b[s.bs.length - 1]? = some x ∧ x.toNat % 2 ^ (s.row % 8 + 1) = (setBit (s.bs.getLastD 0) (s.row % 8) v).toNat := by
    rw [e] at h
    unfold Ext at h
    by_cases h8 : (s.row + 1) % 8 = 0
    · rw [if_pos h8] at h
      obtain ⟨r, rfl⟩ := (show (s.bs.dropLast ++ [setBit (s.bs.getLastD 0) (s.row % 8) v]) <+: b from h)
      refine ⟨setBit (s.bs.getLastD 0) (s.row % 8) v, (List.prefix_append _ _).trans (List.prefix_append _ _), ?_, ?_⟩
      · have := List.length_pos_iff.2 h1
        rw [List.getElem?_append_left (by omega), List.getElem?_append_right (by simp)]
        simp
      · have e7 : s.row % 8 = 7 := by omega
        rw [e7]
        have := (setBit (s.bs.getLastD 0) 7 v).toNat_lt
        exact Nat.mod_eq_of_lt this
    · rw [if_neg h8] at h
      obtain ⟨_, h4, x, h5, h6⟩ := h
      have e7 : (s.row + 1) % 8 = s.row % 8 + 1 := by omega
      have h6' : x.toNat % 2 ^ ((s.row + 1) % 8) = ((s.bs.dropLast ++ [setBit (s.bs.getLastD 0) (s.row % 8) v]).getLastD 0).toNat := h6
      rw [e7, List.getLastD_concat] at h6'
      have h5' : b[(s.bs.dropLast ++ [setBit (s.bs.getLastD 0) (s.row % 8) v]).length - 1]? = some x := h5
      rw [hl] at h5'
      have h4' : (s.bs.dropLast ++ [setBit (s.bs.getLastD 0) (s.row % 8) v]).dropLast <+: b := h4
      rw [List.dropLast_concat] at h4'
      exact ⟨x, h4', h5', h6'⟩
  obtain ⟨x, h3, h4, h5⟩ := key
  rw [hv] at h5
  obtain ⟨r1, r2⟩ := bit_split _ _ _ _ h2 h5
  refine ⟨?_, x, h4, r2⟩
  unfold Ext
  rw [if_neg h0]
  exact ⟨h1, h3, x, h4, r1⟩

/-- A Reader stands where a Writer stood. -/
def Match (s : WS) (r : RS) (b : List UInt8) : Prop := r.bs = b ∧ r.pos = s.bs.length ∧ r.code = 0 ∧ r.row = rowBits s.row

theorem Match.raw {s : WS} {r : RS} {b l : List UInt8} (h : Match s r b) (he : Ext (s.raw l) b) : (r.raw (l.length : Int)).2 = l ∧ Match (s.raw l) (r.raw (l.length : Int)).1 b := by
  obtain ⟨h1, h2, h3, h4⟩ := h
  obtain ⟨t, ht⟩ := he.raw
  have hleft : r.left = l ++ t := by
    unfold RS.left
    rw [h1, h2, ← ht, List.append_assoc, List.drop_left]
  have e : r.raw (l.length : Int) = ({ r with row := 0, pos := r.pos + l.length }, l) := by
    unfold RS.raw
    rw [if_neg (by simp [h3]), if_neg (by rw [hleft]; simp; omega), hleft]
    simp
  rw [e]
  exact ⟨rfl, h1, by show r.pos + l.length = (s.bs ++ l).length; rw [h2, List.length_append], h3, rfl⟩

theorem Match.num {s : WS} {r : RS} {b : List UInt8} {k : Nat} {n : Int} (h : Match s r b) (he : Ext (s.num k n) b) : (r.num k).2 = IntKind.i64.wrap (beNat (be k n) : Int) ∧ Match (s.num k n) (r.num k).1 b := by
  have h1 := h.raw he
  rw [be_length] at h1
  unfold RS.num
  rw [h1.1]
  exact ⟨rfl, h1.2⟩

theorem beNat_be_mod (k : Nat) : ∀ n : Nat, beNat (be k (n : Int)) = n % 256 ^ k := by
  induction k with
  | zero => intro n; simp [be, beNat, Nat.mod_one]
  | succ k ih =>
    intro n
    rw [be, beNat_cons, be_length, ih]
    have e : (lo8 ((n : Int) / 2 ^ (8 * k))).toNat = n / 256 ^ k % 256 := by
      have h2 : (2 : Int) ^ (8 * k) = ((256 ^ k : Nat) : Int) := by
        rw [show (256 : Nat) = 2 ^ 8 from rfl, ← Nat.pow_mul]
        simp
      rw [h2, ← Int.natCast_ediv]
      have h1 := lo8_val ((n / 256 ^ k : Nat) : Int)
      omega
    rw [e, Nat.pow_succ, Nat.mod_mul]
    rw [Nat.mul_comm, Nat.add_comm]

theorem be_wide (k : Nat) (hk : k ≤ 8) (n : Int) : be k n = be k (((n % 18446744073709551616).toNat : Nat) : Int) := by
  induction k with
  | zero => rfl
  | succ k ih =>
    rw [be, be, ih (by omega)]
    congr 1
    have h1 := be_byte n k (by omega)
    have h2 := be_byte (((n % 18446744073709551616).toNat : Nat) : Int) k (by omega)
    rw [← h1, ← h2]
    have e : (((n % 18446744073709551616).toNat : Nat) : Int) % 18446744073709551616 = n % 18446744073709551616 := by omega
    rw [e]

theorem Match.text {s : WS} {r : RS} {b l : List UInt8} {k : Nat} (hk : k ≤ 4) (hl : l.length < 256 ^ k) (h : Match s r b) (he : Ext ((s.num k l.length).raw l) b) : (r.text k).2 = l ∧ Match ((s.num k l.length).raw l) (r.text k).1 b := by
  have he1 : Ext (s.num k l.length) b := Ext.back_raw (WS.ok_num _ _ _) he
  obtain ⟨n1, n2⟩ := h.num he1
  have hl32 : l.length < 4294967296 := Nat.lt_of_lt_of_le hl (Nat.le_trans (Nat.pow_le_pow_right (by decide) hk) (by decide))
  have hv : (r.num k).2 = (l.length : Int) := by
    rw [n1, beNat_be_mod, Nat.mod_eq_of_lt hl]
    exact IntWalk.i64_in _ (by omega)
  obtain ⟨m1, m2⟩ := n2.raw he
  obtain ⟨t, ht⟩ := he.raw
  have hleft : (r.num k).1.left.length = l.length + t.length := by
    unfold RS.left
    rw [n2.1, n2.2.1, ← ht, List.append_assoc, List.drop_left, List.length_append]
  have e : r.text k = (r.num k).1.raw (l.length : Int) := by
    unfold RS.text
    rw [if_neg (by simp [n2.2.2.1]), hv, if_neg (by rw [hleft]; omega)]
  rw [e]
  exact ⟨m1, m2⟩

theorem Match.skip {s : WS} {r : RS} {b : List UInt8} (h : Match s r b) : Match ⟨s.bs, 0⟩ (r.raw 0).1 b := by
  obtain ⟨h1, h2, h3, h4⟩ := h
  have e : (r.raw 0).1 = { r with row := 0 } := by
    unfold RS.raw
    rw [if_neg (by simp [h3]), if_neg (by simp)]
    rfl
  rw [e]
  exact ⟨h1, h2, h3, rfl⟩

theorem Match.bit {s : WS} {r : RS} {b : List UInt8} {v : Bool} (hok : s.ok) (h : Match s r b) (he : Ext (s.bit v) b) : r.bit.2 = v ∧ Match (s.bit v) r.bit.1 b := by
  obtain ⟨h1, h2, h3, h4⟩ := h
  by_cases h0 : s.row % 8 = 0
  · obtain ⟨⟨t, ht⟩, x, hx, hv⟩ := Ext.bit_new h0 he
    have hr : r.row % 8 = 0 := by
      rw [h4]
      unfold rowBits
      split
      · rfl
      · omega
    have hlt : s.bs.length < b.length := (List.getElem?_eq_some_iff.1 hx).1
    have hleft : r.left.length ≠ 0 := by
      unfold RS.left
      rw [h1, h2, List.length_drop]
      omega
    have e : r.bit = ({ r with pos := r.pos + 1, row := 1 }, (r.bs.getD r.pos 0).toNat % 2 == 1) := by
      unfold RS.bit
      rw [if_neg (by simp [h3]), if_pos hr, if_neg hleft]
    have ex : r.bs.getD r.pos 0 = x := by
      rw [h1, h2, List.getD_eq_getElem?_getD, hx]
      rfl
    rw [e, ex]
    refine ⟨hv, h1, ?_, h3, ?_⟩
    · unfold WS.bit
      rw [if_pos h0]
      show r.pos + 1 = (s.bs ++ [b01 v]).length
      rw [h2]
      simp
    · unfold WS.bit
      rw [if_pos h0]
      show 1 = rowBits (s.row + 1)
      unfold rowBits
      rw [if_neg (by omega)]
      omega
  · obtain ⟨_, x, hx, hv⟩ := Ext.bit_in hok h0 he
    obtain ⟨hne, _⟩ := hok h0
    have e0 : rowBits s.row = s.row % 8 := by unfold rowBits; rw [if_neg (by omega)]; omega
    have hr : r.row = s.row % 8 := by rw [h4, e0]
    have e : r.bit = ({ r with row := r.row + 1 }, (r.bs.getD (r.pos - 1) 0).toNat / 2 ^ r.row % 2 == 1) := by
      unfold RS.bit
      rw [if_neg (by simp [h3]), if_neg (by rw [hr]; omega)]
    have ex : r.bs.getD (r.pos - 1) 0 = x := by
      rw [h1, h2, List.getD_eq_getElem?_getD, hx]
      rfl
    rw [e, ex, hr]
    refine ⟨hv, h1, ?_, h3, ?_⟩
    · unfold WS.bit
      rw [if_neg h0]
      show r.pos = (s.bs.dropLast ++ [setBit (s.bs.getLastD 0) (s.row % 8) v]).length
      have := List.length_pos_iff.2 hne
      rw [h2]
      simp
      omega
    · unfold WS.bit
      rw [if_neg h0]
      show s.row % 8 + 1 = rowBits (s.row + 1)
      unfold rowBits
      rw [if_neg (by omega)]
      omega

theorem Ext.back_bit {s : WS} {v : Bool} {b : List UInt8} (hok : s.ok) (h : Ext (s.bit v) b) : Ext s b := by
  by_cases h0 : s.row % 8 = 0
  · exact Ext.of_prefix s b hok (Ext.bit_new h0 h).1
  · exact (Ext.bit_in hok h0 h).1

theorem WS.step_ok (s : WS) (op : OOp) (h : s.ok) : (s.step op).ok := by
  unfold WS.step
  split
  · exact WS.ok_num _ _ _
  · exact WS.ok_num _ _ _
  · exact WS.ok_num _ _ _
  · exact WS.ok_num _ _ _
  · exact WS.ok_bit _ _ h
  · exact WS.ok_short _ _
  · exact WS.ok_long _ _
  · exact WS.ok_raw _ _
theorem Ext.back {s : WS} {op : OOp} {b : List UInt8} (hok : s.ok) (h : Ext (s.step op) b) : Ext s b := by
  unfold WS.step at h
  split at h
  · exact Ext.back_raw hok h
  · exact Ext.back_raw hok h
  · exact Ext.back_raw hok h
  · exact Ext.back_raw hok h
  · exact Ext.back_bit hok h
  · unfold WS.short at h
    split at h
    · refine Ext.of_prefix s b hok ?_
      unfold Ext at h
      rw [if_pos (by rfl)] at h
      exact h
    · exact Ext.back_raw hok (Ext.back_raw (WS.ok_num _ _ _) h)
  · exact Ext.back_raw hok (Ext.back_raw (WS.ok_num _ _ _) h)
  · exact Ext.back_raw hok h

/-- What a script leaves. -/
def WS.all (s : WS) (ops : List OOp) : WS := ops.foldl WS.step s
theorem WS.all_ok (ops : List OOp) : ∀ s : WS, s.ok → (s.all ops).ok := by
  induction ops with
  | nil => intro s h; exact h
  | cons o r ih => intro s h; exact ih _ (WS.step_ok s o h)
theorem Ext.all (ops : List OOp) (b : List UInt8) : ∀ s : WS, s.ok → Ext (s.all ops) b → Ext s b := by
  induction ops with
  | nil => intro s _ h; exact h
  | cons o r ih => intro s hok h; exact Ext.back hok (ih _ (WS.step_ok s o hok) h)
theorem WS.all_snoc (s : WS) (ops : List OOp) (o : OOp) : s.all (ops ++ [o]) = (s.all ops).step o := by simp [WS.all]

/-- At every place of the script the Writer's octets so far are such as the last ones extend. -/
theorem ext_at (ops : List OOp) (j : Nat) : Ext ((WS.mk [] 0).all (ops.take j)) ((WS.mk [] 0).all ops).bs := by
  have h0 : (WS.mk [] 0).ok := fun h => absurd rfl h
  have h1 := Ext.self _ (WS.all_ok ops _ h0)
  have e : (WS.mk [] 0).all ops = ((WS.mk [] 0).all (ops.take j)).all (ops.drop j) := by
    unfold WS.all
    rw [← List.foldl_append, List.take_append_drop]
  rw [e] at h1 ⊢
  exact Ext.all (ops.drop j) _ _ (WS.all_ok _ _ h0) h1

end Go.Proofs.Ytepligggofbegaa
