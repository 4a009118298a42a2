/-
  Tables of named values (api.Field, api.Value) as trees, and how they lie in memory. Nothing of the program is in it.
-/
import Derived.Test.YtnlmkfncdklcdaaBase
namespace Go.Proofs.Ytnlmkfncdklcdaa
open Go.RowKit

mutual
inductive FV where
  | mk (kind num : Int) (text : ByteArray) (list : List FV) (table : List FF)
inductive FF where
  | mk (name : ByteArray) (val : FV)
end

def FV.kind : FV → Int | .mk k _ _ _ _ => k
def FV.num : FV → Int | .mk _ n _ _ _ => n
def FV.text : FV → ByteArray | .mk _ _ t _ _ => t
def FV.list : FV → List FV | .mk _ _ _ l _ => l
def FV.table : FV → List FF | .mk _ _ _ _ t => t
def FF.name : FF → ByteArray | .mk n _ => n
def FF.val : FF → FV | .mk _ v => v

mutual
/-- How many values are in it. -/
def FV.sz : FV → Nat
  | .mk _ _ _ l t => 1 + szVs l + szFs t
def szVs : List FV → Nat
  | [] => 0
  | v :: l => v.sz + szVs l
def szFs : List FF → Nat
  | [] => 0
  | f :: l => f.sz + szFs l
def FF.sz : FF → Nat
  | .mk _ v => 1 + v.sz
end

mutual
/-- The five cells of a value read as v, through blocks of F. -/
def VAt (w : World) (F : Nat → Prop) : FV → List Value → Prop
  | .mk k n t l tb, cs => ∃ A c B d, cs = [.int .i64 k, .int .i64 n, .string t, .slice A l.length c, .slice B tb.length d] ∧
      ((-9223372036854775808 ≤ k ∧ k ≤ 9223372036854775807) ∧ (-9223372036854775808 ≤ n ∧ n ≤ 9223372036854775807) ∧ t.size ≤ 140737488351232 ∧ l.length ≤ c ∧ l.length * 80 ≤ 140737488351232 ∧ tb.length ≤ d ∧ tb.length * 96 ≤ 140737488351232 ∧ c ≤ maxLen ∧ d ≤ maxLen) ∧
      (∃ css : List (List Value), Rd w F A css.flatten ∧ VsAt w F l css) ∧ ∃ css : List (List Value), Rd w F B css.flatten ∧ FsAt w F tb css
def VsAt (w : World) (F : Nat → Prop) : List FV → List (List Value) → Prop
  | [], css => css = []
  | v :: l, css => ∃ cs r, css = cs :: r ∧ VAt w F v cs ∧ VsAt w F l r
def FsAt (w : World) (F : Nat → Prop) : List FF → List (List Value) → Prop
  | [], css => css = []
  | f :: l, css => ∃ cs r, css = cs :: r ∧ FAt w F f cs ∧ FsAt w F l r
/-- The six cells of a field. -/
def FAt (w : World) (F : Nat → Prop) : FF → List Value → Prop
  | .mk n v, cs => n.size ≤ 140737488351232 ∧ ∃ r, cs = .string n :: r ∧ VAt w F v r
end

section
variable {w w' : World} {F G S : Nat → Prop}

mutual
theorem VAt.keep (hk : Kept S w w') (hd : ∀ k, k < w.heap.size → F k → S k → False) : ∀ (v : FV) (cs : List Value), VAt w F v cs → VAt w' F v cs
  | .mk k n t l tb, cs, h => by
    rw [VAt] at h ⊢
    obtain ⟨A, c, B, d, h1, h2, ⟨css, h3, h4⟩, ⟨css', h5, h6⟩⟩ := h
    exact ⟨A, c, B, d, h1, h2, ⟨css, h3.keep hk hd, VsAt.keep hk hd l css h4⟩, ⟨css', h5.keep hk hd, FsAt.keep hk hd tb css' h6⟩⟩
theorem VsAt.keep (hk : Kept S w w') (hd : ∀ k, k < w.heap.size → F k → S k → False) : ∀ (l : List FV) (css : List (List Value)), VsAt w F l css → VsAt w' F l css
  | [], css, h => by rw [VsAt] at h ⊢; exact h
  | v :: l, css, h => by
    rw [VsAt] at h ⊢
    obtain ⟨cs, r, h1, h2, h3⟩ := h
    exact ⟨cs, r, h1, VAt.keep hk hd v cs h2, VsAt.keep hk hd l r h3⟩
theorem FsAt.keep (hk : Kept S w w') (hd : ∀ k, k < w.heap.size → F k → S k → False) : ∀ (l : List FF) (css : List (List Value)), FsAt w F l css → FsAt w' F l css
  | [], css, h => by rw [FsAt] at h ⊢; exact h
  | f :: l, css, h => by
    rw [FsAt] at h ⊢
    obtain ⟨cs, r, h1, h2, h3⟩ := h
    exact ⟨cs, r, h1, FAt.keep hk hd f cs h2, FsAt.keep hk hd l r h3⟩
theorem FAt.keep (hk : Kept S w w') (hd : ∀ k, k < w.heap.size → F k → S k → False) : ∀ (f : FF) (cs : List Value), FAt w F f cs → FAt w' F f cs
  | .mk n v, cs, h => by
    rw [FAt] at h ⊢
    obtain ⟨h0, r, h1, h2⟩ := h
    exact ⟨h0, r, h1, VAt.keep hk hd v r h2⟩
end

mutual
theorem VAt.mono (hF : ∀ k, k < w.heap.size → F k → G k) : ∀ (v : FV) (cs : List Value), VAt w F v cs → VAt w G v cs
  | .mk k n t l tb, cs, h => by
    rw [VAt] at h ⊢
    obtain ⟨A, c, B, d, h1, h2, ⟨css, h3, h4⟩, ⟨css', h5, h6⟩⟩ := h
    exact ⟨A, c, B, d, h1, h2, ⟨css, h3.mono hF, VsAt.mono hF l css h4⟩, ⟨css', h5.mono hF, FsAt.mono hF tb css' h6⟩⟩
theorem VsAt.mono (hF : ∀ k, k < w.heap.size → F k → G k) : ∀ (l : List FV) (css : List (List Value)), VsAt w F l css → VsAt w G l css
  | [], css, h => by rw [VsAt] at h ⊢; exact h
  | v :: l, css, h => by
    rw [VsAt] at h ⊢
    obtain ⟨cs, r, h1, h2, h3⟩ := h
    exact ⟨cs, r, h1, VAt.mono hF v cs h2, VsAt.mono hF l r h3⟩
theorem FsAt.mono (hF : ∀ k, k < w.heap.size → F k → G k) : ∀ (l : List FF) (css : List (List Value)), FsAt w F l css → FsAt w G l css
  | [], css, h => by rw [FsAt] at h ⊢; exact h
  | f :: l, css, h => by
    rw [FsAt] at h ⊢
    obtain ⟨cs, r, h1, h2, h3⟩ := h
    exact ⟨cs, r, h1, FAt.mono hF f cs h2, FsAt.mono hF l r h3⟩
theorem FAt.mono (hF : ∀ k, k < w.heap.size → F k → G k) : ∀ (f : FF) (cs : List Value), FAt w F f cs → FAt w G f cs
  | .mk n v, cs, h => by
    rw [FAt] at h ⊢
    obtain ⟨h0, r, h1, h2⟩ := h
    exact ⟨h0, r, h1, VAt.mono hF v r h2⟩
end
end

/-- The slice at A reads as this table. -/
def TAt (w : World) (F : Nat → Prop) (A : Option Addr) (t : List FF) : Prop := ∃ css : List (List Value), Rd w F A css.flatten ∧ FsAt w F t css
/-- The slice at A reads as this list. -/
def LAt (w : World) (F : Nat → Prop) (A : Option Addr) (l : List FV) : Prop := ∃ css : List (List Value), Rd w F A css.flatten ∧ VsAt w F l css

/-- The numbers of a value fit, and so do its slices' capacities. -/
def FV.fit (v : FV) (c d : Nat) : Prop :=
  (-9223372036854775808 ≤ v.kind ∧ v.kind ≤ 9223372036854775807) ∧ (-9223372036854775808 ≤ v.num ∧ v.num ≤ 9223372036854775807) ∧ v.text.size ≤ 140737488351232 ∧ v.list.length ≤ c ∧ v.list.length * 80 ≤ 140737488351232 ∧ v.table.length ≤ d ∧ v.table.length * 96 ≤ 140737488351232 ∧ c ≤ maxLen ∧ d ≤ maxLen

theorem VAt_iff (w : World) (F : Nat → Prop) (v : FV) (cs : List Value) : VAt w F v cs ↔ ∃ A c B d, cs = [.int .i64 v.kind, .int .i64 v.num, .string v.text, .slice A v.list.length c, .slice B v.table.length d] ∧ v.fit c d ∧ LAt w F A v.list ∧ TAt w F B v.table := by
  obtain ⟨k, n, t, l, tb⟩ := v
  rw [VAt]
  exact Iff.rfl
theorem FAt_iff (w : World) (F : Nat → Prop) (f : FF) (cs : List Value) : FAt w F f cs ↔ f.name.size ≤ 140737488351232 ∧ ∃ r, cs = .string f.name :: r ∧ VAt w F f.val r := by
  obtain ⟨n, v⟩ := f
  rw [FAt]
  exact Iff.rfl

theorem flatten_get {β : Type} (s : Nat) (l : List (List β)) (h : ∀ x ∈ l, x.length = s) (i k : Nat) (hi : i < l.length) (hk : k < s) : l.flatten[i * s + k]? = (l[i])[k]? := by
  induction l generalizing i with
  | nil => simp at hi
  | cons x l ih =>
    have hx := h x List.mem_cons_self
    cases i with
    | zero =>
      rw [List.flatten_cons, Nat.zero_mul, Nat.zero_add, List.getElem?_append_left (by omega)]
      rfl
    | succ i =>
      rw [List.flatten_cons, List.getElem?_append_right (by rw [hx, Nat.succ_mul]; omega), hx, show (i + 1) * s + k - s = i * s + k by rw [Nat.succ_mul]; omega]
      exact ih (fun y hy => h y (List.mem_cons_of_mem _ hy)) i (by simpa using hi)
theorem flatten_len {β : Type} (s : Nat) (l : List (List β)) (h : ∀ x ∈ l, x.length = s) : l.flatten.length = l.length * s := by
  induction l with
  | nil => simp
  | cons x l ih =>
    rw [List.flatten_cons, List.length_append, h x List.mem_cons_self, ih fun y hy => h y (List.mem_cons_of_mem _ hy), List.length_cons, Nat.succ_mul]
    omega

section
variable {w w' : World} {F G S : Nat → Prop}
theorem VAt.len {v : FV} {cs : List Value} (h : VAt w F v cs) : cs.length = 5 := by
  rw [VAt_iff] at h
  obtain ⟨A, c, B, d, rfl, _⟩ := h
  rfl
theorem FAt.len {f : FF} {cs : List Value} (h : FAt w F f cs) : cs.length = 6 := by
  rw [FAt_iff] at h
  obtain ⟨_, r, rfl, h⟩ := h
  rw [List.length_cons, h.len]
theorem VsAt.get : ∀ (l : List FV) (css : List (List Value)), VsAt w F l css → css.length = l.length ∧ (∀ cs ∈ css, cs.length = 5) ∧ ∀ j (h : j < l.length) (h' : j < css.length), VAt w F l[j] css[j]
  | [], css, h => by
    rw [VsAt] at h
    subst h
    exact ⟨rfl, by simp, fun j h => by simp at h⟩
  | v :: l, css, h => by
    rw [VsAt] at h
    obtain ⟨cs, r, rfl, h2, h3⟩ := h
    obtain ⟨i1, i2, i3⟩ := VsAt.get l r h3
    refine ⟨by simp [i1], ?_, ?_⟩
    · intro x hx
      rcases List.mem_cons.1 hx with rfl | hx
      · exact h2.len
      · exact i2 x hx
    · intro j h h'
      cases j with
      | zero => exact h2
      | succ j => exact i3 j (by simpa using h) (by simpa using h')
theorem FsAt.get : ∀ (l : List FF) (css : List (List Value)), FsAt w F l css → css.length = l.length ∧ (∀ cs ∈ css, cs.length = 6) ∧ ∀ j (h : j < l.length) (h' : j < css.length), FAt w F l[j] css[j]
  | [], css, h => by
    rw [FsAt] at h
    subst h
    exact ⟨rfl, by simp, fun j h => by simp at h⟩
  | v :: l, css, h => by
    rw [FsAt] at h
    obtain ⟨cs, r, rfl, h2, h3⟩ := h
    obtain ⟨i1, i2, i3⟩ := FsAt.get l r h3
    refine ⟨by simp [i1], ?_, ?_⟩
    · intro x hx
      rcases List.mem_cons.1 hx with rfl | hx
      · exact h2.len
      · exact i2 x hx
    · intro j h h'
      cases j with
      | zero => exact h2
      | succ j => exact i3 j (by simpa using h) (by simpa using h')
theorem TAt.keep {A : Option Addr} {t : List FF} (h : TAt w F A t) (hk : Kept S w w') (hd : ∀ k, k < w.heap.size → F k → S k → False) : TAt w' F A t := by
  obtain ⟨css, h1, h2⟩ := h
  exact ⟨css, h1.keep hk hd, FsAt.keep hk hd t css h2⟩
theorem LAt.keep {A : Option Addr} {t : List FV} (h : LAt w F A t) (hk : Kept S w w') (hd : ∀ k, k < w.heap.size → F k → S k → False) : LAt w' F A t := by
  obtain ⟨css, h1, h2⟩ := h
  exact ⟨css, h1.keep hk hd, VsAt.keep hk hd t css h2⟩
theorem TAt.still {A : Option Addr} {t : List FF} (h : TAt w F A t) (hk : Kept noneS w w') : TAt w' F A t := h.keep hk fun _ _ _ q => q.elim
theorem LAt.still {A : Option Addr} {t : List FV} (h : LAt w F A t) (hk : Kept noneS w w') : LAt w' F A t := h.keep hk fun _ _ _ q => q.elim
theorem TAt.mono {A : Option Addr} {t : List FF} (h : TAt w F A t) (hF : ∀ k, k < w.heap.size → F k → G k) : TAt w G A t := by
  obtain ⟨css, h1, h2⟩ := h
  exact ⟨css, h1.mono hF, FsAt.mono hF t css h2⟩
theorem LAt.mono {A : Option Addr} {t : List FV} (h : LAt w F A t) (hF : ∀ k, k < w.heap.size → F k → G k) : LAt w G A t := by
  obtain ⟨css, h1, h2⟩ := h
  exact ⟨css, h1.mono hF, VsAt.mono hF t css h2⟩
theorem TAt.nil (w : World) (F : Nat → Prop) (A : Option Addr) : TAt w F A [] := ⟨[], .inl rfl, by rw [FsAt]⟩
theorem LAt.nil (w : World) (F : Nat → Prop) (A : Option Addr) : LAt w F A [] := ⟨[], .inl rfl, by rw [VsAt]⟩

/-- A field of a table. -/
theorem TAt.at_ {A : Option Addr} {t : List FF} (h : TAt w F A t) {j : Nat} (hj : j < t.length) :
    ∃ g o B1 c1 B2 c2, A = some ⟨g, o, none⟩ ∧ F g ∧ (t[j]).name.size ≤ 140737488351232 ∧ (t[j]).val.fit c1 c2 ∧ LAt w F B1 (t[j]).val.list ∧ TAt w F B2 (t[j]).val.table ∧
      w.cell? ⟨g, o + j * 6, none⟩ = some (.string (t[j]).name) ∧ w.cell? ⟨g, o + j * 6 + 1, none⟩ = some (.int .i64 (t[j]).val.kind) ∧ w.cell? ⟨g, o + j * 6 + 2, none⟩ = some (.int .i64 (t[j]).val.num) ∧ w.cell? ⟨g, o + j * 6 + 3, none⟩ = some (.string (t[j]).val.text) ∧
      w.cell? ⟨g, o + j * 6 + 4, none⟩ = some (.slice B1 (t[j]).val.list.length c1) ∧ w.cell? ⟨g, o + j * 6 + 5, none⟩ = some (.slice B2 (t[j]).val.table.length c2) := by
  obtain ⟨css, h1, h2⟩ := h
  obtain ⟨i1, i2, i3⟩ := FsAt.get t css h2
  have hj' : j < css.length := by omega
  have hf := i3 j hj hj'
  rw [FAt_iff] at hf
  obtain ⟨hn, r, hr, hv⟩ := hf
  rw [VAt_iff] at hv
  obtain ⟨B1, c1, B2, c2, rfl, hfit, hl, ht⟩ := hv
  rcases h1 with h1 | ⟨g, o, h1, hF, hc⟩
  · exfalso
    have := congrArg List.length h1
    rw [flatten_len 6 css i2, List.length_nil] at this
    omega
  · have at_ : ∀ k u, (css[j])[k]? = some u → w.cell? ⟨g, o + j * 6 + k, none⟩ = some u := by
      intro k u hu
      have hk : k < 6 := by
        have := (List.getElem?_eq_some_iff.1 hu).1
        rwa [i2 _ (List.getElem_mem hj')] at this
      rw [Nat.add_assoc]
      exact hc _ u (by rw [flatten_get 6 css i2 j k hj' hk, hu])
    rw [hr] at at_
    exact ⟨g, o, B1, c1, B2, c2, h1, hF, hn, hfit, hl, ht, at_ 0 _ rfl, at_ 1 _ rfl, at_ 2 _ rfl, at_ 3 _ rfl, at_ 4 _ rfl, at_ 5 _ rfl⟩
/-- A value of a list. -/
theorem LAt.at_ {A : Option Addr} {t : List FV} (h : LAt w F A t) {j : Nat} (hj : j < t.length) :
    ∃ g o B1 c1 B2 c2, A = some ⟨g, o, none⟩ ∧ F g ∧ (t[j]).fit c1 c2 ∧ LAt w F B1 (t[j]).list ∧ TAt w F B2 (t[j]).table ∧
      w.cell? ⟨g, o + j * 5, none⟩ = some (.int .i64 (t[j]).kind) ∧ w.cell? ⟨g, o + j * 5 + 1, none⟩ = some (.int .i64 (t[j]).num) ∧ w.cell? ⟨g, o + j * 5 + 2, none⟩ = some (.string (t[j]).text) ∧
      w.cell? ⟨g, o + j * 5 + 3, none⟩ = some (.slice B1 (t[j]).list.length c1) ∧ w.cell? ⟨g, o + j * 5 + 4, none⟩ = some (.slice B2 (t[j]).table.length c2) := by
  obtain ⟨css, h1, h2⟩ := h
  obtain ⟨i1, i2, i3⟩ := VsAt.get t css h2
  have hj' : j < css.length := by omega
  have hv := i3 j hj hj'
  rw [VAt_iff] at hv
  obtain ⟨B1, c1, B2, c2, hr, hfit, hl, ht⟩ := hv
  rcases h1 with h1 | ⟨g, o, h1, hF, hc⟩
  · exfalso
    have := congrArg List.length h1
    rw [flatten_len 5 css i2, List.length_nil] at this
    omega
  · have at_ : ∀ k u, (css[j])[k]? = some u → w.cell? ⟨g, o + j * 5 + k, none⟩ = some u := by
      intro k u hu
      have hk : k < 5 := by
        have := (List.getElem?_eq_some_iff.1 hu).1
        rwa [i2 _ (List.getElem_mem hj')] at this
      rw [Nat.add_assoc]
      exact hc _ u (by rw [flatten_get 5 css i2 j k hj' hk, hu])
    rw [hr] at at_
    exact ⟨g, o, B1, c1, B2, c2, h1, hF, hfit, hl, ht, at_ 0 _ rfl, at_ 1 _ rfl, at_ 2 _ rfl, at_ 3 _ rfl, at_ 4 _ rfl⟩
end

end Go.Proofs.Ytnlmkfncdklcdaa
