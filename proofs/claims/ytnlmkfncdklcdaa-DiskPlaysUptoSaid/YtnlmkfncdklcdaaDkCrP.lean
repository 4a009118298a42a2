/-
  What a crash leaves, in plain words; and the map that Crash fills.
-/
import Derived.Test.YtnlmkfncdklcdaaDkLeft
namespace Go.Proofs.Ytnlmkfncdklcdaa
open Go.RowKit Go.Maps

abbrev Lf := List UInt8 → Option (List UInt8)
def WrS.key (x : WrS) : List UInt8 := x.name.toList
/-- How much of the write at place k of n is kept, if it is. -/
def wrLen (n k : Nat) (tear : Int) (x : WrS) : Nat := if k + 1 = n ∧ 0 ≤ tear then min x.data.length tear.toNat else x.data.length
def padTo (b : List UInt8) (n : Nat) : List UInt8 := b ++ List.replicate (n - b.length) 0
def putAt (b : List UInt8) (off : Nat) (xs : List UInt8) : List UInt8 := (padTo b (off + xs.length)).take off ++ xs ++ (padTo b (off + xs.length)).drop (off + xs.length)
def lfPut (lf : Lf) (nm b : List UInt8) : Lf := fun k => if k = nm then some b else lf k
def crStep (keep : List Bool) (tear : Int) (n k : Nat) (x : WrS) (lf : Lf) : Lf :=
  if keep.getD k false = true then lfPut lf x.key (putAt ((lf x.key).getD []) x.off (x.data.take (wrLen n k tear x))) else lf
def crF (keep : List Bool) (tear : Int) (n : Nat) : Nat → List WrS → Lf → Lf
  | _, [], lf => lf
  | k, x :: l, lf => crF keep tear n (k + 1) l (crStep keep tear n k x lf)
/-- What a crash leaves of the disk. -/
def DiskS.left (s : DiskS) (keep : List Bool) (tear : Int) : List FlS :=
  s.files.map fun f => ⟨f.name, ((crF keep tear s.pend.length 0 s.pend (fun nm => (s.get nm).map FileS.safe)) f.key).getD []⟩

/-- What holds of every row that is left. -/
def LfLen (lf : Lf) : Prop := ∀ nm d, lf nm = some d → d.length ≤ 140737488351232
theorem padTo_length (b : List UInt8) (n : Nat) : (padTo b n).length = max b.length n := by
  unfold padTo
  rw [List.length_append, List.length_replicate]
  omega
theorem putAt_length (b : List UInt8) (off : Nat) (xs : List UInt8) : (putAt b off xs).length = max b.length (off + xs.length) := by
  unfold putAt
  simp only [List.length_append, List.length_take, List.length_drop, padTo_length]
  omega

/-- The map that Crash fills; its rows lie at B and behind, ahead of U. -/
def LfAt (w : World) (U B ml n : Nat) (lf : Lf) : Prop := ∃ lt vals, LeftAt w lt ml n lf vals ∧ (∀ k, lt k ≠ none → B ≤ k ∧ k < U) ∧ LfLen lf

theorem zeroSl (w : World) : (zeroValue 34).run Try.prog w = .ok (.slice none 0 0) w := by kernel_rfl

section
variable {w w' : World} {U B ml n : Nat} {lf : Lf} {S : Nat → Prop}
theorem LfAt.keep (h : LfAt w U B ml n lf) (hk : Kept S w w') (hm : ¬ S ml) (hd : ∀ k, S k → k < B) : LfAt w' U B ml n lf := by
  obtain ⟨lt, vals, h1, h2, h3⟩ := h
  refine ⟨lt, vals, h1.keep hk hm (fun k q => ?_), h2, h3⟩
  rcases e : lt k with _ | x
  · rfl
  · have h4 := h2 k (by rw [e]; simp)
    have h5 := hd k q
    omega
theorem LfAt.up (h : LfAt w U B ml n lf) {U' : Nat} (hn : U ≤ U') : LfAt w U' B ml n lf := by
  obtain ⟨lt, vals, h1, h2, h3⟩ := h
  exact ⟨lt, vals, h1, fun k q => ⟨(h2 k q).1, Nat.lt_of_lt_of_le (h2 k q).2 hn⟩, h3⟩
theorem LfAt.more (h : LfAt w U B ml n lf) {n' : Nat} (hn : n ≤ n') : LfAt w U B ml n' lf := by
  obtain ⟨lt, vals, h1, h2, h3⟩ := h
  exact ⟨lt, vals, ⟨h1.own, h1.old, h1.map.more hn, h1.rows⟩, h2, h3⟩
theorem LfAt.lt (h : LfAt w U B ml n lf) : ml < w.heap.size := by
  obtain ⟨lt, vals, h1, _⟩ := h
  exact h1.map.lt

/-- A name's row is looked up, and another one put into its place. -/
theorem LfAt.look (h : LfAt w U B ml n lf) (nm : ByteArray) (hs : nm.size ≤ 140737488351232) (_hmB : ml < B) (hB : B ≤ w.heap.size) (hn : n < maxLen) :
    ∃ v F, (Instr.lookup 72 (.map (some ml)) (.string nm) false).run Try.prog w = .ok v w ∧ OB w F v ((lf nm.toList).getD []) ∧ (∀ k, F k → B ≤ k ∧ k < U) ∧ ((lf nm.toList).getD []).length ≤ 140737488351232 ∧
      ∀ w1 v1 d, Kept F w w1 → OB w1 (fun k => F k ∨ w.heap.size ≤ k) v1 d → d.length ≤ 140737488351232 →
        ∃ w2, (Instr.mapUpdate 72 (.map (some ml)) (.string nm) v1).run Try.prog w1 = .ok () w2 ∧ LfAt w2 w2.heap.size B ml (n + 1) (lfPut lf nm.toList d) ∧ Kept (· = ml) w1 w2 := by
  obtain ⟨lt, vals, h1, h2, h3⟩ := h
  have hlk := h1.map.look Try.underlying72 (.slice none 0 0) (zeroSl w) nm hs
  have hml : ml < w.heap.size := h1.map.lt
  refine ⟨_, fun k => lt k = some nm.toList, hlk, ?_, fun k q => h2 k (by rw [q]; simp), ?_, ?_⟩
  · rcases e : lf nm.toList with _ | d
    · exact Own.nil _ _ _ _
    · exact h1.rows nm.toList d e
  · rcases e : lf nm.toList with _ | d
    · exact Nat.zero_le _
    · exact h3 _ d e
  · intro w1 v1 d k1 o1 hd
    have hmk : VMap w1 ml n (fun nm => (lf nm).map fun _ => vals nm) := h1.map.keep k1 (fun q => by rw [h1.own] at q; cases q)
    obtain ⟨w2, hput, vm2, k2, z2⟩ := hmk.put Try.underlying72 hn nm hs v1
    refine ⟨w2, hput, ⟨fun k => if w.heap.size ≤ k ∧ k < w1.heap.size then some nm.toList else lt k, fun k => if k = nm.toList then v1 else vals k, ?_, fun k q => ?_, fun k e q => ?_⟩, k2⟩
    · have hold : ∀ k, lt k ≠ none → (if w.heap.size ≤ k ∧ k < w1.heap.size then some nm.toList else lt k) = lt k := fun k q => by
        have := h1.old k q
        rw [if_neg (by omega)]
      refine h1.set nm k1 hold (fun k q => ?_) ?_ (o1.mono (fun k a q => ?_)) k2 vm2
      · by_cases e : w.heap.size ≤ k ∧ k < w1.heap.size
        · exact e.2
        · simp only [if_neg e] at q
          exact Nat.lt_of_lt_of_le (h1.old k q) k1.size
      · show (if w.heap.size ≤ ml ∧ ml < w1.heap.size then some nm.toList else lt ml) = none
        rw [if_neg (by omega)]
        exact h1.own
      · show (if w.heap.size ≤ k ∧ k < w1.heap.size then some nm.toList else lt k) = some nm.toList
        rcases q with q | q
        · rw [hold k (by rw [q]; simp)]
          exact q
        · rw [if_pos ⟨q, a⟩]
    · have hz := k2.size
      by_cases e : w.heap.size ≤ k ∧ k < w1.heap.size
      · omega
      · simp only [if_neg e] at q
        have h5 := h2 k q
        have h6 := h1.old k q
        have h7 := k1.size
        omega
    · unfold lfPut at q
      by_cases e2 : k = nm.toList
      · rw [if_pos e2] at q
        injection q with q
        rw [← q]
        exact hd
      · rw [if_neg e2] at q
        exact h3 k e q
/-- A row that is left, to be read. -/
theorem LfAt.row (h : LfAt w U B ml n lf) (nm : ByteArray) (hs : nm.size ≤ 140737488351232) :
    ∃ v, (Instr.lookup 72 (.map (some ml)) (.string nm) false).run Try.prog w = .ok v w ∧ OB w (B ≤ ·) v ((lf nm.toList).getD []) ∧ ((lf nm.toList).getD []).length ≤ 140737488351232 := by
  obtain ⟨lt, vals, h1, h2, h3⟩ := h
  have hlk := h1.map.look Try.underlying72 (.slice none 0 0) (zeroSl w) nm hs
  refine ⟨_, hlk, ?_, ?_⟩
  · rcases e : lf nm.toList with _ | d
    · exact Own.nil _ _ _ _
    · exact (h1.rows nm.toList d e).mono (fun k _ q => (h2 k (by rw [q]; simp)).1)
  · rcases e : lf nm.toList with _ | d
    · exact Nat.zero_le _
    · exact h3 _ d e
/-- A write that is pending. -/
theorem PendAt.at_ {tag : Nat → DTag} {pv : Value} {ps : List WrS} (h : PendAt w tag pv ps) {j : Nat} (hj : j < ps.length) :
    ∃ g o c B d, pv = .slice (some ⟨g, o, none⟩) ps.length c ∧ tag g = .pd ∧ (ps[j].name.size ≤ 140737488351232 ∧ ps[j].off ≤ 140737488355328) ∧ (RB w (fun k => tag k = .ro) B ps[j].data ∧ ps[j].data.length ≤ d ∧ d ≤ maxLen ∧ (B = none → ps[j].data = [] ∧ d = 0)) ∧
      w.cell? ⟨g, o + j * 3, none⟩ = some (.string ps[j].name) ∧ w.cell? ⟨g, o + j * 3 + 1, none⟩ = some (.int .i64 (ps[j].off : Int)) ∧ w.cell? ⟨g, o + j * 3 + 2, none⟩ = some (.slice B ps[j].data.length d) := by
  obtain ⟨css, h1, h2, h3⟩ := h
  have hj' : j < css.length := by omega
  have hlen : ∀ x ∈ css, x.length = 3 := by
    intro x hx
    obtain ⟨i, hi, rfl⟩ := List.mem_iff_getElem.1 hx
    obtain ⟨_, _, v, e, _⟩ := h3 i (by omega) hi
    rw [e]
    rfl
  obtain ⟨a1, a2, v, a3, B, d, rfl, a4, a5, a6, a7⟩ := h3 j hj hj'
  have e0 := flatten_get 3 css hlen j 0 hj' (by decide)
  have e1 := flatten_get 3 css hlen j 1 hj' (by decide)
  have e2 := flatten_get 3 css hlen j 2 hj' (by decide)
  rw [a3] at e0 e1 e2
  obtain ⟨A, c, rfl, _⟩ := Own.form h1
  rcases Own.rd h1 with h0 | ⟨g, o, rfl, hF, hc⟩
  · rw [h0] at e0
    simp at e0
  · refine ⟨g, o, c, B, d, rfl, hF, ⟨a1, a2⟩, ⟨a4, a5, a6, a7⟩, ?_, ?_, ?_⟩
    · have := hc (j * 3 + 0) _ e0
      simpa using this
    · have := hc (j * 3 + 1) _ e1
      rw [← Nat.add_assoc] at this
      exact this
    · have := hc (j * 3 + 2) _ e2
      rw [← Nat.add_assoc] at this
      exact this
theorem keep_cell {G : Nat → Prop} {KA : Option Addr} {keep : List Bool} (h : Rd w G KA (keep.map Value.bool)) {j : Nat} (hj : j < keep.length) : ∃ g o, KA = some ⟨g, o, none⟩ ∧ w.cell? ⟨g, o + j, none⟩ = some (.bool (keep.getD j false)) := by
  rcases h with h0 | ⟨g, o, e, _, hc⟩
  · have := congrArg List.length h0
    simp at this
    subst this
    simp at hj
  · refine ⟨g, o, e, ?_⟩
    have := hc j (.bool keep[j]) (by simp [hj])
    rw [this, List.getD_eq_getElem?_getD, List.getElem?_eq_getElem hj]
    rfl
theorem crF_step {keep : List Bool} {tear : Int} {n j : Nat} {ps : List WrS} {lf : Lf} (hj : j < ps.length) : crF keep tear n j (ps.drop j) lf = crF keep tear n (j + 1) (ps.drop (j + 1)) (crStep keep tear n j ps[j] lf) := by
  rw [List.drop_eq_getElem_cons hj, crF]
end

end Go.Proofs.Ytnlmkfncdklcdaa
