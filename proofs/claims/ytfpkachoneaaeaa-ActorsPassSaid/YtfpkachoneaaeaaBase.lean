/-
  Words of my own for memory: which blocks a step may turn, a slice that reads as octets, a row that is owned. Nothing of the program is in it.
-/
import Derived.WalkKit
import Derived.WalkSpells
import Derived.WalkLawsBesides
import Derived.Lib.Hide
import Derived.Handy
import Derived.Maps.AppendAt
import Derived.Deep.AppendLies
import Derived.Deep.Draws
import Derived.Deep.QuietTactic
import Derived.BigQuiet
import Derived.Deep.RegionLaw
import Derived.Deep.LoopGhost
namespace Go.Proofs.Ytfpkachoneaaeaa
open Go.RowKit

/-- From w to w' no old block outside of S has turned. -/
structure Kept (S : Nat → Prop) (w w' : World) : Prop where
  os : w'.os = w.os
  tape : w'.tape = w.tape
  output : w'.output = w.output
  size : w.heap.size ≤ w'.heap.size
  block : ∀ k, k < w.heap.size → ¬ S k → w'.heap[k]? = w.heap[k]?

def noneS : Nat → Prop := fun _ => False

section
variable {S S' : Nat → Prop} {a b c w w' : World}
theorem Kept.refl (S : Nat → Prop) (w : World) : Kept S w w := ⟨rfl, rfl, rfl, Nat.le_refl _, fun _ _ _ => rfl⟩
theorem Kept.trans2 (h : Kept S a b) (k : Kept S' b c) (hs : ∀ i, i < a.heap.size → S' i → S i) : Kept S a c :=
  ⟨k.os.trans h.os, k.tape.trans h.tape, k.output.trans h.output, Nat.le_trans h.size k.size, fun i hi hn => (k.block i (Nat.lt_of_lt_of_le hi h.size) (fun q => hn (hs i hi q))).trans (h.block i hi hn)⟩
theorem Kept.trans (h : Kept S a b) (k : Kept S b c) : Kept S a c := h.trans2 k fun _ _ q => q
theorem Kept.mono (h : Kept S w w') (hs : ∀ i, i < w.heap.size → S i → S' i) : Kept S' w w' :=
  ⟨h.os, h.tape, h.output, h.size, fun i hi hn => h.block i hi (fun q => hn (hs i hi q))⟩
theorem Kept.drew (h : Kept S a w) : Kept S a w.drew := ⟨h.os, h.tape, h.output, h.size, h.block⟩
theorem Kept.drewN (h : Kept S a w) (n : Nat) : Kept S a (w.drewN n) := ⟨h.os, h.tape, h.output, h.size, h.block⟩
theorem Kept.alloc (h : Kept S a w) (o : Obj) : Kept S a (w.alloc o) :=
  ⟨h.os, h.tape, h.output, Nat.le_trans h.size (by simp), fun i hi hn => (Below.heap_alloc w o i (Nat.lt_of_lt_of_le hi h.size)).trans (h.block i hi hn)⟩
theorem Kept.setCell (h : Kept S a w) {p : Addr} (hp : p.block < a.heap.size → S p.block) (u : Value) : Kept S a (w.setCell p u) :=
  ⟨h.os, h.tape, h.output, by simpa [World.setCell] using h.size, fun i hi hn => (Below.heap_setCell w p u i (by
    rintro rfl
    exact hn (hp hi))).trans (h.block i hi hn)⟩
theorem Kept.grown {row : Option Nat} (h : Kept S a w) (hg : w.grownBy w' row) (hr : ∀ k, row = some k → k < a.heap.size → S k) : Kept S a w' :=
  ⟨hg.os.trans h.os, hg.tape.trans h.tape, hg.output.trans h.output, Nat.le_trans h.size hg.size, fun i hi hn => (hg.block i (Nat.lt_of_lt_of_le hi h.size) (fun e => hn (hr i e.symm hi))).trans (h.block i hi hn)⟩
theorem Kept.of_below (h : Below w.heap.size w w') : Kept S w w' := ⟨h.os, h.tape, h.output, h.size, fun i hi _ => h.block i hi⟩
theorem Kept.below {B : Nat} (h : Kept S w w') (hB : B ≤ w.heap.size) (hs : ∀ k, S k → B ≤ k) : Below B w w' :=
  ⟨h.os, h.tape, h.output, h.size, fun i hi => h.block i (by omega) (fun q => by have := hs i q; omega)⟩
theorem Kept.still (h : Kept noneS w w') : Below w.heap.size w w' := h.below (Nat.le_refl _) fun _ q => q.elim
theorem Kept.cell (h : Kept S w w') {p : Addr} (hp : p.block < w.heap.size) (hn : ¬ S p.block) : w'.cell? p = w.cell? p := World.cell?_of_block (h.block p.block hp hn)
theorem Kept.frozen (h : Kept S w w') {p : Addr} (hp : p.block < w.heap.size) (hn : ¬ S p.block) : w'.frozen? p = w.frozen? p := World.frozen?_of_block (h.block p.block hp hn)
end

theorem lt_of_cell {w : World} {p : Addr} {v : Value} (h : w.cell? p = some v) : p.block < w.heap.size := by
  rcases Nat.lt_or_ge p.block w.heap.size with hl | hl
  · exact hl
  · simp [World.cell?, Array.getElem?_eq_none hl] at h

/-- A block that is known whole, none of it frozen. -/
def Blk (w : World) (g : Nat) (t : TypeId) (cs : Array Value) : Prop := w.heap[g]? = some (.cells cs t (0, 0))

section
variable {w w' : World} {g : Nat} {t : TypeId} {cs : Array Value} {S : Nat → Prop}
theorem Blk.lt (h : Blk w g t cs) : g < w.heap.size := by
  rcases Nat.lt_or_ge g w.heap.size with hl | hl
  · exact hl
  · unfold Blk at h; rw [Array.getElem?_eq_none hl] at h; cases h
theorem Blk.cell (h : Blk w g t cs) (i : Nat) : w.cell? ⟨g, i, none⟩ = cs[i]? := cell_of_row w g i cs t (0, 0) h
theorem Blk.frozen (h : Blk w g t cs) (i : Nat) : w.frozen? ⟨g, i, none⟩ = false := by
  unfold Blk at h
  simp [World.frozen?, h]
theorem Blk.keep (h : Blk w g t cs) (hk : Kept S w w') (hn : ¬ S g) : Blk w' g t cs := (hk.block g h.lt hn).trans h
theorem Blk.new (w : World) (t : TypeId) (cs : Array Value) : Blk (w.alloc (.cells cs t)) w.heap.size t cs := heap_alloc_new w _
theorem Blk.set_ (h : Blk w g t cs) (i : Nat) (u : Value) : Blk (w.setCell ⟨g, i, none⟩ u) g t (cs.setIfInBounds i u) := by
  unfold Blk at h ⊢
  simp [World.setCell, Array.getElem?_modify, h]
theorem Blk.far (h : Blk w g t cs) {p : Addr} (hp : g ≠ p.block) (u : Value) : Blk (w.setCell p u) g t cs := (Below.heap_setCell w p u g hp).trans h
theorem Blk.alloc (h : Blk w g t cs) (o : Obj) : Blk (w.alloc o) g t cs := (Below.heap_alloc w o g h.lt).trans h
theorem Blk.drew (h : Blk w g t cs) : Blk w.drew g t cs := h
theorem Blk.drewN (h : Blk w g t cs) (n : Nat) : Blk (w.drewN n) g t cs := h
theorem Blk.grown {row : Option Nat} (h : Blk w g t cs) (hb : w.grownBy w' row) (hg : some g ≠ row) : Blk w' g t cs := (hb.block g h.lt hg).trans h
theorem Blk.ne_ {g' : Nat} {t' : TypeId} {cs' : Array Value} (h : Blk w g t cs) (h' : Blk w g' t' cs') (hne : t ≠ t') : g ≠ g' := by
  rintro rfl
  unfold Blk at h h'
  rw [h] at h'
  injection h' with h'
  injection h' with _ ht
  exact hne ht
end

/-- The slice at A reads as these cells (size 1 a value); its block is one of F. -/
def Rd (w : World) (F : Nat → Prop) (A : Option Addr) (xs : List Value) : Prop :=
  xs = [] ∨ ∃ g o, A = some ⟨g, o, none⟩ ∧ F g ∧ ∀ j u, xs[j]? = some u → w.cell? ⟨g, o + j, none⟩ = some u

def bvs (bs : List UInt8) : List Value := bs.map fun b => .int .u8 (b.toNat : Int)

/-- The slice at A reads as these octets. -/
def RB (w : World) (F : Nat → Prop) (A : Option Addr) (bs : List UInt8) : Prop := Rd w F A (bvs bs)

/-- The lowest octet of a number. -/
def lo8 (q : Int) : UInt8 := UInt8.ofNat (q % 256).toNat
theorem lo8_val (q : Int) : ((lo8 q).toNat : Int) = q % 256 := by
  unfold lo8
  rw [UInt8.toNat_ofNat']
  omega
theorem lo8_wrap (q : Int) : IntKind.u8.wrap q = ((lo8 q).toNat : Int) := by rw [lo8_val, IntKind.wrap_u8]
theorem lo8_of (b : UInt8) : lo8 (b.toNat : Int) = b := by
  apply UInt8.toNat_inj.1
  have h := lo8_val (b.toNat : Int)
  have := b.toNat_lt
  omega
theorem bvs_length (bs : List UInt8) : (bvs bs).length = bs.length := by simp [bvs]
theorem bvs_append (l r : List UInt8) : bvs (l ++ r) = bvs l ++ bvs r := by simp [bvs]
theorem bvs_one (bs : List UInt8) : ∀ u ∈ bvs bs, u.oneCell' = true := by
  intro u hu
  obtain ⟨b, _, rfl⟩ := List.mem_map.1 hu
  rfl
theorem bvs_get (bs : List UInt8) (j : Nat) (h : j < bs.length) : (bvs bs)[j]? = some (.int .u8 ((bs[j]).toNat : Int)) := by simp [bvs, h]
theorem bvs_take (bs : List UInt8) (n : Nat) : bvs (bs.take n) = (bvs bs).take n := by simp [bvs]
theorem bvs_drop (bs : List UInt8) (n : Nat) : bvs (bs.drop n) = (bvs bs).drop n := by simp [bvs]

section
variable {w w' : World} {F G S : Nat → Prop} {A : Option Addr} {xs : List Value} {bs : List UInt8}
theorem Rd.keep (h : Rd w F A xs) (hk : Kept S w w') (hd : ∀ k, k < w.heap.size → F k → S k → False) : Rd w' F A xs := by
  rcases h with rfl | ⟨g, o, hA, hF, hc⟩
  · exact .inl rfl
  · refine .inr ⟨g, o, hA, hF, fun j u hu => ?_⟩
    have h0 := hc j u hu
    have hl := lt_of_cell h0
    rw [hk.cell (p := ⟨g, o + j, none⟩) hl (fun q => hd g hl hF q)]
    exact h0
theorem Rd.below {B : Nat} (h : Rd w F A xs) (hk : Below B w w') (hF : ∀ k, F k → k < B) : Rd w' F A xs := by
  rcases h with rfl | ⟨g, o, hA, hg, hc⟩
  · exact .inl rfl
  · exact .inr ⟨g, o, hA, hg, fun j u hu => (hk.cell (p := ⟨g, o + j, none⟩) (hF g hg)).trans (hc j u hu)⟩
theorem Rd.mono (h : Rd w F A xs) (hF : ∀ k, k < w.heap.size → F k → G k) : Rd w G A xs := by
  rcases h with rfl | ⟨g, o, hA, hg, hc⟩
  · exact .inl rfl
  · by_cases hx : xs = []
    · exact .inl hx
    · have hl : 0 < xs.length := List.length_pos_iff.2 hx
      exact .inr ⟨g, o, hA, hF g (lt_of_cell (hc 0 _ (List.getElem?_eq_getElem hl))) hg, hc⟩
theorem Rd.old (h : Rd w F A xs) : Rd w (fun k => F k ∧ k < w.heap.size) A xs := h.mono fun _ hk hf => ⟨hf, hk⟩
theorem Rd.cut (h : Rd w F A xs) {k cap : Nat} (hc : xs.length ≤ cap) :
    Rd w F (if cap = k then A else A.map (·.add k)) (xs.drop k) := by
  rcases h with rfl | ⟨g, o, hA, hg, hcell⟩
  · exact .inl (by simp)
  · by_cases hk : xs.length ≤ k
    · exact .inl (List.drop_eq_nil_of_le hk)
    · refine .inr ⟨g, o + k, ?_, hg, fun j u hu => ?_⟩
      · rw [if_neg (by omega), hA]
        unfold Addr.add
        by_cases h0 : k = 0 <;> simp [h0]
      · rw [Nat.add_assoc]
        exact hcell _ u (by rw [← hu, List.getElem?_drop])
theorem Rd.take (h : Rd w F A xs) (k : Nat) : Rd w F A (xs.take k) := by
  rcases h with rfl | ⟨g, o, hA, hg, hcell⟩
  · exact .inl (by simp)
  · refine .inr ⟨g, o, hA, hg, fun j u hu => hcell j u ?_⟩
    rw [List.getElem?_take] at hu
    split at hu
    · exact hu
    · cases hu
theorem RB.at_ (h : RB w F A bs) {k : Nat} (hk : k < bs.length) :
    ∃ g o, A = some ⟨g, o, none⟩ ∧ F g ∧ w.cell? ⟨g, o + k, none⟩ = some (.int .u8 ((bs[k]).toNat : Int)) := by
  rcases h with h0 | ⟨g, o, hA, hF, hc⟩
  · have := congrArg List.length h0
    rw [bvs_length, List.length_nil] at this
    omega
  · exact ⟨g, o, hA, hF, hc k _ (bvs_get bs k hk)⟩
theorem RB.keep (h : RB w F A bs) (hk : Kept S w w') (hd : ∀ k, k < w.heap.size → F k → S k → False) : RB w' F A bs := Rd.keep h hk hd
theorem RB.still (h : RB w F A bs) (hk : Kept noneS w w') : RB w' F A bs := Rd.keep h hk fun _ _ _ q => q.elim
theorem RB.below {B : Nat} (h : RB w F A bs) (hk : Below B w w') (hF : ∀ k, F k → k < B) : RB w' F A bs := Rd.below h hk hF
theorem RB.mono (h : RB w F A bs) (hF : ∀ k, k < w.heap.size → F k → G k) : RB w G A bs := Rd.mono h hF
theorem RB.cut (h : RB w F A bs) {k cap : Nat} (hc : bs.length ≤ cap) : RB w F (if cap = k then A else A.map (·.add k)) (bs.drop k) := by
  unfold RB
  rw [bvs_drop]
  exact Rd.cut h (by rw [bvs_length]; exact hc)
theorem RB.take (h : RB w F A bs) (k : Nat) : RB w F A (bs.take k) := by
  unfold RB
  rw [bvs_take]
  exact Rd.take h k
theorem Rd.alloc (h : Rd w F A xs) (o : Obj) : Rd (w.alloc o) F A xs := h.keep ((Kept.refl noneS w).alloc o) fun _ _ _ q => q.elim
theorem RB.alloc (h : RB w F A bs) (o : Obj) : RB (w.alloc o) F A bs := Rd.alloc h o
theorem Rd.drew (h : Rd w F A xs) : Rd w.drew F A xs := h
theorem RB.drew (h : RB w F A bs) : RB w.drew F A bs := h
theorem Rd.drewN (h : Rd w F A xs) (n : Nat) : Rd (w.drewN n) F A xs := h
theorem RB.drewN (h : RB w F A bs) (n : Nat) : RB (w.drewN n) F A bs := h
theorem Rd.one (w : World) (x : Value) (t : TypeId) : Rd (w.alloc (.cells #[x] t)) (fun _ => True) (some ⟨w.heap.size, 0, none⟩) [x] := by
  refine .inr ⟨w.heap.size, 0, rfl, trivial, fun j u hj => ?_⟩
  match j, hj with
  | 0, hj =>
    simp at hj
    subst hj
    simp
theorem RB.lit (w : World) (F : Nat → Prop) (t : TypeId) (fr : Nat × Nat) (cs : Array Value) (bs : List UInt8) (h : cs.toList = bvs bs) (hF : F w.heap.size) : RB (w.alloc (.cells cs t fr)) F (some ⟨w.heap.size, 0, none⟩) bs := by
  refine .inr ⟨w.heap.size, 0, rfl, hF, fun j u hu => ?_⟩
  have h1 : (w.alloc (.cells cs t fr)).heap[w.heap.size]? = some (.cells cs t fr) := heap_alloc_new w _
  rw [Nat.zero_add, ← h] at *
  simp only [World.cell?, h1]
  simpa using hu
theorem RB.nil (w : World) (F : Nat → Prop) (A : Option Addr) : RB w F A [] := .inl rfl
end

/-- A row of the call's own: the whole block from its head on is its; its block is one of F. -/
def Own (w : World) (e : TypeId) (size : Nat) (F : Nat → Prop) (v : Value) (n : Nat) (xs : List Value) : Prop :=
  w.ownsRow 0 e size v n xs ∧ ∀ k, v.ownBlock = some k → F k

/-- The block that a row owns. -/
def ownS (v : Value) : Nat → Prop := fun k => v.ownBlock = some k

section
variable {w w' : World} {F G S : Nat → Prop} {e : TypeId} {size n : Nat} {v : Value} {xs : List Value}
theorem Own.ne_blk (h : Own w e size F v n xs) {g : Nat} {t : TypeId} {cs : Array Value} (hg : Blk w g t cs) (hne : e ≠ t) : ¬ ownS v g := by
  intro he
  rcases h.1.2 with ⟨rfl, _⟩ | ⟨g', cap, cur, rfl, _, hh, _⟩
  · simp [ownS, Value.ownBlock] at he
  · have : g' = g := by simpa [ownS, Value.ownBlock] using he
    subst this
    exact Blk.ne_ (t := e) hh hg hne rfl
theorem Own.nil (w : World) (e : TypeId) (size : Nat) (F : Nat → Prop) : Own w e size F (.slice none 0 0) 0 [] := ⟨World.ownsRow_nil w 0 e size, fun _ h => by simp [Value.ownBlock] at h⟩
theorem Own.lt (h : Own w e size F v n xs) : ∀ k, v.ownBlock = some k → k < w.heap.size := fun k hk => (h.1.lt k hk).2
theorem Own.keep0 (h : Own w e size F v n xs) (hk : Kept S w w') (hd : ∀ k, k < w.heap.size → ownS v k → S k → False) : Own w' e size F v n xs := by
  refine ⟨⟨h.1.1, ?_⟩, h.2⟩
  rcases h.1.2 with h0 | ⟨g, cap, cur, rfl, hb, hh, h1, h2, h3, h4⟩
  · exact .inl h0
  · have hg : g < w.heap.size := h.lt g rfl
    exact .inr ⟨g, cap, cur, rfl, hb, (hk.block g hg (fun q => hd g hg rfl q)).trans hh, h1, h2, h3, h4⟩
theorem Own.keep (h : Own w e size F v n xs) (hk : Kept S w w') (hd : ∀ k, k < w.heap.size → F k → S k → False) : Own w' e size F v n xs :=
  h.keep0 hk fun k hk1 ho hs => hd k hk1 (h.2 k ho) hs
/-- A store into another block. -/
theorem Own.far (h : Own w e size F v n xs) {p : Addr} (hp : ¬ ownS v p.block) (u : Value) : Own (w.setCell p u) e size F v n xs :=
  h.keep0 ((Kept.refl (· = p.block) w).setCell (fun _ => rfl) u) fun _ _ h1 h2 => hp (by subst h2; exact h1)
theorem Own.alloc (h : Own w e size F v n xs) (o : Obj) : Own (w.alloc o) e size F v n xs := h.keep0 ((Kept.refl noneS w).alloc o) fun _ _ _ q => q.elim
theorem Own.drew (h : Own w e size F v n xs) : Own w.drew e size F v n xs := h.keep0 ((Kept.refl noneS w).drew) fun _ _ _ q => q.elim
theorem Own.drewN (h : Own w e size F v n xs) (m : Nat) : Own (w.drewN m) e size F v n xs := h.keep0 ((Kept.refl noneS w).drewN m) fun _ _ _ q => q.elim
theorem Own.mono (h : Own w e size F v n xs) (hF : ∀ k, k < w.heap.size → F k → G k) : Own w e size G v n xs := ⟨h.1, fun k hk => hF k (h.lt k hk) (h.2 k hk)⟩
theorem Own.lit (w : World) (e : TypeId) (size : Nat) (F : Nat → Prop) (cs : Array Value) (n : Nat) (hn : cs.size = n * size) (hm : n ≤ maxLen) (hF : F w.heap.size) :
    Own (w.alloc (.cells cs e)) e size F (.slice (some ⟨w.heap.size, 0, none⟩) n n) n cs.toList := by
  refine ⟨⟨by simpa using hn, .inr ⟨w.heap.size, n, cs, rfl, Nat.zero_le _, heap_alloc_new w _, Nat.le_refl _, hm, hn, ?_⟩⟩, fun k hk => ?_⟩
  · rw [List.take_of_length_le (by simp [hn])]
  · simp [Value.ownBlock] at hk
    subst hk
    exact hF
theorem Own.empty (w : World) (e : TypeId) (size : Nat) (F : Nat → Prop) (hF : F w.heap.size) : Own (w.alloc (.cells #[] e)) e size F (.slice (some ⟨w.heap.size, 0, none⟩) 0 0) 0 [] :=
  Own.lit w e size F #[] 0 (by simp) (Nat.zero_le _) hF
theorem Own.form (h : Own w e size F v n xs) : ∃ A cap, v = .slice A n cap ∧ n ≤ cap ∧ cap ≤ maxLen ∧ (A = none → n = 0 ∧ cap = 0) := by
  rcases h.1.2 with ⟨h0, h1⟩ | ⟨g, cap, cur, rfl, hb, hh, h1, h2, h3, h4⟩
  · subst h1; exact ⟨none, 0, h0, Nat.le_refl _, Nat.zero_le _, fun _ => ⟨rfl, rfl⟩⟩
  · exact ⟨_, cap, rfl, h1, h2, fun hq => by cases hq⟩
theorem Own.rd {A : Option Addr} {cap : Nat} (h : Own w e size F (.slice A n cap) n xs) : Rd w F A xs := by
  rcases h.1.2 with ⟨h0, h1⟩ | ⟨g, cap', cur, h0, hb, hh, h1, h2, h3, h4⟩
  · subst h1
    refine .inl ?_
    have := h.1.1
    simpa using this
  · injection h0 with hA
    subst hA
    refine .inr ⟨g, 0, rfl, h.2 g rfl, fun j u hu => ?_⟩
    have := h.1.cells (g := g) rfl j u hu
    rw [Nat.zero_add]
    unfold Addr.add at this
    by_cases hj : j = 0
    · subst hj; simpa using this
    · simpa [hj] using this
theorem Own.block {A : Option Addr} {cap g : Nat} (h : Own w e size F (.slice A n cap) n xs) (hA : A = some ⟨g, 0, none⟩) : ∃ cur, Blk w g e cur ∧ n ≤ cap ∧ cur.size = cap * size ∧ cur.toList.take (n * size) = xs := by
  rcases h.1.2 with ⟨h0, h1⟩ | ⟨g', cap', cur, h0, hb, hh, h1, h2, h3, h4⟩
  · injection h0 with h0; subst h0; cases hA
  · injection h0 with hA' _ hcap
    subst hA'
    injection hA with hA
    injection hA with hg
    subst hg hcap
    exact ⟨cur, hh, h1, h3, h4⟩
end

def OB (w : World) (F : Nat → Prop) (v : Value) (bs : List UInt8) : Prop := Own w 5 1 F v bs.length (bvs bs)

theorem OB.rb {w : World} {F : Nat → Prop} {A : Option Addr} {cap n : Nat} {bs : List UInt8} (h : OB w F (.slice A n cap) bs) : n = bs.length ∧ RB w F A bs := by
  obtain ⟨A', cap', h0, _⟩ := Own.form h
  injection h0 with h1 h2 h3
  subst h1 h2 h3
  exact ⟨rfl, Own.rd h⟩

theorem bvs_set (bs : List UInt8) (j : Nat) (b : UInt8) : bvs (bs.set j b) = (bvs bs).set j (.int .u8 (b.toNat : Int)) := by simp [bvs, List.map_set]

/-- A store into an owned row of octets. -/
theorem OB.store {w : World} {F : Nat → Prop} {A : Option Addr} {n cap : Nat} {bs : List UInt8} (h : OB w F (.slice A n cap) bs) {j : Nat} (hj : j < bs.length) (b : UInt8) :
    ∃ g, A = some ⟨g, 0, none⟩ ∧ F g ∧ w.cell? ⟨g, j, none⟩ = some (.int .u8 ((bs[j]).toNat : Int)) ∧ w.frozen? ⟨g, j, none⟩ = false ∧ OB (w.setCell ⟨g, j, none⟩ (.int .u8 (b.toNat : Int))) F (.slice A n cap) (bs.set j b) := by
  rcases h.1.2 with ⟨h0, h1⟩ | ⟨g, cap', cur, h0, hb, hh, h1, h2, h3, h4⟩
  · omega
  · injection h0 with hA hn hcap
    subst hA hn hcap
    have hg := h.2 g rfl
    obtain ⟨_, hrb⟩ := OB.rb h
    obtain ⟨g', o', e1, _, hc⟩ := hrb.at_ hj
    injection e1 with e1
    injection e1 with e2 e3
    subst e2 e3
    rw [Nat.zero_add] at hc
    have hblk : Blk w g 5 cur := hh
    refine ⟨g, rfl, hg, hc, hblk.frozen j, ⟨⟨by simp [bvs_length], .inr ⟨g, cap, cur.setIfInBounds j (.int .u8 (b.toNat : Int)), by simp, hb, hblk.set_ j _, by simpa using h1, h2, by simpa using h3, ?_⟩⟩, h.2⟩⟩
    have h5 : cur.toList.take bs.length = bvs bs := by simpa using h4
    rw [bvs_set, ← h5]
    simp [List.take_set]

end Go.Proofs.Ytfpkachoneaaeaa
