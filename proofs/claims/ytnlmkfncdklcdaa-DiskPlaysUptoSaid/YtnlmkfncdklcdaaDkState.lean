/-
  A disk.Disk in memory, in plain words.
-/
import Derived.Test.YtnlmkfncdklcdaaDkMap
import Derived.Test.YtnlmkfncdklcdaaDkCopy
import Derived.Test.YtnlmkfncdklcdaaDkSeg
namespace Go.Proofs.Ytnlmkfncdklcdaa
open Go.RowKit

structure FileS where
  name : ByteArray
  data : List UInt8
  safe : List UInt8
structure WrS where
  name : ByteArray
  off : Nat
  data : List UInt8
structure DiskS where
  files : List FileS
  pend : List WrS
  room : Int
  used : Int

def FileS.key (f : FileS) : List UInt8 := f.name.toList
def DiskS.get (s : DiskS) (nm : List UInt8) : Option FileS := s.files.find? fun f => f.key == nm

/-- Whose a block is. -/
inductive DTag where
  | out
  | hdr
  | mp
  | pd
  | ro
  | fh (nm : List UInt8)
  | fd (nm : List UInt8)

/-- A slice of octets that may be lengthened: a segment of a row of its own. -/
def DataAt (w : World) (F : Nat → Prop) (v : Value) (bs : List UInt8) : Prop := ∃ A c, v = .slice A bs.length c ∧ Seg w F A bs.length c bs ∧ c ≤ maxLen

/-- A slice that is read. -/
def SlAt (w : World) (F : Nat → Prop) (v : Value) (bs : List UInt8) : Prop := ∃ A c, v = .slice A bs.length c ∧ RB w F A bs ∧ bs.length ≤ c ∧ c ≤ maxLen ∧ (A = none → bs = [] ∧ c = 0)

def FileAt (w : World) (tag : Nat → DTag) (b : Nat) (f : FileS) : Prop :=
  tag b = .fh f.key ∧ f.name.size ≤ 140737488351232 ∧ ∃ dv sv, Blk w b 71 #[dv, sv] ∧ DataAt w (fun k => tag k = .fd f.key) dv f.data ∧ SlAt w (fun k => tag k = .ro) sv f.safe

def WrAt (w : World) (tag : Nat → DTag) (x : WrS) (cs : List Value) : Prop := x.name.size ≤ 140737488351232 ∧ x.off ≤ 140737488355328 ∧ ∃ v, cs = [.string x.name, .int .i64 (x.off : Int), v] ∧ SlAt w (fun k => tag k = .ro) v x.data

def PendAt (w : World) (tag : Nat → DTag) (pv : Value) (ps : List WrS) : Prop :=
  ∃ css : List (List Value), Own w 74 3 (fun k => tag k = .pd) pv ps.length css.flatten ∧ css.length = ps.length ∧ ∀ j (h : j < ps.length) (h' : j < css.length), WrAt w tag ps[j] css[j]

/-- The disk at p, all its blocks are of F; its map has had at most N entries. -/
def DAt (w : World) (F : Nat → Prop) (p : Nat) (s : DiskS) (N : Nat) : Prop :=
  ∃ (tag : Nat → DTag) (m : Nat) (pv : Value) (hb : List UInt8 → Nat), (∀ k, F k ↔ tag k ≠ .out) ∧ (∀ k, F k → k < w.heap.size) ∧ tag p = .hdr ∧ tag m = .mp ∧
    Blk w p 68 #[.map (some m), pv, .int .i64 s.room, .int .i64 s.used] ∧
    VMap w m N (fun nm => (s.get nm).map fun _ => .pointer (some ⟨hb nm, 0, none⟩)) ∧
    (∀ f ∈ s.files, FileAt w tag (hb f.key) f) ∧ PendAt w tag pv s.pend ∧
    (-9223372036854775808 ≤ s.room ∧ s.room ≤ 9223372036854775807) ∧ (-9223372036854775808 ≤ s.used ∧ s.used ≤ 9223372036854775807)

section
variable {w w' : World} {F G S : Nat → Prop} {v : Value} {bs : List UInt8} {tag tag' : Nat → DTag}
theorem DataAt.keep (h : DataAt w F v bs) (hk : Kept S w w') (hd : ∀ k, k < w.heap.size → F k → S k → False) : DataAt w' F v bs := by
  obtain ⟨A, c, e, h, hc⟩ := h
  exact ⟨A, c, e, h.keep hk hd, hc⟩
theorem DataAt.mono (h : DataAt w F v bs) (hF : ∀ k, k < w.heap.size → F k → G k) : DataAt w G v bs := by
  obtain ⟨A, c, e, h, hc⟩ := h
  exact ⟨A, c, e, h.mono hF, hc⟩
theorem SlAt.keep (h : SlAt w F v bs) (hk : Kept S w w') (hd : ∀ k, k < w.heap.size → F k → S k → False) : SlAt w' F v bs := by
  obtain ⟨A, c, e, h, hl⟩ := h
  exact ⟨A, c, e, h.keep hk hd, hl⟩
theorem SlAt.mono (h : SlAt w F v bs) (hF : ∀ k, k < w.heap.size → F k → G k) : SlAt w G v bs := by
  obtain ⟨A, c, e, h, hl⟩ := h
  exact ⟨A, c, e, h.mono hF, hl⟩
theorem OB.sl (h : OB w F v bs) : SlAt w F v bs := by
  obtain ⟨A, c, rfl, h1, h2, h3⟩ := Own.form h
  exact ⟨A, c, rfl, (OB.rb h).2, h1, h2, fun q => ⟨List.length_eq_zero_iff.1 (h3 q).1, (h3 q).2⟩⟩
theorem DataAt.sl (h : DataAt w F v bs) : SlAt w F v bs := by
  obtain ⟨A, c, rfl, h, hc⟩ := h
  refine ⟨A, c, rfl, h.rb, h.cap, hc, fun q => ?_⟩
  subst q
  rcases h.2 with ⟨_, h1, h2⟩ | ⟨_, _, _, h, _⟩
  · exact ⟨List.length_eq_zero_iff.1 h1, h2⟩
  · cases h
theorem OB.data (h : OB w F v bs) : DataAt w F v bs := by
  obtain ⟨A, c, rfl, h1, h2, h3⟩ := Own.form h
  exact ⟨A, c, rfl, Seg.of_own h, h2⟩
theorem FileAt.keep {b : Nat} {f : FileS} (h : FileAt w tag b f) (hk : Kept S w w') (ht : ∀ k, k < w.heap.size → tag' k = tag k) (hS : ∀ k, S k → tag k ≠ .ro ∧ tag k ≠ .fh f.key ∧ tag k ≠ .fd f.key) : FileAt w' tag' b f := by
  obtain ⟨h1, h2, dv, sv, h3, h4, h5⟩ := h
  have hb : b < w.heap.size := h3.lt
  refine ⟨(ht b hb).trans h1, h2, dv, sv, h3.keep hk (fun q => (hS b q).2.1 h1), ?_, ?_⟩
  · exact (h4.mono (fun k a q => (show tag' k = .fd f.key from (ht k a).trans q))).keep hk (fun k a q s => (hS k s).2.2 ((ht k a).symm.trans q))
  · exact (h5.mono (fun k a q => (show tag' k = .ro from (ht k a).trans q))).keep hk (fun k a q s => (hS k s).1 ((ht k a).symm.trans q))
theorem WrAt.keep {x : WrS} {cs : List Value} (h : WrAt w tag x cs) (hk : Kept S w w') (ht : ∀ k, k < w.heap.size → tag' k = tag k) (hS : ∀ k, S k → tag k ≠ .ro) : WrAt w' tag' x cs := by
  obtain ⟨h1, h2, v, h3, h4⟩ := h
  exact ⟨h1, h2, v, h3, (h4.mono (fun k a q => (show tag' k = .ro from (ht k a).trans q))).keep hk (fun k a q s => hS k s ((ht k a).symm.trans q))⟩
theorem PendAt.keep {pv : Value} {ps : List WrS} (h : PendAt w tag pv ps) (hk : Kept S w w') (ht : ∀ k, k < w.heap.size → tag' k = tag k) (hS : ∀ k, S k → tag k ≠ .ro ∧ tag k ≠ .pd) : PendAt w' tag' pv ps := by
  obtain ⟨css, h1, h2, h3⟩ := h
  refine ⟨css, ?_, h2, fun j a b => (h3 j a b).keep hk ht (fun k q => (hS k q).1)⟩
  exact (h1.mono (fun k a q => (show tag' k = .pd from (ht k a).trans q))).keep hk (fun k a q s => (hS k s).2 ((ht k a).symm.trans q))
theorem DAt.keep {p N : Nat} {s : DiskS} (h : DAt w F p s N) (hk : Kept S w w') (hd : ∀ k, F k → S k → False) : DAt w' F p s N := by
  obtain ⟨tag, m, pv, hb, h1, h2, h3, h4, h5, h6, h7, h8, h9⟩ := h
  have hS : ∀ k, S k → tag k = .out := fun k q => by
    by_cases e : tag k = .out
    · exact e
    · exact (hd k ((h1 k).2 e) q).elim
  have hn : ∀ k t, tag k = t → t ≠ .out → ¬ S k := fun k t e ne q => ne (e.symm.trans (hS k q))
  refine ⟨tag, m, pv, hb, h1, fun k q => Nat.lt_of_lt_of_le (h2 k q) hk.size, h3, h4, h5.keep hk (hn p _ h3 (by simp)), h6.keep hk (hn m _ h4 (by simp)), fun f hf => (h7 f hf).keep hk (fun _ _ => rfl) (fun k q => by rw [hS k q]; simp), h8.keep hk (fun _ _ => rfl) (fun k q => by rw [hS k q]; simp), h9⟩
end

end Go.Proofs.Ytnlmkfncdklcdaa
