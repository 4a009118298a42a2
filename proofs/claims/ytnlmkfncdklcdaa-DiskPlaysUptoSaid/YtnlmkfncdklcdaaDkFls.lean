/-
  Lists of files (api.File) in memory.
-/
import Derived.Test.YtnlmkfncdklcdaaDkAppP
import Derived.Test.YtnlmkfncdklcdaaTree
namespace Go.Proofs.Ytnlmkfncdklcdaa
open Go.RowKit

structure FlS where
  name : ByteArray
  data : List UInt8

/-- The two cells of a file. -/
def FlAt (w : World) (F : Nat → Prop) (f : FlS) (cs : List Value) : Prop := f.name.size ≤ 140737488351232 ∧ f.data.length ≤ 140737488351232 ∧ ∃ v, cs = [.string f.name, v] ∧ SlAt w F v f.data
/-- The slice at A reads as these files. -/
def FlsAt (w : World) (F : Nat → Prop) (A : Option Addr) (fs : List FlS) : Prop := ∃ css : List (List Value), Rd w F A css.flatten ∧ css.length = fs.length ∧ ∀ j (h : j < fs.length) (h' : j < css.length), FlAt w F fs[j] css[j]

section
variable {w w' : World} {F G S : Nat → Prop} {A : Option Addr} {fs : List FlS}
theorem FlAt.keep {f : FlS} {cs : List Value} (h : FlAt w F f cs) (hk : Kept S w w') (hd : ∀ k, k < w.heap.size → F k → S k → False) : FlAt w' F f cs := by
  obtain ⟨h1, h2, v, h3, h4⟩ := h
  exact ⟨h1, h2, v, h3, h4.keep hk hd⟩
theorem FlAt.mono {f : FlS} {cs : List Value} (h : FlAt w F f cs) (hF : ∀ k, k < w.heap.size → F k → G k) : FlAt w G f cs := by
  obtain ⟨h1, h2, v, h3, h4⟩ := h
  exact ⟨h1, h2, v, h3, h4.mono hF⟩
theorem FlAt.len {f : FlS} {cs : List Value} (h : FlAt w F f cs) : cs.length = 2 := by
  obtain ⟨_, _, v, rfl, _⟩ := h
  rfl
theorem FlsAt.keep (h : FlsAt w F A fs) (hk : Kept S w w') (hd : ∀ k, k < w.heap.size → F k → S k → False) : FlsAt w' F A fs := by
  obtain ⟨css, h1, h2, h3⟩ := h
  exact ⟨css, h1.keep hk hd, h2, fun j a b => (h3 j a b).keep hk hd⟩
theorem FlsAt.still (h : FlsAt w F A fs) (hk : Kept noneS w w') : FlsAt w' F A fs := h.keep hk (fun _ _ _ q => q)
theorem FlsAt.mono (h : FlsAt w F A fs) (hF : ∀ k, k < w.heap.size → F k → G k) : FlsAt w G A fs := by
  obtain ⟨css, h1, h2, h3⟩ := h
  exact ⟨css, h1.mono hF, h2, fun j a b => (h3 j a b).mono hF⟩
theorem FlsAt.at_ (h : FlsAt w F A fs) {j : Nat} (hj : j < fs.length) :
    ∃ g o B d, A = some ⟨g, o, none⟩ ∧ F g ∧ (fs[j].name.size ≤ 140737488351232 ∧ fs[j].data.length ≤ 140737488351232) ∧ (RB w F B fs[j].data ∧ fs[j].data.length ≤ d ∧ d ≤ maxLen ∧ (B = none → fs[j].data = [] ∧ d = 0)) ∧
      w.cell? ⟨g, o + j * 2, none⟩ = some (.string fs[j].name) ∧ w.cell? ⟨g, o + j * 2 + 1, none⟩ = some (.slice B fs[j].data.length d) := by
  obtain ⟨css, h1, h2, h3⟩ := h
  have hj' : j < css.length := by omega
  have hlen : ∀ x ∈ css, x.length = 2 := by
    intro x hx
    obtain ⟨i, hi, rfl⟩ := List.mem_iff_getElem.1 hx
    exact (h3 i (by omega) hi).len
  obtain ⟨a1, a2, v, a3, B, d, rfl, a4, a5, a6, a7⟩ := h3 j hj hj'
  have e0 := flatten_get 2 css hlen j 0 hj' (by decide)
  have e1 := flatten_get 2 css hlen j 1 hj' (by decide)
  rw [a3] at e0 e1
  rcases h1 with h1 | ⟨g, o, rfl, hF, hc⟩
  · rw [h1] at e0
    simp at e0
  · refine ⟨g, o, B, d, rfl, hF, ⟨a1, a2⟩, ⟨a4, a5, a6, a7⟩, ?_, ?_⟩
    · have := hc (j * 2 + 0) _ e0
      simpa using this
    · have := hc (j * 2 + 1) _ e1
      rw [← Nat.add_assoc] at this
      exact this
end

def FlS.key (f : FlS) : List UInt8 := f.name.toList
def FlS.file (f : FlS) : FileS := ⟨f.name, f.data, f.data⟩
def totLen (fs : List FlS) : Nat := (fs.map fun f => f.data.length).sum
/-- The disk that is opened. -/
def openS (fs : List FlS) (room : Int) : DiskS := ⟨fs.map FlS.file, [], room, IntKind.i64.wrap (totLen fs : Int)⟩
def openErr : List FlS → List UInt8 → Int
  | [], _ => 0
  | f :: l, last => if goodB f.name = false then 110 else if last < f.key then openErr l f.key else 2

theorem put_last (f : FileS) : ∀ l : List FileS, (∀ x ∈ l, x.key < f.key) → putF f l = l ++ [f]
  | [], _ => rfl
  | g :: l, h => by
    have h1 := h g List.mem_cons_self
    rw [putF, if_neg (lt_ne h1), if_neg (fun q => lt_irr _ (lt_tr q h1)), put_last f l (fun x hx => h x (List.mem_cons_of_mem _ hx))]
    rfl
theorem lt_of_le_lt {a b c : List UInt8} (h : ¬ b < a) (k : b < c) : a < c := by
  by_cases e : a = b
  · rw [e]; exact k
  · exact lt_tr (lt_total e h) k

/-- A new file, behind the map's store. -/
theorem DOpen.addNew {w w' : World} {tag : Nat → DTag} {m : Nat} {pv : Value} {hb : List UInt8 → Nat} {p N : Nat} {s : DiskS} (h : DOpen w tag m pv hb p s N) (ha : Asc s.files) (f : FileS) (b : Nat) (hf : FileAt w tag b f)
    (hk : Kept (· = m) w w') (hv : VMap w' m (N + 1) (fun k => if k = f.key then some (.pointer (some ⟨b, 0, none⟩)) else (s.get k).map fun _ => .pointer (some ⟨hb k, 0, none⟩))) :
    DOpen w' tag m pv (fun k => if k = f.key then b else hb k) p { s with files := putF f s.files } (N + 1) := by
  have ht : ∀ k, k = m → tag k = .mp := fun k e => e ▸ h.tm
  refine ⟨fun k q => Nat.lt_of_lt_of_le (h.old k q) hk.size, h.tp, h.tm, h.blk.keep hk (fun q => by have := ht p q; rw [h.tp] at this; cases this), ?_, fun g hgm => ?_, h.pend.keep hk (fun _ _ => rfl) (fun k q => by rw [ht k q]; simp), h.room, h.used⟩
  · have e : (fun k => ((({ s with files := putF f s.files } : DiskS).get k).map fun _ => Value.pointer (some ⟨(if k = f.key then b else hb k), 0, none⟩))) = fun k => if k = f.key then some (Value.pointer (some ⟨b, 0, none⟩)) else (s.get k).map fun _ => Value.pointer (some ⟨hb k, 0, none⟩) := by
      funext k
      unfold DiskS.get
      rw [get_put]
      by_cases e : k = f.key
      · rw [if_pos e, if_pos e, if_pos e]
        rfl
      · rw [if_neg e, if_neg e]
        simp only [if_neg e]
    rw [e]
    exact hv
  · rcases mem_put _ g s.files ha hgm with e | ⟨e, ne⟩
    · subst e
      show FileAt w' tag (if g.key = g.key then b else _) _
      rw [if_pos rfl]
      exact hf.keep hk (fun _ _ => rfl) (fun k q => by rw [ht k q]; simp)
    · show FileAt w' tag (if g.key = f.key then b else hb g.key) g
      rw [if_neg ne]
      exact (h.files g e).keep hk (fun _ _ => rfl) (fun k q => by rw [ht k q]; simp)

end Go.Proofs.Ytnlmkfncdklcdaa
