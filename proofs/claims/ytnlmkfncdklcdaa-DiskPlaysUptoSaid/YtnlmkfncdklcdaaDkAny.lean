/-
  Append, whatever it answers: what holds of the disk behind it.
-/
import Derived.Test.YtnlmkfncdklcdaaDkLaw
import Derived.Test.YtnlmkfncdklcdaaDkAppOk
import Derived.Test.YtnlmkfncdklcdaaDkRef4
import Derived.Test.YtnlmkfncdklcdaaDkRef6
namespace Go.Proofs.Ytnlmkfncdklcdaa
open Go.RowKit

theorem DAt.lt {w : World} {F : Nat → Prop} {p N : Nat} {s : DiskS} (h : DAt w F p s N) : ∀ k, F k → k < w.heap.size := by
  obtain ⟨_, _, _, _, _, h2, _⟩ := h
  exact h2
theorem DAt.more {w : World} {F : Nat → Prop} {p N N' : Nat} {s : DiskS} (h : DAt w F p s N) (hn : N ≤ N') : DAt w F p s N' := by
  obtain ⟨tag, m, pv, hb, h1, h2, h3, h4, h5, h6, h7⟩ := h
  exact ⟨tag, m, pv, hb, h1, h2, h3, h4, h5, h6.more hn, h7⟩
theorem DInv.fileOr_le {s : DiskS} (h : DInv s) (nm : ByteArray) : ((s.fileOr nm).data.length : Int) ≤ s.used := by
  rw [h.used]
  unfold DiskS.fileOr
  rcases e : s.get nm.toList with _ | f
  · simp
  · have := mem_le_sum _ (DiskS.get_mem e).1
    simp only [Option.getD_some]
    omega
theorem DInv.appOut {s : DiskS} (h : DInv s) (nm : ByteArray) (b : List UInt8) : DInv (s.appOut nm b) := by
  unfold DiskS.appOut
  split
  · exact h.app nm b
  · exact h

theorem appendAny (F G : Nat → Prop) (p N : Nat) (s : DiskS) (nm : ByteArray) (A : Option Addr) (b : List UInt8) (c : Nat) (w : World) (h : DAt w F p s N) (hi : DInv s) (hn : nm.size ≤ 140737488351232) (hs : s.used + (b.length : Int) ≤ 1099511627776)
    (hx : RB w G A b) (hA : A = none → b = [] ∧ c = 0) (hd : ∀ k, F k → G k → False) (hp : (s.pend.length + 1) * 48 ≤ 140737488355328) (hN : N < maxLen) :
    Calls Try.prog 19 #[.pointer (some ⟨p, 0, none⟩), .string nm, .slice A b.length c] w fun e w' => e = .returned (.int .i64 (s.appErr nm b.length)) ∧ ∃ F', DAt w' F' p (s.appOut nm b) (N + 1) ∧ (∀ k, F' k → F k ∨ w.heap.size ≤ k) ∧ Kept F w w' := by
  have hu := hi.used
  have hf := hi.fileOr_le nm
  by_cases he : s.appErr nm b.length = 0
  · refine (appendOk F G p N s nm A b c w h hi.asc hn (by omega) (by omega) he hx hA hd (by omega) hp hN).mono ?_
    rintro e w' ⟨rfl, F', h1, h2, h3⟩
    refine ⟨by rw [he], F', ?_, h2, h3⟩
    unfold DiskS.appOut
    rw [if_pos he]
    exact h1
  · refine (appendBad F p N s nm A b c w h hn (by omega) (by omega) he).mono ?_
    rintro e w' ⟨rfl, k⟩
    refine ⟨rfl, F, ?_, fun k q => .inl q, k.mono (fun _ _ q => q.elim)⟩
    unfold DiskS.appOut
    rw [if_neg he]
    exact (h.keep k (fun _ _ q => q)).more (by omega)

end Go.Proofs.Ytnlmkfncdklcdaa
namespace Go.Proofs.Ytnlmkfncdklcdaa
open Go.RowKit

def DiskS.cutOut (s : DiskS) (nm : List UInt8) (n : Int) : DiskS := match s.get nm with | none => s | some f => if n < 0 ∨ (f.data.length : Int) < n then s else s.cut f n.toNat
def DiskS.remOut (s : DiskS) (nm : List UInt8) : DiskS := match s.get nm with | none => s | some f => s.rem f
theorem DInv.cutOut {s : DiskS} (h : DInv s) (nm : List UInt8) (n : Int) : DInv (s.cutOut nm n) := by
  unfold DiskS.cutOut
  rcases e : s.get nm with _ | f
  · exact h
  · obtain ⟨_, h2⟩ := DiskS.get_mem e
    simp only
    split
    · exact h
    · exact h.cut (by rw [h2]; exact e) (by omega)
theorem DInv.remOut {s : DiskS} (h : DInv s) (nm : List UInt8) : DInv (s.remOut nm) := by
  unfold DiskS.remOut
  rcases e : s.get nm with _ | f
  · exact h
  · obtain ⟨_, h2⟩ := DiskS.get_mem e
    exact h.rem (by rw [h2]; exact e)
theorem DInv.len_le {s : DiskS} (h : DInv s) {f : FileS} (hf : f ∈ s.files) : (f.data.length : Int) ≤ s.used := by
  rw [h.used]
  have := mem_le_sum _ hf
  omega

theorem cutAny (F : Nat → Prop) (p N : Nat) (s : DiskS) (nm : ByteArray) (n : Int) (w : World) (h : DAt w F p s N) (hi : DInv s) (hn : nm.size ≤ 140737488351232) (hs : s.used ≤ 1099511627776) :
    Calls Try.prog 26 #[.pointer (some ⟨p, 0, none⟩), .string nm, .int .i64 n] w fun e w' => e = .returned (.int .i64 (s.cutErr nm.toList n)) ∧ ∃ F', DAt w' F' p (s.cutOut nm.toList n) N ∧ (∀ k, F' k → F k ∨ w.heap.size ≤ k) ∧ Kept F w w' := by
  have bad : s.cutErr nm.toList n ≠ 0 → s.cutOut nm.toList n = s → Calls Try.prog 26 #[.pointer (some ⟨p, 0, none⟩), .string nm, .int .i64 n] w fun e w' => e = .returned (.int .i64 (s.cutErr nm.toList n)) ∧ ∃ F', DAt w' F' p (s.cutOut nm.toList n) N ∧ (∀ k, F' k → F k ∨ w.heap.size ≤ k) ∧ Kept F w w' := by
    intro he ho
    refine (diskCutBad F p N s nm n w h hn he).mono ?_
    rintro e w' ⟨rfl, k⟩
    rw [ho]
    exact ⟨rfl, F, h.keep k (fun _ _ q => q), fun k q => .inl q, k.mono (fun _ _ q => q.elim)⟩
  rcases e : s.get nm.toList with _ | f
  · exact bad (by unfold DiskS.cutErr; rw [e]; simp) (by unfold DiskS.cutOut; rw [e])
  · by_cases hb : n < 0 ∨ (f.data.length : Int) < n
    · exact bad (by unfold DiskS.cutErr; rw [e]; simp only [if_pos hb]; simp) (by unfold DiskS.cutOut; rw [e]; simp only [if_pos hb])
    · obtain ⟨h1, h2⟩ := DiskS.get_mem e
      have h3 := hi.len_le h1
      have hu := hi.used
      have hn2 : n = (n.toNat : Int) := by omega
      have e1 : s.cutErr nm.toList n = 0 := by unfold DiskS.cutErr; rw [e]; simp only [if_neg hb]
      have e2 : s.cutOut nm.toList n = s.cut f n.toNat := by unfold DiskS.cutOut; rw [e]; simp only [if_neg hb]
      rw [e1, e2]
      have := diskCutOk F p N s nm n.toNat f w h hi.asc hn e (by omega) (by omega) (by omega)
      rw [← hn2] at this
      exact this
theorem remAny (F : Nat → Prop) (p N : Nat) (s : DiskS) (nm : ByteArray) (w : World) (h : DAt w F p s N) (hi : DInv s) (hn : nm.size ≤ 140737488351232) (hs : s.used ≤ 1099511627776) :
    Calls Try.prog 27 #[.pointer (some ⟨p, 0, none⟩), .string nm] w fun e w' => e = .returned (.int .i64 (s.remErr nm.toList)) ∧ DAt w' F p (s.remOut nm.toList) N ∧ Kept F w w' := by
  unfold DiskS.remErr DiskS.remOut
  rcases e : s.get nm.toList with _ | f
  · refine (diskRemBad F p N s nm w h hn e).mono ?_
    rintro e w' ⟨rfl, k⟩
    exact ⟨rfl, h.keep k (fun _ _ q => q), k.mono (fun _ _ q => q.elim)⟩
  · have h3 := hi.len_le (DiskS.get_mem e).1
    have hu := hi.used
    exact diskRemOk F p N s nm f w h hn e (by omega) (by omega)

end Go.Proofs.Ytnlmkfncdklcdaa
namespace Go.Proofs.Ytnlmkfncdklcdaa
open Go.RowKit

theorem refAppAny (G H : Nat → Prop) (q : Nat) (s : DiskS) (nm : ByteArray) (A : Option Addr) (b : List UInt8) (c : Nat) (w : World) (h : RAt w G q s) (hi : DInv s) (hn : nm.size ≤ 140737488351232) (hs : s.used + (b.length : Int) ≤ 1099511627776)
    (hx : RB w H A b) (hd : ∀ k, G k → H k → False) (hp : (s.pend.length + 1) * 32 ≤ 140737488355328) (hf : (s.files.length + 1) * 48 ≤ 140737488355328) :
    Calls Try.prog 31 #[.pointer (some ⟨q, 0, none⟩), .string nm, .slice A b.length c] w fun e w' => e = .returned (.int .i64 (s.appErr nm b.length)) ∧ ∃ G', RAt w' G' q (s.appOut nm b) ∧ (∀ k, G' k → G k ∨ w.heap.size ≤ k) ∧ Kept G w w' := by
  have hu := hi.used
  have hfo := hi.fileOr_le nm
  by_cases he : s.appErr nm b.length = 0
  · refine (refAppOk G H q s nm A b c w h hi.asc hn hu (by omega) (by omega) hx hd he (by omega) hp hf).mono ?_
    rintro e w' ⟨rfl, G', h1, h2, h3⟩
    refine ⟨by rw [he], G', ?_, h2, h3⟩
    unfold DiskS.appOut
    rw [if_pos he]
    exact h1
  · refine (refAppBad G q s nm A c b.length w h hn hu (by omega) (by omega) he).mono ?_
    rintro e w' ⟨rfl, k⟩
    refine ⟨rfl, G, ?_, fun k q => .inl q, k.mono (fun _ _ q => q.elim)⟩
    unfold DiskS.appOut
    rw [if_neg he]
    exact h.keep k (fun _ _ q => q)
theorem refCutAny (G : Nat → Prop) (q : Nat) (s : DiskS) (nm : ByteArray) (n : Int) (w : World) (h : RAt w G q s) (hi : DInv s) (hs : s.used ≤ 1099511627776) (hp : s.pend.length * 32 ≤ 140737488355328) :
    Calls Try.prog 33 #[.pointer (some ⟨q, 0, none⟩), .string nm, .int .i64 n] w fun e w' => e = .returned (.int .i64 (s.cutErr nm.toList n)) ∧ ∃ G', RAt w' G' q (s.cutOut nm.toList n) ∧ (∀ k, G' k → G k ∨ w.heap.size ≤ k) ∧ Kept G w w' := by
  have bad : s.cutErr nm.toList n ≠ 0 → s.cutOut nm.toList n = s → Calls Try.prog 33 #[.pointer (some ⟨q, 0, none⟩), .string nm, .int .i64 n] w fun e w' => e = .returned (.int .i64 (s.cutErr nm.toList n)) ∧ ∃ G', RAt w' G' q (s.cutOut nm.toList n) ∧ (∀ k, G' k → G k ∨ w.heap.size ≤ k) ∧ Kept G w w' := by
    intro he ho
    refine (refCutBad G q s nm n w h he).mono ?_
    rintro e w' ⟨rfl, k⟩
    rw [ho]
    exact ⟨rfl, G, h.keep k (fun _ _ q => q), fun k q => .inl q, k.mono (fun _ _ q => q.elim)⟩
  rcases e : s.get nm.toList with _ | f
  · exact bad (by unfold DiskS.cutErr; rw [e]; simp) (by unfold DiskS.cutOut; rw [e])
  · by_cases hb : n < 0 ∨ (f.data.length : Int) < n
    · exact bad (by unfold DiskS.cutErr; rw [e]; simp only [if_pos hb]; simp) (by unfold DiskS.cutOut; rw [e]; simp only [if_pos hb])
    · have h3 := hi.len_le (DiskS.get_mem e).1
      have hn2 : n = (n.toNat : Int) := by omega
      have e1 : s.cutErr nm.toList n = 0 := by unfold DiskS.cutErr; rw [e]; simp only [if_neg hb]
      have e2 : s.cutOut nm.toList n = s.cut f n.toNat := by unfold DiskS.cutOut; rw [e]; simp only [if_neg hb]
      rw [e1, e2]
      have := refCutOk G q s nm n.toNat f w h hi.asc e (by omega) (by omega) hp
      rw [← hn2] at this
      exact this
theorem refRemAny (G : Nat → Prop) (q : Nat) (s : DiskS) (nm : ByteArray) (w : World) (h : RAt w G q s) (hi : DInv s) (hp : s.pend.length * 32 ≤ 140737488355328) (hf : s.files.length * 48 ≤ 140737488355328) :
    Calls Try.prog 34 #[.pointer (some ⟨q, 0, none⟩), .string nm] w fun e w' => e = .returned (.int .i64 (s.remErr nm.toList)) ∧ ∃ G', RAt w' G' q (s.remOut nm.toList) ∧ (∀ k, G' k → G k ∨ w.heap.size ≤ k) ∧ Kept G w w' := by
  unfold DiskS.remErr DiskS.remOut
  rcases e : s.get nm.toList with _ | f
  · refine (refRemBad G q s nm w h e).mono ?_
    rintro e w' ⟨rfl, k⟩
    exact ⟨rfl, G, h.keep k (fun _ _ q => q), fun k q => .inl q, k.mono (fun _ _ q => q.elim)⟩
  · exact refRemOk G q s nm f w h hi.asc e hp hf

end Go.Proofs.Ytnlmkfncdklcdaa
namespace Go.Proofs.Ytnlmkfncdklcdaa
open Go.RowKit

theorem put_len (f : FileS) : ∀ l : List FileS, (putF f l).length ≤ l.length + 1
  | [] => Nat.le_refl _
  | g :: l => by
    rw [putF]
    have := put_len f l
    split
    · simp
    · split
      · simp
      · simp only [List.length_cons]
        omega
def DiskS.big (s : DiskS) : Int := s.used + (s.pend.length : Int) + (s.files.length : Int)
theorem big_app (s : DiskS) (nm : ByteArray) (b : List UInt8) : (s.appOut nm b).big ≤ s.big + b.length + 2 := by
  unfold DiskS.appOut
  split
  · have h1 := put_len ⟨nm, (s.fileOr nm).data ++ b, (s.fileOr nm).safe⟩ s.files
    have h2 : (s.app nm b).files.length = (putF ⟨nm, (s.fileOr nm).data ++ b, (s.fileOr nm).safe⟩ s.files).length := rfl
    have h3 : (s.app nm b).pend.length = s.pend.length + 1 := by
      show (s.pend ++ [_]).length = _
      simp
    have h4 : (s.app nm b).used = s.used + b.length := rfl
    unfold DiskS.big
    omega
  · omega

theorem sum_takeD {α : Type} (f : α → Nat) (l : List α) (j : Nat) (h : j < l.length) : ((l.take (j + 1)).map f).sum = ((l.take j).map f).sum + f l[j] := by
  rw [List.take_succ_eq_append_getElem h, List.map_append, List.sum_append]
  simp
theorem sum_takeD_le {α : Type} (f : α → Nat) (l : List α) (j : Nat) : ((l.take j).map f).sum ≤ (l.map f).sum := by
  conv => rhs; rw [← List.take_append_drop j l]
  rw [List.map_append, List.sum_append]
  omega
theorem big_sync (s : DiskS) : s.sync2.big ≤ s.big := by
  have h1 : s.sync2.files.length = s.files.length := List.length_map _
  have h2 : s.sync2.pend.length = 0 := rfl
  have h3 : s.sync2.used = s.used := rfl
  unfold DiskS.big
  omega
theorem big_open {fs : List FlS} {room : Int} (hl : fs.length + totLen fs ≤ 1048576) : (openS fs room).big ≤ 1048576 := by
  have h1 : (openS fs room).files.length = fs.length := List.length_map _
  have h2 : (openS fs room).pend.length = 0 := rfl
  have h3 : (openS fs room).used = IntKind.i64.wrap (totLen fs : Int) := rfl
  rw [IntKind.wrap_i64] at h3
  unfold DiskS.big
  omega

end Go.Proofs.Ytnlmkfncdklcdaa
namespace Go.Proofs.Ytnlmkfncdklcdaa
open Go.RowKit

/-! ## What is safe, and files by their names -/

/-- Each of these files is there, and what is safe of it begins with what it holds. -/
def DiskS.holds (s : DiskS) (l : List FlS) : Prop := ∀ f ∈ l, ∃ g ∈ s.files, g.name = f.name ∧ f.data <+: g.safe
theorem holds_sync (s : DiskS) : s.sync2.holds s.sync2.seen := by
  intro f hf
  obtain ⟨g, hg, rfl⟩ := List.mem_map.1 hf
  obtain ⟨g0, _, rfl⟩ := List.mem_map.1 (show g ∈ s.files.map safeF from hg)
  exact ⟨_, hg, rfl, List.prefix_refl _⟩
theorem put_in (f : FileS) (l : List FileS) : f ∈ putF f l := by
  have h := get_put f f.key l
  rw [if_pos rfl] at h
  exact List.mem_of_find?_eq_some h
theorem holds_app {s : DiskS} (h : DInv s) {l : List FlS} (hl : s.holds l) (nm : ByteArray) (b : List UInt8) : (s.appOut nm b).holds l := by
  unfold DiskS.appOut
  split
  · intro f hf
    obtain ⟨g, hg, e, hp⟩ := hl f hf
    by_cases q : g.key = nm.toList
    · have hget := h.get hg
      rw [q] at hget
      have hfo : s.fileOr nm = g := by
        unfold DiskS.fileOr
        rw [hget]
        rfl
      have hnm : nm = g.name := name_inj q.symm
      refine ⟨⟨nm, (s.fileOr nm).data ++ b, (s.fileOr nm).safe⟩, put_in _ _, hnm.trans e, ?_⟩
      rw [hfo]
      exact hp
    · exact ⟨g, put_mem _ g _ hg q, e, hp⟩
  · exact hl
theorem holds_left {s : DiskS} (h : DInv s) {l : List FlS} (hl : s.holds l) (keep : List Bool) (tear : Int) {f : FlS} (hf : f ∈ l) : (∃ x ∈ s.left keep tear, x.key = f.key) ∧ ∀ x ∈ s.left keep tear, x.key = f.key → f.data <+: x.data := by
  obtain ⟨g, hg, e, hp⟩ := hl f hf
  have ek : g.key = f.key := congrArg ByteArray.toList e
  rw [left_one h]
  refine ⟨⟨_, List.mem_map.2 ⟨g, hg, rfl⟩, ek⟩, fun x hx q => ?_⟩
  obtain ⟨g', hg', rfl⟩ := List.mem_map.1 hx
  have q2 : g'.key = g.key := (show g'.key = f.key from q).trans ek.symm
  have h1 := h.get hg'
  rw [q2, h.get hg] at h1
  injection h1 with h1
  subst h1
  exact hp.trans (oneLeft_pre h keep tear hg)
/-- Whether one of the first files has this name. -/
def foundB (l : List FlS) (k : List UInt8) (j : Nat) : Bool := (l.take j).any fun x => x.key == k
theorem found_zero (l : List FlS) (k : List UInt8) : foundB l k 0 = false := rfl
theorem found_hit {l : List FlS} {k : List UInt8} {j : Nat} (h : j < l.length) (e : l[j].key = k) : foundB l k (j + 1) = true := by
  unfold foundB
  rw [List.take_succ_eq_append_getElem h, List.any_append]
  simp [e]
theorem found_miss {l : List FlS} {k : List UInt8} {j : Nat} (h : j < l.length) (e : l[j].key ≠ k) : foundB l k (j + 1) = foundB l k j := by
  unfold foundB
  rw [List.take_succ_eq_append_getElem h, List.any_append]
  simp [e]
theorem found_all {l : List FlS} {k : List UInt8} (h : ∃ x ∈ l, x.key = k) : foundB l k l.length = true := by
  obtain ⟨x, hx, e⟩ := h
  unfold foundB
  rw [List.take_length, List.any_eq_true]
  exact ⟨x, hx, by simp [e]⟩
theorem big_parts {s : DiskS} (h : DInv s) {M : Int} (hb : s.big ≤ M) : s.used ≤ M ∧ (s.pend.length : Int) ≤ M ∧ (s.files.length : Int) ≤ M ∧ 0 ≤ s.used := by
  have := h.used
  unfold DiskS.big at hb
  omega
theorem tile_in {k d : List UInt8} {x : WrS} (hx : x.key = k) : ∀ (l : List WrS) (b : List UInt8), Tile k b l d → x ∈ l → x.off + x.data.length ≤ d.length
  | [], _, _, h => by cases h
  | y :: l, b, h, hm => by
    rcases List.mem_cons.1 hm with e | e
    · subst e
      obtain ⟨h1, h2⟩ := (tile_hit hx).1 h
      have := (tile_pre l _ h2).length_le
      rw [List.length_append] at this
      omega
    · by_cases q : y.key = k
      · exact tile_in hx l _ ((tile_hit q).1 h).2 e
      · exact tile_in hx l b ((tile_skip q).1 h) e
theorem DInv.safe_le {s : DiskS} (h : DInv s) {f : FileS} (hf : f ∈ s.files) : f.safe.length ≤ f.data.length := (tile_pre _ _ (h.tile f hf)).length_le
theorem DInv.pend_le {s : DiskS} (h : DInv s) {x : WrS} (hx : x ∈ s.pend) : ((x.off + x.data.length : Nat) : Int) ≤ s.used := by
  rcases e : s.get x.key with _ | f
  · exact absurd e (h.there x hx)
  · obtain ⟨h1, h2⟩ := DiskS.get_mem e
    have h3 := tile_in h2.symm s.pend _ (h.tile f h1) hx
    have h4 := h.len_le h1
    omega
theorem mem_le_sumP {x : WrS} : ∀ l : List WrS, x ∈ l → x.data.length ≤ sumP l
  | y :: l, h => by
    have e : sumP (y :: l) = y.data.length + sumP l := by unfold sumP; rw [List.map_cons, List.sum_cons]
    rw [e]
    rcases List.mem_cons.1 h with q | q
    · rw [q]; omega
    · have := mem_le_sumP l q
      omega
/-- What Crash asks of a disk that is not great. -/
theorem crash_small {s : DiskS} (h : DInv s) {M : Int} (hb : s.big ≤ M) (hM : M ≤ 1073741824) : s.files.length * 40 ≤ 140737488355328 ∧ s.files.length + s.pend.length < maxLen ∧ (∀ x ∈ s.pend, x.off + x.data.length ≤ 140737488351232) ∧ ∀ f ∈ s.files, f.safe.length ≤ 140737488351232 := by
  obtain ⟨h1, h2, h3, h4⟩ := big_parts h hb
  refine ⟨by omega, by unfold maxLen; omega, fun x hx => ?_, fun f hf => ?_⟩
  · have := h.pend_le hx
    omega
  · have h5 := h.safe_le hf
    have h6 := h.len_le hf
    omega
theorem OB.nil_of {w : World} {F : Nat → Prop} {A : Option Addr} {n c : Nat} {bs : List UInt8} (h : OB w F (.slice A n c) bs) : A = none → bs = [] ∧ c = 0 := by
  intro q
  obtain ⟨A', c', e, _, _, h3⟩ := Own.form h
  injection e with e1 e2 e3
  subst e1 e3
  exact ⟨List.length_eq_zero_iff.1 (h3 q).1, (h3 q).2⟩

/-! ## How large a disk is behind Cut and Remove -/

theorem big_cut (s : DiskS) (nm : List UInt8) (n : Int) : (s.cutOut nm n).big ≤ s.big := by
  unfold DiskS.cutOut
  rcases e : s.get nm with _ | f
  · exact Int.le_refl _
  · simp only
    split
    · exact Int.le_refl _
    · have h1 : (s.cut f n.toNat).files.length = s.files.length := by
        show (updF f.key safeF (updF f.key (cutF n.toNat) s.files)).length = _
        unfold updF
        rw [List.length_map, List.length_map]
      have h2 : (s.cut f n.toNat).pend.length ≤ s.pend.length := List.length_filter_le _ _
      have h3 : (s.cut f n.toNat).used = s.used - ((f.data.length : Int) - (n.toNat : Int)) := rfl
      unfold DiskS.big
      omega
theorem big_rem (s : DiskS) (nm : List UInt8) : (s.remOut nm).big ≤ s.big := by
  unfold DiskS.remOut
  rcases e : s.get nm with _ | f
  · exact Int.le_refl _
  · have h1 : (s.rem f).files.length ≤ s.files.length := List.length_filter_le _ _
    have h2 : (s.rem f).pend.length ≤ s.pend.length := List.length_filter_le _ _
    have h3 : (s.rem f).used = s.used - (f.data.length : Int) := rfl
    simp only
    unfold DiskS.big
    omega
theorem DAt.name_le {w : World} {F : Nat → Prop} {p N : Nat} {s : DiskS} (h : DAt w F p s N) {f : FileS} (hf : f ∈ s.files) : f.name.size ≤ 140737488351232 := by
  obtain ⟨_, _, _, _, _, _, _, _, _, _, h7, _⟩ := h
  exact (h7 f hf).2.1
theorem sync_seen (s : DiskS) : s.sync2.seen = s.seen := by
  unfold DiskS.seen DiskS.sync2
  rw [List.map_map]
  rfl

end Go.Proofs.Ytnlmkfncdklcdaa
