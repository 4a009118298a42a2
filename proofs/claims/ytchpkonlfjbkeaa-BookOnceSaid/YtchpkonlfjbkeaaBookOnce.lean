/-
  BookOnce: the plain law and the walk.
-/
import Derived.Test.YtchpkonlfjbkeaaBookFin
namespace Go.Proofs.Ytchpkonlfjbkeaa
open Go.RowKit

/-- Tags in the book and tags done: each of 1 .. n once. -/
def Inv (l : List Slip) (ds : List Int) (n : Int) : Prop := (l.map Slip.tag ++ ds).Nodup ∧ (∀ t ∈ l.map Slip.tag ++ ds, 1 ≤ t ∧ t ≤ n) ∧ ((l.length + ds.length : Nat) : Int) = n

theorem Inv.nil : Inv [] [] 0 := ⟨by simp, by simp, rfl⟩
theorem Inv.give {l : List Slip} {ds : List Int} {n : Int} (h : Inv l ds n) (h0 : 0 ≤ n) (s : Slip) (hs : s.tag = n + 1) : Inv (l ++ [s]) ds (n + 1) := by
  obtain ⟨h1, h2, h3⟩ := h
  have hp : ((l ++ [s]).map Slip.tag ++ ds).Perm (s.tag :: (l.map Slip.tag ++ ds)) := by
    rw [List.map_append, List.append_assoc]
    exact List.perm_middle
  refine ⟨hp.nodup_iff.2 (List.nodup_cons.2 ⟨fun hm => by have := h2 _ hm; omega, h1⟩), fun t ht => ?_, by simp; omega⟩
  rcases List.mem_cons.1 (hp.mem_iff.1 ht) with rfl | ht
  · omega
  · have := h2 t ht
    omega
theorem Inv.same {l l' : List Slip} {ds : List Int} {n : Int} (h : Inv l ds n) (e : l'.map Slip.tag = l.map Slip.tag) : Inv l' ds n := by
  unfold Inv
  have hl : l'.length = l.length := by have := congrArg List.length e; simpa using this
  rw [e, hl]
  exact h
theorem Inv.part {l : List Slip} {ds : List Int} {n : Int} (h : Inv l ds n) (q : Slip → Bool) : FinOk (l.filter q) ds n ∧ Inv (l.filter fun s => !q s) (ds ++ (l.filter q).map Slip.tag) n := by
  obtain ⟨h1, h2, h3⟩ := h
  have hf := List.filter_append_perm q l
  have hp : ((l.filter fun s => !q s).map Slip.tag ++ (ds ++ (l.filter q).map Slip.tag)).Perm (l.map Slip.tag ++ ds) := by
    have a1 : ((l.filter fun s => !q s).map Slip.tag ++ (ds ++ (l.filter q).map Slip.tag)).Perm (((l.filter q).map Slip.tag ++ (l.filter fun s => !q s).map Slip.tag) ++ ds) := by
      rw [← List.append_assoc]
      refine List.perm_append_comm.trans ?_
      rw [List.append_assoc]
    refine a1.trans (List.Perm.append_right ds ?_)
    rw [← List.map_append]
    exact hf.map _
  have hn := hp.nodup_iff.2 h1
  refine ⟨⟨(List.nodup_append.1 hn).2.1, fun s hs => h2 _ (List.mem_append_left _ (List.mem_map_of_mem (List.mem_filter.1 hs).1))⟩, hn, fun t ht => h2 t (hp.mem_iff.1 ht), ?_⟩
  have hl := hp.length_eq
  simp at hl
  simp
  omega

theorem tags_held (b : Bool) (l : List Slip) : (l.map (Slip.hold b)).map Slip.tag = l.map Slip.tag := by
  rw [List.map_map]
  rfl
theorem tags_hold (l : List Slip) (tag : Int) (m : Bool) : (ackRest l tag m true).map Slip.tag = l.map Slip.tag := by
  unfold ackRest
  split
  · rw [if_pos rfl, List.map_map]
    refine List.map_congr_left fun s _ => ?_
    show (if cov tag m s = true then s.hold true else s).tag = s.tag
    split <;> rfl
  · rfl
theorem ack_part (l : List Slip) (tag : Int) (m : Bool) : ∃ q : Slip → Bool, ackOut l tag m false = l.filter q ∧ ackRest l tag m false = l.filter fun s => !q s := by
  unfold ackOut ackRest
  cases h : ackOk l tag m with
  | true => exact ⟨cov tag m, rfl, rfl⟩
  | false => exact ⟨fun _ => false, by simp, (List.filter_eq_self.2 fun _ _ => rfl).symm⟩
theorem ack_all (l : List Slip) : ackOk (l.map (Slip.hold false)) 0 true = true ∧ ackOut (l.map (Slip.hold false)) 0 true false = l.map (Slip.hold false) ∧ ackRest (l.map (Slip.hold false)) 0 true false = [] := by
  have h1 : ackOk (l.map (Slip.hold false)) 0 true = true := by simp [ackOk]
  have h2 : ∀ s ∈ l.map (Slip.hold false), cov 0 true s = true := by
    intro s hs
    obtain ⟨t, _, rfl⟩ := List.mem_map.1 hs
    simp [cov, covers, Slip.hold]
  refine ⟨h1, ?_, ?_⟩
  · unfold ackOut
    rw [h1, if_pos rfl, if_neg (by decide), List.filter_eq_self.2 h2]
  · unfold ackRest
    rw [h1, if_pos rfl, if_neg (by decide), List.filter_eq_nil_iff.2]
    intro s hs
    rw [h2 s hs]
    decide

/-- BookOnce's memory. -/
def OnceAt (w0 W : World) (p bg bd : Nat) (l : List Slip) (ds : List Int) (n : Int) : Prop :=
  ∃ FB FD : Nat → Prop, (∀ k, FB k → FD k → False) ∧ (∀ k, FB k → w0.heap.size ≤ k ∧ k < W.heap.size ∧ k ≠ bg) ∧ (∀ k, FD k → w0.heap.size ≤ k ∧ k < W.heap.size ∧ k ≠ bg) ∧
    BookAt W FB p l n ∧ DoneAt W FD bd ds ∧ Blk W bg 3 #[.int .i64 n] ∧ w0.heap.size ≤ bg ∧ Kept noneS w0 W

theorem OnceAt.still {w0 W W' : World} {p bg bd : Nat} {l : List Slip} {ds : List Int} {n : Int} (h : OnceAt w0 W p bg bd l ds n) (hk : Kept noneS W W') : OnceAt w0 W' p bg bd l ds n := by
  obtain ⟨FB, FD, h1, h2, h3, h4, h5, h6, h7, h8⟩ := h
  have hs := hk.size
  exact ⟨FB, FD, h1, fun k q => by have := h2 k q; omega, fun k q => by have := h3 k q; omega, h4.still hk, h5.keep hk (fun _ _ _ q => q.elim), h6.keep hk (fun q => q), h7, h8.trans hk⟩
/-- The book was turned. -/
theorem OnceAt.book {w0 W W' : World} {p bg bd : Nat} {l' : List Slip} {ds : List Int} {n : Int} {FB FD : Nat → Prop} (h1 : ∀ k, FB k → FD k → False) (h2 : ∀ k, FB k → w0.heap.size ≤ k ∧ k < W.heap.size ∧ k ≠ bg) (h3 : ∀ k, FD k → w0.heap.size ≤ k ∧ k < W.heap.size ∧ k ≠ bg)
    (h5 : DoneAt W FD bd ds) (h6 : Blk W bg 3 #[.int .i64 n]) (h7 : w0.heap.size ≤ bg) (h8 : Kept noneS w0 W) (hb : BookAt W' FB p l' n) (hk : Kept FB W W') : OnceAt w0 W' p bg bd l' ds n := by
  have hs := hk.size
  exact ⟨FB, FD, h1, fun k q => by have := h2 k q; omega, fun k q => by have := h3 k q; omega, hb, h5.keep hk (fun k _ a b => h1 k b a), h6.keep hk (fun q => (h2 bg q).2.2 rfl), h7, h8.trans2 hk (fun i hi q => by have := h2 i q; exact absurd hi (by omega))⟩
/-- The row of what is done was turned. -/
theorem OnceAt.done {w0 W W' : World} {p bg bd : Nat} {l : List Slip} {ds' : List Int} {n : Int} {FB FD : Nat → Prop} (h1 : ∀ k, FB k → FD k → False) (h2 : ∀ k, FB k → w0.heap.size ≤ k ∧ k < W.heap.size ∧ k ≠ bg) (h3 : ∀ k, FD k → w0.heap.size ≤ k ∧ k < W.heap.size ∧ k ≠ bg)
    (h4 : BookAt W FB p l n) (h6 : Blk W bg 3 #[.int .i64 n]) (h7 : w0.heap.size ≤ bg) (h8 : Kept noneS w0 W) (hd : DoneAt W' (fun k => FD k ∨ W.heap.size ≤ k) bd ds') (hk : Kept (fun k => FD k ∨ W.heap.size ≤ k) W W') : OnceAt w0 W' p bg bd l ds' n := by
  have hs := hk.size
  have hl := h6.lt
  have h0 := h8.size
  refine ⟨FB, fun k => (FD k ∨ W.heap.size ≤ k) ∧ k < W'.heap.size, fun k a b => ?_, fun k q => by have := h2 k q; omega, fun k q => ?_, h4.keep hk (fun k a b c => ?_), hd.mono (fun k a b => ⟨b, a⟩), h6.keep hk (fun q => ?_), h7, h8.trans2 hk (fun i hi q => ?_)⟩
  · rcases b.1 with q | q
    · exact h1 k a q
    · have := h2 k a; omega
  · rcases q.1 with r | r
    · have := h3 k r; omega
    · omega
  · rcases c with q | q
    · exact h1 k b q
    · omega
  · rcases q with q | q
    · exact (h3 bg q).2.2 rfl
    · omega
  · rcases q with q | q
    · have := h3 i q; exact absurd hi (by omega)
    · exact absurd hi (by omega)

/-- A delivery was given. -/
theorem OnceAt.give {w0 W W' : World} {p bg bd : Nat} {l' : List Slip} {ds : List Int} {n : Int} {FB FD : Nat → Prop} (h1 : ∀ k, FB k → FD k → False) (h2 : ∀ k, FB k → w0.heap.size ≤ k ∧ k < W.heap.size ∧ k ≠ bg) (h3 : ∀ k, FD k → w0.heap.size ≤ k ∧ k < W.heap.size ∧ k ≠ bg)
    (h5 : DoneAt W FD bd ds) (h6 : Blk W bg 3 #[.int .i64 n]) (h7 : w0.heap.size ≤ bg) (h8 : Kept noneS w0 W) (hb : BookAt W' (fun k => FB k ∨ W.heap.size ≤ k) p l' (n + 1)) (hk : Kept (fun k => FB k ∨ W.heap.size ≤ k) W W') :
    W'.cell? ⟨bg, 0, none⟩ = some (.int .i64 n) ∧ W'.frozen? ⟨bg, 0, none⟩ = false ∧ OnceAt w0 (W'.setCell ⟨bg, 0, none⟩ (.int .i64 (n + 1))) p bg bd l' ds (n + 1) := by
  have hs := hk.size
  have hl := h6.lt
  have h0 := h8.size
  have g1 := h6.keep hk (fun q => by
    rcases q with q | q
    · exact (h2 bg q).2.2 rfl
    · omega)
  have hsz : (W'.setCell ⟨bg, 0, none⟩ (.int .i64 (n + 1))).heap.size = W'.heap.size := by simp [World.setCell]
  have ks : Kept (· = bg) W' (W'.setCell ⟨bg, 0, none⟩ (.int .i64 (n + 1))) := (Kept.refl (· = bg) W').setCell (p := ⟨bg, 0, none⟩) (fun _ => rfl) _
  refine ⟨g1.cell 0, g1.frozen 0, fun k => (FB k ∨ W.heap.size ≤ k) ∧ k < W'.heap.size, FD, fun k a b => ?_, fun k q => ?_, fun k q => ?_, (hb.tight.keep ks (fun k a b c => ?_)), (h5.keep hk (fun k a b c => ?_)).keep ks (fun k a b c => (h3 k b).2.2 c), g1.set_ 0 _, h7, (h8.trans2 hk (fun i hi q => ?_)).setCell (p := ⟨bg, 0, none⟩) (fun q => ?_) _⟩
  · rcases a.1 with q | q
    · exact h1 k q b
    · have := h3 k b; omega
  · rw [hsz]
    rcases q.1 with r | r
    · have := h2 k r; omega
    · omega
  · have := h3 k q; omega
  · rcases b.1 with q | q
    · exact (h2 k q).2.2 c
    · omega
  · rcases c with q | q
    · exact h1 k q b
    · omega
  · rcases q with q | q
    · have := h2 i q; exact absurd hi (by omega)
    · exact absurd hi (by omega)
  · have q' : bg < w0.heap.size := q
    exact absurd q' (by omega)

end Go.Proofs.Ytchpkonlfjbkeaa
