/-
  Tables and lists that a call made: the row is its own, the children lie apart from it.
-/
import Derived.Test.YtdhaojicphhikaaTFind
namespace Go.Proofs.Ytdhaojicphhikaa
open Go.RowKit

theorem infoField : (Try.prog.info? 34).map (fun i => (i.zero, i.size, i.bytes)) = some (some (.agg #[.string ⟨#[]⟩, .int .i64 0, .int .i64 0, .string ⟨#[]⟩, .slice none 0 0, .slice none 0 0]), 6, 96) := by kernel_rfl
theorem infoVal : (Try.prog.info? 32).map (fun i => (i.zero, i.size, i.bytes)) = some (some (.agg #[.int .i64 0, .int .i64 0, .string ⟨#[]⟩, .slice none 0 0, .slice none 0 0]), 5, 80) := by kernel_rfl

/-- The table in the slice v is the call's own, all its blocks are of F. -/
def TOwn (w : World) (F : Nat → Prop) (v : Value) (t : List FF) : Prop :=
  ∃ (css : List (List Value)) (G : Nat → Prop), Own w 34 6 F v t.length css.flatten ∧ FsAt w G t css ∧ ∀ k, G k → F k ∧ k < w.heap.size ∧ ¬ ownS v k
def LOwn (w : World) (F : Nat → Prop) (v : Value) (l : List FV) : Prop :=
  ∃ (css : List (List Value)) (G : Nat → Prop), Own w 32 5 F v l.length css.flatten ∧ VsAt w G l css ∧ ∀ k, G k → F k ∧ k < w.heap.size ∧ ¬ ownS v k

section
variable {w w' : World} {F G S : Nat → Prop} {v : Value} {t : List FF} {l : List FV}
theorem TOwn.keep (h : TOwn w F v t) (hk : Kept S w w') (hd : ∀ k, k < w.heap.size → F k → S k → False) : TOwn w' F v t := by
  obtain ⟨css, G, h1, h2, h3⟩ := h
  exact ⟨css, G, h1.keep hk hd, FsAt.keep hk (fun k a b c => hd k a (h3 k b).1 c) t css h2, fun k a => ⟨(h3 k a).1, Nat.lt_of_lt_of_le (h3 k a).2.1 hk.size, (h3 k a).2.2⟩⟩
theorem LOwn.keep (h : LOwn w F v l) (hk : Kept S w w') (hd : ∀ k, k < w.heap.size → F k → S k → False) : LOwn w' F v l := by
  obtain ⟨css, G, h1, h2, h3⟩ := h
  exact ⟨css, G, h1.keep hk hd, VsAt.keep hk (fun k a b c => hd k a (h3 k b).1 c) l css h2, fun k a => ⟨(h3 k a).1, Nat.lt_of_lt_of_le (h3 k a).2.1 hk.size, (h3 k a).2.2⟩⟩
theorem TOwn.nil (w : World) (F : Nat → Prop) : TOwn w F (.slice none 0 0) [] := ⟨[], noneS, Own.nil _ _ _ _, by rw [FsAt], fun _ q => q.elim⟩
theorem LOwn.nil (w : World) (F : Nat → Prop) : LOwn w F (.slice none 0 0) [] := ⟨[], noneS, Own.nil _ _ _ _, by rw [VsAt], fun _ q => q.elim⟩

theorem FsAt.snoc {f : FF} {cs : List Value} (hf : FAt w F f cs) : ∀ (t : List FF) (css : List (List Value)), FsAt w F t css → FsAt w F (t ++ [f]) (css ++ [cs])
  | [], css, h => by
    rw [FsAt] at h
    subst h
    rw [List.nil_append, List.nil_append, FsAt]
    exact ⟨cs, [], rfl, hf, by rw [FsAt]⟩
  | x :: t, css, h => by
    rw [FsAt] at h
    obtain ⟨c0, r, rfl, h1, h2⟩ := h
    rw [List.cons_append, List.cons_append, FsAt]
    exact ⟨c0, r ++ [cs], rfl, h1, FsAt.snoc hf t r h2⟩
theorem VsAt.snoc {x : FV} {cs : List Value} (hf : VAt w F x cs) : ∀ (t : List FV) (css : List (List Value)), VsAt w F t css → VsAt w F (t ++ [x]) (css ++ [cs])
  | [], css, h => by
    rw [VsAt] at h
    subst h
    rw [List.nil_append, List.nil_append, VsAt]
    exact ⟨cs, [], rfl, hf, by rw [VsAt]⟩
  | x' :: t, css, h => by
    rw [VsAt] at h
    obtain ⟨c0, r, rfl, h1, h2⟩ := h
    rw [List.cons_append, List.cons_append, VsAt]
    exact ⟨c0, r ++ [cs], rfl, h1, VsAt.snoc hf t r h2⟩

/-- Behind an append of one field. -/
theorem TOwn.add {v' : Value} {f : FF} {cs : List Value} {css : List (List Value)} {G' : Nat → Prop} (h2 : FsAt w G t css) (hG : ∀ k, G k → F k ∧ k < w.heap.size ∧ ¬ ownS v k) (hf : FAt w G' f cs) (hG' : ∀ k, G' k → F k ∧ k < w.heap.size ∧ ¬ ownS v k)
    (o : Own w' 34 6 (fun k => ownS v k ∨ k = w.heap.size) v' (t.length + 1) (css.flatten ++ cs)) (hk : Kept (ownS v) w w') (hF : ∀ k, ownS v k → F k) (hF' : F w.heap.size) : TOwn w' F v' (t ++ [f]) := by
  refine ⟨css ++ [cs], fun k => G k ∨ G' k, ?_, FsAt.snoc ?_ t css ?_, fun k a => ?_⟩
  · rw [List.length_append, List.flatten_append]
    simp only [List.length_cons, List.length_nil, List.flatten_cons, List.flatten_nil, List.append_nil]
    exact o.mono (fun k _ a => by rcases a with a | a; exact hF k a; exact a ▸ hF')
  · exact FAt.mono (fun k _ a => .inr a) f cs (FAt.keep hk (fun k _ a b => (hG' k a).2.2 b) f cs hf)
  · exact FsAt.mono (fun k _ a => .inl a) t css (FsAt.keep hk (fun k _ a b => (hG k a).2.2 b) t css h2)
  · have h : F k ∧ k < w.heap.size ∧ ¬ ownS v k := by rcases a with a | a; exact hG k a; exact hG' k a
    refine ⟨h.1, Nat.lt_of_lt_of_le h.2.1 hk.size, fun q => ?_⟩
    rcases o.2 k q with e | e
    · exact h.2.2 e
    · omega
theorem LOwn.add {v' : Value} {x : FV} {cs : List Value} {css : List (List Value)} {G' : Nat → Prop} (h2 : VsAt w G l css) (hG : ∀ k, G k → F k ∧ k < w.heap.size ∧ ¬ ownS v k) (hf : VAt w G' x cs) (hG' : ∀ k, G' k → F k ∧ k < w.heap.size ∧ ¬ ownS v k)
    (o : Own w' 32 5 (fun k => ownS v k ∨ k = w.heap.size) v' (l.length + 1) (css.flatten ++ cs)) (hk : Kept (ownS v) w w') (hF : ∀ k, ownS v k → F k) (hF' : F w.heap.size) : LOwn w' F v' (l ++ [x]) := by
  refine ⟨css ++ [cs], fun k => G k ∨ G' k, ?_, VsAt.snoc ?_ l css ?_, fun k a => ?_⟩
  · rw [List.length_append, List.flatten_append]
    simp only [List.length_cons, List.length_nil, List.flatten_cons, List.flatten_nil, List.append_nil]
    exact o.mono (fun k _ a => by rcases a with a | a; exact hF k a; exact a ▸ hF')
  · exact VAt.mono (fun k _ a => .inr a) x cs (VAt.keep hk (fun k _ a b => (hG' k a).2.2 b) x cs hf)
  · exact VsAt.mono (fun k _ a => .inl a) l css (VsAt.keep hk (fun k _ a b => (hG k a).2.2 b) l css h2)
  · have h : F k ∧ k < w.heap.size ∧ ¬ ownS v k := by rcases a with a | a; exact hG k a; exact hG' k a
    refine ⟨h.1, Nat.lt_of_lt_of_le h.2.1 hk.size, fun q => ?_⟩
    rcases o.2 k q with e | e
    · exact h.2.2 e
    · omega
end

end Go.Proofs.Ytdhaojicphhikaa
