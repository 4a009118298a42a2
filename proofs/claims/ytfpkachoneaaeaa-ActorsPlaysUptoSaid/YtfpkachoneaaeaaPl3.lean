/-
  ActorsPlays in plain words: the document's boxes are the mailboxes, in the order of the actors.
-/
import Derived.Test.YtfpkachoneaaeaaBbPsP
import Derived.Test.YtfpkachoneaaeaaRf5
import Derived.Test.YtfpkachoneaaeaaBbCli
import Derived.Test.YtfpkachoneaaeaaBbP1
import Derived.Test.YtfpkachoneaaeaaBbDraw
import Derived.Test.YtfpkachoneaaeaaBbLit
set_option linter.unusedSimpArgs false
set_option linter.unusedVariables false
namespace Go.Proofs.Ytfpkachoneaaeaa
open Go.RowKit Go.Sort
def bxA (l : List Bx) : Ab := l.map fun b => (b.id, b.items.map Im.bs)
structure Agree (l : List Bx) (a : Ab) : Prop where
  perm : (bxA l).Perm a
  asc : l.Pairwise (fun x y => x.id < y.id)
theorem bxA_ids (l : List Bx) : (bxA l).map (·.1) = l.map Bx.id := by unfold bxA; rw [List.map_map]; rfl
theorem find_perm {a b : Ab} (hp : a.Perm b) (hn : (a.map (·.1)).Nodup) (id : Int) : a.find? (fun p => p.1 == id) = b.find? (fun p => p.1 == id) := by
  have hnb : (b.map (·.1)).Nodup := (hp.map (·.1)).nodup_iff.1 hn
  cases ha : a.find? (fun p => p.1 == id) with
  | none =>
    refine (List.find?_eq_none.2 fun p hp' => ?_).symm
    exact List.find?_eq_none.1 ha p (hp.mem_iff.2 hp')
  | some p =>
    have h1 := List.mem_of_find?_eq_some ha
    have h2 : p.1 = id := by simpa using List.find?_some ha
    rw [← h2]
    exact (find_nd hnb (hp.mem_iff.1 h1)).symm
section
variable {l : List Bx} {a : Ab} {id : Int}
theorem Agree.ndl (h : Agree l a) : (l.map Bx.id).Nodup := by
  rw [List.nodup_iff_pairwise_ne, List.pairwise_map]
  exact h.asc.imp fun h e => by omega
theorem Agree.ndb (h : Agree l a) : ((bxA l).map (·.1)).Nodup := by rw [bxA_ids]; exact h.ndl
theorem Agree.nd (h : Agree l a) : (a.map (·.1)).Nodup := (h.perm.map (·.1)).nodup_iff.1 h.ndb
theorem Agree.find (h : Agree l a) (id : Int) : a.find? (fun p => p.1 == id) = (l.find? fun b => b.id == id).map fun b => (b.id, b.items.map Im.bs) := by
  rw [← find_perm h.perm h.ndb id]
  unfold bxA
  rw [List.find?_map]
  rfl
theorem Agree.len (h : Agree l a) (id : Int) : lenA a id = lenB l id := by
  unfold lenA lenB
  rw [h.find, Option.map_map]
  congr 2
  funext b
  simp
theorem Agree.sort (h : Agree l a) : sortA a = l.map Bx.id := by
  unfold sortA
  have e1 := mergeSort_of_perm_i ((h.perm.map (·.1)).symm)
  unfold leI at e1
  rw [e1, bxA_ids]
  refine List.mergeSort_of_pairwise ?_
  rw [List.pairwise_map]
  exact h.asc.imp fun h => by simpa using Int.le_of_lt h
theorem Agree.run (h : Agree l a) : runA a = runB l := by
  unfold runA runB
  rw [h.sort, List.filter_map]
  congr 1
  refine List.filter_congr fun b hb => ?_
  simp only [Function.comp, h.len]
  unfold lenB
  rw [findB_nd h.ndl hb]
  rfl
theorem Agree.lenl (h : Agree l a) : l.length = a.length := by
  have := h.perm.length_eq
  unfold bxA at this
  simpa using this
theorem pop_ids (id : Int) (l : List Bx) (f : Bx → Bx) (hf : ∀ x, (f x).id = x.id) : (l.map fun x => if x.id = id then f x else x).Pairwise (fun x y => x.id < y.id) ↔ l.Pairwise (fun x y => x.id < y.id) := by
  rw [List.pairwise_map]
  have e : ∀ x : Bx, (if x.id = id then f x else x).id = x.id := fun x => by
    split
    · exact hf x
    · rfl
  simp only [e]
theorem Agree.take (h : Agree l a) (id : Int) : Agree (l.map fun x => if x.id = id then x.pop else x) (takeA a id) := by
  refine ⟨?_, (pop_ids id l Bx.pop fun _ => rfl).2 h.asc⟩
  have : bxA (l.map fun x => if x.id = id then x.pop else x) = takeA (bxA l) id := by
    unfold bxA takeA
    rw [List.map_map, List.map_map]
    refine List.map_congr_left fun x _ => ?_
    simp only [Function.comp]
    by_cases e : x.id = id
    · rw [if_pos e, if_pos e]
      unfold Bx.pop
      simp [List.map_tail]
    · rw [if_neg e, if_neg e]
  rw [this]
  exact h.perm.map _
theorem Agree.full (h : Agree l a) {b : Bx} (hb : b ∈ l) (hid : b.id = id) (hf : 64 ≤ b.items.length) (bs : List UInt8) : putA a id bs = (a, false) := by
  unfold putA
  rw [h.find, ← hid, findB_nd h.ndl hb]
  simp only [Option.map_some, List.length_map]
  rw [if_neg (by omega)]
theorem Agree.put1 (h : Agree l a) {b b' : Bx} (hb : b ∈ l) (hid : b.id = id) (hf : b.items.length < 64) {bs : List UInt8} (hid' : b'.id = id) (hi : b'.items.map Im.bs = b.items.map Im.bs ++ [bs]) :
    Agree (l.map fun x => if x.id = id then b' else x) (putA a id bs).1 ∧ (putA a id bs).2 = true := by
  have hp : putA a id bs = (a.map (fun q => if q.1 = id then (q.1, b.items.map Im.bs ++ [bs]) else q), true) := by
    unfold putA
    rw [h.find, ← hid, findB_nd h.ndl hb]
    simp only [Option.map_some, List.length_map]
    rw [if_pos hf]
  rw [hp]
  refine ⟨⟨?_, ?_⟩, rfl⟩
  · have : bxA (l.map fun x => if x.id = id then b' else x) = (bxA l).map (fun q => if q.1 = id then (q.1, b.items.map Im.bs ++ [bs]) else q) := by
      unfold bxA
      rw [List.map_map, List.map_map]
      refine List.map_congr_left fun x _ => ?_
      simp only [Function.comp]
      by_cases e : x.id = id
      · rw [if_pos e, if_pos e, hi, hid', e]
      · rw [if_neg e, if_neg e]
    rw [this]
    exact h.perm.map _
  · have e2 : (l.map fun x => if x.id = id then b' else x) = l.map fun x => if x.id = id then (fun y => { b' with id := y.id }) x else x := by
      refine List.map_congr_left fun x _ => ?_
      by_cases e : x.id = id
      · rw [if_pos e, if_pos e]
        cases b'
        simp_all
      · rw [if_neg e, if_neg e]
    rw [e2]
    exact (pop_ids id l (fun y => { b' with id := y.id }) fun _ => rfl).2 h.asc
theorem Agree.put2 (h : Agree l a) (hno : ∀ b ∈ l, b.id ≠ id) {b' : Bx} {bs : List UInt8} {k : Nat} (hid' : b'.id = id) (hi : b'.items.map Im.bs = [bs]) (_hk : k ≤ l.length) (hbig : ∀ b ∈ l.drop k, id < b.id) (hless : ∀ j (_ : j < l.length), j + 1 = k → ¬ id < l[j].id) :
    Agree ((insAt l id k).map fun x => if x.id = id then b' else x) (putA a id bs).1 ∧ (putA a id bs).2 = true := by
  have hp : putA a id bs = (a ++ [(id, [bs])], true) := by
    unfold putA
    rw [h.find, findB_no hno]
    rfl
  have e1 : ((insAt l id k).map fun x => if x.id = id then b' else x) = l.take k ++ b' :: l.drop k := by
    unfold insAt
    rw [List.map_append, List.map_cons, if_pos rfl]
    have : ∀ l' : List Bx, (∀ b ∈ l', b ∈ l) → (l'.map fun x => if x.id = id then b' else x) = l' := fun l' hl' => by
      refine (List.map_congr_left fun x hx => ?_).trans (List.map_id l')
      rw [if_neg (hno x (hl' x hx))]
      rfl
    rw [this _ fun b hb => List.mem_of_mem_take hb, this _ fun b hb => List.mem_of_mem_drop hb]
  rw [hp, e1]
  refine ⟨⟨?_, ?_⟩, rfl⟩
  · have e2 : bxA (l.take k ++ b' :: l.drop k) = bxA (l.take k) ++ (id, [bs]) :: bxA (l.drop k) := by
      unfold bxA
      rw [List.map_append, List.map_cons, hid', hi]
    have e3 : bxA (l.take k) ++ bxA (l.drop k) = bxA l := by
      unfold bxA
      rw [← List.map_append, List.take_append_drop]
    rw [e2]
    refine List.perm_middle.trans ?_
    rw [e3]
    refine (List.Perm.cons _ h.perm).trans ?_
    exact (List.perm_append_comm (l₁ := [(id, [bs])]) (l₂ := a))
  · have hs := h.asc
    rw [← List.take_append_drop k l, List.pairwise_append] at hs
    obtain ⟨h1, h2, h3⟩ := hs
    refine List.pairwise_append.2 ⟨h1, List.pairwise_cons.2 ⟨fun b hb => by rw [hid']; exact hbig b hb, h2⟩, fun x hx y hy => ?_⟩
    rcases List.mem_cons.1 hy with rfl | q
    · rw [hid']
      have hxl : x ∈ l := List.mem_of_mem_take hx
      have hxne := hno x hxl
      -- x is not above the last one of the first part
      cases k with
      | zero => simp at hx
      | succ j =>
        by_cases hj : j < l.length
        · have hlast := hless j hj rfl
          rw [List.take_succ_eq_append_getElem hj] at hx h1
          rcases List.mem_append.1 hx with r | r
          · have := (List.pairwise_append.1 h1).2.2 x r l[j] (.head _)
            omega
          · rw [List.mem_singleton.1 r] at hxne ⊢
            omega
        · omega
    · exact h3 x hx y q
end
end Go.Proofs.Ytfpkachoneaaeaa
namespace Go.Proofs.Ytfpkachoneaaeaa
open Go Go.Conc Go.RowKit
theorem RfAt.see {w w' : World} {tg : Nat → Nat × Int} {p : Nat} {l : List Bx} {st : Bool} (h : RfAt w tg p l st) (hsz : w.heap.size ≤ w'.heap.size) (hb : ∀ k, k < w.heap.size → 3 ≤ (tg k).1 → w'.heap[k]? = w.heap[k]?) : RfAt w' tg p l st := by
  have hk : Kept (fun k => ¬ 3 ≤ (tg k).1) w { w' with os := w.os, tape := w.tape, output := w.output } := ⟨rfl, rfl, rfl, hsz, fun k hk hn => hb k hk (Classical.not_not.1 hn)⟩
  have h' := h.keep hk fun k _ a b => b a
  exact ⟨h'.tp, h'.ex, h'.mail, h'.its, h'.nd, h'.small⟩
theorem SegV.seeF {w v : World} {F : Nat → Prop} {e : TypeId} {sz n c : Nat} {A : Option Addr} {xs : List Value} (h : SegV v F e sz A n c xs) (hs : ∀ b, b < v.heap.size → F b → w.heap[b]? = v.heap[b]?) : SegV w F e sz A n c xs := by
  refine ⟨h.1, ?_⟩
  rcases h.2 with h | ⟨g, o, cur, h1, h2, h3, h4⟩
  · exact .inl h
  · exact .inr ⟨g, o, cur, h1, h2, (hs g h3.lt h2).trans h3, h4⟩
def postB (st : Bool) (a : Ab) (id : Int) (bs : List UInt8) : Ab × Bool := if st = true then (a, false) else putA a id bs
section
variable {w : World} {Z : Scene} {n : Nat} {Post : Value → World → Prop} {c : Frame} {cs : List Frame} {tg : Nat → Nat × Int} {p : Nat} {l : List Bx} {st : Bool} {k : Nat}
theorem rf_waiting (R : RfAt w tg p l st) (hv : ∀ k, k < w.heap.size → 3 ≤ (tg k).1 → ¬ Z.Hd k) (id : Int) (H : ∀ w', Kept noneS w w' → Run Try.prog Post Z n 0 k (G (c.finish (.int .i64 (lenB l id : Int))) cs) w') :
    Run Try.prog Post Z n 0 k (G ((base 22).at { tmps := #[.pointer (some ⟨p, 0, none⟩), .int .i64 id] ++ Array.replicate (Try.f22.ntmps - 2) undef, defers := [] } [.code (Try.f22.body.getD .skip)]) (c :: cs)) w := by
  refine Run.callG (S := noneS) (nn := 2) Try.func22 rfl (tmpRes1 rfl) (fun _ _ q => q) (fun y _ => y = .int .i64 (lenB l id : Int)) (fun _ _ _ q => q) (fun u hu hus => ?_) ?_
  · refine CallsIn.mono ((refWaiting u tg p l st id (R.see (by omega) fun k hk h3 => hu.block k hk (hv k hk h3)) 1).wider (by decide)) ?_
    rintro e v ⟨rfl, rfl⟩
    exact ⟨_, rfl, Kept.refl _ _, rfl⟩
  · intro y v' w' hy k _ _
    subst hy
    exact H w' k
theorem rf_runnable (R : RfAt w tg p l st) (hv : ∀ k, k < w.heap.size → 3 ≤ (tg k).1 → ¬ Z.Hd k) (H : ∀ A c' w', Kept noneS w w' → SegV w' (fun k => w.heap.size ≤ k) 3 1 A (runB l).length c' ((runB l).map (Value.int .i64)) → Run Try.prog Post Z n 0 k (G (c.finish (.slice A (runB l).length c')) cs) w') :
    Run Try.prog Post Z n 0 k (G ((base 23).at { tmps := #[.pointer (some ⟨p, 0, none⟩)] ++ Array.replicate (Try.f23.ntmps - 1) undef, defers := [] } [.code (Try.f23.body.getD .skip)]) (c :: cs)) w := by
  refine Run.okG fun hok => ?_
  refine Run.callG (S := noneS) (nn := 1) Try.func23 rfl (tmpRes1 rfl) (fun _ _ q => q) (fun y v => ∃ A c', y = .slice A (runB l).length c' ∧ SegV v (fun k => w.heap.size ≤ k) 3 1 A (runB l).length c' ((runB l).map (Value.int .i64))) (fun _ _ _ q => q) (fun u hu hus => ?_) ?_
  · refine CallsIn.mono ((refRunnable u tg p l st (R.see (by omega) fun k hk h3 => hu.block k hk (hv k hk h3)) 1).wider (by decide)) ?_
    rintro e v ⟨A, c', rfl, hs, hk⟩
    rw [hus] at hs
    exact ⟨_, rfl, hk, A, c', rfl, hs⟩
  · rintro y v' w' ⟨A, c', rfl, hs⟩ k hsee _
    exact H A c' w' k (hs.seeF fun b _ hb => hsee b (hok.fresh hb))
theorem rf_stop (R : RfAt w tg p l st) (hv : ∀ k, k < w.heap.size → 3 ≤ (tg k).1 → ¬ Z.Hd k ∧ ¬ Z.C k) (H : ∀ w', RfAt w' tg p [] true → Kept (· = p) w w' → Run Try.prog Post Z n 0 k (G (c.finish (.tuple #[])) cs) w') :
    Run Try.prog Post Z n 0 k (G ((base 21).at { tmps := #[.pointer (some ⟨p, 0, none⟩)] ++ Array.replicate (Try.f21.ntmps - 1) undef, defers := [] } [.code (Try.f21.body.getD .skip)]) (c :: cs)) w := by
  have hp : p < w.heap.size := by obtain ⟨_, _, hB, _⟩ := R.ex; exact hB.lt
  have hpt : 3 ≤ (tg p).1 := by rw [R.tp]; decide
  refine Run.okG fun hok => ?_
  refine Run.callG (S := (· = p)) (nn := 1) Try.func21 rfl (tmpRes0 rfl) (fun c hc q => (hv p hp hpt).2 (by rw [← show c = p from q]; exact hc)) (fun y v => y = .tuple #[] ∧ RfAt v tg p [] true) (fun _ v _ q => ⟨q.1, q.2.see (Nat.le_refl _) fun _ _ _ => rfl⟩) (fun u hu hus => ?_) ?_
  · refine CallsIn.mono ((refStop u tg p l st (R.see (by omega) fun k hk h3 => hu.block k hk (hv k hk h3).1) 1).wider (by decide)) ?_
    rintro e v ⟨rfl, hr, hk⟩
    exact ⟨_, rfl, hk, rfl, hr⟩
  · rintro y v' w' ⟨rfl, hr⟩ k hsee hsz
    refine H w' (hr.see (by omega) fun b hb h3 => hsee b ?_) k
    by_cases q : b < w.heap.size
    · exact (hv b q h3).1
    · exact hok.fresh (by omega)
theorem rf_take0 (R : RfAt w tg p l st) (hv : ∀ k, k < w.heap.size → 3 ≤ (tg k).1 → ¬ Z.Hd k) (id : Int) (h0 : lenB l id = 0) (H : ∀ A w', Kept noneS w w' → Run Try.prog Post Z n 0 k (G (c.finish (.tuple #[.slice A 0 0, .bool false])) cs) w') :
    Run Try.prog Post Z n 0 k (G ((base 20).at { tmps := #[.pointer (some ⟨p, 0, none⟩), .int .i64 id] ++ Array.replicate (Try.f20.ntmps - 2) undef, defers := [] } [.code (Try.f20.body.getD .skip)]) (c :: cs)) w := by
  refine Run.callG (S := noneS) (nn := 2) Try.func20 rfl (tmpRes2 rfl) (fun _ _ q => q) (fun y _ => ∃ A, y = .tuple #[.slice A 0 0, .bool false]) (fun _ _ _ q => q) (fun u hu hus => ?_) ?_
  · refine CallsIn.mono ((refTake0 u tg p l st id (R.see (by omega) fun k hk h3 => hu.block k hk (hv k hk h3)) h0 1).wider (by decide)) ?_
    rintro e v ⟨A, rfl, hk⟩
    exact ⟨_, rfl, hk, A, rfl⟩
  · rintro y v' w' ⟨A, rfl⟩ k _ _
    exact H A w' k
theorem rf_take1 (R : RfAt w tg p l st) (hv : ∀ k, k < w.heap.size → 3 ≤ (tg k).1 → ¬ Z.Hd k ∧ ¬ Z.C k) (id : Int) (b : Bx) (hbl : b ∈ l) (hbi : b.id = id) (i : Im) (r : List Im) (hbr : b.items = i :: r)
    (H : ∀ w', RfAt w' tg p (l.map fun x => if x.id = id then x.pop else x) st → Kept (fun k => tg k = (4, 0)) w w' → Run Try.prog Post Z n 0 k (G (c.finish (.tuple #[i.val, .bool true])) cs) w') :
    Run Try.prog Post Z n 0 k (G ((base 20).at { tmps := #[.pointer (some ⟨p, 0, none⟩), .int .i64 id] ++ Array.replicate (Try.f20.ntmps - 2) undef, defers := [] } [.code (Try.f20.body.getD .skip)]) (c :: cs)) w := by
  refine Run.okG fun hok => ?_
  refine Run.callG (S := fun k => tg k = (4, 0)) (nn := 2) Try.func20 rfl (tmpRes2 rfl) (fun c hc q => (hv c (hok.chanlt hc) (by rw [show tg c = (4, 0) from q]; show 3 ≤ 4; omega)).2 hc) (fun y v => y = .tuple #[i.val, .bool true] ∧ RfAt v tg p (l.map fun x : Bx => if x.id = id then x.pop else x) st) (fun _ v _ q => ⟨q.1, q.2.see (Nat.le_refl _) fun _ _ _ => rfl⟩) (fun u hu hus => ?_) ?_
  · refine CallsIn.mono ((refTake1 u tg p l st id (R.see (by omega) fun k hk h3 => hu.block k hk (hv k hk h3).1) b hbl hbi i r hbr 1).wider (by decide)) ?_
    rintro e v ⟨rfl, hr, hk⟩
    exact ⟨_, rfl, hk, rfl, hr⟩
  · rintro y v' w' ⟨rfl, hr⟩ k hsee hsz
    refine H w' (hr.see (by omega) fun b hb h3 => hsee b ?_) k
    by_cases q : b < w.heap.size
    · exact (hv b q h3).1
    · exact hok.fresh (by omega)
theorem rf_post (R : RfAt w tg p l st) (hv : ∀ k, k < w.heap.size → 3 ≤ (tg k).1 → ¬ Z.Hd k ∧ ¬ Z.C k) {a : Ab} (ha : Agree l a) (hl : l.length < 2000000000) (id : Int) {IA : Option Addr} {ic : Nat} {bs : List UInt8} {GF : Nat → Prop} (hr : RB w GF IA bs) (hG : ∀ k, k < w.heap.size → GF k → ¬ Z.Hd k ∧ tg k ≠ (4, 0) ∧ k ≠ p) (hbl : bs.length ≤ 140737488355328)
    (H : ∀ w' tg' l', (∀ k, k < w.heap.size → tg' k = tg k) → RfAt w' tg' p l' st → Agree l' (postB st a id bs).1 → Kept (fun k => 3 ≤ (tg k).1) w w' → Run Try.prog Post Z n 0 k (G (c.finish (.bool (postB st a id bs).2)) cs) w') :
    Run Try.prog Post Z n 0 k (G ((base 19).at { tmps := #[.pointer (some ⟨p, 0, none⟩), .int .i64 id, .slice IA bs.length ic] ++ Array.replicate (Try.f19.ntmps - 3) undef, defers := [] } [.code (Try.f19.body.getD .skip)]) (c :: cs)) w := by
  have hp : p < w.heap.size := by obtain ⟨_, _, hB, _⟩ := R.ex; exact hB.lt
  refine Run.okG fun hok => ?_
  refine Run.callG (S := fun k => 3 ≤ (tg k).1) (nn := 2) Try.func19 rfl (tmpRes1 rfl) (fun c hc q => (hv c (hok.chanlt hc) q).2 hc) (fun y v => ∃ tg' l', y = .bool (postB st a id bs).2 ∧ (∀ k, k < w.heap.size → tg' k = tg k) ∧ RfAt v tg' p l' st ∧ Agree l' (postB st a id bs).1)
    (fun _ v _ q => by obtain ⟨tg', l', q1, q2, q3, q4⟩ := q; exact ⟨tg', l', q1, q2, q3.see (Nat.le_refl _) fun _ _ _ => rfl, q4⟩) (fun u hu hus => ?_) ?_
  · have hR : RfAt u tg p l st := R.see (by omega) fun k hk h3 => hu.block k hk (hv k hk h3).1
    have hr' : RB u GF IA bs := Rd.keepH hr hu fun k hk hf q => (hG k hk hf).1 q
    cases st with
    | true =>
      refine CallsIn.mono ((refPostNo u tg p l id IA ic bs hR 1).wider (by decide)) ?_
      rintro e v ⟨rfl, hk⟩
      exact ⟨_, rfl, hk.mono fun _ _ q => q.elim, tg, l, rfl, fun _ _ => rfl, hR.keep hk fun _ _ _ q => q, ha⟩
    | false =>
      by_cases hex : ∃ b ∈ l, b.id = id
      · obtain ⟨b, hb, hid⟩ := hex
        by_cases hlt : b.items.length < 64
        · refine CallsIn.mono ((refPost1 u tg p l id IA ic bs GF hR b hb hid hlt hr' hbl 1).wider (by decide)) ?_
          rintro e v ⟨rfl, tg', b', ht, hb1, hb2, hR2, hk⟩
          obtain ⟨g1, g2⟩ := ha.put1 hb hid hlt hb1 hb2
          refine ⟨_, rfl, hk.mono fun k _ q => ?_, tg', _, ?_, fun k hk => ht k (by omega), hR2, g1⟩
          · rcases q with q | q
            · rw [q]; decide
            · rw [q]; show 3 ≤ 5; omega
          · unfold postB
            rw [if_neg (by decide), g2]
        · have e := ha.full hb hid (by omega) bs
          refine CallsIn.mono ((refPostFull u tg p l id IA ic bs hR b hb hid (by omega) 1).wider (by decide)) ?_
          rintro e2 v ⟨rfl, hk⟩
          refine ⟨_, rfl, hk.mono fun _ _ q => q.elim, tg, l, ?_, fun _ _ => rfl, hR.keep hk fun _ _ _ q => q, ?_⟩
          · unfold postB; rw [if_neg (by decide), e]
          · unfold postB; rw [if_neg (by decide), e]; exact ha
      · have hno : ∀ b ∈ l, b.id ≠ id := fun b hb q => hex ⟨b, hb, q⟩
        refine CallsIn.mono ((refPost2 u tg p l id IA ic bs GF hR hno hl hr' (fun k hk hf => (hG k (by omega) hf).2) hbl 1).wider (by decide)) ?_
        rintro e v ⟨rfl, tg', b', k0, ht, hb1, hb2, hk0, hbig, hless, hR2, hk⟩
        obtain ⟨g1, g2⟩ := ha.put2 hno hb1 hb2 hk0 hbig hless
        refine ⟨_, rfl, hk.mono fun k _ q => ?_, tg', _, ?_, fun k hk => ht k (by omega), hR2, g1⟩
        · rcases q with q | q | q
          · rw [q]; decide
          · rw [q]; show 3 ≤ 5; omega
          · rw [q, R.tp]; decide
        · unfold postB
          rw [if_neg (by decide), g2]
  · rintro y v' w' ⟨tg', l', rfl, ht, hr2, ha2⟩ k hsee hsz
    refine H w' tg' l' ht (hr2.see (by omega) fun b hb h3 => hsee b ?_) ha2 k
    by_cases q : b < w.heap.size
    · exact (hv b q (by rw [← ht b q]; exact h3)).1
    · exact hok.fresh (by omega)
end
end Go.Proofs.Ytfpkachoneaaeaa
namespace Go.Proofs.Ytfpkachoneaaeaa
open Go Go.Conc Go.RowKit
/-- col: whose a block is; (1, 0) the list, (2, 0) what is wanted, 3 .. 6 the document's, (0, 1) a variable, (0, 2) what is posted. -/
structure Pst (w0 : World) (Z : Scene) (n : Nat) (w : World) (s : Sy) (col : Nat → Nat × Int) (D p : Nat) (A : Option Addr) (ac m m' : Nat) (xs ys : List Value) (l : List Bx) (st : Bool) (ex : List (Nat × TypeId × Array Value)) (inp : Option Addr × Nat × Nat × List Value) : Prop where
  K : Cli w0 Z n w s
  L : LstV w (fun k => col k = (1, 0)) D 24 29 2 m xs
  W : SegV w (fun k => col k = (2, 0)) 29 2 A m' ac ys
  R : RfAt w col p l st
  sp : ∀ k, k < w.heap.size → col k ≠ (0, 0) → space w0 Z s k
  fdo : s.fdo = .func (.func 8) #[] #[.pointer (some ⟨D, 0, none⟩)]
  X : ∀ x ∈ ex, Blk w x.1 x.2.1 x.2.2 ∧ col x.1 = (0, 1)
  I : SegV w (fun k => col k = (0, 2)) 5 1 inp.1 inp.2.1 inp.2.2.1 inp.2.2.2
def cut (col : Nat → Nat × Int) (N : Nat) (k : Nat) : Nat × Int := if k < N then col k else (0, 0)
theorem cut_lt {col : Nat → Nat × Int} {N k : Nat} (h : k < N) : cut col N k = col k := if_pos h
section
variable {w0 : World} {Z Z' : Scene} {n n' : Nat} {w w' : World} {s s' : Sy} {col col' : Nat → Nat × Int} {D p : Nat} {A A' : Option Addr} {ac ac' m m' m2 : Nat} {xs ys zs : List Value} {l l' : List Bx} {st st' : Bool} {ex : List (Nat × TypeId × Array Value)} {inp : Option Addr × Nat × Nat × List Value}
/-- The general step: what is not touched stands. -/
theorem Pst.step {S : Nat → Prop} (P : Pst w0 Z n w s col D p A ac m m' xs ys l st ex inp) (K' : Cli w0 Z' n' w' s') (hf : s'.fdo = s.fdo) (hk : Kept S w w') (ht : ∀ k, k < w.heap.size → col' k = col k) (sp' : ∀ k, k < w'.heap.size → col' k ≠ (0, 0) → space w0 Z' s' k)
    (hL : LstV w' (fun k => col' k = (1, 0)) D 24 29 2 m2 zs) (hR : RfAt w' col' p l' st') (hW : ∀ k, k < w.heap.size → col k = (2, 0) → ¬ S k) (hX : ∀ k, k < w.heap.size → (col k).1 = 0 → col k ≠ (0, 0) → ¬ S k) : Pst w0 Z' n' w' s' col' D p A ac m2 m' zs ys l' st' ex inp :=
  ⟨K', hL, ((P.W.mono fun k hk q => (⟨q, hk⟩ : col k = (2, 0) ∧ k < w.heap.size)).keep hk fun k _ q r => hW k q.2 q.1 r).mono fun k _ q => by rw [ht k q.2]; exact q.1, hR, sp', hf.trans P.fdo, fun x hx => by
    obtain ⟨h1, h2⟩ := P.X x hx
    exact ⟨h1.keep hk (hX _ h1.lt (by rw [h2]) (by rw [h2]; decide)), by rw [ht _ h1.lt]; exact h2⟩, ((P.I.mono fun k hk q => (⟨q, hk⟩ : col k = (0, 2) ∧ k < w.heap.size)).keep hk fun k _ q r => hX k q.2 (by rw [q.1]) (by rw [q.1]; decide) r).mono fun k _ q => by rw [ht k q.2]; exact q.1⟩
theorem Pst.keepL {S : Nat → Prop} (P : Pst w0 Z n w s col D p A ac m m' xs ys l st ex inp) (hk : Kept S w w') (ht : ∀ k, k < w.heap.size → col' k = col k) (hS : ∀ k, k < w.heap.size → col k = (1, 0) → ¬ S k) : LstV w' (fun k => col' k = (1, 0)) D 24 29 2 m xs :=
  ((P.L.mono fun k hk q => (⟨q, hk⟩ : col k = (1, 0) ∧ k < w.heap.size)).keep hk fun k _ q r => hS k q.2 q.1 r).mono fun k _ q => by rw [ht k q.2]; exact q.1
theorem Pst.own0 (P : Pst w0 Z n w s col D p A ac m m' xs ys l st ex inp) {k : Nat} (hk : k < w.heap.size) (h : col k ≠ (0, 0)) : ¬ s.own k ≠ (0, 0) := fun q => q (P.sp k hk h).2.1
theorem ne1 {k : Nat} {col : Nat → Nat × Int} {a : Nat} {b : Int} (h : col k = (a, b)) (hn : a ≠ 0 ∨ b ≠ 0) : col k ≠ (0, 0) := fun q => by
  rw [q] at h
  injection h with h1 h2
  rcases hn with r | r
  · exact r h1.symm
  · exact r h2.symm
theorem ne3 {k : Nat} {col : Nat → Nat × Int} (h : 3 ≤ (col k).1) : col k ≠ (0, 0) := fun q => by rw [q] at h; simp at h
/-- A call of the actors. -/
theorem Pst.went (P : Pst w0 Z n w s col D p A ac m m' xs ys l st ex inp) (K' : Cli w0 Z' n' w' s') (hL : Left2 Z w s Z' s') (hk : Kept (fun k => s.own k ≠ (0, 0)) w w') : Pst w0 Z' n' w' s' (cut col w.heap.size) D p A ac m m' xs ys l st ex inp := by
  refine P.step K' hL.fdo hk (fun k h => cut_lt h) (fun k _ h => ?_) (P.keepL hk (fun k h => cut_lt h) fun k h1 h2 => P.own0 h1 (ne1 h2 (.inl (by decide)))) ((P.R.keep hk fun k h1 h2 h3 => P.own0 h1 (ne3 h2) h3).see (Nat.le_refl _) (fun _ _ _ => rfl) |> fun h => ?_) (fun k h1 h2 => P.own0 h1 (ne1 h2 (.inl (by decide)))) (fun k h1 _ h2 => P.own0 h1 h2)
  · unfold cut at h
    split at h
    · rename_i q
      exact hL.space q (P.sp k q h)
    · exact absurd rfl h
  · exact (P.R.retag (tg' := cut col w.heap.size) fun k hk => cut_lt hk).keep hk fun k h1 h2 h3 => by
      rw [cut_lt h1] at h2
      exact P.own0 h1 (ne3 h2) h3
/-- The client makes blocks only. -/
theorem Pst.more (P : Pst w0 Z n w s col D p A ac m m' xs ys l st ex inp) (hk : Kept noneS w w') : Pst w0 Z n w' s (cut col w.heap.size) D p A ac m m' xs ys l st ex inp :=
  P.went (P.K.more hk) (Left2.refl _ _ _) (hk.mono fun _ _ q => q.elim)
theorem Pst.hv (P : Pst w0 Z n w s col D p A ac m m' xs ys l st ex inp) : ∀ k, k < w.heap.size → 3 ≤ (col k).1 → ¬ Z.Hd k ∧ ¬ Z.C k := fun k hk h => (P.sp k hk (ne3 h)).2.2
theorem Pst.room (P : Pst w0 Z n w s col D p A ac m m' xs ys l st ex inp) (hok : WOk Try.prog Z w) (ht : ∀ k, k < w.heap.size → col' k = col k) : ∀ k, k < w'.heap.size → col' k ≠ (0, 0) → space w0 Z s k := fun k _ h => by
  by_cases q : k < w.heap.size
  · exact P.sp k q (by rw [← ht k q]; exact h)
  · exact P.K.room hok k (by omega)
theorem Pst.blkno (P : Pst w0 Z n w s col D p A ac m m' xs ys l st ex inp) {S : Nat → Prop} (hS : ∀ k, k < w.heap.size → S k → col k ≠ (0, 0)) : ∀ k, k < w.heap.size ∧ S k → s.own k = (0, 0) := fun k h => (P.sp k h.1 (hS k h.1 h.2)).2.1
/-- The client's own doing. -/
theorem Pst.mine (P : Pst w0 Z n w s col D p A ac m m' xs ys l st ex inp) {S : Nat → Prop} (hk : Kept S w w') (hS : ∀ k, k < w.heap.size → S k → col k ≠ (0, 0)) : Cli w0 Z n w' s :=
  P.K.next (P.K.rep.keep (hk.mono fun k h q => (⟨h, q⟩ : k < w.heap.size ∧ S k)) fun k q => P.blkno hS k q) (hk.mono fun k h q => (⟨h, q⟩ : k < w.heap.size ∧ S k)) (fun k q => .inr (P.sp k q.1 (hS k q.1 q.2)).1) (Left2.refl _ _ _)
/-- A call of the document's System. -/
theorem Pst.ref {S : Nat → Prop} (P : Pst w0 Z n w s col D p A ac m m' xs ys l st ex inp) (hok : WOk Try.prog Z w) (hk : Kept S w w') (hS : ∀ k, k < w.heap.size → S k → 3 ≤ (col k).1) (ht : ∀ k, k < w.heap.size → col' k = col k) (hR : RfAt w' col' p l' st') : Pst w0 Z n w' s col' D p A ac m m' xs ys l' st' ex inp := by
  have no : ∀ {k : Nat} {a : Nat} {b : Int}, k < w.heap.size → col k = (a, b) → a < 3 → ¬ S k := fun hk e ha q => by
    have := hS _ hk q
    rw [e] at this
    have h3 : 3 ≤ _ := this
    simp at h3
    omega
  exact P.step (P.mine hk fun k h q => ne3 (hS k h q)) rfl hk ht (P.room hok ht) (P.keepL hk ht fun k h1 h2 => no h1 h2 (by decide)) hR (fun k h1 h2 => no h1 h2 (by decide)) (fun k h1 h2 _ q => by have := hS k h1 q; omega)
/-- An actor has done an item. -/
theorem Pst.did (P : Pst w0 Z n w s col D p A ac m m' xs ys l st ex inp) (K' : Cli w0 Z' n' w' s') (hL : Left2 Z w s Z' s') {m2 : Nat} {zs : List Value} (hD : LstV w' (fun k => (col k = (1, 0) ∨ w.heap.size ≤ k) ∧ space w0 Z' s' k) D 24 29 2 m2 zs) (hk : Kept (fun k => s.own k ≠ (0, 0) ∨ (col k = (1, 0) ∨ w.heap.size ≤ k)) w w') :
    ∃ col', (∀ k, k < w.heap.size → col' k = col k) ∧ Pst w0 Z' n' w' s' col' D p A ac m2 m' zs ys l st ex inp := by
  have hdec : ∃ col' : Nat → Nat × Int, (∀ k, k < w.heap.size → col' k = col k) ∧ (∀ k, w.heap.size ≤ k → space w0 Z' s' k → col' k = (1, 0)) ∧ (∀ k, w.heap.size ≤ k → ¬ space w0 Z' s' k → col' k = (0, 0)) := by
    classical
    refine ⟨fun k => if k < w.heap.size then col k else if space w0 Z' s' k then (1, 0) else (0, 0), fun k h => if_pos h, fun k h q => ?_, fun k h q => ?_⟩
    · show (if k < w.heap.size then col k else _) = _
      rw [if_neg (by omega), if_pos q]
    · show (if k < w.heap.size then col k else _) = _
      rw [if_neg (by omega), if_neg q]
  obtain ⟨col', ht, h1, h2⟩ := hdec
  have no : ∀ {k : Nat} {a : Nat} {b : Int}, k < w.heap.size → col k = (a, b) → (a ≠ 0 ∨ b ≠ 0) → a ≠ 1 → ¬ (s.own k ≠ (0, 0) ∨ (col k = (1, 0) ∨ w.heap.size ≤ k)) := fun hk e hn ha q => by
    rcases q with q | q | q
    · exact P.own0 hk (ne1 e hn) q
    · rw [q] at e; injection e with e _; exact ha e.symm
    · omega
  refine ⟨col', ht, P.step K' hL.fdo hk ht (fun k hk' h => ?_) (hD.mono fun k _ q => ?_) ((P.R.retag ht).keep hk fun k h1 h2 h3 => ?_) (fun k h1 h2 => no h1 h2 (.inl (by decide)) (by decide)) (fun k h1 h2 h3 q => by
    rcases q with q | q | q
    · exact P.own0 h1 h3 q
    · rw [q] at h2; simp at h2
    · omega)⟩
  · by_cases q : k < w.heap.size
    · exact hL.space q (P.sp k q (by rw [← ht k q]; exact h))
    · by_cases r : space w0 Z' s' k
      · exact r
      · exact absurd (h2 k (by omega) r) h
  · by_cases r : k < w.heap.size
    · rw [ht k r]
      rcases q.1 with x | x
      · exact x
      · omega
    · exact h1 k (by omega) q.2
  · rw [ht k h1] at h2
    rcases h3 with q | q | q
    · exact P.own0 h1 (ne3 h2) q
    · rw [q] at h2; simp at h2
    · omega
/-- What is wanted has grown. -/
theorem Pst.want {S : Nat → Prop} (P : Pst w0 Z n w s col D p A ac m m' xs ys l st ex inp) (hok : WOk Try.prog Z w) (hk : Kept S w w') (hS : ∀ k, k < w.heap.size → S k → col k = (2, 0)) (ht : ∀ k, k < w.heap.size → col' k = col k) {m2 : Nat} {zs : List Value} (hW : SegV w' (fun k => col' k = (2, 0)) 29 2 A' m2 ac' zs) : Pst w0 Z n w' s col' D p A' ac' m m2 xs zs l st ex inp := by
  have no : ∀ {k : Nat} {t : Nat × Int}, k < w.heap.size → col k = t → t ≠ (2, 0) → ¬ S k := fun h e hn q => hn (e.symm.trans (hS _ h q))
  refine ⟨P.mine hk fun k h q => ne1 (hS k h q) (.inl (by decide)), P.keepL hk ht fun k h1 h2 => no h1 h2 (by decide), hW, (P.R.retag ht).keep hk fun k h1 h2 h3 => ?_, P.room hok ht, P.fdo, fun x hx => ?_, ((P.I.mono fun k hk q => (⟨q, hk⟩ : col k = (0, 2) ∧ k < w.heap.size)).keep hk fun k _ q r => no q.2 q.1 (by decide) r).mono fun k _ q => by rw [ht k q.2]; exact q.1⟩
  · rw [ht k h1] at h2
    rw [hS k h1 h3] at h2
    simp at h2
  · obtain ⟨h1, h2⟩ := P.X x hx
    exact ⟨h1.keep hk (no h1.lt h2 (by decide)), by rw [ht _ h1.lt]; exact h2⟩
/-- A variable or a row of the client's own, anew. -/
theorem Pst.own {S : Nat → Prop} {ex' : List (Nat × TypeId × Array Value)} {inp' : Option Addr × Nat × Nat × List Value} (P : Pst w0 Z n w s col D p A ac m m' xs ys l st ex inp) (hok : WOk Try.prog Z w) (hk : Kept S w w') (hS : ∀ k, k < w.heap.size → S k → (col k).1 = 0 ∧ col k ≠ (0, 0)) (ht : ∀ k, k < w.heap.size → col' k = col k)
    (hX : ∀ x ∈ ex', Blk w' x.1 x.2.1 x.2.2 ∧ col' x.1 = (0, 1)) (hI : SegV w' (fun k => col' k = (0, 2)) 5 1 inp'.1 inp'.2.1 inp'.2.2.1 inp'.2.2.2) : Pst w0 Z n w' s col' D p A ac m m' xs ys l st ex' inp' := by
  have no : ∀ {k : Nat} {t : Nat × Int}, k < w.heap.size → col k = t → t.1 ≠ 0 → ¬ S k := fun h e hn q => hn (by rw [← e]; exact (hS _ h q).1)
  refine ⟨P.mine hk fun k h q => (hS k h q).2, P.keepL hk ht fun k h1 h2 => no h1 h2 (by decide), ((P.W.mono fun k hk q => (⟨q, hk⟩ : col k = (2, 0) ∧ k < w.heap.size)).keep hk fun k _ q r => no q.2 q.1 (by decide) r).mono fun k _ q => by rw [ht k q.2]; exact q.1, (P.R.retag ht).keep hk fun k h1 h2 h3 => ?_, P.room hok ht, P.fdo, hX, hI⟩
  rw [ht k h1] at h2
  have := (hS k h1 h3).1
  omega
theorem Pst.XI {S : Nat → Prop} (P : Pst w0 Z n w s col D p A ac m m' xs ys l st ex inp) (hk : Kept S w w') (hS : ∀ k, k < w.heap.size → col k = (0, 1) → ¬ S k) (ht : ∀ k, k < w.heap.size → col' k = col k) : ∀ x ∈ ex, Blk w' x.1 x.2.1 x.2.2 ∧ col' x.1 = (0, 1) := fun x hx => by
  obtain ⟨h1, h2⟩ := P.X x hx
  exact ⟨h1.keep hk (hS _ h1.lt h2), by rw [ht _ h1.lt]; exact h2⟩
end
end Go.Proofs.Ytfpkachoneaaeaa
namespace Go.Proofs.Ytfpkachoneaaeaa
open Go Go.Conc Go.RowKit
noncomputable def plL1 : Code := match Try.f9.body.getD .skip with
  | .seq _ (.seq _ (.seq _ (.seq (.seq _ (.block _ (.loop c))) _))) => c
  | _ => .skip
noncomputable def plRest : Code := match Try.f9.body.getD .skip with
  | .seq _ (.seq _ (.seq _ (.seq _ c))) => c
  | _ => .skip
noncomputable def plB1 : Code := match plL1 with
  | .seq _ (.seq _ (.seq (.block _ c) _)) => c
  | _ => .skip
noncomputable def plB2 : Code := match plB1 with
  | .seq _ (.seq (.seq _ (.block _ c)) _) => c
  | _ => .skip
noncomputable def plChk : Code := match plB1 with
  | .seq _ (.seq _ c) => c
  | _ => .skip
noncomputable def plPost : Code := match plB2 with
  | .seq _ (.cond _ c _) => c
  | _ => .skip
noncomputable def plElse : Code := match plB2 with
  | .seq _ (.cond _ _ c) => c
  | _ => .skip
noncomputable def plRun : Code := match plElse with
  | .seq _ (.cond _ c _) => c
  | _ => .skip
noncomputable def plStop : Code := match plElse with
  | .seq _ (.cond _ _ c) => c
  | _ => .skip
noncomputable def plR11 : Code := match plPost with
  | .seq _ (.seq (.seq c _) _) => c
  | _ => .skip
noncomputable def plL2 : Code := match plPost with
  | .seq _ (.seq _ (.seq _ (.block _ (.loop c)))) => c
  | _ => .skip
noncomputable def plR30 : Code := match plChk with
  | .seq (.seq c _) _ => c
  | _ => .skip
noncomputable def plL3 : Code := match plChk with
  | .seq _ (.seq _ (.block _ (.loop c))) => c
  | _ => .skip
noncomputable def plR35 : Code := match plL3 with
  | .seq _ (.seq _ (.seq (.block _ (.seq _ (.seq c _))) _)) => c
  | _ => .skip
noncomputable def plOps (c : Code) : Array Oper := match c with
  | .region _ ops _ => ops
  | _ => #[]
theorem uncons {α : Type} {n : Nat} {l : List α} (h : l.length = n + 1) : ∃ a r, l = a :: r ∧ r.length = n := by
  cases l with
  | nil => cases h
  | cons a r => exact ⟨a, r, rfl, Nat.succ.inj h⟩
/-- The slots that are read again. -/
structure Live (x : Act) (S0 D p : Nat) (SA : Option Addr) (N sc : Nat) (A : Option Addr) (m ac j : Nat) (v10 : Value) : Prop where
  d : x.defers = []
  sz : x.tmps.size = 136
  t0 : x.tmps[0]? = some (.pointer (some ⟨S0, 0, none⟩))
  t1 : x.tmps[1]? = some (.pointer (some ⟨D, 0, none⟩))
  t7 : x.tmps[7]? = some (.pointer (some ⟨p, 0, none⟩))
  t8 : x.tmps[8]? = some (.slice A m ac)
  t10 : x.tmps[10]? = some (v10)
  t19 : x.tmps[19]? = some (.slice SA N sc)
  t20 : x.tmps[20]? = some (.int .i64 (N : Int))
  t21 : x.tmps[21]? = some (.int .i64 (j : Int))
theorem Live.open {x : Act} {S0 D p : Nat} {SA : Option Addr} {N sc : Nat} {A : Option Addr} {m ac j : Nat} {v10 : Value} (h : Live x S0 D p SA N sc A m ac j v10) :
    ∃ f : Nat → Value, x = ⟨#[.pointer (some ⟨S0, 0, none⟩), .pointer (some ⟨D, 0, none⟩), f 2, f 3, f 4, f 5, f 6, .pointer (some ⟨p, 0, none⟩), .slice A m ac, f 9, v10, f 11, f 12, f 13, f 14, f 15, f 16, f 17, f 18, .slice SA N sc, .int .i64 (N : Int), .int .i64 (j : Int), f 22, f 23, f 24, f 25, f 26, f 27, f 28, f 29, f 30, f 31, f 32, f 33, f 34, f 35, f 36, f 37, f 38, f 39, f 40, f 41, f 42, f 43, f 44, f 45, f 46, f 47, f 48, f 49, f 50, f 51, f 52, f 53, f 54, f 55, f 56, f 57, f 58, f 59, f 60, f 61, f 62, f 63, f 64, f 65, f 66, f 67, f 68, f 69, f 70, f 71, f 72, f 73, f 74, f 75, f 76, f 77, f 78, f 79, f 80, f 81, f 82, f 83, f 84, f 85, f 86, f 87, f 88, f 89, f 90, f 91, f 92, f 93, f 94, f 95, f 96, f 97, f 98, f 99, f 100, f 101, f 102, f 103, f 104, f 105, f 106, f 107, f 108, f 109, f 110, f 111, f 112, f 113, f 114, f 115, f 116, f 117, f 118, f 119, f 120, f 121, f 122, f 123, f 124, f 125, f 126, f 127, f 128, f 129, f 130, f 131, f 132, f 133, f 134, f 135], []⟩ := by
  obtain ⟨⟨t⟩, d⟩ := x
  obtain ⟨h1, h2, q0, q1, q7, q8, q10, q19, q20, q21⟩ := h
  replace h1 : d = [] := h1
  subst h1
  replace h2 : t.length = 136 := h2
  have hl : t = (List.range 136).map fun i => t.getD i undef := by
    refine List.ext_getElem (by simp [h2]) fun i a b => ?_
    simp [a]
  have key : ∀ (i : Nat) v, (⟨t⟩ : Array Value)[i]? = some v → t.getD i undef = v := fun i v hv => by
    have hv' : t[i]? = some v := by simpa using hv
    simp [hv']
  replace q0 := key _ _ q0
  replace q1 := key _ _ q1
  replace q7 := key _ _ q7
  replace q8 := key _ _ q8
  replace q10 := key _ _ q10
  replace q19 := key _ _ q19
  replace q20 := key _ _ q20
  replace q21 := key _ _ q21
  clear key
  obtain ⟨f, hf⟩ : ∃ f : Nat → Value, f = fun i => t.getD i undef := ⟨_, rfl⟩
  have hfi : ∀ i, t.getD i undef = f i := fun i => by rw [hf]
  rw [← hf] at hl
  simp only [hfi] at q0 q1 q7 q8 q10 q19 q20 q21
  refine ⟨f, ?_⟩
  have e : (List.range 136).map f = [f 0, f 1, f 2, f 3, f 4, f 5, f 6, f 7, f 8, f 9, f 10, f 11, f 12, f 13, f 14, f 15, f 16, f 17, f 18, f 19, f 20, f 21, f 22, f 23, f 24, f 25, f 26, f 27, f 28, f 29, f 30, f 31, f 32, f 33, f 34, f 35, f 36, f 37, f 38, f 39, f 40, f 41, f 42, f 43, f 44, f 45, f 46, f 47, f 48, f 49, f 50, f 51, f 52, f 53, f 54, f 55, f 56, f 57, f 58, f 59, f 60, f 61, f 62, f 63, f 64, f 65, f 66, f 67, f 68, f 69, f 70, f 71, f 72, f 73, f 74, f 75, f 76, f 77, f 78, f 79, f 80, f 81, f 82, f 83, f 84, f 85, f 86, f 87, f 88, f 89, f 90, f 91, f 92, f 93, f 94, f 95, f 96, f 97, f 98, f 99, f 100, f 101, f 102, f 103, f 104, f 105, f 106, f 107, f 108, f 109, f 110, f 111, f 112, f 113, f 114, f 115, f 116, f 117, f 118, f 119, f 120, f 121, f 122, f 123, f 124, f 125, f 126, f 127, f 128, f 129, f 130, f 131, f 132, f 133, f 134, f 135] := rfl
  rw [hl, e, q0, q1, q7, q8, q10, q19, q20, q21]
/-- What was done, as it lies in memory. -/
def didV (ds : List (Int × ByteArray)) : List Value := ds.flatMap fun d => [.int .i64 d.1, .string d.2]
theorem didV_app (a b : List (Int × ByteArray)) : didV (a ++ b) = didV a ++ didV b := List.flatMap_append
theorem didV_len : ∀ ds : List (Int × ByteArray), (didV ds).length = ds.length * 2
  | [] => rfl
  | d :: ds => by
    have := didV_len ds
    simp only [didV, List.flatMap_cons, List.length_append, List.length_cons, List.length_nil] at this ⊢
    omega
theorem didV_0 : ∀ {ds : List (Int × ByteArray)} {i : Nat} (h : i < ds.length), (didV ds)[i * 2]? = some (.int .i64 ds[i].1)
  | d :: ds, 0, _ => rfl
  | d :: ds, i + 1, h => by
    have := didV_0 (ds := ds) (i := i) (Nat.lt_of_succ_lt_succ h)
    rw [show (i + 1) * 2 = i * 2 + 1 + 1 by omega]
    exact this
theorem didV_1 : ∀ {ds : List (Int × ByteArray)} {i : Nat} (h : i < ds.length), (didV ds)[i * 2 + 1]? = some (.string ds[i].2)
  | d :: ds, 0, _ => rfl
  | d :: ds, i + 1, h => by
    have := didV_1 (ds := ds) (i := i) (Nat.lt_of_succ_lt_succ h)
    rw [show (i + 1) * 2 + 1 = i * 2 + 1 + 1 + 1 by omega]
    exact this
/-- What stands at an item of the script. -/
structure Ply (w0 : World) (Z : Scene) (n : Nat) (w : World) (S0 D p : Nat) (A : Option Addr) (m ac : Nat) (st : Bool) (a : Ab) (ds : List (Int × ByteArray)) (ex : List (Nat × TypeId × Array Value)) (inp : Option Addr × Nat × Nat × List Value) (s : Sy) (col : Nat → Nat × Int) (l : List Bx) : Prop where
  P : Pst w0 Z n w s col D p A ac m m (didV ds) (didV ds) l st ex inp
  S : s.S = S0
  st : s.stopped = st
  abs : s.abs = a
  ag : Agree l a
/-- The mailboxes are small. -/
structure Fine (a : Ab) (j : Nat) : Prop where
  mx : ∀ q ∈ a, ∀ b ∈ q.2, b.length ≤ 1048576
  wf : wfA a
  len : a.length ≤ j
theorem Fine.maxi {a : Ab} {j : Nat} (h : Fine a j) : maxItem a := fun q hq b hb => Nat.le_trans (h.mx q hq b hb) (by decide)
theorem Fine.step {a : Ab} {j : Nat} (h : Fine a j) : Fine a (j + 1) := ⟨h.mx, h.wf, Nat.le_succ_of_le h.len⟩
theorem Fine.nil : Fine [] 0 := ⟨fun _ h => (by cases h), fun _ h => (by cases h), Nat.le_refl _⟩
theorem Fine.post {a : Ab} {j : Nat} (h : Fine a j) (st : Bool) {id : Int} (hid : (Lit.int .i64 id).wf = true) {bs : List UInt8} (hb : bs.length ≤ 1048576) : Fine (postB st a id bs).1 (j + 1) := by
  unfold postB
  split
  · exact h.step
  · unfold putA
    split
    · rename_i q hq
      split
      · refine ⟨fun x hx b hbx => ?_, fun x hx => ?_, by rw [List.length_map]; exact Nat.le_succ_of_le h.len⟩
        · obtain ⟨y, hy, rfl⟩ := List.mem_map.1 hx
          by_cases e : y.1 = id
          · rw [if_pos e] at hbx
            rcases List.mem_append.1 hbx with r | r
            · exact h.mx q (List.mem_of_find?_eq_some hq) b r
            · rw [List.mem_singleton.1 r]; exact hb
          · rw [if_neg e] at hbx
            exact h.mx y hy b hbx
        · obtain ⟨y, hy, rfl⟩ := List.mem_map.1 hx
          have := h.wf y hy
          by_cases e : y.1 = id
          · rw [if_pos e]; exact this
          · rw [if_neg e]; exact this
      · exact h.step
    · refine ⟨fun x hx b hbx => ?_, fun x hx => ?_, by simp; exact h.len⟩
      · rcases List.mem_append.1 hx with r | r
        · exact h.mx x r b hbx
        · rw [List.mem_singleton.1 r] at hbx
          rw [List.mem_singleton.1 hbx]
          exact hb
      · rcases List.mem_append.1 hx with r | r
        · exact h.wf x r
        · rw [List.mem_singleton.1 r]; exact hid
theorem Fine.take {a : Ab} {j : Nat} (h : Fine a j) (id : Int) : Fine (takeA a id) j := by
  refine ⟨fun x hx b hbx => ?_, fun x hx => ?_, by unfold takeA; rw [List.length_map]; exact h.len⟩
  · obtain ⟨y, hy, rfl⟩ := List.mem_map.1 hx
    by_cases e : y.1 = id
    · rw [if_pos e] at hbx
      exact h.mx y hy b (List.mem_of_mem_tail hbx)
    · rw [if_neg e] at hbx
      exact h.mx y hy b hbx
  · obtain ⟨y, hy, rfl⟩ := List.mem_map.1 hx
    have := h.wf y hy
    by_cases e : y.1 = id
    · rw [if_pos e]; exact this
    · rw [if_neg e]; exact this
/-- An old row is not hidden, and nobody's. -/
theorem Rd.old0 {w0 : World} {A : Option Addr} {xs : List Value} (h : Rd w0 (· < w0.heap.size) A xs) : Rd w0 (fun k => k < w0.heap.size ∧ ¬ JunkAt w0 k) A xs := by
  rcases h with h | ⟨g, o, h1, h2, h3⟩
  · exact .inl h
  · cases xs with
    | nil => exact .inl rfl
    | cons v xs =>
      refine .inr ⟨g, o, h1, ⟨h2, fun ⟨ob, q1, q2⟩ => ?_⟩, h3⟩
      have := h3 0 v rfl
      unfold World.cell? at this
      dsimp only at this
      rw [q1] at this
      cases ob <;> first | exact q2 | cases this
section
variable {w0 : World} {Z : Scene} {n : Nat} {w : World} {s : Sy} {col : Nat → Nat × Int} {D p : Nat} {A : Option Addr} {ac m m' : Nat} {xs ys : List Value} {l : List Bx} {st : Bool} {ex : List (Nat × TypeId × Array Value)} {inp : Option Addr × Nat × Nat × List Value}
theorem Pst.oldcol (P : Pst w0 Z n w s col D p A ac m m' xs ys l st ex inp) {k : Nat} (hk : k < w0.heap.size) : col k = (0, 0) := by
  have h := P.K.old.kept.size
  by_cases q : col k = (0, 0)
  · exact q
  · have := (P.sp k (by omega) q).1
    omega
theorem Pst.oldrow (P : Pst w0 Z n w s col D p A ac m m' xs ys l st ex inp) {B : Option Addr} {zs : List Value} (h : Rd w0 (fun k => k < w0.heap.size ∧ ¬ JunkAt w0 k) B zs) : Rd w (fun k => k < w0.heap.size ∧ ¬ JunkAt w0 k) B zs := h.keep P.K.old.kept fun _ _ _ q => q
theorem Pst.oldvis (P : Pst w0 Z n w s col D p A ac m m' xs ys l st ex inp) {k : Nat} (hk : k < w0.heap.size ∧ ¬ JunkAt w0 k) : ¬ Z.Hd k ∧ col k = (0, 0) ∧ k ≠ p := by
  refine ⟨fun q => hk.2 ((P.K.vis k hk.1).1 q), P.oldcol hk.1, fun q => ?_⟩
  have := P.oldcol hk.1
  rw [q, P.R.tp] at this
  injection this with q1 _
  cases q1
end
end Go.Proofs.Ytfpkachoneaaeaa
