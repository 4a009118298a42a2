/-
  Post: the item is put into the mailbox (the region that draws its order).
-/
import Derived.Test.YtfpkachoneaaeaaBbFst
import Derived.Test.YtfpkachoneaaeaaBbApp
import Derived.Test.YtfpkachoneaaeaaBbDraw
set_option linter.unusedSimpArgs false
set_option linter.unusedVariables false
namespace Go.Proofs.Ytfpkachoneaaeaa
open Go Go.Conc Go.RowKit
noncomputable def pTail : Code := match Try.f13.body.getD .skip with
  | .seq _ (.seq _ (.seq _ (.seq _ (.seq _ (.seq _ t))))) => t
  | _ => .skip
noncomputable def pOps : Array Oper := match pTail with
  | .seq _ (.seq (.region _ ops _) _) => ops
  | _ => #[]
theorem agree_prefix {a e : Array Value} {m N : Nat} (h : a.extract 0 m = e.extract 0 m) (hs : a.size = N) (hs' : e.size = N) (hm : m ≤ N) (k : Nat) (hk : k < m ∨ N ≤ k) : a[k]? = e[k]? := by
  rcases hk with hk | hk
  · have h1 : (a.extract 0 m)[k]? = a[k]? := by rw [Array.getElem?_extract]; simp; omega
    have h2 : (e.extract 0 m)[k]? = e[k]? := by rw [Array.getElem?_extract]; simp; omega
    rw [← h1, ← h2, h]
  · rw [Array.getElem?_eq_none (by omega), Array.getElem?_eq_none (by omega)]
/-- The world between the operations. -/
def JPost (Z0 : Scene) (n0 : Nat) (w0 : World) (own : Nat → Nat × Nat) (e : Ent) (bs : List UInt8) (E : Act) (L : Nat → Bool) (a : Act) (Z : Scene) (n : Nat) (w : World) : Prop :=
  Z = Z0 ∧ n = n0 ∧ Ag pOps [56, 57, 58] [] E L a ∧
  ((L 6 = false ∧ w = w0) ∨
   (L 6 = true ∧ L 7 = false ∧ L 8 = false ∧ L 11 = false ∧ ∃ A1 c1, a.tmps[56]? = some (.slice A1 bs.length c1) ∧ SegV w (fun k => w0.heap.size ≤ k) 5 1 A1 bs.length c1 (bvs bs) ∧ Kept noneS w0 w) ∨
   (L 6 = true ∧ L 7 = true ∧ L 8 = false ∧ L 11 = false ∧ ∃ A1 c1 g, a.tmps[57]? = some (.slice (some ⟨g, 0, none⟩) 1 1) ∧ SegV w (fun k => w0.heap.size ≤ k) 5 1 A1 bs.length c1 (bvs bs) ∧ Blk w g 27 #[.slice A1 bs.length c1] ∧ w0.heap.size ≤ g ∧ Kept noneS w0 w) ∨
   (L 6 = true ∧ L 7 = true ∧ L 8 = true ∧ L 11 = false ∧ ∃ A1 c1 A2 c2 m2, a.tmps[58]? = some (.slice A2 (e.items.length + 1) c2) ∧ SegV w (fun k => w0.heap.size ≤ k ∧ k < m2) 5 1 A1 bs.length c1 (bvs bs) ∧
      SegV w (fun k => (own k = (e.gi, 4) ∧ k < w0.heap.size) ∨ m2 ≤ k) 27 1 A2 (e.items.length + 1) c2 (e.items.map It.val ++ [.slice A1 bs.length c1]) ∧ w0.heap.size ≤ m2 ∧ Kept (fun k => own k = (e.gi, 4)) w0 w) ∨
   (L 6 = true ∧ L 7 = true ∧ L 8 = true ∧ L 11 = true ∧ ∃ A1 c1 A2 c2 m2 w1, SegV w1 (fun k => w0.heap.size ≤ k ∧ k < m2) 5 1 A1 bs.length c1 (bvs bs) ∧
      SegV w1 (fun k => (own k = (e.gi, 4) ∧ k < w0.heap.size) ∨ m2 ≤ k) 27 1 A2 (e.items.length + 1) c2 (e.items.map It.val ++ [.slice A1 bs.length c1]) ∧ w0.heap.size ≤ m2 ∧ Kept (fun k => own k = (e.gi, 4)) w0 w1 ∧ w = w1.setCell ⟨e.b, 0, none⟩ (.slice A2 (e.items.length + 1) c2)))
theorem JPost.quiet {Z0 : Scene} {n0 : Nat} {w0 : World} {own : Nat → Nat × Nat} {e : Ent} {bs : List UInt8} {E : Act} {L : Nat → Bool} {a a' : Act} {Z : Scene} {n : Nat} {w : World} {i : Nat} (h : JPost Z0 n0 w0 own e bs E L a Z n w) (h6 : i ≠ 6) (h7 : i ≠ 7) (h8 : i ≠ 8) (h11 : i ≠ 11)
    (hA : Ag pOps [56, 57, 58] [] E (plus L i) a') (h56 : a'.tmps[56]? = a.tmps[56]?) (h57 : a'.tmps[57]? = a.tmps[57]?) (h58 : a'.tmps[58]? = a.tmps[58]?) : JPost Z0 n0 w0 own e bs E (plus L i) a' Z n w := by
  have e6 : plus L i 6 = L 6 := by simp [plus, Ne.symm h6]
  have e7 : plus L i 7 = L 7 := by simp [plus, Ne.symm h7]
  have e8 : plus L i 8 = L 8 := by simp [plus, Ne.symm h8]
  have e11 : plus L i 11 = L 11 := by simp [plus, Ne.symm h11]
  obtain ⟨hZ, hn, _, h⟩ := h
  refine ⟨hZ, hn, hA, ?_⟩
  rw [e6, e7, e8, e11, h56, h57, h58]
  exact h
theorem infoSl : (Try.prog.info? 27).map (fun i => (i.zero, i.size, i.bytes)) = some (some (.slice none 0 0), 1, 24) := by kernel_rfl
section
variable {Z : Scene} {n : Nat} {hd : Option (Nat × Chair)} {w : World} {s : Sy} {e : Ent} {Post : Value → World → Prop} {h : Nat} {cs : List Frame} {kk : List Item}
set_option maxRecDepth 50000 in
set_option maxHeartbeats 8000000 in
theorem post_draw {id : Int} {IA : Option Addr} {ic : Nat} {bs : List UInt8} {GF : Nat → Prop} {v3 v4 v5 v6 v8 v9 v10 v11 v12 v13 v14 v15 v16 v17 v18 v19 v20 v21 v22 v23 v24 v25 v26 v27 v28 v29 v30 v31 v32 v33 v34 v35 v36 v37 v38 v39 v40 v41 v42 v43 v44 v45 v46 v47 v48 v49 v50 v51 v52 v53 v54 v55 v56 v57 v58 v59 v60 : Value} {rid : Nat} {ds : List Deferred} (R : Rep Z n hd w s 1) (he : e ∈ s.ents) (hl : e.items.length < 64) (hb : RB w GF IA bs) (hG : ∀ k, k < w.heap.size → GF k → ¬ Z.Hd k) (hbl : bs.length ≤ 140737488355328)
    (H : ∀ (a : Act) (w1 : World) A1 c1 A2 c2 m2, a.defers = ds → a.tmps.size = 61 → SegV w1 (fun k => w.heap.size ≤ k ∧ k < m2) 5 1 A1 bs.length c1 (bvs bs) →
      SegV w1 (fun k => (s.own k = (e.gi, 4) ∧ k < w.heap.size) ∨ m2 ≤ k) 27 1 A2 (e.items.length + 1) c2 (e.items.map It.val ++ [.slice A1 bs.length c1]) → w.heap.size ≤ m2 → Kept (fun k => s.own k = (e.gi, 4)) w w1 →
      Run Try.prog Post Z n h 0 (G ((base 13).at a kk) cs) (w1.setCell ⟨e.b, 0, none⟩ (.slice A2 (e.items.length + 1) c2))) :
    Run Try.prog Post Z n h 0 (G ((base 13).at ⟨#[.pointer (some ⟨s.S, 0, none⟩), .int .i64 id, .slice IA bs.length ic, v3, v4, v5, v6, .pointer (some ⟨e.b, 0, none⟩), v8, v9, v10, v11, v12, v13, v14, v15, v16, v17, v18, v19, v20, v21, v22, v23, v24, v25, v26, v27, v28, v29, v30, v31, v32, v33, v34, v35, v36, v37, v38, v39, v40, v41, v42, v43, v44, v45, v46, v47, v48, v49, v50, v51, v52, v53, v54, v55, v56, v57, v58, v59, v60], ds⟩ (.code (.region rid pOps true) :: kk)) cs) w := by
  refine Run.okG fun hok => ?_
  have hE := R.ents e he
  have hac : acycB pOps = true := by kernel_rfl
  have hdist : distB pOps = true := by kernel_rfl
  refine Run.drawn (JPost Z n w s.own e bs ⟨#[.pointer (some ⟨s.S, 0, none⟩), .int .i64 id, .slice IA bs.length ic, v3, v4, v5, v6, .pointer (some ⟨e.b, 0, none⟩), v8, v9, v10, v11, v12, v13, v14, v15, v16, v17, v18, v19, v20, v21, v22, v23, v24, v25, v26, v27, v28, v29, v30, v31, v32, v33, v34, v35, v36, v37, v38, v39, v40, v41, v42, v43, v44, v45, v46, v47, v48, v49, .pointer (some ⟨e.b, 0, none⟩), .pointer (some ⟨e.b, 0, none⟩), .pointer (some ⟨e.b, 0, none⟩), .pointer (some ⟨e.b, 0, none⟩), .slice e.A e.items.length e.c, .slice IA bs.length ic, undef, undef, undef, .pointer (some ⟨e.b, 0, none⟩), .pointer (some ⟨e.b, 0, none⟩)], ds⟩) hac ⟨rfl, rfl, ⟨rfl, rfl, fun k hg hk => ?_⟩, .inl ⟨rfl, rfl⟩⟩ ?_ ?_
  · by_cases hk5 : k < 50 ∨ 61 ≤ k
    · refine agree_prefix (m := 50) (N := 61) ?_ ?_ ?_ (by omega) k hk5
      · rfl
      · rfl
      · rfl
    · exfalso
      have hall : ((List.range 11).all fun d => (owner pOps (50 + d)).isSome) = true := by kernel_rfl
      have := List.all_eq_true.1 hall (k - 50) (List.mem_range.2 (by omega))
      rw [show 50 + (k - 50) = k by omega] at this
      obtain ⟨j, hj⟩ := Option.isSome_iff_exists.1 this
      rcases hk with q | q
      · simp at q
      · have := q j hj
        cases this
  · intro L i o a Z' n' w' rest ho hLi hn hcl hJ cont
    have hA := hJ.2.2.1
    have hi12 : i < 12 := by
      have h12 : pOps.size = 12 := by kernel_rfl
      have := (Array.getElem?_eq_some_iff.1 ho).1
      omega
    have need : ∀ j m, j < 12 → (needs pOps j).contains m = true → L j = true → L m = true := by
      intro j m hj hm hL
      have h12 : pOps.size = 12 := by kernel_rfl
      exact hcl j (by omega) hL m (by simpa using hm)
    match i, hi12 with
    | 0, _ =>
      have ho' := ho
      unfold pOps pTail at ho'
      simp only [Try.f13, Option.getD_some, List.getElem?_toArray, List.getElem?_cons_succ, List.getElem?_cons_zero, Nat.reduceAdd, List.getElem?_cons] at ho'
      obtain rfl := Option.some.inj ho'
      exact Ag.quiet theEnv hA hdist ho (by kernel_rfl) hn (by intro cs b q; cases q) rfl (by decide) rfl (fun _ _ _ q => by cases q) (.pointer (some ⟨e.b, 0, none⟩)) (fun u _ _ => by go_simp) (fun k hk _ => by cases hk; rfl) (fun a' hA' hsl => cont _ _ _ _ (hJ.quiet (by decide) (by decide) (by decide) (by decide) hA' (hsl 56 (by simp)) (hsl 57 (by simp)) (hsl 58 (by simp))))
    | 1, _ =>
      have ho' := ho
      unfold pOps pTail at ho'
      simp only [Try.f13, Option.getD_some, List.getElem?_toArray, List.getElem?_cons_succ, List.getElem?_cons_zero, Nat.reduceAdd, List.getElem?_cons] at ho'
      obtain rfl := Option.some.inj ho'
      exact Ag.quiet theEnv hA hdist ho (by kernel_rfl) hn (by intro cs b q; cases q) rfl (by decide) rfl (fun _ _ _ q => by cases q) (.pointer (some ⟨e.b, 0, none⟩)) (fun u _ _ => by go_simp) (fun k hk _ => by cases hk; rfl) (fun a' hA' hsl => cont _ _ _ _ (hJ.quiet (by decide) (by decide) (by decide) (by decide) hA' (hsl 56 (by simp)) (hsl 57 (by simp)) (hsl 58 (by simp))))
    | 2, _ =>
      have ho' := ho
      unfold pOps pTail at ho'
      simp only [Try.f13, Option.getD_some, List.getElem?_toArray, List.getElem?_cons_succ, List.getElem?_cons_zero, Nat.reduceAdd, List.getElem?_cons] at ho'
      obtain rfl := Option.some.inj ho'
      exact Ag.quiet theEnv hA hdist ho (by kernel_rfl) hn (by intro cs b q; cases q) rfl (by decide) rfl (fun _ _ _ q => by cases q) (.pointer (some ⟨e.b, 0, none⟩)) (fun u _ _ => by go_simp) (fun k hk _ => by cases hk; rfl) (fun a' hA' hsl => cont _ _ _ _ (hJ.quiet (by decide) (by decide) (by decide) (by decide) hA' (hsl 56 (by simp)) (hsl 57 (by simp)) (hsl 58 (by simp))))
    | 3, _ =>
      have ho' := ho
      unfold pOps pTail at ho'
      simp only [Try.f13, Option.getD_some, List.getElem?_toArray, List.getElem?_cons_succ, List.getElem?_cons_zero, Nat.reduceAdd, List.getElem?_cons] at ho'
      obtain rfl := Option.some.inj ho'
      exact Ag.quiet theEnv hA hdist ho (by kernel_rfl) hn (by intro cs b q; cases q) rfl (by decide) rfl (fun _ _ _ q => by cases q) (.pointer (some ⟨e.b, 0, none⟩)) (fun u _ _ => by go_simp) (fun k hk _ => by cases hk; rfl) (fun a' hA' hsl => cont _ _ _ _ (hJ.quiet (by decide) (by decide) (by decide) (by decide) hA' (hsl 56 (by simp)) (hsl 57 (by simp)) (hsl 58 (by simp))))
    | 4, _ =>
      have ho' := ho
      unfold pOps pTail at ho'
      simp only [Try.f13, Option.getD_some, List.getElem?_toArray, List.getElem?_cons_succ, List.getElem?_cons_zero, Nat.reduceAdd, List.getElem?_cons] at ho'
      obtain rfl := Option.some.inj ho'
      have h8 : L 8 = false := by
        cases q : L 8 with
        | false => rfl
        | true => rw [need 8 4 (by decide) (by kernel_rfl) q] at hLi; cases hLi
      have hcell : w'.cell? ⟨e.b, 0, none⟩ = some (.slice e.A e.items.length e.c) := by
        have hw0 : w.cell? ⟨e.b, 0, none⟩ = some (.slice e.A e.items.length e.c) := R.cellE he 0
        obtain ⟨_, _, _, h⟩ := hJ
        rcases h with ⟨_, rfl⟩ | ⟨_, _, _, _, _, _, _, _, hk⟩ | ⟨_, _, _, _, _, _, _, _, _, _, _, hk⟩ | ⟨_, _, q, _⟩ | ⟨_, _, q, _⟩
        · exact hw0
        · rw [hk.cell hE.blk.lt (fun q => q)]; exact hw0
        · rw [hk.cell hE.blk.lt (fun q => q)]; exact hw0
        · rw [h8] at q; cases q
        · rw [h8] at q; cases q
      have hZ : Z' = Z := hJ.1
      exact Ag.ld (ad := ⟨e.b, 0, none⟩) hA hdist ho (by kernel_rfl) hn (by intro cs b q; cases q) rfl (by decide) _ hcell (by rw [hZ]; exact R.nshE he 0) (fun w₁ hld => ⟨by go_simp, by simp [go_sem, hld]⟩) (fun k hk _ => by cases hk; rfl)
        (fun a' hA' hsl => cont _ _ _ _ (hJ.quiet (by decide) (by decide) (by decide) (by decide) hA' (hsl 56 (by simp)) (hsl 57 (by simp)) (hsl 58 (by simp))))
    | 5, _ =>
      have ho' := ho
      unfold pOps pTail at ho'
      simp only [Try.f13, Option.getD_some, List.getElem?_toArray, List.getElem?_cons_succ, List.getElem?_cons_zero, Nat.reduceAdd, List.getElem?_cons] at ho'
      obtain rfl := Option.some.inj ho'
      exact Ag.quiet theEnv hA hdist ho (by kernel_rfl) hn (by intro cs b q; cases q) rfl (by decide) rfl (fun _ _ _ q => by cases q) (.slice IA bs.length ic) (fun u _ _ => by go_simp) (fun k hk _ => by cases hk; rfl) (fun a' hA' hsl => cont _ _ _ _ (hJ.quiet (by decide) (by decide) (by decide) (by decide) hA' (hsl 56 (by simp)) (hsl 57 (by simp)) (hsl 58 (by simp))))
    | 6, _ =>
      have ho' := ho
      unfold pOps pTail at ho'
      simp only [Try.f13, Option.getD_some, List.getElem?_toArray, List.getElem?_cons_succ, List.getElem?_cons_zero, Nat.reduceAdd, List.getElem?_cons] at ho'
      obtain rfl := Option.some.inj ho'
      obtain ⟨hZ, hn0, _, hJ4⟩ := hJ
      subst hZ hn0
      have f7 : L 7 = false := by
        cases q : L 7 with
        | false => rfl
        | true => rw [need 7 6 (by decide) (by kernel_rfl) q] at hLi; cases hLi
      have f8 : L 8 = false := by
        cases q : L 8 with
        | false => rfl
        | true => rw [need 8 7 (by decide) (by kernel_rfl) q] at f7; cases f7
      have f11 : L 11 = false := by
        cases q : L 11 with
        | false => rfl
        | true => rw [need 11 8 (by decide) (by kernel_rfl) q] at f8; cases f8
      have hw : w' = w := by
        rcases hJ4 with ⟨_, q⟩ | ⟨q, _⟩ | ⟨q, _⟩ | ⟨q, _⟩ | ⟨q, _⟩
        · exact q
        all_goals (rw [hLi] at q; cases q)
      subst hw
      have h55 : a.tmps[55]? = some (.slice IA bs.length ic) := hA.get 55 rfl (.inr fun j hj => by
        rw [show owner pOps 55 = some 5 by kernel_rfl] at hj
        cases hj
        exact hn 5 (by simpa using (show (needs pOps 6).contains 5 = true by kernel_rfl)))
      refine Run.enter ho rfl (by decide) rfl Try.func31 (by kernel_rfl) rfl ?_
      have hm : (#[Operand.tmp 55].map a.eval) = #[.slice IA bs.length ic] := by simp [Act.eval, Array.getD_eq_getD_getElem?, h55]
      rw [hm]
      refine clone_run hb hG hbl fun A' c' w2 hs hk => ?_
      rw [Frame.finish_at, ho]
      refine cont _ _ _ _ ⟨rfl, rfl, hA.put hdist ho (fun k hk hg => by cases hk; exact absurd hg (by decide)), .inr (.inl ⟨by simp [plus], by simp [plus, f7], by simp [plus, f8], by simp [plus, f11], A', c', ?_, hs, hk⟩)⟩
      exact Array.getElem?_setIfInBounds_self_of_lt (by rw [hA.size]; exact (by decide : 56 < 61))
    | 7, _ =>
      have ho' := ho
      unfold pOps pTail at ho'
      simp only [Try.f13, Option.getD_some, List.getElem?_toArray, List.getElem?_cons_succ, List.getElem?_cons_zero, Nat.reduceAdd, List.getElem?_cons] at ho'
      obtain rfl := Option.some.inj ho'
      obtain ⟨hZ, hn0, _, hJ4⟩ := hJ
      subst hZ hn0
      have t6 : L 6 = true := hn 6 (by simpa using (show (needs pOps 7).contains 6 = true by kernel_rfl))
      rcases hJ4 with ⟨q, _⟩ | ⟨_, _, f8, f11, A1, c1, h56, hs, hk⟩ | ⟨_, q, _⟩ | ⟨_, q, _⟩ | ⟨_, q, _⟩
      · rw [t6] at q; cases q
      · refine Run.okG fun hok' => ?_
        have e56 : a.tmps.getD 56 undef = .slice A1 bs.length c1 := by simp [Array.getD_eq_getD_getElem?, h56]
        refine Run.made theEnv ho rfl (by decide) rfl (fun _ _ q => by cases q) (.slice (some ⟨w'.heap.size, 0, none⟩) 1 1) (.cells #[.slice A1 bs.length c1] 27) (fun u _ hus => by
          go_simp) (hok'.fresh (Nat.le_refl _)) ?_
        refine cont _ _ _ _ ⟨rfl, rfl, hA.put hdist ho (fun k hk hg => by cases hk; exact absurd hg (by decide)), .inr (.inr (.inl ⟨by simp [plus, t6], by simp [plus], by simp [plus, f8], by simp [plus, f11], A1, c1, w'.heap.size, ?_, ?_, Blk.new _ _ _, hk.size, hk.alloc _⟩))⟩
        · exact Array.getElem?_setIfInBounds_self_of_lt (by rw [hA.size]; exact (by decide : 57 < 61))
        · exact hs.keep ((Kept.refl noneS _).alloc _) fun _ _ _ q => q
      · rw [hLi] at q; cases q
      · rw [hLi] at q; cases q
      · rw [hLi] at q; cases q
    | 8, _ =>
      have ho' := ho
      unfold pOps pTail at ho'
      simp only [Try.f13, Option.getD_some, List.getElem?_toArray, List.getElem?_cons_succ, List.getElem?_cons_zero, Nat.reduceAdd, List.getElem?_cons] at ho'
      obtain rfl := Option.some.inj ho'
      obtain ⟨hZ, hn0, _, hJ4⟩ := hJ
      subst hZ hn0
      have t7 : L 7 = true := hn 7 (by simpa using (show (needs pOps 8).contains 7 = true by kernel_rfl))
      have t6 : L 6 = true := need 7 6 (by decide) (by kernel_rfl) t7
      have f11 : L 11 = false := by
        cases q : L 11 with
        | false => rfl
        | true => rw [need 11 8 (by decide) (by kernel_rfl) q] at hLi; cases hLi
      have h54 : a.tmps[54]? = some (.slice e.A e.items.length e.c) := hA.get 54 rfl (.inr fun j hj => by
        rw [show owner pOps 54 = some 4 by kernel_rfl] at hj
        cases hj
        exact hn 4 (by simpa using (show (needs pOps 8).contains 4 = true by kernel_rfl)))
      rcases hJ4 with ⟨q, _⟩ | ⟨_, q, _⟩ | ⟨_, _, _, _, A1, c1, g, h57, hs, hg, hgn, hk⟩ | ⟨_, _, q, _⟩ | ⟨_, _, q, _⟩
      · rw [t6] at q; cases q
      · rw [t7] at q; cases q
      · have hrow := hE.row.keep hk fun _ _ _ q => q
        have hrow' : SegV w' (fun k => (s.own k = (e.gi, 4) ∧ k < w.heap.size) ∨ w'.heap.size ≤ k) 27 1 e.A e.items.length e.c (e.items.map It.val) := (hE.row.mono (G := fun k => s.own k = (e.gi, 4) ∧ k < w.heap.size) fun k hk hf => ⟨hf, hk⟩).keep hk (fun _ _ _ q => q) |>.mono fun k _ hf => .inl hf
        refine Run.okG fun hok' => ?_
        refine Run.append (F := fun k => (s.own k = (e.gi, 4) ∧ k < w.heap.size) ∨ w'.heap.size ≤ k) (GF := fun k => k = g) (xs := e.items.map It.val) (ys := [.slice A1 bs.length c1]) (m := e.items.length) (l := 1) (A := e.A) (c := e.c) (B := some ⟨g, 0, none⟩) (d := 1) theEnv ho rfl (by decide) rfl ?_ ?_ Try.underlying72 infoSl rfl (by decide) hrow' ?_ rfl ?_ ?_ ?_ ?_ ?_ ?_ ?_
        · simp [Act.eval, Array.getD_eq_getD_getElem?, h54]
        · simp [Act.eval, Array.getD_eq_getD_getElem?, h57]
        · refine .inr ⟨g, 0, rfl, rfl, fun j u hu => ?_⟩
          rw [hg.cell]
          match j, hu with
          | 0, hu => exact hu
        · intro u hu
          simp at hu
          subst hu
          rfl
        · simp [maxLen]; omega
        · omega
        · exact .inr (Nat.le_refl _)
        · intro k hk' hf
          rcases hf with ⟨h1, h2⟩ | h1
          · exact R.vis k (by rw [h1]; exact Nat.le_refl 4)
          · omega
        · intro k hk' hf
          subst hf
          exact hok.fresh hgn
        · intro A' c' w2 hs2 hk2
          refine cont _ _ _ _ ⟨rfl, rfl, hA.put hdist ho (fun k hk hg => by cases hk; exact absurd hg (by decide)), .inr (.inr (.inr (.inl ⟨by simp [plus, t6], by simp [plus, t7], by simp [plus], by simp [plus, f11], A1, c1, A', c', w'.heap.size, ?_, ?_, hs2, hk.size, ?_⟩)))⟩
          · exact Array.getElem?_setIfInBounds_self_of_lt (by rw [hA.size]; exact (by decide : 58 < 61))
          · refine (hs.mono (G := fun k => w.heap.size ≤ k ∧ k < w'.heap.size) fun k h1 h2 => ⟨h2, h1⟩).keep hk2 fun k h1 h2 h3 => ?_
            rcases h3 with ⟨_, h3⟩ | h3 <;> omega
          · refine (hk.mono (S' := fun k => s.own k = (e.gi, 4)) fun _ _ q => q.elim).trans2 hk2 fun k h1 h2 => ?_
            rcases h2 with ⟨h2, _⟩ | h2
            · exact h2
            · have := hk.size
              omega
      · rw [hLi] at q; cases q
      · rw [hLi] at q; cases q
    | 9, _ =>
      have ho' := ho
      unfold pOps pTail at ho'
      simp only [Try.f13, Option.getD_some, List.getElem?_toArray, List.getElem?_cons_succ, List.getElem?_cons_zero, Nat.reduceAdd, List.getElem?_cons] at ho'
      obtain rfl := Option.some.inj ho'
      exact Ag.quiet theEnv hA hdist ho (by kernel_rfl) hn (by intro cs b q; cases q) rfl (by decide) rfl (fun _ _ _ q => by cases q) (.pointer (some ⟨e.b, 0, none⟩)) (fun u _ _ => by go_simp) (fun k hk _ => by cases hk; rfl) (fun a' hA' hsl => cont _ _ _ _ (hJ.quiet (by decide) (by decide) (by decide) (by decide) hA' (hsl 56 (by simp)) (hsl 57 (by simp)) (hsl 58 (by simp))))
    | 10, _ =>
      have ho' := ho
      unfold pOps pTail at ho'
      simp only [Try.f13, Option.getD_some, List.getElem?_toArray, List.getElem?_cons_succ, List.getElem?_cons_zero, Nat.reduceAdd, List.getElem?_cons] at ho'
      obtain rfl := Option.some.inj ho'
      exact Ag.quiet theEnv hA hdist ho (by kernel_rfl) hn (by intro cs b q; cases q) rfl (by decide) rfl (fun _ _ _ q => by cases q) (.pointer (some ⟨e.b, 0, none⟩)) (fun u _ _ => by go_simp) (fun k hk _ => by cases hk; rfl) (fun a' hA' hsl => cont _ _ _ _ (hJ.quiet (by decide) (by decide) (by decide) (by decide) hA' (hsl 56 (by simp)) (hsl 57 (by simp)) (hsl 58 (by simp))))
    | 11, _ =>
      have ho' := ho
      unfold pOps pTail at ho'
      simp only [Try.f13, Option.getD_some, List.getElem?_toArray, List.getElem?_cons_succ, List.getElem?_cons_zero, Nat.reduceAdd, List.getElem?_cons] at ho'
      obtain rfl := Option.some.inj ho'
      obtain ⟨hZ, hn0, _, hJ4⟩ := hJ
      subst hZ hn0
      have t8 : L 8 = true := hn 8 (by simpa using (show (needs pOps 11).contains 8 = true by kernel_rfl))
      have t7 : L 7 = true := need 8 7 (by decide) (by kernel_rfl) t8
      have t6 : L 6 = true := need 7 6 (by decide) (by kernel_rfl) t7
      have h60 : a.tmps[60]? = some (.pointer (some ⟨e.b, 0, none⟩)) := hA.get 60 rfl (.inr fun j hj => by
        rw [show owner pOps 60 = some 10 by kernel_rfl] at hj
        cases hj
        exact hn 10 (by simpa using (show (needs pOps 11).contains 10 = true by kernel_rfl)))
      rcases hJ4 with ⟨q, _⟩ | ⟨_, q, _⟩ | ⟨_, _, q, _⟩ | ⟨_, _, _, _, A1, c1, A2, c2, m2, h58, q1, q2, q3, q4⟩ | ⟨_, _, _, q, _⟩
      · rw [t6] at q; cases q
      · rw [t7] at q; cases q
      · rw [t8] at q; cases q
      · have hbk : Blk w' e.b 75 e.cells := hE.blk.keep q4 fun q => by rw [hE.ob] at q; exact snd_ne q (by decide)
        refine Run.okG fun hok' => ?_
        refine Run.stO ⟨e.b, 0, none⟩ (.slice A2 (e.items.length + 1) c2) ho rfl (by decide) rfl ?_ ?_ rfl rfl (by kernel_rfl) rfl ?_ (hbk.frozen 0) (R.nshE he 0) (R.nplE he) (hok'.cells hbk) ?_
        · simp [Act.eval, Array.getD_eq_getD_getElem?, h60]
        · simp [Act.eval, Array.getD_eq_getD_getElem?, h58]
        · rw [hbk.cell]; rfl
        · refine cont _ _ _ _ ⟨rfl, rfl, hA.put hdist ho (fun k hk hg => by cases hk), .inr (.inr (.inr (.inr ⟨by simp [plus, t6], by simp [plus, t7], by simp [plus, t8], by simp [plus], A1, c1, A2, c2, m2, w', q1, q2, q3, q4, rfl⟩)))⟩
      · rw [hLi] at q; cases q
  · intro L a Z' n' w' hL hJ
    obtain ⟨rfl, rfl, hA, hJ⟩ := hJ
    have hs : pOps.size = 12 := by kernel_rfl
    have h6 := hL 6 (by omega)
    have h8 := hL 8 (by omega)
    have h11 := hL 11 (by omega)
    have h7 := hL 7 (by omega)
    rcases hJ with ⟨q, _⟩ | ⟨_, q, _⟩ | ⟨_, _, q, _⟩ | ⟨_, _, _, q, _⟩ | ⟨_, _, _, _, A1, c1, A2, c2, m2, w1, q1, q2, q3, q4, rfl⟩
    · rw [h6] at q; cases q
    · rw [h7] at q; cases q
    · rw [h8] at q; cases q
    · rw [h11] at q; cases q
    · exact H a w1 A1 c1 A2 c2 m2 hA.d hA.size q1 q2 q3 q4
end
end Go.Proofs.Ytfpkachoneaaeaa
namespace Go.Proofs.Ytfpkachoneaaeaa
open Go Go.Conc Go.RowKit
section
variable {Z : Scene} {n : Nat} {hd : Option (Nat × Chair)} {w w1 : World} {s : Sy} {e : Ent} {Post : Value → World → Prop} {h : Nat} {c : Frame} {cs : List Frame} {lk : Int}
theorem fresh_t (l : List It) : ∃ t, ∀ i ∈ l, i.t ≠ t := by
  refine ⟨(l.map (·.t)).foldr max 0 + 1, fun i hi q => ?_⟩
  have : ∀ l : List It, ∀ i ∈ l, i.t ≤ (l.map (·.t)).foldr max 0 := by
    intro l
    induction l with
    | nil => intro i hi; cases hi
    | cons x l ih =>
      intro i hi
      simp only [List.map_cons, List.foldr_cons]
      rcases List.mem_cons.1 hi with rfl | hi
      · omega
      · have := ih i hi; omega
  have := this l i hi
  omega
/-- The actor's record with one item more. -/
def Ent.push (e : Ent) (A : Option Addr) (c : Nat) (i : It) : Ent := { e with A := A, c := c, items := e.items ++ [i] }
theorem Rep.push (R : Rep Z n hd w s lk) (hok : WOk Try.prog Z w) (he : e ∈ s.ents) {bs : List UInt8} {A1 A2 : Option Addr} {c1 c2 m2 : Nat} (q1 : SegV w1 (fun k => w.heap.size ≤ k ∧ k < m2) 5 1 A1 bs.length c1 (bvs bs))
    (q2 : SegV w1 (fun k => (s.own k = (e.gi, 4) ∧ k < w.heap.size) ∨ m2 ≤ k) 27 1 A2 (e.items.length + 1) c2 (e.items.map It.val ++ [.slice A1 bs.length c1])) (q3 : w.heap.size ≤ m2) (q4 : Kept (fun k => s.own k = (e.gi, 4)) w w1) :
    ∃ t own', Rep Z n hd (w1.setCell ⟨e.b, 0, none⟩ (.slice A2 (e.items.length + 1) c2)) (s.setE (e.push A2 c2 ⟨t, A1, c1, bs⟩) own') lk ∧ (∀ k, k < w.heap.size → own' k = s.own k) ∧ Kept (fun k => s.own k = (e.gi, 4) ∨ k = e.b) w (w1.setCell ⟨e.b, 0, none⟩ (.slice A2 (e.items.length + 1) c2)) := by
  obtain ⟨t, ht⟩ := fresh_t e.items
  have hE := R.ents e he
  have k2 := kept_set w1 ⟨e.b, 0, none⟩ (.slice A2 (e.items.length + 1) c2)
  have hk : Kept (fun k => s.own k = (e.gi, 4) ∨ k = e.b) w (w1.setCell ⟨e.b, 0, none⟩ (.slice A2 (e.items.length + 1) c2)) := (q4.mono fun _ _ q => .inl q).trans (k2.mono fun _ _ q => .inr q)
  have hbk : Blk w1 e.b 75 e.cells := hE.blk.keep q4 fun q => by rw [hE.ob] at q; exact snd_ne q (by decide)
  have hsz : (w1.setCell ⟨e.b, 0, none⟩ (.slice A2 (e.items.length + 1) c2)).heap.size = w1.heap.size := by simp
  generalize hw2 : w1.setCell ⟨e.b, 0, none⟩ (.slice A2 (e.items.length + 1) c2) = w2 at *
  let own' : Nat → Nat × Nat := fun k => if k < w.heap.size then s.own k else if k < w2.heap.size then (if k < m2 then (e.gi, 5 + t) else (e.gi, 4)) else (0, 0)
  have ho : ∀ k, k < w.heap.size → own' k = s.own k := fun k hk => by simp only [own']; rw [if_pos hk]
  have hb : e.b < w.heap.size := hE.blk.lt
  have hne : ∀ k t, s.own k = (e.gi, t) → t ≠ 4 → t ≠ 1 → ¬ (s.own k = (e.gi, 4) ∨ k = e.b) := fun k t ho h4 h1 q => by
    rcases q with q | q
    · rw [ho] at q; exact snd_ne q h4
    · rw [q, hE.ob] at ho; exact snd_ne ho (Ne.symm h1)
  refine ⟨t, own', R.turnE he rfl hk (fun k _ hf => ?_) ho (fun k hk4 => ?_) ⟨?_, ?_, fun i hi => ?_, ?_, hE.wk.keep hk (hne _ _ hE.ow (by decide) (by decide)), hE.dn.keep hk (hne _ _ hE.od (by decide) (by decide)), ?_, ?_, ?_, hE.pos⟩ (fun k hk0 => ?_), ho, hk⟩
  · rcases hf with hf | hf
    · rw [hf]
    · rw [hf, hE.ob]
  · by_cases hlt : k < w.heap.size
    · rw [ho k hlt] at hk4; exact R.vis k hk4
    · exact ⟨hok.fresh (by omega), fun q => by have := hok.chanlt q; omega⟩
  · have := hbk.set_ 0 (.slice A2 (e.items.length + 1) c2)
    rw [hw2] at this
    show Blk w2 e.b _ #[.slice A2 (e.items ++ [(⟨t, A1, c1, bs⟩ : It)]).length c2, .chan (some e.wk), .chan (some e.dn)]
    rw [List.length_append]
    simpa [Ent.cells] using this
  · show SegV w2 _ _ 1 A2 (e.items ++ [(⟨t, A1, c1, bs⟩ : It)]).length c2 ((e.items ++ [(⟨t, A1, c1, bs⟩ : It)]).map It.val)
    rw [List.length_append, List.map_append]
    refine (q2.keep k2 fun k h1 h2 h3 => ?_).mono fun k h1 h2 => ?_
    · rw [h3] at h2
      rcases h2 with ⟨h2, _⟩ | h2
      · rw [hE.ob] at h2; exact snd_ne h2 (by decide)
      · have : e.b < m2 := by omega
        simp at h2; omega
    · rcases h2 with ⟨h2, h3⟩ | h2
      · rw [ho k h3]; exact h2
      · simp only [own']
        rw [if_neg (by omega), if_pos h1, if_neg (by omega)]
        rfl
  · rcases List.mem_append.1 hi with hi | hi
    · refine ((hE.its i hi).mono (G := fun k => s.own k = (e.gi, 5 + i.t) ∧ k < w.heap.size) fun k h1 h2 => ⟨h2, h1⟩).keep hk (fun k _ h2 h3 => hne k _ h2.1 (by omega) (by omega) h3) |>.mono fun k _ h2 => ?_
      rw [ho k h2.2]; exact h2.1
    · simp only [List.mem_cons, List.not_mem_nil, or_false] at hi
      subst hi
      refine (q1.keep k2 fun k _ h2 h3 => ?_).mono fun k h1 h2 => ?_
      · rw [h3] at h2; simp at h2; omega
      · simp only [own']
        rw [if_neg (by omega), if_pos h1, if_pos h2.2]
        rfl
  · show ((e.items ++ [(⟨t, A1, c1, bs⟩ : It)]).map (·.t)).Nodup
    rw [List.map_append, List.nodup_append]
    refine ⟨hE.tks, by simp, fun a ha b hb => ?_⟩
    simp at hb
    subst hb
    obtain ⟨i, hi, rfl⟩ := List.mem_map.1 ha
    exact ht i hi
  · exact (ho _ hE.blk.lt).trans hE.ob
  · exact (ho _ hE.wk.lt).trans hE.ow
  · exact (ho _ hE.dn.lt).trans hE.od
  · simp only [own']
    rw [if_neg (by have := hk.size; omega), if_neg (by omega)]
set_option maxRecDepth 50000 in
set_option maxHeartbeats 8000000 in
theorem post_tail {id : Int} {IA : Option Addr} {ic : Nat} {bs : List UInt8} {GF : Nat → Prop} {v3 v4 v5 v6 v8 v9 v10 v11 v12 v13 v14 v15 v16 v17 v18 v19 v20 v21 v22 v23 v24 v25 v26 v27 v28 v29 v30 v31 v32 v33 v34 v35 v36 v37 v38 v39 v40 v41 v42 v43 v44 v45 v46 v47 v48 v49 v50 v51 v52 v53 v54 v55 v56 v57 v58 v59 v60 : Value} (R : Rep Z n hd w s 1) (he : e ∈ s.ents) (hb : RB w GF IA bs) (hG : ∀ k, k < w.heap.size → GF k → ¬ Z.Hd k) (hbl : bs.length ≤ 140737488355328)
    (H0 : 64 ≤ e.items.length → ∀ w', Rep Z n hd w' s 0 → Kept (· = s.S) w w' → Run Try.prog Post Z n h 0 (G (c.finish (.bool false)) cs) w')
    (H1 : e.items.length < 64 → ∀ w' t A1 c1 A2 c2 own', Rep Z n hd w' (s.setE (e.push A2 c2 ⟨t, A1, c1, bs⟩) own') 0 → (∀ k, k < w.heap.size → own' k = s.own k) → Kept (fun k => s.own k ≠ (0, 0)) w w' → Run Try.prog Post Z n h 0 (G (c.finish (.bool true)) cs) w') :
    Run Try.prog Post Z n h 0 (G ((base 13).at ⟨#[.pointer (some ⟨s.S, 0, none⟩), .int .i64 id, .slice IA bs.length ic, v3, v4, v5, v6, .pointer (some ⟨e.b, 0, none⟩), v8, v9, v10, v11, v12, v13, v14, v15, v16, v17, v18, v19, v20, v21, v22, v23, v24, v25, v26, v27, v28, v29, v30, v31, v32, v33, v34, v35, v36, v37, v38, v39, v40, v41, v42, v43, v44, v45, v46, v47, v48, v49, v50, v51, v52, v53, v54, v55, v56, v57, v58, v59, v60], [dcall 25 #[.pointer (some ⟨s.S, 1, none⟩)]]⟩ [.code pTail]) (c :: cs)) w := by
  refine Run.okG fun hok => ?_
  have hE := R.ents e he
  unfold pTail
  simp only [Try.f13, Option.getD_some]
  repeat (first | refine Run.auto rfl ?_ | ((first | (apply Run.lq rfl rfl rfl rfl; (focus (intro w K hK; go_simp; exact hK))) | (refine Run.ln rfl rfl rfl rfl rfl (by kernel_rfl) ?_) | (refine Run.not rfl rfl ?_)); try simp only [Act.put, Act.eval, nrmL, Nat.reduceAdd]) | (refine Run.rg ?_; simp only [nrmL, rngL, Nat.reduceAdd]) | refine Run.cT rfl ?_ | refine Run.cF rfl ?_ | refine Run.rt ?_ | refine Run.nd ?_)
  refine Run.ld (a := ⟨e.b, 0, none⟩) (v := .slice e.A e.items.length e.c) rfl rfl (by decide) (R.cellE he 0) (R.nshE he 0) (fun w₁ hld => ⟨by go_simp, by simp [go_sem, hld]⟩) ?_
  try simp only [Act.put, Act.eval, nrmL, Nat.reduceAdd]
  repeat (first | refine Run.auto rfl ?_ | ((first | (apply Run.lq rfl rfl rfl rfl; (focus (intro w K hK; go_simp; exact hK))) | (refine Run.ln rfl rfl rfl rfl rfl (by kernel_rfl) ?_) | (refine Run.not rfl rfl ?_)); try simp only [Act.put, Act.eval, nrmL, Nat.reduceAdd]) | (refine Run.rg ?_; simp only [nrmL, rngL, Nat.reduceAdd]) | refine Run.cT rfl ?_ | refine Run.cF rfl ?_ | refine Run.rt ?_ | refine Run.nd ?_)
  have hend : ∀ (w1 : World) (a : Act) (k : List Item) (v : Bool) (s1 : Sy), Rep Z n hd w1 s1 1 → s1.S = s.S → a.defers = [dcall 25 #[.pointer (some ⟨s.S, 1, none⟩)]] → a.tmps.getD 6 undef = .bool v → (∀ w', Rep Z n hd w' s1 0 → Kept (· = s.S) w1 w' → Run Try.prog Post Z n h 0 (G (c.finish (.bool v)) cs) w') →
      Run Try.prog Post Z n h 0 (G { (base 13).at a k with mode := .returning } (c :: cs)) w1 := by
    intro w1 a k v s1 R1 hS hda h6 H
    refine Run.okG fun hok1 => ?_
    refine Run.undefer hda Try.func25 (by kernel_rfl) rfl ?_
    rw [← hS]
    refine unlock_runD (a := ⟨s1.S, 1, none⟩) (R1.cell 1) (R1.sys.frozen 1) (R1.npl 1 (by decide)) (R1.nsh 1 (.inr (by decide))) (R1.nC hok1) rfl ?_
    obtain ⟨R2, k2⟩ := R1.lkTo 0
    refine Run.leave1 rfl rfl Try.func13 (by rfl) ?_
    have := H _ R2 (by rw [← hS]; exact k2)
    rw [← h6] at this
    exact this
  by_cases hl : e.items.length < 64
  · have h1 : decide ((64 : Int) ≤ (e.items.length : Int)) = false := by simp; omega
    simp only [ge_iff_le, h1]
    repeat (first | refine Run.auto rfl ?_ | ((first | (apply Run.lq rfl rfl rfl rfl; (focus (intro w K hK; go_simp; exact hK))) | (refine Run.ln rfl rfl rfl rfl rfl (by kernel_rfl) ?_) | (refine Run.not rfl rfl ?_)); try simp only [Act.put, Act.eval, nrmL, Nat.reduceAdd]) | (refine Run.rg ?_; simp only [nrmL, rngL, Nat.reduceAdd]) | refine Run.cT rfl ?_ | refine Run.cF rfl ?_ | refine Run.rt ?_ | refine Run.nd ?_)
    refine post_draw (id := id) (GF := GF) R he hl hb hG hbl fun a w1 A1 c1 A2 c2 m2 hda hsz q1 q2 q3 q4 => ?_
    obtain ⟨t, own', R2, ho2, k2⟩ := R.push hok he q1 q2 q3 q4
    generalize w1.setCell ⟨e.b, 0, none⟩ (.slice A2 (e.items.length + 1) c2) = w2 at R2 k2
    repeat (first | refine Run.auto rfl ?_ | ((first | (apply Run.lq rfl rfl rfl rfl; (focus (intro w K hK; go_simp; exact hK))) | (refine Run.ln rfl rfl rfl rfl rfl (by kernel_rfl) ?_) | (refine Run.not rfl rfl ?_)); try simp only [Act.put, Act.eval, nrmL, Nat.reduceAdd]) | (refine Run.rg ?_; simp only [nrmL, rngL, Nat.reduceAdd]) | refine Run.cT rfl ?_ | refine Run.cF rfl ?_ | refine Run.rt ?_ | refine Run.nd ?_)
    refine hend w2 _ _ true _ R2 rfl ?_ ?_ fun w' R3 k3 => ?_
    · simp [Act.put, hda]
    · simp [Act.put, Array.getD_eq_getD_getElem?, Act.eval, hsz]
    · refine H1 hl w' t A1 c1 A2 c2 own' R3 ho2 ((k2.mono fun k _ hk q => ?_).trans (k3.mono fun k _ hk q => ?_))
      · rcases hk with hk | rfl
        · rw [hk] at q; exact snd_ne q (by decide)
        · rw [hE.ob] at q; exact snd_ne q (by decide)
      · rw [hk, R.oS] at q; exact snd_ne q (by decide)
  · have h1 : decide ((64 : Int) ≤ (e.items.length : Int)) = true := by simp; omega
    simp only [ge_iff_le, h1]
    repeat (first | refine Run.auto rfl ?_ | ((first | (apply Run.lq rfl rfl rfl rfl; (focus (intro w K hK; go_simp; exact hK))) | (refine Run.ln rfl rfl rfl rfl rfl (by kernel_rfl) ?_) | (refine Run.not rfl rfl ?_)); try simp only [Act.put, Act.eval, nrmL, Nat.reduceAdd]) | (refine Run.rg ?_; simp only [nrmL, rngL, Nat.reduceAdd]) | refine Run.cT rfl ?_ | refine Run.cF rfl ?_ | refine Run.rt ?_ | refine Run.nd ?_)
    exact hend w _ _ false s R rfl rfl rfl (H0 (by omega))
end
end Go.Proofs.Ytfpkachoneaaeaa
