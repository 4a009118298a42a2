/-
  frame.Split.
-/
import Derived.Test.YtkkfifocilnbkaaChunk
import Derived.Test.YtkkfifocilnbkaaSeg
namespace Go.Proofs.Ytkkfifocilnbkaa
open Go.RowKit Go.Shelf

attribute [local go_sem] Oper.semAt_some

theorem Own.calm {w w' : World} {e : TypeId} {size n : Nat} {F : Nat → Prop} {v : Value} {xs : List Value} {row : Option Nat} (h : Own w e size F v n xs) (hg : w.grownBy w' row)
    (hr : ∀ r, row = some r → ∃ o : Obj, w.heap[r]? = some o ∧ o.isCells = false) : Own w' e size F v n xs := by
  refine ⟨h.1.kept hg ?_, h.2⟩
  rcases h.1.2 with ⟨rfl, _⟩ | ⟨g, cap, cur, rfl, _, hgb, _⟩
  · exact .inl rfl
  · refine .inr fun e' => ?_
    obtain ⟨o, ho, hc⟩ := hr g (by simpa [Value.ownBlock] using e'.symm)
    rw [hgb] at ho; cases ho; cases hc

theorem ceil_lt (n sz k : Nat) (h : 1 ≤ sz) : k < (n + sz - 1) / sz ↔ k * sz < n := by
  have h1 : k + 1 ≤ (n + sz - 1) / sz ↔ (k + 1) * sz ≤ n + sz - 1 := Nat.le_div_iff_mul_le (by omega)
  rw [Nat.succ_mul] at h1
  constructor
  · intro h2; have := h1.1 h2; omega
  · intro h2; exact h1.2 (by omega)

set_option maxHeartbeats 1000000 in
theorem chunkFn (A : Option Addr) (len cap : Nat) (sz : Int) (hsz : 1 ≤ sz) (w : World) :
    Calls Try.prog 41 #[.slice A len cap, .int .i64 sz] w fun e w' => e = .returned (.func (.func 45) #[] #[.pointer (some ⟨w.heap.size, 0, none⟩), .pointer (some ⟨w.heap.size + 1, 0, none⟩)]) ∧ w' = (w.alloc (.cells #[.slice A len cap] 23)).alloc (.cells #[.int .i64 sz] 3) := by
  have hd : ¬ (sz < 1) := by omega
  go_enter Try.func41, Try.ntmps41
  go_wp2
  go_ret
  exact ⟨rfl, rfl⟩

/-- A frame's cells. -/
def fcells (ch : Int) (q : Value) : List Value := [.int .i64 3, .int .i64 ch, q]
def Pays (w : World) (F : Nat → Prop) (qs : List Value) (ps : List (List UInt8)) : Prop := qs.length = ps.length ∧ ∀ (i : Nat) (q : Value) (p : List UInt8), qs[i]? = some q → ps[i]? = some p → OB w F q p
def pieceOf (bs : List UInt8) (sz k : Nat) : List UInt8 := (bs.drop (k * sz)).take sz

theorem Pays.nil (w : World) (F : Nat → Prop) : Pays w F [] [] := ⟨rfl, fun i q p h => by simp at h⟩
theorem Pays.snoc {w : World} {F : Nat → Prop} {qs : List Value} {ps : List (List UInt8)} (h : Pays w F qs ps) {q : Value} {p : List UInt8} (hq : OB w F q p) : Pays w F (qs ++ [q]) (ps ++ [p]) := by
  refine ⟨by simp [h.1], fun i q' p' h1 h2 => ?_⟩
  rw [List.getElem?_append] at h1 h2
  rw [h.1] at h1
  by_cases hi : i < ps.length
  · rw [if_pos hi] at h1
    rw [if_pos hi] at h2
    exact h.2 i q' p' h1 h2
  · rw [if_neg hi] at h1 h2
    rcases hj : i - ps.length with _ | j
    · rw [hj] at h1 h2
      simp at h1 h2
      subst h1 h2
      exact hq
    · rw [hj] at h1
      simp at h1
theorem Pays.keep {w w' : World} {S F : Nat → Prop} {qs : List Value} {ps : List (List UInt8)} (h : Pays w F qs ps) (hk : Kept S w w') (hd : ∀ k q p, k < w.heap.size → OB w F q p → ownS q k → S k → False) : Pays w' F qs ps :=
  ⟨h.1, fun i q p h1 h2 => Own.keep0 (h.2 i q p h1 h2) hk (fun k hk' ho hs => hd k q p hk' (h.2 i q p h1 h2) ho hs)⟩
theorem Pays.calm {w w' : World} {F : Nat → Prop} {qs : List Value} {ps : List (List UInt8)} {row : Option Nat} (h : Pays w F qs ps) (hg : w.grownBy w' row)
    (hr : ∀ r, row = some r → ∃ o : Obj, w.heap[r]? = some o ∧ o.isCells = false) : Pays w' F qs ps := ⟨h.1, fun i q p h1 h2 => Own.calm (h.2 i q p h1 h2) hg hr⟩
theorem Pays.mono {w : World} {F G : Nat → Prop} {qs : List Value} {ps : List (List UInt8)} (h : Pays w F qs ps) (hF : ∀ k, k < w.heap.size → F k → G k) : Pays w G qs ps := ⟨h.1, fun i q p h1 h2 => Own.mono (h.2 i q p h1 h2) hF⟩

/-- The frames so far. -/
def SplitInv (w0 : World) (ch : Int) (bs : List UInt8) (sz ob N0 N : Nat) (pre : List (Below? N)) (W : World) : Prop :=
  ∃ (A : Option Addr) (c : Nat) (qs : List Value), Blk W ob 35 #[.slice A pre.length c] ∧ Own W 25 3 (N0 ≤ ·) (.slice A pre.length c) pre.length (qs.flatMap (fcells ch)) ∧
    Pays W (N0 ≤ ·) qs (pre.map fun k => pieceOf bs sz k.1) ∧ Kept (· = ob) w0 W

theorem SplitInv.own {w0 : World} {ch : Int} {bs : List UInt8} {sz ob N0 N : Nat} (hob : ob < w0.heap.size) : OwnFrom w0.heap.size (SplitInv w0 ch bs sz ob N0 N) := by
  rintro pre W W' row ⟨A, c, qs, hb, ho, hp, hk⟩ hg hr
  have hr' : ∀ r, row = some r → ∃ o : Obj, W.heap[r]? = some o ∧ o.isCells = false := fun r h => (hr r h).2
  refine ⟨A, c, qs, hb.grown hg (fun e => ?_), ho.calm hg hr', hp.calm hg hr', hk.grown hg (fun k h1 h2 => ?_)⟩
  · have := (hr ob e.symm).1
    omega
  · have := (hr k h1).1
    omega

theorem infoFrame : (Try.prog.info? 25).map (fun i => (i.zero.map (·.cells.size), i.size, i.bytes)) = some (some 3, 3, 40) := by kernel_rfl

theorem fcells_snoc (ch : Int) (qs : List Value) (q : Value) : (qs ++ [q]).flatMap (fcells ch) = qs.flatMap (fcells ch) ++ [.int .i64 3, .int .i64 ch, q] := by simp [fcells]
theorem KpBut.of_kept {n₀ ob : Nat} {S : Nat → Prop} {A B : World} (h : Kept S A B) (hn : n₀ ≤ A.heap.size) (hS : ∀ k, k < n₀ → S k → k = ob) : KpBut n₀ ob A B := fun k h1 h2 => h.block k (by omega) (fun hs => h2 (hS k h1 hs))

theorem keepsFrom_of {B : Nat} {S : Nat → Prop} {W W' : World} (h : Kept S W W') (hS : ∀ k o, S k → W.heap[k]? = some o → o.isCells = true) : KeepsFrom B W W' :=
  ⟨h.size, fun k o _ hk ho => by
    have hlt : k < W.heap.size := (Array.getElem?_eq_some_iff.1 hk).1
    rw [h.block k hlt (fun hs => by rw [hS k o hs hk] at ho; cases ho)]
    exact hk⟩

theorem infoF : ∃ i0 z, Try.prog.info? 25 = some i0 ∧ i0.zero = some z ∧ z.cells.size = 3 ∧ i0.size = 3 ∧ i0.bytes = 40 := by
  have h := infoFrame
  rcases hq : Try.prog.info? 25 with _ | i0
  · rw [hq] at h; simp at h
  · rw [hq] at h
    simp at h
    obtain ⟨⟨z, h1, h2⟩, h3, h4⟩ := h
    exact ⟨i0, z, rfl, h1, h2, h3, h4⟩

theorem splitStep (W4 W w1 : World) (ch : Int) (bs : List UInt8) (sz p0 N : Nat) (hN2 : N * 40 ≤ 140737488355328) (h4 : W4.heap.size = p0 + 4) (pre : List (Below? N)) (x : Below? N) (hpre : pre.length < N)
    (A : Option Addr) (c : Nat) (qs : List Value) (hb : Blk W (p0 + 1) 35 #[.slice A pre.length c]) (ho : Own W 25 3 (p0 + 4 ≤ ·) (.slice A pre.length c) pre.length (qs.flatMap (fcells ch)))
    (hp : Pays W (p0 + 4 ≤ ·) qs (pre.map fun k => pieceOf bs sz k.1)) (hk : Kept (· = p0 + 1) W4 W) (k1 : Kept noneS W w1) (A1 : Option Addr) (m c1 : Nat) (o1 : OB w1 (W.heap.size ≤ ·) (.slice A1 m c1) (pieceOf bs sz x.1)) :
    ∃ A2 c2 w2, (appSem #[35, 35] 35 #[.slice A pre.length c, .slice (some ⟨w1.heap.size, 0, none⟩) 1 1]).run Try.prog (w1.alloc (.cells #[.int .i64 3, .int .i64 ch, .slice A1 m c1] 25)) = .ok (.slice A2 (pre.length + 1) c2) w2 ∧
      w2.cell? ⟨p0 + 1, 0, none⟩ = some (.slice A pre.length c) ∧ w2.frozen? ⟨p0 + 1, 0, none⟩ = false ∧
      KeepsFrom W4.heap.size W (w2.setCell ⟨p0 + 1, 0, none⟩ (.slice A2 (pre.length + 1) c2)) ∧ KpBut (p0 + 4) (p0 + 1) W (w2.setCell ⟨p0 + 1, 0, none⟩ (.slice A2 (pre.length + 1) c2)) ∧
      SplitInv W4 ch bs sz (p0 + 1) (p0 + 4) N (pre ++ [x]) (w2.setCell ⟨p0 + 1, 0, none⟩ (.slice A2 (pre.length + 1) c2)) := by
  obtain ⟨i0, z, hi, hz, hz1, hz2, hz3⟩ := infoF
  have hW : p0 + 4 ≤ W.heap.size := by have := hk.size; omega
  have hW1 : W.heap.size ≤ w1.heap.size := k1.size
  have ka : Kept noneS W (w1.alloc (.cells #[.int .i64 3, .int .i64 ch, .slice A1 m c1] 25)) := k1.alloc _
  have hown1 := ho.keep ka (fun _ _ _ q => q.elim)
  have rd : Rd (w1.alloc (.cells #[.int .i64 3, .int .i64 ch, .slice A1 m c1] 25)) (fun _ => True) (some ⟨w1.heap.size, 0, none⟩) [.int .i64 3, .int .i64 ch, .slice A1 m c1] := by
    refine .inr ⟨_, _, rfl, trivial, fun j u hu => ?_⟩
    rw [Nat.zero_add, (Blk.new w1 25 #[.int .i64 3, .int .i64 ch, .slice A1 m c1]).cell j]
    simpa using hu
  obtain ⟨v', w2, hrun, o2, k2⟩ := run_append_Own (P := Try.prog) (w1.alloc (.cells #[.int .i64 3, .int .i64 ch, .slice A1 m c1] 25)) 35 35 25 i0 z 3 40 Try.underlying35 hi hz hz2 hz3 hz1 (by decide) _ _ _ pre.length _ hown1 _ 1 1 [.int .i64 3, .int .i64 ch, .slice A1 m c1] rfl rd (by simp [Value.oneCell']) (by simp [maxLen]; omega) (by omega)
  obtain ⟨A2, c2, rfl, _⟩ := Own.form o2
  have hrow : ∀ k, ownS (.slice A pre.length c) k → p0 + 4 ≤ k ∧ k < W.heap.size ∧ ∃ cur, Blk W k 25 cur := by
    intro k hk'
    refine ⟨ho.2 k hk', ho.lt k hk', ?_⟩
    rcases ho.1.2 with ⟨e, _⟩ | ⟨g, cap, cur, e, _, hgb, _⟩
    · rw [e] at hk'; simp [ownS, Value.ownBlock] at hk'
    · rw [e] at hk'
      simp [ownS, Value.ownBlock] at hk'
      subst hk'
      exact ⟨cur, hgb⟩
  have kk : Kept (ownS (.slice A pre.length c)) W w2 := ka.mono (fun _ _ q => q.elim) |>.trans k2
  have b2 : Blk w2 (p0 + 1) 35 #[.slice A pre.length c] := hb.keep kk (fun q => by have := (hrow _ q).1; omega)
  have kf : Kept (fun k => k = p0 + 1 ∨ ownS (.slice A pre.length c) k) W (w2.setCell ⟨p0 + 1, 0, none⟩ (.slice A2 (pre.length + 1) c2)) := (kk.mono (fun _ _ q => .inr q)).setCell (fun _ => .inl rfl) _
  refine ⟨A2, c2, w2, hrun, b2.cell 0, b2.frozen 0, keepsFrom_of kf ?_, KpBut.of_kept kf (by omega) ?_, A2, c2, qs ++ [.slice A1 m c1], ?_, ?_, ?_, ?_⟩
  · rintro k ob (rfl | q) hkk
    · rw [show W.heap[p0 + 1]? = _ from hb] at hkk; cases hkk; rfl
    · obtain ⟨_, _, cur, hc⟩ := hrow k q
      rw [show W.heap[k]? = _ from hc] at hkk; cases hkk; rfl
  · rintro k hk0 (q | q)
    · exact q
    · have := (hrow k q).1; omega
  · rw [List.length_append]
    exact b2.set_ 0 _
  · rw [List.length_append, fcells_snoc]
    have h3 := Own.far o2 (p := ⟨p0 + 1, 0, none⟩) (o2.ne_blk b2 (by decide)) (.slice A2 (pre.length + 1) c2)
    refine h3.mono (fun k _ q => ?_)
    rcases q with q | q
    · exact q
    · rw [World.size_alloc] at q
      show p0 + 4 ≤ k
      omega
  · rw [List.map_append]
    refine Pays.snoc (hp.keep kf ?_) ?_
    · rintro k q pp hk0 hq hok (rfl | hs)
      · have := hq.2 _ hok; omega
      · obtain ⟨_, _, cur, hc⟩ := hrow k hs
        exact Own.ne_blk hq hc (by decide) hok
    · have k3 : Kept (fun k => k = p0 + 1 ∨ ownS (.slice A pre.length c) k) w1 (w2.setCell ⟨p0 + 1, 0, none⟩ (.slice A2 (pre.length + 1) c2)) := ((((Kept.refl noneS w1).alloc _).mono (fun _ _ q => q.elim)).trans2 k2 (fun _ _ q => .inr q)).setCell (fun _ => .inl rfl) _
      refine Own.mono (Own.keep o1 k3 ?_) (fun k _ q => by omega)
      rintro k _ hF (rfl | hs)
      · omega
      · have := (hrow k hs).2.1; omega
  · exact (hk.trans2 kf (fun k hk0 q => by
      rcases q with q | q
      · exact q
      · have := (hrow k q).1; omega))

theorem results_cell1 {P : Program} {fn : Func} {p : Tmp} {ty e : TypeId} (h : fn.results = #[.cell p ty]) (tmps : Array Value) (w : World) (ad : Addr) (v : Value)
    (hp : tmps.getD p undef = .pointer (some ad)) (hu : P.underlying ty = some (.slice e)) (hc : w.cell? ad = some v) : (results fn tmps).run P w = .ok v w := by
  have hp' : tmps[p]?.getD undef = .pointer (some ad) := by simpa using hp
  have hag : (isAgg ty).run P w = .ok false w := by simp [isAgg, run_underlying hu]
  simp [results, h, hp', asAddr, go_sem, hag, hc]

attribute [local go_sem ↓] append_as

set_option maxRecDepth 100000 in
set_option maxHeartbeats 2000000 in
theorem splitFn (ch most : Int) (g o cap n sz N : Nat) (bs : List UInt8) (hl : bs.length = n) (hcap : n ≤ cap) (w : World) (hb : RB w (· < w.heap.size) (some ⟨g, o, none⟩) bs) (hn : n ≤ 140737488355328)
    (hN : ∀ k, k < N ↔ k * sz < n) (hN2 : N * 40 ≤ 140737488355328) (hm1 : -9223372036854775808 ≤ most) (hm2 : most ≤ 4611686018427387904) (hsz : (most < 9 ∧ sz = n + 1) ∨ (9 ≤ most ∧ (sz : Int) = most - 8)) :
    Calls Try.prog 23 #[.int .i64 ch, .slice (some ⟨g, o, none⟩) n cap, .int .i64 most] w fun e w' => ∃ (A : Option Addr) (c : Nat) (qs : List Value),
      e = .returned (.slice A N c) ∧ Own w' 25 3 (w.heap.size ≤ ·) (.slice A N c) N (qs.flatMap (fcells ch)) ∧ Pays w' (w.heap.size ≤ ·) qs ((List.range N).map (pieceOf bs sz)) ∧ Kept noneS w w' := by
  have hs1 : 1 ≤ sz := by omega
  have hs2 : sz ≤ 4611686018427387904 := by omega
  have hd0 : ¬ ((sz : Int) < 1) := by omega
  refine (callsIn_wide (n := 3)).1 ?_
  refine callsIn_of_wp_marks Try.func23 rfl trivial ?_ rfl
  simp only [Try.ntmps23, List.size_toArray, List.length_cons, List.length_nil, Nat.reduceAdd, Nat.reduceSub, Array.replicate_succ, Array.replicate_zero, List.push_toArray, List.append_toArray, List.nil_append, List.cons_append]
  have hmx : Try.prog.follows .mixedOrders = true := by kernel_rfl
  have fin : ∀ (k : Nat) (X : World), k < N → Kept (· = w.heap.size + 1) ((((w.alloc (.cells #[.int .i64 ch] 3)).alloc (.cells #[.slice none 0 0] 35)).alloc (.cells #[.slice (some ⟨g, o, none⟩) n cap] 23)).alloc (.cells #[.int .i64 sz] 3)) X → RB X (· < w.heap.size) (some ⟨g, o + k * sz, none⟩) (pieceOf bs sz k) := by
    intro k X hk hX
    have h1 : RB X (· < w.heap.size) (some ⟨g, o, none⟩) bs := ((((hb.alloc _).alloc _).alloc _).alloc _).keep hX (fun j _ h1 h2 => by omega)
    have h2 := RB.take (RB.cut h1 (k := k * sz) (cap := cap) (by omega)) sz
    have h3 := (hN k).1 hk
    rw [if_neg (by omega)] at h2
    have e : (some (⟨g, o, none⟩ : Addr)).map (·.add (k * sz)) = some ⟨g, o + k * sz, none⟩ := by
      unfold Addr.add
      by_cases h0 : k * sz = 0
      · simp [h0]
      · simp [h0]
    rw [e] at h2
    exact h2
  have FIN := Lib.hid fin
  have HN := Lib.hid hN
  have HB := Lib.hid hb
  have HL := Lib.hid hl
  clear fin hN hb hl
  rcases hsz with ⟨hm, hsz⟩ | ⟨hm, hsz⟩
  · have EZ := Lib.hid (show ((n : Int) + 1) = (sz : Int) by omega)
    clear hsz
    gi_wp2_with (refine ⟨trivial, ?_⟩; gi_at_call 41; rw [EZ.out]; refine (callsIn_wide.2 (chunkFn _ _ _ _ (by omega) _)).mono ?_; rintro e w' ⟨rfl, rfl⟩)
    generalize hW4 : ((((w.alloc (.cells #[.int .i64 ch] 3)).alloc (.cells #[.slice none 0 0] 35)).alloc (.cells #[.slice (some ⟨g, o, none⟩) n cap] 23)).alloc (.cells #[.int .i64 sz] 3)) = W4 at FIN
    have bC : Blk W4 w.heap.size 3 #[.int .i64 ch] := by rw [← hW4]; exact (((Blk.new w _ _).alloc _).alloc _).alloc _
    have bO : Blk W4 (w.heap.size + 1) 35 #[.slice none 0 0] := by rw [← hW4]; have h := Blk.new (w.alloc (.cells #[.int .i64 ch] 3)) 35 #[.slice none 0 0]; rw [World.size_alloc] at h; exact (h.alloc _).alloc _
    have bS : Blk W4 (w.heap.size + 1 + 1) 23 #[.slice (some ⟨g, o, none⟩) n cap] := by rw [← hW4]; have h := Blk.new ((w.alloc (.cells #[.int .i64 ch] 3)).alloc (.cells #[.slice none 0 0] 35)) 23 #[.slice (some ⟨g, o, none⟩) n cap]; rw [World.size_alloc, World.size_alloc] at h; exact h.alloc _
    have bN : Blk W4 (w.heap.size + 1 + 1 + 1) 3 #[.int .i64 sz] := by rw [← hW4]; have h := Blk.new (((w.alloc (.cells #[.int .i64 ch] 3)).alloc (.cells #[.slice none 0 0] 35)).alloc (.cells #[.slice (some ⟨g, o, none⟩) n cap] 23)) 3 #[.int .i64 sz]; rw [World.size_alloc, World.size_alloc, World.size_alloc] at h; exact h
    have K4 : Kept noneS w W4 := by rw [← hW4]; exact ((((Kept.refl _ _).alloc _).alloc _).alloc _).alloc _
    have s4 : W4.heap.size = w.heap.size + 4 := by rw [← hW4]; simp
    have HBC := Lib.hid bC
    have HBO := Lib.hid bO
    have HK4 := Lib.hid K4
    clear hW4 bC bO K4
    obtain ⟨p0, hp0⟩ : ∃ p0, w.heap.size = p0 := ⟨_, rfl⟩
    have HP0 := Lib.hid hp0
    rw [hp0] at HBC HBO bS bN s4 FIN ⊢
    have hs : SeqStopsK Fence.wide 2 Try.prog 45 #[.pointer (some ⟨p0 + 1 + 1, 0, none⟩), .pointer (some ⟨p0 + 1 + 1 + 1, 0, none⟩)] (fun x : Below? N => #[piece g o n sz x.1]) (KpBut (p0 + 4) (p0 + 1)) (fun ys => ys.map (·.1) = List.range N) (fun _ => True) N W4 := by
      intro l J Jx W hW hJ _ hY h0
      exact chunk1 2 (by omega) l (p0 + 1 + 1) (p0 + 1 + 1 + 1) (p0 + 4) (p0 + 1) g o n cap sz N hcap hn hs1 hs2 HN.out (by omega) (by omega) (by omega) (by omega) J Jx (fun pre W' h => hJ pre W' W'.drew none h ⟨rfl, rfl, rfl, Nat.le_refl _, fun _ _ _ => rfl⟩ (fun r e => by cases e)) hY W
        ((hW.cell (p := ⟨p0 + 1 + 1, 0, none⟩) (by show p0 + 1 + 1 < _; omega)).trans (bS.cell 0)) ((hW.cell (p := ⟨p0 + 1 + 1 + 1, 0, none⟩) (by show p0 + 1 + 1 + 1 < _; omega)).trans (bN.cell 0)) h0
    refine wpIn_rangeFunc_ownG rfl (by omega) (gf := 45) (lb := #[.pointer (some ⟨p0 + 1 + 1, 0, none⟩), .pointer (some ⟨p0 + 1 + 1 + 1, 0, none⟩)]) rfl trivial (enters_of Try.func45 (by kernel_rfl) rfl)
      hs (fun h k => KpBut.trans h k) ?kb (Below.refl _ _) (fun _ => rfl) (SplitInv W4 ch bs sz (p0 + 1) (p0 + 4) N) (fun _ _ _ => False) (SplitInv.own (by omega)) (fun _ _ _ _ _ hs _ _ => hs)
      ⟨none, 0, [], HBO.out, Own.nil _ _ _ _, Pays.nil _ _, Kept.refl _ _⟩ ?a1 ?assign ?body ?done ?stop
    case kb =>
      intro W l ob o' hl hob _ _ k hk hk2
      have hlt : l < W.heap.size := (Array.getElem?_eq_some_iff.1 hob).1
      exact (grownBy_putObj' W l o').block k (by omega) (fun e => by injection e with e; omega)
    case assign =>
      intro l x W K hK
      gi_wp2
      exact hK
    case body =>
      rintro l pre x W ⟨A, c, qs, hbo, ho, hp, hk⟩ hlt
      have hl2 : 2 ≤ 3 := by omega
      have RBp := Lib.hid (FIN.out x.1 W x.2 hk)
      have hpl : (pieceOf bs sz x.1).length = min sz (n - x.1 * sz) := by unfold pieceOf; rw [List.length_take, List.length_drop, HL.out]
      have epc : piece g o n sz x.1 = .slice (some ⟨g, o + x.1 * sz, none⟩) (pieceOf bs sz x.1).length (pieceOf bs sz x.1).length := by rw [hpl]; rfl
      have hpl2 : (pieceOf bs sz x.1).length ≤ 140737488355328 := by rw [hpl]; omega
      have STEP := Lib.hid (fun w1 k1 => splitStep W4 W w1 ch bs sz p0 N hN2 s4 pre x hlt A c qs hbo ho hp hk k1)
      have cC : W.cell? ⟨p0, 0, none⟩ = some (.int .i64 ch) := (HBC.out.keep hk (by omega)).cell 0
      have cO : W.cell? ⟨p0 + 1, 0, none⟩ = some (.slice A pre.length c) := hbo.cell 0
      have hpW : p0 + 4 ≤ W.heap.size := by have := hk.size; omega
      rw [epc]
      clear epc hpl hbo ho hp hk
      generalize pieceOf bs sz x.1 = ps at RBp hpl2 STEP ⊢
      generalize pre.length = j at STEP cO hlt ⊢
      gi_wp2
      gi_region_with_o (refine ⟨trivial, ?_⟩; gi_at_call 42; refine (CallsIn.inRound l (callsIn_wide.2 (sClone _ _ ps (· < p0) W.drew RBp.out.drew (by simp) hpl2))).mono ?_; rintro e w1 ⟨v1, rfl, o1, k1⟩; obtain ⟨A1, c1, rfl, hx1⟩ := Own.form o1; have kk1 : Kept noneS W w1 := ⟨k1.os, k1.tape, k1.output, k1.size, k1.block⟩; obtain ⟨A2, c2, w2, hrun, cO2, fr2, F2⟩ := STEP.out w1 kk1 A1 ps.length c1 o1; have FF2 := Lib.hid F2; have cC1 := (kk1.cell (p := ⟨p0, 0, none⟩) (by show p0 < _; omega) (fun q => q.elim)).trans cC; have cO1 := (kk1.cell (p := ⟨p0 + 1, 0, none⟩) (by show p0 + 1 < _; omega) (fun q => q.elim)).trans cO; have hs1w := kk1.size; have hne1 : ¬ (p0 + 1 = w1.heap.size) := (by omega); have hlt1 : p0 + 1 < w1.heap.size := (by omega); clear F2 kk1 k1 o1 hx1)
      all_goals gi_wp2
      all_goals exact FF2.out
    case done =>
      rintro D ys W hD hys ⟨A, c, qs, hbo, ho, hp, hk⟩ hK
      have hyl : ys.length = N := by have h := congrArg List.length hys; simpa using h
      have cO : W.cell? ⟨p0 + 1, 0, none⟩ = some (.slice A ys.length c) := hbo.cell 0
      have fO : W.frozen? ⟨p0 + 1, 0, none⟩ = false := hbo.frozen 0
      have HYS := Lib.hid hys
      have HYL := Lib.hid hyl
      have HBO2 := Lib.hid hbo
      have HO := Lib.hid ho
      have HP := Lib.hid hp
      have HK := Lib.hid hk
      clear hys hyl hbo ho hp hk
      generalize hj : ys.length = j at *
      gi_wp2
      have hKW : (W.setCell ⟨p0 + 1, 0, none⟩ (.slice A j c)).heap[D]? = some (.deferred (some [])) := (Below.heap_setCell W _ _ D (by show D ≠ p0 + 1; omega)).trans hK
      refine ⟨by simp, .inl ⟨_, _, rfl, run_takeDeferred hKW, ?_⟩⟩
      have hg := grownBy_putObj' (W.setCell ⟨p0 + 1, 0, none⟩ (.slice A j c)) D (.deferred none)
      have hr : ∀ r, some D = some r → ∃ ob : Obj, (W.setCell ⟨p0 + 1, 0, none⟩ (.slice A j c)).heap[r]? = some ob ∧ ob.isCells = false := fun r e => by cases e; exact ⟨_, hKW, rfl⟩
      have b1 := HBO2.out.set_ 0 (.slice A j c)
      have o1 := (Own.far HO.out (p := ⟨p0 + 1, 0, none⟩) (HO.out.ne_blk HBO2.out (by decide)) (.slice A j c)).calm hg hr
      have k1 : Kept (· = p0 + 1) W (W.setCell ⟨p0 + 1, 0, none⟩ (.slice A j c)) := (Kept.refl (· = p0 + 1) W).setCell (p := ⟨p0 + 1, 0, none⟩) (fun _ => rfl) _
      have p1 := (HP.out.keep k1 (fun k q pp _ hq hok hs => by have := hq.2 _ hok; omega)).calm hg hr
      have kf := (((HK4.out.trans2 HK.out (S' := (· = p0 + 1)) (fun k h1 h2 => by omega)).trans2 k1 (fun k h1 h2 => by omega)).grown hg (fun k h1 h2 => by injection h1 with h1; omega))
      have hc1 : ((W.setCell ⟨p0 + 1, 0, none⟩ (.slice A j c)).putObj D (.deferred none)).cell? ⟨p0 + 1, 0, none⟩ = some (.slice A j c) := (b1.grown hg (by simp; omega)).cell 0
      have hNj := HYL.out
      subst hNj
      have hpe : (ys.map fun k => pieceOf bs sz k.1) = (List.range j).map (pieceOf bs sz) := by rw [← HYS.out, List.map_map]; rfl
      rw [hpe] at p1
      rw [hp0]
      exact ⟨_, results_cell1 rfl _ _ ⟨p0 + 1, 0, none⟩ _ rfl Try.underlying35 hc1, A, c, qs, rfl, o1.mono (fun k _ q => by omega), p1.mono (fun k _ q => by omega), kf⟩
    case stop =>
      rintro D c pre W _ _ h _
      exact h.elim
  · have EZ := Lib.hid (show most - 8 = (sz : Int) by omega)
    have EZ2 : most - 7 - 1 = most - 8 := by omega
    clear hsz
    gi_wp2_with (refine ⟨trivial, ?_⟩; gi_at_call 41; rw [EZ.out]; refine (callsIn_wide.2 (chunkFn _ _ _ _ (by omega) _)).mono ?_; rintro e w' ⟨rfl, rfl⟩)
    generalize hW4 : ((((w.alloc (.cells #[.int .i64 ch] 3)).alloc (.cells #[.slice none 0 0] 35)).alloc (.cells #[.slice (some ⟨g, o, none⟩) n cap] 23)).alloc (.cells #[.int .i64 sz] 3)) = W4 at FIN
    have bC : Blk W4 w.heap.size 3 #[.int .i64 ch] := by rw [← hW4]; exact (((Blk.new w _ _).alloc _).alloc _).alloc _
    have bO : Blk W4 (w.heap.size + 1) 35 #[.slice none 0 0] := by rw [← hW4]; have h := Blk.new (w.alloc (.cells #[.int .i64 ch] 3)) 35 #[.slice none 0 0]; rw [World.size_alloc] at h; exact (h.alloc _).alloc _
    have bS : Blk W4 (w.heap.size + 1 + 1) 23 #[.slice (some ⟨g, o, none⟩) n cap] := by rw [← hW4]; have h := Blk.new ((w.alloc (.cells #[.int .i64 ch] 3)).alloc (.cells #[.slice none 0 0] 35)) 23 #[.slice (some ⟨g, o, none⟩) n cap]; rw [World.size_alloc, World.size_alloc] at h; exact h.alloc _
    have bN : Blk W4 (w.heap.size + 1 + 1 + 1) 3 #[.int .i64 sz] := by rw [← hW4]; have h := Blk.new (((w.alloc (.cells #[.int .i64 ch] 3)).alloc (.cells #[.slice none 0 0] 35)).alloc (.cells #[.slice (some ⟨g, o, none⟩) n cap] 23)) 3 #[.int .i64 sz]; rw [World.size_alloc, World.size_alloc, World.size_alloc] at h; exact h
    have K4 : Kept noneS w W4 := by rw [← hW4]; exact ((((Kept.refl _ _).alloc _).alloc _).alloc _).alloc _
    have s4 : W4.heap.size = w.heap.size + 4 := by rw [← hW4]; simp
    have HBC := Lib.hid bC
    have HBO := Lib.hid bO
    have HK4 := Lib.hid K4
    clear hW4 bC bO K4
    obtain ⟨p0, hp0⟩ : ∃ p0, w.heap.size = p0 := ⟨_, rfl⟩
    have HP0 := Lib.hid hp0
    rw [hp0] at HBC HBO bS bN s4 FIN ⊢
    have hs : SeqStopsK Fence.wide 2 Try.prog 45 #[.pointer (some ⟨p0 + 1 + 1, 0, none⟩), .pointer (some ⟨p0 + 1 + 1 + 1, 0, none⟩)] (fun x : Below? N => #[piece g o n sz x.1]) (KpBut (p0 + 4) (p0 + 1)) (fun ys => ys.map (·.1) = List.range N) (fun _ => True) N W4 := by
      intro l J Jx W hW hJ _ hY h0
      exact chunk1 2 (by omega) l (p0 + 1 + 1) (p0 + 1 + 1 + 1) (p0 + 4) (p0 + 1) g o n cap sz N hcap hn hs1 hs2 HN.out (by omega) (by omega) (by omega) (by omega) J Jx (fun pre W' h => hJ pre W' W'.drew none h ⟨rfl, rfl, rfl, Nat.le_refl _, fun _ _ _ => rfl⟩ (fun r e => by cases e)) hY W
        ((hW.cell (p := ⟨p0 + 1 + 1, 0, none⟩) (by show p0 + 1 + 1 < _; omega)).trans (bS.cell 0)) ((hW.cell (p := ⟨p0 + 1 + 1 + 1, 0, none⟩) (by show p0 + 1 + 1 + 1 < _; omega)).trans (bN.cell 0)) h0
    refine wpIn_rangeFunc_ownG rfl (by omega) (gf := 45) (lb := #[.pointer (some ⟨p0 + 1 + 1, 0, none⟩), .pointer (some ⟨p0 + 1 + 1 + 1, 0, none⟩)]) rfl trivial (enters_of Try.func45 (by kernel_rfl) rfl)
      hs (fun h k => KpBut.trans h k) ?kb (Below.refl _ _) (fun _ => rfl) (SplitInv W4 ch bs sz (p0 + 1) (p0 + 4) N) (fun _ _ _ => False) (SplitInv.own (by omega)) (fun _ _ _ _ _ hs _ _ => hs)
      ⟨none, 0, [], HBO.out, Own.nil _ _ _ _, Pays.nil _ _, Kept.refl _ _⟩ ?a2 ?assign ?body ?done ?stop
    case kb =>
      intro W l ob o' hl hob _ _ k hk hk2
      have hlt : l < W.heap.size := (Array.getElem?_eq_some_iff.1 hob).1
      exact (grownBy_putObj' W l o').block k (by omega) (fun e => by injection e with e; omega)
    case assign =>
      intro l x W K hK
      gi_wp2
      exact hK
    case body =>
      rintro l pre x W ⟨A, c, qs, hbo, ho, hp, hk⟩ hlt
      have hl2 : 2 ≤ 3 := by omega
      have RBp := Lib.hid (FIN.out x.1 W x.2 hk)
      have hpl : (pieceOf bs sz x.1).length = min sz (n - x.1 * sz) := by unfold pieceOf; rw [List.length_take, List.length_drop, HL.out]
      have epc : piece g o n sz x.1 = .slice (some ⟨g, o + x.1 * sz, none⟩) (pieceOf bs sz x.1).length (pieceOf bs sz x.1).length := by rw [hpl]; rfl
      have hpl2 : (pieceOf bs sz x.1).length ≤ 140737488355328 := by rw [hpl]; omega
      have STEP := Lib.hid (fun w1 k1 => splitStep W4 W w1 ch bs sz p0 N hN2 s4 pre x hlt A c qs hbo ho hp hk k1)
      have cC : W.cell? ⟨p0, 0, none⟩ = some (.int .i64 ch) := (HBC.out.keep hk (by omega)).cell 0
      have cO : W.cell? ⟨p0 + 1, 0, none⟩ = some (.slice A pre.length c) := hbo.cell 0
      have hpW : p0 + 4 ≤ W.heap.size := by have := hk.size; omega
      rw [epc]
      clear epc hpl hbo ho hp hk
      generalize pieceOf bs sz x.1 = ps at RBp hpl2 STEP ⊢
      generalize pre.length = j at STEP cO hlt ⊢
      gi_wp2
      gi_region_with_o (refine ⟨trivial, ?_⟩; gi_at_call 42; refine (CallsIn.inRound l (callsIn_wide.2 (sClone _ _ ps (· < p0) W.drew RBp.out.drew (by simp) hpl2))).mono ?_; rintro e w1 ⟨v1, rfl, o1, k1⟩; obtain ⟨A1, c1, rfl, hx1⟩ := Own.form o1; have kk1 : Kept noneS W w1 := ⟨k1.os, k1.tape, k1.output, k1.size, k1.block⟩; obtain ⟨A2, c2, w2, hrun, cO2, fr2, F2⟩ := STEP.out w1 kk1 A1 ps.length c1 o1; have FF2 := Lib.hid F2; have cC1 := (kk1.cell (p := ⟨p0, 0, none⟩) (by show p0 < _; omega) (fun q => q.elim)).trans cC; have cO1 := (kk1.cell (p := ⟨p0 + 1, 0, none⟩) (by show p0 + 1 < _; omega) (fun q => q.elim)).trans cO; have hs1w := kk1.size; have hne1 : ¬ (p0 + 1 = w1.heap.size) := (by omega); have hlt1 : p0 + 1 < w1.heap.size := (by omega); clear F2 kk1 k1 o1 hx1)
      all_goals gi_wp2
      all_goals exact FF2.out
    case done =>
      rintro D ys W hD hys ⟨A, c, qs, hbo, ho, hp, hk⟩ hK
      have hyl : ys.length = N := by have h := congrArg List.length hys; simpa using h
      have cO : W.cell? ⟨p0 + 1, 0, none⟩ = some (.slice A ys.length c) := hbo.cell 0
      have fO : W.frozen? ⟨p0 + 1, 0, none⟩ = false := hbo.frozen 0
      have HYS := Lib.hid hys
      have HYL := Lib.hid hyl
      have HBO2 := Lib.hid hbo
      have HO := Lib.hid ho
      have HP := Lib.hid hp
      have HK := Lib.hid hk
      clear hys hyl hbo ho hp hk
      generalize hj : ys.length = j at *
      gi_wp2
      have hKW : (W.setCell ⟨p0 + 1, 0, none⟩ (.slice A j c)).heap[D]? = some (.deferred (some [])) := (Below.heap_setCell W _ _ D (by show D ≠ p0 + 1; omega)).trans hK
      refine ⟨by simp, .inl ⟨_, _, rfl, run_takeDeferred hKW, ?_⟩⟩
      have hg := grownBy_putObj' (W.setCell ⟨p0 + 1, 0, none⟩ (.slice A j c)) D (.deferred none)
      have hr : ∀ r, some D = some r → ∃ ob : Obj, (W.setCell ⟨p0 + 1, 0, none⟩ (.slice A j c)).heap[r]? = some ob ∧ ob.isCells = false := fun r e => by cases e; exact ⟨_, hKW, rfl⟩
      have b1 := HBO2.out.set_ 0 (.slice A j c)
      have o1 := (Own.far HO.out (p := ⟨p0 + 1, 0, none⟩) (HO.out.ne_blk HBO2.out (by decide)) (.slice A j c)).calm hg hr
      have k1 : Kept (· = p0 + 1) W (W.setCell ⟨p0 + 1, 0, none⟩ (.slice A j c)) := (Kept.refl (· = p0 + 1) W).setCell (p := ⟨p0 + 1, 0, none⟩) (fun _ => rfl) _
      have p1 := (HP.out.keep k1 (fun k q pp _ hq hok hs => by have := hq.2 _ hok; omega)).calm hg hr
      have kf := (((HK4.out.trans2 HK.out (S' := (· = p0 + 1)) (fun k h1 h2 => by omega)).trans2 k1 (fun k h1 h2 => by omega)).grown hg (fun k h1 h2 => by injection h1 with h1; omega))
      have hc1 : ((W.setCell ⟨p0 + 1, 0, none⟩ (.slice A j c)).putObj D (.deferred none)).cell? ⟨p0 + 1, 0, none⟩ = some (.slice A j c) := (b1.grown hg (by simp; omega)).cell 0
      have hNj := HYL.out
      subst hNj
      have hpe : (ys.map fun k => pieceOf bs sz k.1) = (List.range j).map (pieceOf bs sz) := by rw [← HYS.out, List.map_map]; rfl
      rw [hpe] at p1
      rw [hp0]
      exact ⟨_, results_cell1 rfl _ _ ⟨p0 + 1, 0, none⟩ _ rfl Try.underlying35 hc1, A, c, qs, rfl, o1.mono (fun k _ q => by omega), p1.mono (fun k _ q => by omega), kf⟩
    case stop =>
      rintro D c pre W _ _ h _
      exact h.elim

end Go.Proofs.Ytkkfifocilnbkaa
