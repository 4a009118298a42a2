/-
  BookOnce's closure 'finish'.
-/
import Derived.Test.YtchpkonlfjbkeaaBookCounts
namespace Go.Proofs.Ytchpkonlfjbkeaa
open Go.RowKit

theorem infoInt : (Try.prog.info? 3).map (fun i => (i.zero, i.size, i.bytes)) = some (some (.int .i64 0), 1, 8) := by kernel_rfl

def ivs (l : List Int) : List Value := l.map (.int .i64)

/-- The box of a row of numbers. -/
def DoneAt (w : World) (F : Nat → Prop) (b : Nat) (ds : List Int) : Prop := ∃ sv, Blk w b 26 #[sv] ∧ Own w 3 1 F sv ds.length (ivs ds) ∧ F b
theorem DoneAt.keep {w w' : World} {F S : Nat → Prop} {b : Nat} {ds : List Int} (h : DoneAt w F b ds) (hk : Kept S w w') (hd : ∀ k, k < w.heap.size → F k → S k → False) : DoneAt w' F b ds := by
  obtain ⟨sv, h1, h2, h3⟩ := h
  exact ⟨sv, h1.keep hk (hd b h1.lt h3), h2.keep hk hd, h3⟩
theorem DoneAt.mono {w : World} {F G : Nat → Prop} {b : Nat} {ds : List Int} (h : DoneAt w F b ds) (hG : ∀ k, k < w.heap.size → F k → G k) : DoneAt w G b ds := by
  obtain ⟨sv, h1, h2, h3⟩ := h
  exact ⟨sv, h1, h2.mono hG, hG b h1.lt h3⟩

section
variable {w : World} {ops : Array Oper} {rest : List Oper} {o : Oper} {a : Act} {Q : Exit → Act → World → Prop} {K : Act → World → Prop} {E : Prop}
theorem wpList_appI (hgd : o.guard = none) (s x : Operand) (ho : o.op = .call { callee := .builtin .append, args := #[s, x], argTypes := #[26, 26] })
    (F : Nat → Prop) (v : Value) (l : List Int) (hs : a.eval s = v) (hown : Own w 3 1 F v l.length (ivs l)) (g : Nat) (t : Int) (hx : a.eval x = .slice (some ⟨g, 0, none⟩) 1 1) (hc : w.cell? ⟨g, 0, none⟩ = some (.int .i64 t))
    (hl : (l.length + 1) * 8 ≤ 140737488355328) (hF : F w.heap.size)
    (h : ∀ A' c' w', Own w' 3 1 F (.slice A' (l.length + 1) c') (l.length + 1) (ivs (l ++ [t])) → Kept (ownS v) w w' → wpList Try.prog ops Q rest (a.put o.dst (.slice A' (l.length + 1) c')) w') : wpList Try.prog ops Q (o :: rest) a w := by
  obtain ⟨i0, hi, hz0, hz1, hz2⟩ := info_parts infoInt
  refine wpList_append_Own w hgd s x 26 ho 3 i0 _ 1 8 Try.underlying26 hi hz0 hz1 hz2 rfl (by decide) F (fun _ => True) v l.length (ivs l) hs hown (some ⟨g, 0, none⟩) 1 1 (ivs [t]) hx rfl ?_ ?_ (by unfold maxLen; omega) hl ?_
  · refine .inr ⟨g, 0, rfl, trivial, fun j u hj => ?_⟩
    have hj0 : j = 0 := by have := (List.getElem?_eq_some_iff.1 hj).1; simp [ivs] at this; exact this
    subst hj0
    simp [ivs] at hj
    subst hj
    exact hc
  · intro u hu
    simp [ivs] at hu
    subst hu
    rfl
  · intro v' w' h1 h2
    have h3 := h1.mono (G := F) (fun k _ q => q.elim id fun q => q ▸ hF)
    obtain ⟨A', c', rfl, _⟩ := Own.form h3
    refine h A' c' w' ?_ h2
    simpa [ivs] using h3
end

theorem Rd.int {w : World} {F : Nat → Prop} {A : Option Addr} {l : List Int} (h : Rd w F A (ivs l)) {j : Nat} (hj : j < l.length) : ∃ g o, A = some ⟨g, o, none⟩ ∧ w.cell? ⟨g, o + j, none⟩ = some (.int .i64 l[j]) := by
  rcases h with h | ⟨g, o, h, hF, hc⟩
  · have := congrArg List.length h
    simp [ivs] at this
    subst this
    simp at hj
  · exact ⟨g, o, h, hc j _ (by simp [ivs, hj])⟩

/-- What finish wants of the list. -/
def FinOk (xs : List Slip) (ds : List Int) (n : Int) : Prop := (ds ++ xs.map Slip.tag).Nodup ∧ ∀ s ∈ xs, 1 ≤ s.tag ∧ s.tag ≤ n

theorem FinOk.new {xs : List Slip} {ds : List Int} {n : Int} (h : FinOk xs ds n) (j : Nat) (hj : j < xs.length) : ∀ t ∈ ds ++ (xs.take j).map Slip.tag, t ≠ (xs[j]).tag := by
  have h1 := h.1
  have e : xs = xs.take j ++ xs[j] :: xs.drop (j + 1) := by rw [← List.drop_eq_getElem_cons hj, List.take_append_drop]
  rw [e, List.map_append, List.map_cons, ← List.append_assoc] at h1
  have h2 := (List.nodup_append.1 h1).2.2
  intro t ht he
  exact h2 t ht _ List.mem_cons_self he

set_option maxHeartbeats 1600000 in
theorem finish_ok (A : Option Addr) (c : Nat) (xs : List Slip) (ds : List Int) (given : Int) (w : World) (F G : Nat → Prop) (bg bd : Nat) (hx : Rd w G A (slipRow xs)) (hg : Blk w bg 3 #[.int .i64 given]) (hd : DoneAt w F bd ds)
    (hFG : ∀ k, k < w.heap.size → F k → G k → False) (hbg : ¬ F bg) (hF : ∀ j, w.heap.size ≤ j → F j) (hok : FinOk xs ds given) (hl : (ds.length + xs.length) * 8 ≤ 140737488355328) :
    Calls Try.prog 8 #[.slice A xs.length c, .pointer (some ⟨bg, 0, none⟩), .pointer (some ⟨bd, 0, none⟩)] w fun e w' => e = .returned (.bool true) ∧ DoneAt w' F bd (ds ++ xs.map Slip.tag) ∧ Kept F w w' := by
  have HX := Lib.hid hx
  have HG := Lib.hid hg
  have HD := Lib.hid hd
  have HFG := Lib.hid hFG
  have HF := Lib.hid hF
  have HOK := Lib.hid hok
  clear hx hg hd hFG hF hok
  go_enter Try.func8, Try.ntmps8
  go_wp2
  go_loopw [11] (fun i wr => ∃ j : Nat, j ≤ xs.length ∧ i = .int .i64 j ∧ DoneAt wr F bd (ds ++ (xs.take j).map Slip.tag) ∧ Kept F w wr) (fun i _ => xs.length - (intOf i).toNat)
  case atStart => exact ⟨0, Nat.zero_le _, rfl, by simpa using HD.out, Kept.refl _ _⟩
  case round =>
    obtain ⟨j, hj, rfl, hd1, hk1⟩ := hrel
    have K1 := Lib.hid hk1
    have HG1 := Lib.hid (HG.out.keep hk1 hbg)
    have g0 : wr.cell? ⟨bg, 0, none⟩ = some (.int .i64 given) := HG1.out.cell 0
    have glt := HG1.out.lt
    by_cases hlt : j < xs.length
    · obtain ⟨sv, hb1, ho1, hFb⟩ := hd1
      obtain ⟨A1, c1, rfl, _⟩ := Own.form ho1
      have B1 := Lib.hid hb1
      have O1 := Lib.hid ho1
      have b0 : wr.cell? ⟨bd, 0, none⟩ = some (.slice A1 (ds ++ (xs.take j).map Slip.tag).length c1) := hb1.cell 0
      have blt := hb1.lt
      obtain ⟨g, o, rfl, _, d0, d1, d2, d3, d4⟩ := (HX.out.keep hk1 (fun k hk h1 h2 => HFG.out k hk h2 h1)).slip hlt
      have HNew := Lib.hid (HOK.out.new j hlt)
      have hr := HOK.out.2 xs[j] (List.getElem_mem hlt)
      have HTk : Hid (ds ++ (xs.take (j + 1)).map Slip.tag = (ds ++ (xs.take j).map Slip.tag) ++ [(xs[j]).tag]) := Lib.hid (by rw [List.take_succ_eq_append_getElem hlt, List.map_append, List.append_assoc]; rfl)
      have hlen : (ds ++ (xs.take j).map Slip.tag).length ≤ ds.length + j := by simp; omega
      generalize xs[j] = s at d0 d1 d2 d3 d4 HNew hr HTk
      generalize ds ++ (xs.take j).map Slip.tag = cur at O1 B1 b0 HNew HTk hlen
      obtain ⟨hr1, hr2⟩ := hr
      clear hk1 hb1 ho1
      have e1 : decide (s.tag < 1) = false := decide_eq_false (by omega)
      have e2 : decide (s.tag > given) = false := decide_eq_false (by omega)
      obtain ⟨wo, rfl⟩ : ∃ wo : World, wo = wr := ⟨_, rfl⟩
      go_wp2
      generalize hwa : (wo.alloc (.cells #[.int .i64 s.tag, .string s.queue, .int .i64 s.seq, .int .i64 s.cons, .bool s.held] 29)) = wa
      have HBn := Blk.new wo 29 #[.int .i64 s.tag, .string s.queue, .int .i64 s.seq, .int .i64 s.cons, .bool s.held]
      rw [hwa] at HBn
      have HN := Lib.hid HBn
      have x0 : wa.cell? ⟨wo.heap.size, 0, none⟩ = some (.int .i64 s.tag) := HN.out.cell 0
      have KA : Kept noneS wo wa := by rw [← hwa]; exact (Kept.refl _ _).alloc _
      have B2 := Lib.hid (B1.out.keep KA (fun q => q))
      have O2 := Lib.hid (O1.out.keep0 KA (fun _ _ _ q => q.elim))
      have K2 := Lib.hid (K1.out.trans2 KA (fun _ _ q => q.elim))
      have a0 : wa.cell? ⟨bd, 0, none⟩ = some (.slice A1 cur.length c1) := B2.out.cell 0
      have f0 := B2.out.frozen 0
      clear HBn KA hwa d0 d1 d2 d3 d4 b0 g0
      go_loopw [26] (fun k wi => ∃ m : Nat, m ≤ cur.length ∧ k = .int .i64 m ∧ wi = wa) (fun k _ => cur.length - (intOf k).toNat)
      case atStart => exact ⟨0, Nat.zero_le _, rfl, rfl⟩
      case round =>
        obtain ⟨m, hm, rfl, rfl⟩ := hrel
        by_cases hml : m < cur.length
        · obtain ⟨g2, o2, rfl, y0⟩ := (Own.rd O2.out).int hml
          have hne : (cur[m] == s.tag) = false := by
            have := HNew.out cur[m] (List.getElem_mem hml)
            simp [this]
          generalize cur[m] = t at y0 hne
          go_wp2
          go_roundw
          case rel => exact ⟨m + 1, by omega, by go_num, trivial⟩
          case measure => simp [intOf]; omega
        · obtain rfl : m = cur.length := by omega
          have hsz := K2.out.size
          go_wp2_with (at_builtin; refine wpList_appI rfl (.tmp 35) (.tmp 38) rfl F (.slice A1 cur.length c1) cur rfl (Own.alloc O2.out _) wr.heap.size s.tag rfl ((Blk.new wr 3 #[.int .i64 s.tag]).cell 0) (by omega) (HF.out _ (by simp; omega)) ?_; intro A6 c6 w6 hown6 hk6; have HO6 := Lib.hid hown6; have HK6 := Lib.hid hk6; have hb6 := (B2.out.alloc _).keep hk6 (O2.out.ne_blk B2.out (by decide)); have B6 := Lib.hid hb6; have z0 : w6.cell? ⟨bd, 0, none⟩ = some (.slice A1 cur.length c1) := hb6.cell 0; have zf := hb6.frozen 0; clear hown6 hk6 hb6)
          go_roundw
          case rel => exact ⟨j + 1, by omega, by go_num, ⟨_, B6.out.set_ 0 _, by rw [HTk.out, List.length_append]; exact HO6.out.far (p := ⟨bd, 0, none⟩) (HO6.out.ne_blk B6.out (by decide)) _, hFb⟩, ((K2.out.alloc _).trans2 HK6.out (fun i _ h => O2.out.2 i h)).setCell (p := ⟨bd, 0, none⟩) (fun _ => hFb) _⟩
          case measure => simp [intOf]; omega
    · obtain rfl : j = xs.length := by omega
      rw [List.take_length] at hd1
      have D1 := Lib.hid hd1
      clear hd1 hk1
      go_wp2
      go_ret
      exact ⟨rfl, D1.out, K1.out⟩

end Go.Proofs.Ytchpkonlfjbkeaa
