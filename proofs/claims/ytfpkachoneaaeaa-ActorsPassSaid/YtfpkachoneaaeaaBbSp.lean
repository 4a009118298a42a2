/-
  Stop: the quit channel is closed, the workers are waited for.
-/
import Derived.Test.YtfpkachoneaaeaaBbWait
import Derived.Test.YtfpkachoneaaeaaBbPo5
set_option linter.unusedSimpArgs false
set_option linter.unusedVariables false
namespace Go.Proofs.Ytfpkachoneaaeaa
open Go Go.Conc Go.RowKit
open Go.ConcN (sumTo upd sumTo_upd upd_ne upd_same)
theorem sum_zero : ∀ n : Nat, sumTo n (fun _ => 0) = 0
  | 0 => rfl
  | n + 1 => by simp [sumTo, sum_zero n]
theorem sum_list (n : Nat) : ∀ (l : List Nat), l.Nodup → (∀ i ∈ l, i < n) → sumTo n (fun i => if i ∈ l then 1 else 0) = l.length
  | [], _, _ => by simpa using sum_zero n
  | x :: l, hn, hl => by
    have ih := sum_list n l (List.nodup_cons.1 hn).2 fun i hi => hl i (.tail _ hi)
    have h := sumTo_upd (fun i => if i ∈ l then 1 else 0) 1 id (hl x (.head _))
    have e : upd (fun i => if i ∈ l then 1 else 0) x 1 = fun i => if i ∈ x :: l then 1 else 0 := by
      funext j
      by_cases q : j = x
      · subst q; rw [upd_same]; simp
      · rw [upd_ne _ _ q]; simp [q]
    rw [e] at h
    simp only [id, if_neg (List.nodup_cons.1 hn).1] at h
    simp only [List.length_cons]
    omega
theorem kept_chan2 (w : World) (c k : Nat) (_ : w.heap[c]? = some (.chan 0 #[] false k k false)) : Kept (· = c) w (w.setChan c 0 #[] true k k false) :=
  ⟨rfl, rfl, rfl, by simp [World.setChan], fun j _ hj => by simp only [World.setChan, Array.getElem?_setIfInBounds]; rw [if_neg (Ne.symm hj)]⟩
theorem Run.closeE {P : Program} {Post : Value → World → Prop} {Z : Scene} {st sm : Addr} {qc n m cap k : Nat} {w : World} {a a' : Goroutine} (hr : a.status = .running) (hmw : mayWake P a = true) (hr' : a'.status = .running) (hq : w.heap[qc]? = some (.chan cap #[] false k k false))
    (hclose : ∀ d, stepG P true a (w.at d) = .go a' ((w.at d).setChan qc cap #[] true k k false) (closeEvents qc))
    (hne : st ≠ sm) (hspot : st.spot = none ∧ sm.spot = none) (h1 : Z.Hd st.block) (h2 : Z.Hd sm.block) (hp : ¬ Z.Place st ∧ ¬ Z.Place sm) (hns : ¬ Z.Sh (.cell st) ∧ ¬ Z.Sh (.cell sm))
    (hst : w.cell? st = some (.int .u64 ((VcS n (phs Z.Inb) : Int) * K32))) (hsm : w.cell? sm = some (.int .u32 0)) (hz : w.frozen? st = false ∧ w.frozen? sm = false) (hm : VcS n (phs Z.Inb) ≤ m) (hsmall : n < 2147483647)
    (hI0 : Z.Inb 0 = none) (hIn : ∀ i, n ≤ i → Z.Inb i = none)
    (hwakes : ∀ i ch, Z.Inb i = some ch → ∃ (kk : Nat) (z : Value), ch.seat.cases[kk]? = some (rcase qc z) ∧ ∀ g, ch.seat.home g → Qt P false (KS st sm) (AtRelm P st sm) 0 (Go.Conc.served g (commResult ch.seat.cases ch.seat.shape kk z false)))
    (hQ : ∃ Fin : Goroutine → Prop, Qt P true (KS st sm) (AtLd P st sm Fin m) 0 a' ∧ ∀ g', Fin g' → Run P Post (Z.shut st sm h1 h2) n 0 0 g' (((w.setChan qc cap #[] true k k false).setCell st (.int .u64 0)).setCell sm (.int .u32 0))) : Run P Post Z n 0 0 a w := by
  obtain ⟨Fin, h3, h4⟩ := hQ
  exact Run.close hr hmw hr' hq hclose hne hspot h1 h2 hp hns hst hsm hz hm hsmall hI0 hIn hwakes h3 h4
def Sy.halt (s : Sy) (m : Nat) : Sy := { s with mp := m, stopped := true, ents := [], own := fun k => if k = m then (0, 4) else s.own k }
section
variable {Z : Scene} {n : Nat} {w : World} {s : Sy} {lk : Int} {Post : Value → World → Prop} {c : Frame} {cs : List Frame}
theorem Rep.count (R : Rep Z n none w s lk) : VcS n (phs Z.Inb) = s.ents.length := by
  have hI : Z.Inb = s.seats := R.inb
  have h1 : (fun i => cntS (phs Z.Inb i)) = fun i => if i ∈ s.ents.map (·.gi) then 1 else 0 := by
    funext i
    by_cases q : i ∈ s.ents.map (·.gi)
    · rw [if_pos q]
      obtain ⟨e, he, rfl⟩ := List.mem_map.1 q
      have hp : e.gi ≠ 0 := by have := (R.ents e he).pos; omega
      have : (Z.Inb e.gi).isSome = true := by rw [hI, Sy.seats_mem R.gis he]; rfl
      simp [phs, hp, this, cntS]
    · rw [if_neg q]
      have : Z.Inb i = none := by
        rw [hI]
        exact Sy.seats_none fun e he r => q (List.mem_map.2 ⟨e, he, r⟩)
      by_cases h0 : i = 0
      · simp [phs, h0, cntS]
      · simp [phs, h0, this, cntS]
  unfold VcS
  rw [h1, sum_list n _ R.gis, List.length_map]
  intro i hi
  obtain ⟨e, he, rfl⟩ := List.mem_map.1 hi
  exact R.gin e he
theorem Rep.ents_le (R : Rep Z n none w s lk) : s.ents.length ≤ n := by rw [← R.count]; exact VcS_le _ _
set_option maxRecDepth 50000 in
set_option maxHeartbeats 1000000 in
theorem stop_run (R : Rep Z n none w s 0) (hn : n < 2147483647) (H : ∀ Z' w' m, Rep Z' n none w' (s.halt m) 0 → Kept (fun k => s.own k ≠ (0, 0)) w w' → Z'.Hd = Z.Hd → Z'.C = Z.C → w.heap.size ≤ m → Run Try.prog Post Z' n 0 0 (G (c.finish (.tuple #[])) cs) w') :
    Run Try.prog Post Z n 0 0 (G ((base 10).at { tmps := #[.pointer (some ⟨s.S, 0, none⟩)] ++ Array.replicate (Try.f10.ntmps - 1) undef, defers := [] } [.code (Try.f10.body.getD .skip)]) (c :: cs)) w := by
  refine Run.okG fun hok => ?_
  simp only [Try.ntmps10]
  try simp only [Act.put, Act.eval, nrmL, Nat.reduceAdd, Nat.reduceSub]
  simp only [Try.f10, Option.getD_some]
  repeat (first | refine Run.auto rfl ?_ | ((first | (apply Run.lq rfl rfl rfl rfl; (focus (intro w K hK; go_simp; exact hK))) | (refine Run.ln rfl rfl rfl rfl rfl (by kernel_rfl) ?_) | (refine Run.not rfl rfl ?_)); try simp only [Act.put, Act.eval, nrmL, Nat.reduceAdd]) | (refine Run.rg ?_; simp only [nrmL, rngL, Nat.reduceAdd]) | refine Run.cT rfl ?_ | refine Run.cF rfl ?_ | refine Run.rt ?_ | refine Run.nd ?_)
  refine Run.enter rfl rfl (by decide) rfl Try.func24 (by kernel_rfl) rfl ?_
  simp only [Act.eval, nrmL, Nat.reduceAdd]
  refine lock_run (a := ⟨s.S, 1, none⟩) (R.cell 1) (R.sys.frozen 1) (R.npl 1 (by decide)) (R.nC hok) ?_
  obtain ⟨R1, k1⟩ := R.lkTo 1
  have hok1 := hok.setCell ⟨s.S, 1, none⟩ (.int .i32 1)
  generalize w.setCell ⟨s.S, 1, none⟩ (.int .i32 1) = w1 at R1 k1 hok1
  rw [Frame.finish_at]
  try simp only [Act.put, Act.eval, nrmL, Nat.reduceAdd]
  repeat (first | refine Run.auto rfl ?_ | ((first | (apply Run.lq rfl rfl rfl rfl; (focus (intro w K hK; go_simp; exact hK))) | (refine Run.ln rfl rfl rfl rfl rfl (by kernel_rfl) ?_) | (refine Run.not rfl rfl ?_)); try simp only [Act.put, Act.eval, nrmL, Nat.reduceAdd]) | (refine Run.rg ?_; simp only [nrmL, rngL, Nat.reduceAdd]) | refine Run.cT rfl ?_ | refine Run.cF rfl ?_ | refine Run.rt ?_ | refine Run.nd ?_)
  refine Run.ld (a := ⟨s.S, 7, none⟩) (v := .bool s.stopped) rfl rfl (by decide) (R1.cell 7) (R1.nsh 7 (.inr (by decide))) (fun w₁ hld => ⟨by go_simp, by simp [go_sem, hld]⟩) ?_
  try simp only [Act.put, Act.eval, nrmL, Nat.reduceAdd]
  repeat (first | refine Run.auto rfl ?_ | ((first | (apply Run.lq rfl rfl rfl rfl; (focus (intro w K hK; go_simp; exact hK))) | (refine Run.ln rfl rfl rfl rfl rfl (by kernel_rfl) ?_) | (refine Run.not rfl rfl ?_)); try simp only [Act.put, Act.eval, nrmL, Nat.reduceAdd]) | (refine Run.rg ?_; simp only [nrmL, rngL, Nat.reduceAdd]) | refine Run.cT rfl ?_ | refine Run.cF rfl ?_ | refine Run.rt ?_ | refine Run.nd ?_)
  have nC := R1.nC hok1
  refine Run.stO (⟨s.S, 7, none⟩) (.bool true) rfl rfl (by decide) rfl rfl rfl rfl rfl (by kernel_rfl) rfl ((by rw [R1.cell 7]; rfl)) (R1.sys.frozen 7) (R1.nsh 7 (.inr (by decide))) (R1.npl 7 (by decide)) (nC) ?_
  try simp only [Act.put, Act.eval, nrmL, Nat.reduceAdd]
  have k2 := kept_set w1 ⟨s.S, 7, none⟩ (.bool true)
  have B2 := R1.sys.set_ 7 (.bool true)
  have hok2 := hok1.setCell ⟨s.S, 7, none⟩ (.bool true)
  generalize w1.setCell ⟨s.S, 7, none⟩ (.bool true) = w2 at B2 k2 hok2
  repeat (first | refine Run.auto rfl ?_ | ((first | (apply Run.lq rfl rfl rfl rfl; (focus (intro w K hK; go_simp; exact hK))) | (refine Run.ln rfl rfl rfl rfl rfl (by kernel_rfl) ?_) | (refine Run.not rfl rfl ?_)); try simp only [Act.put, Act.eval, nrmL, Nat.reduceAdd]) | (refine Run.rg ?_; simp only [nrmL, rngL, Nat.reduceAdd]) | refine Run.cT rfl ?_ | refine Run.cF rfl ?_ | refine Run.rt ?_ | refine Run.nd ?_)
  refine Run.made theEnv rfl rfl (by decide) rfl (fun _ _ q => by cases q) (.map (some w2.heap.size)) (.map #[] 0) (fun u _ hus => by have e0 : (Instr.makeMap 41 none).run Try.prog u = .ok (.map (some w2.heap.size)) (u.alloc (.map #[] 0)) := (by rw [← hus]; rfl); go_simp) (hok2.fresh (Nat.le_refl _)) ?_
  try simp only [Act.put, Act.eval, nrmL, Nat.reduceAdd]
  have k3 : Kept noneS w2 (w2.alloc (.map #[] 0)) := (Kept.refl _ _).alloc _
  have M3 := IMap.made w2
  have hmn : w1.heap.size ≤ w2.heap.size := k2.size
  have hmn0 : w.heap.size ≤ w2.heap.size := Nat.le_trans k1.size k2.size
  have B3 := B2.keep k3 fun q => q
  generalize hmm : w2.heap.size = m at *
  have hlt3 := M3.lt
  generalize w2.alloc (.map #[] 0) = w3 at *
  repeat (first | refine Run.auto rfl ?_ | ((first | (apply Run.lq rfl rfl rfl rfl; (focus (intro w K hK; go_simp; exact hK))) | (refine Run.ln rfl rfl rfl rfl rfl (by kernel_rfl) ?_) | (refine Run.not rfl rfl ?_)); try simp only [Act.put, Act.eval, nrmL, Nat.reduceAdd]) | (refine Run.rg ?_; simp only [nrmL, rngL, Nat.reduceAdd]) | refine Run.cT rfl ?_ | refine Run.cF rfl ?_ | refine Run.rt ?_ | refine Run.nd ?_)
  refine Run.stO (⟨s.S, 3, none⟩) (.map (some m)) rfl rfl (by decide) rfl rfl rfl rfl rfl (by kernel_rfl) rfl ((by rw [B3.cell 3]; rfl)) (B3.frozen 3) (R1.nsh 3 (.inr (by decide))) (R1.npl 3 (by decide)) (nC) ?_
  try simp only [Act.put, Act.eval, nrmL, Nat.reduceAdd]
  have k4 := kept_set w3 ⟨s.S, 3, none⟩ (.map (some m))
  have B4 := B3.set_ 3 (.map (some m))
  have hSm : ¬ m = s.S := fun q => by have := R1.sys.lt; omega
  have M4 := M3.keep k4 hSm
  generalize w3.setCell ⟨s.S, 3, none⟩ (.map (some m)) = w4 at B4 k4 M4
  repeat (first | refine Run.auto rfl ?_ | ((first | (apply Run.lq rfl rfl rfl rfl; (focus (intro w K hK; go_simp; exact hK))) | (refine Run.ln rfl rfl rfl rfl rfl (by kernel_rfl) ?_) | (refine Run.not rfl rfl ?_)); try simp only [Act.put, Act.eval, nrmL, Nat.reduceAdd]) | (refine Run.rg ?_; simp only [nrmL, rngL, Nat.reduceAdd]) | refine Run.cT rfl ?_ | refine Run.cF rfl ?_ | refine Run.rt ?_ | refine Run.nd ?_)
  refine Run.enter rfl rfl (by decide) rfl Try.func25 (by kernel_rfl) rfl ?_
  simp only [Act.eval, nrmL, Nat.reduceAdd]
  refine unlock_run (a := ⟨s.S, 1, none⟩) (by rw [B4.cell 1]; rfl) (B4.frozen 1) (R1.npl 1 (by decide)) (R1.nsh 1 (.inr (by decide))) nC ?_
  have k5 := kept_set w4 ⟨s.S, 1, none⟩ (.int .i32 0)
  have B5 := B4.set_ 1 (.int .i32 0)
  have M5 := M4.keep k5 hSm
  generalize w4.setCell ⟨s.S, 1, none⟩ (.int .i32 0) = w5 at B5 k5 M5
  rw [Frame.finish_at]
  try simp only [Act.put, Act.eval, nrmL, Nat.reduceAdd]
  have k05 : Kept (fun k => k = s.S) w w5 := (((k1.trans k2).trans (k3.mono fun _ _ q => q.elim)).trans k4).trans k5
  have hSn : ∀ k, k = s.S → s.own k ≠ (0, 0) := fun k hk q => by rw [hk, R.oS] at q; exact snd_ne q (by decide)
  have k05' : Kept (fun k => s.own k ≠ (0, 0)) w w5 := k05.mono fun k _ hk => hSn k hk
  have hfr : ∀ w' : World, w5.heap.size ≤ w'.heap.size → ∀ k, w'.heap.size ≤ k → (s.halt m).own k = (0, 0) := fun w' hs k hk => by
    have h5 := M5.lt
    have h05 := k05.size
    show (if k = m then (0, 4) else s.own k) = (0, 0)
    rw [if_neg (by omega)]
    exact R.fresh k (by omega)
  have ho : ∀ k t, s.own k = (0, t) → t ≠ 0 → (s.halt m).own k = (0, t) := fun k t hk ht => by
    show (if k = m then (0, 4) else s.own k) = (0, t)
    rw [if_neg, hk]
    intro q
    rw [q, R.fresh m hmn0] at hk
    exact ht (Prod.mk.inj hk).2.symm
  cases hst : s.stopped with
  | true =>
    repeat (first | refine Run.auto rfl ?_ | ((first | (apply Run.lq rfl rfl rfl rfl; (focus (intro w K hK; go_simp; exact hK))) | (refine Run.ln rfl rfl rfl rfl rfl (by kernel_rfl) ?_) | (refine Run.not rfl rfl ?_)); try simp only [Act.put, Act.eval, nrmL, Nat.reduceAdd]) | (refine Run.rg ?_; simp only [nrmL, rngL, Nat.reduceAdd]) | refine Run.cT rfl ?_ | refine Run.cF rfl ?_ | refine Run.rt ?_ | refine Run.nd ?_)
    refine Run.leave0 rfl rfl Try.func10 (by rfl) ?_
    have he := R.stop hst
    refine H Z w5 m ⟨?_, M5, fun e he => (by cases he), List.nodup_nil, fun e he => (by cases he), ho _ _ R.oS (by decide), ho _ _ R.oq (by decide), ?_, fun q => (by cases q), R.hS, fun e he => (by cases he), fun k hk => ?_, fun e he => (by cases he), fun _ => rfl, ?_, fun a q => ⟨fun e he => (by cases he), fun hb => ⟨rfl, ((R.shun a q).2 hb).2⟩⟩, fun j d q => (by cases q), R.pos, hfr w5 (Nat.le_refl _)⟩ k05' rfl rfl hmn0
    · have : (s.halt m).cells 0 = ((((s.cells 1).setIfInBounds 7 (.bool true)).setIfInBounds 3 (.map (some m))).setIfInBounds 1 (.int .i32 0)) := by
        simp [Sy.cells, Sy.halt, he]
      rw [this]
      exact B5
    · show (if m = m then (0, 4) else s.own m) = (0, 4)
      rw [if_pos rfl]
    · have hk' : 4 ≤ (if k = m then (0, 4) else s.own k).2 := hk
      split at hk'
      · rename_i q
        rw [q]
        exact ⟨hok.fresh hmn0, fun q => by have := hok.chanlt q; omega⟩
      · exact R.vis k hk'
    · rw [R.inb]
      show s.seats = (s.halt m).seats
      unfold Sy.seats
      rw [he]
      rfl
  | false =>
    repeat (first | refine Run.auto rfl ?_ | ((first | (apply Run.lq rfl rfl rfl rfl; (focus (intro w K hK; go_simp; exact hK))) | (refine Run.ln rfl rfl rfl rfl rfl (by kernel_rfl) ?_) | (refine Run.not rfl rfl ?_)); try simp only [Act.put, Act.eval, nrmL, Nat.reduceAdd]) | (refine Run.rg ?_; simp only [nrmL, rngL, Nat.reduceAdd]) | refine Run.cT rfl ?_ | refine Run.cF rfl ?_ | refine Run.rt ?_ | refine Run.nd ?_)
    refine Run.ld (a := ⟨s.S, 4, none⟩) (v := .chan (some s.qc)) rfl rfl (by decide) ((by rw [B5.cell 4]; rfl)) (R1.nsh 4 (.inl hst)) (fun w₁ hld => ⟨by go_simp, by simp [go_sem, hld]⟩) ?_
    try simp only [Act.put, Act.eval, nrmL, Nat.reduceAdd]
    repeat (first | refine Run.auto rfl ?_ | ((first | (apply Run.lq rfl rfl rfl rfl; (focus (intro w K hK; go_simp; exact hK))) | (refine Run.ln rfl rfl rfl rfl rfl (by kernel_rfl) ?_) | (refine Run.not rfl rfl ?_)); try simp only [Act.put, Act.eval, nrmL, Nat.reduceAdd]) | (refine Run.rg ?_; simp only [nrmL, rngL, Nat.reduceAdd]) | refine Run.cT rfl ?_ | refine Run.cF rfl ?_ | refine Run.rt ?_ | refine Run.nd ?_)
    obtain ⟨⟨kq, hq⟩, _⟩ := R.opn hst
    have hqS : ¬ s.qc = s.S := fun q => by have := R.oq; rw [q, R.oS] at this; exact snd_ne this (by decide)
    have hq5 : w5.heap[s.qc]? = some (.chan 0 #[] false kq kq false) := by
      rw [k05.block s.qc (Array.getElem?_eq_some_iff.1 hq).1 hqS]; exact hq
    have hI : Z.Inb = s.seats := R.inb
    have hle := R.ents_le
    refine Run.closeE (st := ⟨s.S, 5, none⟩) (sm := ⟨s.S, 6, none⟩) (qc := s.qc) (m := s.ents.length) (cap := 0) (k := kq) rfl rfl rfl hq5 (fun d => stepG_close rfl rfl (by decide) rfl rfl hq5 (by kernel_rfl)) (by simp) ⟨rfl, rfl⟩ R.hS R.hS ⟨R1.npl 5 (by decide), R1.npl 6 (by decide)⟩ ⟨R1.nsh 5 (.inl hst), R1.nsh 6 (.inl hst)⟩ ?_ (by rw [B5.cell 6]; rfl) ⟨B5.frozen 5, B5.frozen 6⟩ (by rw [R.count]; exact Nat.le_refl _) hn ?_ ?_ ?_ ?_
    · rw [B5.cell 5, R.count]; rfl
    · rw [hI]
      exact Sy.seats_none fun e he q => by have := (R.ents e he).pos; omega
    · intro i hi
      rw [hI]
      exact Sy.seats_none fun e he q => by have := R.gin e he; omega
    · intro i ch hi
      rw [hI] at hi
      obtain ⟨e, he, _, rfl⟩ := Sy.seats_of hi
      refine ⟨1, .int .i64 0, rfl, fun g hg => ?_⟩
      obtain ⟨T, hT, rfl⟩ := hg
      exact w_quit hT _
    · apply Exists.intro
      apply And.intro
      · skip
        repeat (first | refine Qt.auto rfl ?_ | ((first | (apply Qt.qo rfl rfl rfl (by decide) (fun _ => by simp [go_sem, *]); (focus (intro w K hK; go_simp; exact hK))) | refine Qt.not rfl rfl ?_); try simp only [Act.put, Act.eval, nrmL, Nat.reduceAdd]) | (refine Qt.rg ?_; simp only [nrmL, rngL, Nat.reduceAdd]) | refine Qt.cT rfl ?_ | refine Qt.cF rfl ?_ | refine Qt.rt ?_ | refine Qt.nd ?_)
        refine Qt.enter rfl rfl (by decide) rfl Try.func26 (by kernel_rfl) rfl ?_
        simp only [Act.eval, nrmL, Nat.reduceAdd]
        exact wait_start (S := s.S) _ (by omega)
      · intro g' hg
        refine hg Post _ n _ ?_
        rw [Frame.finish_at]
        try simp only [Act.put, Act.eval, nrmL, Nat.reduceAdd]
        repeat (first | refine Run.auto rfl ?_ | ((first | (apply Run.lq rfl rfl rfl rfl; (focus (intro w K hK; go_simp; exact hK))) | (refine Run.ln rfl rfl rfl rfl rfl (by kernel_rfl) ?_) | (refine Run.not rfl rfl ?_)); try simp only [Act.put, Act.eval, nrmL, Nat.reduceAdd]) | (refine Run.rg ?_; simp only [nrmL, rngL, Nat.reduceAdd]) | refine Run.cT rfl ?_ | refine Run.cF rfl ?_ | refine Run.rt ?_ | refine Run.nd ?_)
        refine Run.leave0 rfl rfl Try.func10 (by rfl) ?_
        have k6 := kept_chan2 w5 s.qc kq hq5
        have hlt5 : s.S < w5.heap.size := Nat.lt_of_lt_of_le R.sys.lt k05.size
        have B6 := B5.keep k6 (fun q => hqS q.symm)
        have M6 := M5.keep k6 fun q => by
          have := R.oq
          rw [← show m = s.qc from q, R.fresh m hmn0] at this
          exact snd_ne this (by decide)
        generalize w5.setChan s.qc 0 #[] true kq kq false = w6 at *
        have k7 := kept_set w6 ⟨s.S, 5, none⟩ (.int .u64 0)
        have B7 := B6.set_ 5 (.int .u64 0)
        have M7 := M6.keep k7 hSm
        generalize w6.setCell ⟨s.S, 5, none⟩ (.int .u64 0) = w7 at *
        have k8 := kept_set w7 ⟨s.S, 6, none⟩ (.int .u32 0)
        have B8 := B7.set_ 6 (.int .u32 0)
        have M8 := M7.keep k8 hSm
        generalize w7.setCell ⟨s.S, 6, none⟩ (.int .u32 0) = w8 at *
        have k58 : w5.heap.size ≤ w8.heap.size := Nat.le_trans k6.size (Nat.le_trans k7.size k8.size)
        refine H _ w8 m ⟨?_, M8, fun e he => (by cases he), List.nodup_nil, fun e he => (by cases he), ho _ _ R.oS (by decide), ho _ _ R.oq (by decide), ?_, fun q => (by cases q), R.hS, fun e he => (by cases he), fun k hk => ?_, fun e he => (by cases he), fun _ => rfl, rfl, fun a q => ⟨fun e he => (by cases he), fun hb => ⟨rfl, ?_⟩⟩, fun j d q => (by cases q), R.pos, hfr w8 k58⟩ (((k05'.trans (k6.mono fun k _ hk => ?_)).trans (k7.mono fun k _ hk => hSn k hk)).trans (k8.mono fun k _ hk => hSn k hk)) rfl rfl hmn0
        · have : (s.halt m).cells 0 = (((((s.cells 1).setIfInBounds 7 (.bool true)).setIfInBounds 3 (.map (some m))).setIfInBounds 1 (.int .i32 0)).setIfInBounds 5 (.int .u64 0)).setIfInBounds 6 (.int .u32 0) := by
            simp [Sy.cells, Sy.halt]
          rw [this]
          exact B8
        · show (if m = m then (0, 4) else s.own m) = (0, 4)
          rw [if_pos rfl]
        · have hk' : 4 ≤ (if k = m then (0, 4) else s.own k).2 := hk
          split at hk'
          · rename_i q
            rw [q]
            exact ⟨hok.fresh hmn0, fun q => by have := hok.chanlt q; omega⟩
          · exact R.vis k hk'
        · rcases q with q | q | q
          · have := ((R.shun a q).2 hb).1
            rw [hst] at this
            cases this
          · cases q; exact .inl rfl
          · cases q; exact .inr rfl
        · intro q
          rw [show k = s.qc from hk, R.oq] at q
          exact snd_ne q (by decide)
end
end Go.Proofs.Ytfpkachoneaaeaa
